/- Contracts of strconv.Itoa, desc.part. -/
import Derived.Test.YtjhmghcfhgajcaaDoorDesc9
import Derived.Test.YtjhmghcfhgajcaaDoorShelf
import Derived.Laws.Concat
namespace Go.Sel
open Go Go.RowKit
theorem decDigits_len : ∀ (k u : Nat), u < 10 ^ (k + 1) → (Lib.decDigits u).length ≤ k + 1
  | 0, u, h => by rw [Lib.decDigits, dif_pos (by simpa using h)]; simp
  | k + 1, u, h => by
    rw [Lib.decDigits]
    split
    · simp
    · have := decDigits_len k (u / 10) (by rw [Nat.pow_succ] at h; omega)
      rw [List.length_append]; simp; omega
theorem itoa_len {n : Int} (h0 : 0 ≤ n) (h1 : n ≤ 1310720) : (Lib.itoa n).length ≤ 7 := by
  unfold Lib.itoa
  rw [if_neg (by omega)]
  have : (10 : Nat) ^ (6 + 1) = 10000000 := by decide
  exact decDigits_len 6 _ (by omega)
theorem placesL_len {l : List Int} (h : ∀ a ∈ l, 0 ≤ a ∧ a ≤ 1310720) : (placesL l).length ≤ 8 * l.length := by
  induction l with
  | nil => simp [placesL]
  | cons a l ih =>
    have h1 := itoa_len (h a (by simp)).1 (h a (by simp)).2
    have h2 := ih (fun b hb => h b (by simp [hb]))
    rw [placesL_cons]
    simp only [List.length_cons, List.length_append, List.length_nil]
    omega
theorem placesL_snoc {l : List Int} {k : Nat} {x : Int} (h : l[k]? = some x) : placesL (l.take (k + 1)) = placesL (l.take k) ++ 32 :: Lib.itoa x := by
  rw [take_snoc h]
  unfold placesL
  rw [List.flatMap_append]
  simp
theorem areFrom_len {size : Int} : ∀ {l : List Int} {last : Int}, areFrom last size l = true → (l.length : Int) ≤ max 0 (size - 4 - last)
  | [], _, _ => by simp; omega
  | b :: r, last, h => by
    unfold areFrom at h
    simp only [Bool.and_eq_true, Bool.not_eq_true', decide_eq_false_iff_not] at h
    obtain ⟨⟨h1, h2⟩, h3⟩ := h
    have h4 := isSizeP_iff.1 h2
    have := areFrom_len h3
    rw [List.length_cons]
    push_cast
    omega
end Go.Sel
namespace Go.Proofs.YtjhmghcfhgajcaaDoor
open Go.RowKit Go.Sel

theorem tabIs_below {P : Program} {n : String} {g : Nat} {k : IntKind} {zs : List Int} {w w' : World} (hg : P.globalNamed n = some g) (h : Lib.TabIs P w n k zs) (hb : Below w.heap.size w w') : Lib.TabIs P w' n k zs := by
  unfold Lib.TabIs World.var? at h ⊢
  rw [hg] at h ⊢
  simp only [Option.bind_some] at h ⊢
  have hlt : g < w.heap.size := by
    rcases Nat.lt_or_ge g w.heap.size with h' | h'
    · exact h'
    · rw [Array.getElem?_eq_none h'] at h; cases h
  rw [hb.block g hlt]
  exact h
theorem grown_below (w : World) (k : Nat) (os : Array Obj) : Below w.heap.size w (Sort.grow (w.drewN k) os) := by
  have h1 : Below w.heap.size w (w.drewN k) := below_drewN (Below.refl _ _) k
  have h2 : Below (w.drewN k).heap.size (w.drewN k) (Sort.grow (w.drewN k) os) := ⟨rfl, rfl, rfl, by show (w.drewN k).heap.size ≤ ((w.drewN k).heap ++ os).size; rw [Array.size_append]; omega, fun j hj => by
    show ((w.drewN k).heap ++ os)[j]? = _
    rw [Array.getElem?_append_left hj]⟩
  exact kept_trans h1 h2
/-- The library's own variables that texts read. -/
structure TextOk (w : World) : Prop where
  pow : Lib.TabIs Tryd.prog w "internal/strconv.uint64pow10" .u64 Lib.pow10Tab
  len : ∃ m, w.cell? ⟨4, 0, none⟩ = some (.int .i64 m)
theorem TextOk.up {w w' : World} (h : TextOk w) (hb : Below w.heap.size w w') : TextOk w' := by
  obtain ⟨h1, m, h2⟩ := h
  exact ⟨tabIs_below (g := 5) (by kernel_rfl) h1 hb, m, (hb.cell (p := ⟨4, 0, none⟩) (World.block_lt_of_cell? _ _ h2)).trans h2⟩

theorem itoa_any (n : Int) (hn : I64 n) {w : World} (hT : TextOk w) : Calls Tryd.prog 58 #[.int .i64 n] w fun e w' => e = .returned (.string ⟨(Lib.itoa n).toArray⟩) ∧ Below w.heap.size w w' := by
  unfold I64 at hn
  refine (Tryd.strconv_Itoa n hn.1 hn.2 w hT.pow).mono ?_
  rintro e w' ⟨rfl, k, os, rfl⟩
  exact ⟨rfl, grown_below w k os⟩

set_option maxHeartbeats 2000000 in
theorem part_any {n : Nat} {v : Value} {l : List Int} {w : World} (size : Int) (h0 : 0 ≤ size) (h1 : size ≤ 1310720) (hl : IsInts n w v l) (hr : ∀ a ∈ l, 0 ≤ a ∧ a ≤ 1310720) (hlen : l.length ≤ 2000) (hn : n ≤ w.heap.size) (hT : TextOk w) :
    Calls Tryd.prog 40 #[.int .i64 size, v] w fun e w' => e = .returned (.string ⟨(partL size l).toArray⟩) ∧ Below w.heap.size w w' := by
  obtain ⟨a1, c1, rfl, hc1⟩ := hl.open
  have hI := itoa_any size (by unfold I64; omega) hT
  have hz := itoa_len h0 h1
  have HT := Lib.hid hT
  have HR := Lib.hid hr
  clear hT hr
  go_enter Tryd.func40, Tryd.ntmps40
  go_wp2_with fail
  refine hI.mono ?_
  clear hI
  rintro e w1 ⟨rfl, hb1⟩
  have q0 : ¬ (Lib.itoa size).length + 1 > 9223372036854775807 := by omega
  have hb0 : ((⟨(Lib.itoa size).toArray⟩ : ByteArray) ++ ⟨#[58]⟩) = ⟨(Lib.itoa size ++ 58 :: placesL (l.take 0)).toArray⟩ := by
    rw [show (⟨#[58]⟩ : ByteArray) = ⟨[(58 : UInt8)].toArray⟩ from rfl, ByteArray.mk_append_mk]
    simp [placesL]
  have HB0 := Lib.hid hb0
  have hz0 : ((⟨(Lib.itoa size).toArray⟩ : ByteArray) ++ ⟨#[58]⟩).size ≤ 8 := by rw [ByteArray.size_append', ByteArray.size_mk', ByteArray.size_mk']; simp; omega
  clear hb0 hz
  go_wp2
  go_loopw [5, 7, 13] (fun s _ i wr => ∃ (k : Nat) (b : ByteArray), k ≤ l.length ∧ i = .int .i64 k ∧ s = .string b ∧ b.size ≤ 8 + 8 * k ∧ Hid (b = ⟨(Lib.itoa size ++ 58 :: placesL (l.take k)).toArray⟩) ∧ Below w.heap.size w wr) (fun _ _ i _ => l.length - (intOf i).toNat)
  case atStart => exact ⟨0, _, Nat.zero_le _, rfl, rfl, by omega, HB0, hb1⟩
  case round =>
    obtain ⟨k, b, hk, rfl, rfl, hbs, hh, hb⟩ := hrel
    clear HB0 hz0 q0 hb1
    by_cases hlt : k < l.length
    · obtain ⟨x, g1, o1, hx, rfl, _, gx, hx64⟩ := (hl.below (hb.mono hn)).at hlt
      have hxr := HR.out x (List.mem_of_getElem? hx)
      have hxl := itoa_len hxr.1 hxr.2
      have hI := itoa_any x hx64 (HT.out.up hb)
      have q1 : ¬ 1 + (Lib.itoa x).length > 9223372036854775807 := by omega
      have q2 : ¬ b.size + (1 + (Lib.itoa x).length) > 9223372036854775807 := by omega
      have HN := Lib.hid (show b ++ ((⟨#[32]⟩ : ByteArray) ++ ⟨(Lib.itoa x).toArray⟩) = ⟨(Lib.itoa size ++ 58 :: placesL (l.take (k + 1))).toArray⟩ by
        rw [hh.out, show (⟨#[32]⟩ : ByteArray) = ⟨[(32 : UInt8)].toArray⟩ from rfl, ByteArray.mk_append_mk, ByteArray.mk_append_mk, placesL_snoc hx]
        simp)
      have hz2 : (b ++ ((⟨#[32]⟩ : ByteArray) ++ ⟨(Lib.itoa x).toArray⟩)).size ≤ 8 + 8 * (k + 1) := by
        have e1 : (⟨#[32]⟩ : ByteArray).size = 1 := rfl
        have e2 : (⟨(Lib.itoa x).toArray⟩ : ByteArray).size = (Lib.itoa x).length := by rw [ByteArray.size_mk']; simp
        rw [ByteArray.size_append', ByteArray.size_append', e1, e2]; omega
      have HZ := Lib.hid hz2
      clear hx hxr hxl hh hz2 hl
      go_wp2_with fail
      refine hI.mono ?_
      clear hI
      rintro e w2 ⟨rfl, hb2⟩
      go_wp2
      go_roundw
      case rel => exact ⟨k + 1, _, by omega, by go_num, rfl, HZ.out, HN, kept_trans hb hb2⟩
      case measure => simp [intOf]; omega
    · obtain rfl : k = l.length := by omega
      have HF := Lib.hid (show b = ⟨(partL size l).toArray⟩ by rw [hh.out, List.take_length]; rfl)
      clear hh hl
      go_wp2
      go_ret
      exact ⟨by rw [HF.out]; rfl, hb⟩
end Go.Proofs.YtjhmghcfhgajcaaDoor
