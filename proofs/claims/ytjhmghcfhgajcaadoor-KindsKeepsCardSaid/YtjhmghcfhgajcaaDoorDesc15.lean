/- Contract of desc.numbers. -/
import Derived.Test.YtjhmghcfhgajcaaDoorDesc14
import Derived.Lib.SplitLaws
namespace Go.Sel
open Go Go.RowKit
theorem split_bytes (s sep : ByteArray) : (Lib.splitB sep 0 (Lib.countB s sep) s).map (·.data.toList) = Lib.split s.data.toList sep.data.toList := by
  rw [Lib.splitB_data]
  rfl
theorem numberF_bd : ∀ (s : List UInt8) (n : Int), 0 ≤ n → n ≤ 1310729 → ∀ m, numberF n s = some m → 0 ≤ m ∧ m ≤ 1310729
  | [], n, h0, h1, m, h => by cases h; exact ⟨h0, h1⟩
  | b :: r, n, h0, h1, m, h => by
    rw [numberF] at h
    split at h
    · cases h
    · rename_i hq
      have h2 : ¬ b < 48 := fun q => hq (.inl q)
      have h3 : ¬ 57 < b := fun q => hq (.inr (.inl q))
      have h4 : ¬ 131072 < n := fun q => hq (.inr (.inr q))
      have h5 : 48 ≤ b.toNat := by have := UInt8.le_iff_toNat_le.1 (UInt8.not_lt.1 h2); simpa using this
      have h6 : b.toNat ≤ 57 := by have := UInt8.le_iff_toNat_le.1 (UInt8.not_lt.1 h3); simpa using this
      exact numberF_bd r _ (by omega) (by omega) m h
theorem numberL_bd (s : List UInt8) : 0 ≤ (numberL s).1 ∧ (numberL s).1 ≤ 1310729 := by
  unfold numberL
  split
  · exact ⟨by decide, by decide⟩
  · rename_i n h; exact numberF_bd s 0 (by decide) (by decide) n h
theorem numbersL_bd {s : List UInt8} : ∀ x ∈ (numbersL s).1, 0 ≤ x ∧ x ≤ 1310729 := by
  intro x hx
  obtain ⟨t, _, rfl⟩ := List.mem_map.1 hx
  exact numberL_bd t
/-- Strings in cells, from a place of a block on. -/
def StrsAt (w : World) (g o : Nat) (ss : List ByteArray) : Prop := ∀ (j : Nat) (s : ByteArray), ss[j]? = some s → w.cell? ⟨g, o + j, none⟩ = some (.string s)
theorem StrsAt.up {w w' : World} {g o : Nat} {ss : List ByteArray} (h : StrsAt w g o ss) (hb : Below w.heap.size w w') : StrsAt w' g o ss := fun j s hj => by
  have := h j s hj
  exact (hb.cell (p := ⟨g, o + j, none⟩) (World.block_lt_of_cell? _ _ this)).trans this
theorem strs_of_row {w : World} {base : Nat} {e : TypeId} {v : Value} {n : Nat} {ss : List ByteArray} (h : w.ownsRow base e 1 v n (ss.map Value.string)) {g : Nat} (hg : v.ownBlock = some g) : StrsAt w g 0 ss := fun j s hj => by
  have := h.cells hg j (.string s) (by rw [List.getElem?_map, hj]; rfl)
  rcases Nat.eq_zero_or_pos j with rfl | hp
  · simpa [Addr.add] using this
  · have hj' : ¬ j = 0 := by omega
    simpa [Addr.add, hj'] using this
/-- The texts of numbers, as bytes: the head, and the rest's parts. -/
def partsB (s : ByteArray) (tl : ByteArray) (hd : ByteArray) : List ByteArray := hd :: if tl.data.toList.isEmpty = true then [] else (Lib.splitB s 0 (Lib.countB tl s) tl).tail
theorem take_all_snoc {l : List ByteArray} {k : Nat} {s : ByteArray} (h : l[k]? = some s) (p : List UInt8 → Bool) : (l.take (k + 1)).all (fun t => p t.data.toList) = ((l.take k).all (fun t => p t.data.toList) && p s.data.toList) := by
  rw [take_snoc h, List.all_append]; simp
theorem take_map_snoc {α β : Type} {l : List α} {k : Nat} {s : α} (h : l[k]? = some s) (f : α → β) : (l.take (k + 1)).map f = (l.take k).map f ++ [f s] := by
  rw [take_snoc h, List.map_append]; rfl
theorem own_one (w : World) {base : Nat} {t : TypeId} (x : Value) (hb : base ≤ w.heap.size) : (w.alloc (.cells #[x] t)).ownsRow base t 1 (.slice (some ⟨w.heap.size, 0, none⟩) 1 1) 1 [x] :=
  ⟨rfl, .inr ⟨w.heap.size, 1, #[x], rfl, hb, World.alloc_heap_new _ _, Nat.le_refl _, by decide, rfl, rfl⟩⟩
theorem owns_some {w : World} {base : Nat} {e : TypeId} {size : Nat} {v : Value} {n : Nat} {xs : List Value} (h : w.ownsRow base e size v n xs) (hn : 0 < n) : ∃ g c, v = .slice (some ⟨g, 0, none⟩) n c ∧ n ≤ c ∧ c ≤ maxLen ∧ g < w.heap.size := by
  rcases h.2 with ⟨_, rfl⟩ | ⟨g, cap, cur, rfl, _, hg, h1, h2, _⟩
  · omega
  · exact ⟨g, cap, rfl, h1, h2, (Array.getElem?_eq_some_iff.1 hg).1⟩
theorem cell_new_cells (w : World) {cs : Array Value} {t j : Nat} {u : Value} (h : cs[j]? = some u) : (w.alloc (.cells cs t)).cell? ⟨w.heap.size, j, none⟩ = some u := by
  have := World.alloc_heap_new w (.cells cs t)
  unfold World.cell?
  rw [this]
  simpa using h
theorem strs_tail {w : World} {g : Nat} {ss : List ByteArray} (h : StrsAt w g 0 ss) : ∀ (j : Nat) (u : Value), (ss.tail.map Value.string)[j]? = some u → w.cell? ((⟨g, 1, none⟩ : Addr).add j) = some u := fun j u hu => by
  rw [List.getElem?_map, Option.map_eq_some_iff] at hu
  obtain ⟨t, ht, rfl⟩ := hu
  have := h (j + 1) t (by rw [← ht, List.getElem?_tail])
  rw [Nat.zero_add, Nat.add_comm j 1] at this
  rcases Nat.eq_zero_or_pos j with rfl | hp
  · simpa [Addr.add] using this
  · have hj' : ¬ j = 0 := by omega
    simpa [Addr.add, hj'] using this
theorem numbersL_parts (l : List UInt8) : numbersL l = ((partsB ⟨#[32]⟩ ⟨(Lib.cut l [58]).2.1.toArray⟩ ⟨(Lib.cut l [58]).1.toArray⟩).map (fun t => (numberL t.data.toList).1), (Lib.cut l [58]).2.2 && (partsB ⟨#[32]⟩ ⟨(Lib.cut l [58]).2.1.toArray⟩ ⟨(Lib.cut l [58]).1.toArray⟩).all fun t => (numberL t.data.toList).2) := by
  have h : (partsB ⟨#[32]⟩ ⟨(Lib.cut l [58]).2.1.toArray⟩ ⟨(Lib.cut l [58]).1.toArray⟩).map (·.data.toList) = (Lib.cut l [58]).1 :: numsOf (Lib.cut l [58]).2.1 := by
    unfold partsB numsOf
    rw [List.map_cons]
    congr 1
    have e2 : (⟨(Lib.cut l [58]).2.1.toArray⟩ : ByteArray).data.toList = (Lib.cut l [58]).2.1 := rfl
    rw [e2]
    split
    · rfl
    · rw [List.map_tail, split_bytes]
  unfold numbersL
  rw [← h, List.map_map, List.all_map]
  rfl
theorem cut_head_len (s sep : List UInt8) : (Lib.cut s sep).1.length ≤ s.length := by
  unfold Lib.cut
  split
  · simp only [List.length_take]; omega
  · simp
theorem cut_tail_len (s sep : List UInt8) : (Lib.cut s sep).2.1.length ≤ s.length := by
  unfold Lib.cut
  split
  · simp only [List.length_drop]; omega
  · simp
end Go.Sel
namespace Go.Proofs.YtjhmghcfhgajcaaDoor
open Go.RowKit Go.Sel

theorem infoStr : (Tryd.prog.info? 9).map (fun i => (i.zero, i.size, i.bytes)) = some (some (.string ByteArray.empty), 1, 16) := by kernel_rfl

theorem split_any (s : ByteArray) (b : UInt8) {w : World} (hs : s.size < 4294967281) (hT : TextOk w) : Calls Tryd.prog 60 #[.string s, .string ⟨#[b]⟩] w fun e w' =>
    ∃ ss : List ByteArray, ss = Lib.splitB ⟨#[b]⟩ 0 (Lib.countB s ⟨#[b]⟩) s ∧ 1 ≤ ss.length ∧ ss.length ≤ s.size + 1 ∧ e = .returned (.slice (some ⟨w.heap.size, 0, none⟩) ss.length ss.length) ∧ w' = w.alloc (.cells (ss.map Value.string).toArray 9) := by
  obtain ⟨_, m, hm⟩ := hT
  refine (Tryd.strings_Split s ⟨#[b]⟩ m w hs hm (Nat.le_refl 1)).mono ?_
  rintro e w' ⟨rfl, rfl⟩
  have hl := Lib.splitB_all ⟨#[b]⟩ (Nat.le_refl 1) 0 _ s rfl
  exact ⟨_, rfl, by omega, by rw [hl]; have := Lib.countB_le ⟨#[b]⟩ (Nat.le_refl 1) s.size s (Nat.le_refl _); omega, by rw [hl], rfl⟩
/-- numbers' answer: the numbers in memory of the call's own, and whether all is right. -/
def NumsPost (s : ByteArray) (w : World) (e : Ending) (w' : World) : Prop :=
  ∃ v, e = .returned (.tuple #[v, .bool (numbersL s.data.toList).2]) ∧ w'.ownsRow w.heap.size 3 1 v (numbersL s.data.toList).1.length ((numbersL s.data.toList).1.map (Value.int .i64)) ∧ Below w.heap.size w w'
set_option maxRecDepth 100000 in
set_option maxHeartbeats 4000000 in
theorem numbers_any (s : ByteArray) (w : World) (hs : s.size < 4294967200) (hT : TextOk w) : Calls Tryd.prog 42 #[.string s] w (NumsPost s w) := by
  obtain ⟨i0, hi, hz0, hz1, hz2⟩ := parts_info infoInt
  obtain ⟨is, si, sz0, sz1, sz2⟩ := parts_info infoStr
  obtain ⟨_, m, hm⟩ := id hT
  have hC := Tryd.strings_Cut s ⟨#[58]⟩ m w (by omega) hm
  obtain ⟨ok0, hok0⟩ : ∃ x, x = (Lib.cut s.data.toList [58]).2.2 := ⟨_, rfl⟩
  obtain ⟨hd, hhd⟩ : ∃ x : ByteArray, x = ⟨(Lib.cut s.data.toList [58]).1.toArray⟩ := ⟨_, rfl⟩
  obtain ⟨tl, htl⟩ : ∃ x : ByteArray, x = ⟨(Lib.cut s.data.toList [58]).2.1.toArray⟩ := ⟨_, rfl⟩
  have e1 : (⟨#[58]⟩ : ByteArray).data.toList = [58] := rfl
  rw [e1, ← hok0, ← hhd, ← htl] at hC
  have hN : numbersL s.data.toList = ((partsB ⟨#[32]⟩ tl hd).map fun t => (numberL t.data.toList).1, ok0 && (partsB ⟨#[32]⟩ tl hd).all fun t => (numberL t.data.toList).2) := by rw [hok0, hhd, htl]; exact numbersL_parts s.data.toList
  have HN := Lib.hid hN
  have htz : tl.size ≤ s.size := by rw [htl]; have := cut_tail_len s.data.toList [58]; rw [ByteArray.size_mk', List.size_toArray]; simpa using this
  clear hN hhd htl hok0 e1 hm
  go_enter Tryd.func42, Tryd.ntmps42
  go_wp2_with fail
  refine hC.mono ?_
  clear hC
  rintro e w1 ⟨rfl, nd, hw1⟩
  have hb1 : Below w.heap.size w w1 := by rw [hw1]; exact below_drewN (Below.refl _ _) nd
  clear hw1
  have hT1 := hT.up hb1
  clear hT
  by_cases hemp : tl.data.toList = []
  · have q1 : tl.toList = [] := by rw [ByteArray.toList_eq]; exact hemp
    have hps : partsB ⟨#[32]⟩ tl hd = [hd] := by unfold partsB; rw [hemp]; rfl
    rw [hps] at HN
    clear hemp hps
    go_wp2_with fail
    obtain ⟨W, hW⟩ : ∃ y, y = w1.alloc (Obj.cells #[Value.string hd] 9) := ⟨_, rfl⟩
    rw [← hW]
    have hbW : Below w.heap.size w W := by rw [hW]; exact kept_alloc hb1 _
    have hTW : TextOk W := hT1.up (by rw [hW]; exact kept_alloc (Below.refl _ _) _)
    have hA : StrsAt W w1.heap.size 0 [hd] := fun j t hj => by
      cases j with
      | zero => cases hj; rw [hW]; exact cell_one_new w1 (Value.string hd) 9 0 _ rfl
      | succ j => cases hj
    have hgW : w1.heap.size < W.heap.size := by rw [hW]; simp
    obtain ⟨g, hg⟩ : ∃ g, g = w1.heap.size := ⟨_, rfl⟩
    rw [← hg] at hA hgW ⊢
    clear hW hg hb1 hT1 q1
    have hbig : [hd].length < 4294967290 := by rw [List.length_singleton]; decide
    have hl1 : [hd].length ≤ 1 := Nat.le_refl _
    have hl2 : 1 ≤ [hd].length := Nat.le_refl _
    obtain ⟨all, hall⟩ : ∃ all, all = [hd] := ⟨_, rfl⟩
    rw [← hall] at HN hA hbig hl1 hl2
    clear hall
    go_loopw [6, 8, 10, 11, 12, 30] (fun okv ov _ _ _ iv wr => ∃ (k : Nat) (ok : Bool), k ≤ all.length ∧ iv = .int .i64 k ∧ okv = .bool ok ∧ Hid (ok = (ok0 && (all.take k).all fun t => (numberL t.data.toList).2)) ∧ wr.ownsRow W.heap.size 3 1 ov k (((all.take k).map fun t => (numberL t.data.toList).1).map (Value.int .i64)) ∧ Below W.heap.size W wr) (fun _ _ _ _ _ iv _ => all.length - (intOf iv).toNat)
    case atStart => exact ⟨0, ok0, Nat.zero_le _, rfl, rfl, Lib.hid (by simp), World.ownsRow_nil _ _ _ _, Below.refl _ _⟩
    case round =>
      obtain ⟨k, ok, hk, rfl, rfl, hok, hown, hbr⟩ := hrel
      have hTr := hTW.up hbr
      by_cases hlt : k < all.length
      · obtain ⟨t, ht⟩ : ∃ t, all[k]? = some t := ⟨_, List.getElem?_eq_getElem hlt⟩
        have hcell : wr.cell? ⟨g, k, none⟩ = some (.string t) := by have := hA k t ht; rw [Nat.zero_add] at this; exact (hbr.cell (p := ⟨g, k, none⟩) hgW).trans this
        have hNum := number_any t wr
        obtain ⟨x, hx⟩ : ∃ x, x = (numberL t.data.toList).1 := ⟨_, rfl⟩
        obtain ⟨b, hb⟩ : ∃ x, x = (numberL t.data.toList).2 := ⟨_, rfl⟩
        rw [← hx, ← hb] at hNum
        have HM := Lib.hid (show ((all.take (k + 1)).map fun t => (numberL t.data.toList).1).map (Value.int .i64) = ((all.take k).map fun t => (numberL t.data.toList).1).map (Value.int .i64) ++ [.int .i64 x] by rw [take_map_snoc ht, List.map_append, hx]; rfl)
        have HB := Lib.hid (show (all.take (k + 1)).all (fun t => (numberL t.data.toList).2) = ((all.take k).all (fun t => (numberL t.data.toList).2) && b) by rw [take_all_snoc ht (fun l => (numberL l).2), hb])
        clear hx hb ht
        cases ok with
        | true =>
          go_wp2_with (first | (go_at_call 61; refine hNum.mono ?_; rintro e w3 ⟨rfl, hb3⟩; have hown3 := owns_kept hown hb3; have hs3 := hb3.size; have hsr := hbr.size) | (at_builtin; refine wpList_append_own _ rfl _ _ 22 rfl W.heap.size 3 i0 (.int .i64 0) 1 8 Tryd.underlying22 hi hz0 hz1 hz2 rfl (by decide) _ _ _ rfl (hown3.alloc _) ⟨w3.heap.size, 0, none⟩ 1 1 [.int .i64 x] rfl rfl (cell_one_new _ _ _) (by simp [Value.oneCell']) (by unfold maxLen; omega) (by omega) (by simp; omega) ?_; intro v' w4 hown4 hgrow4 hnil4))
          go_roundw
          case rel => exact ⟨k + 1, b, by omega, by go_num, rfl, Lib.hid (by have h1 := hok.out; rw [HB.out, ← Bool.and_assoc, ← h1, Bool.true_and]), by rw [HM.out]; exact hown4, (kept_alloc (kept_trans hbr hb3) _).grown hgrow4 (by simp; omega) (fun j hj => hown3.lt j hj |>.1)⟩
          case measure => simp [intOf]; omega
        | false =>
          go_wp2_with (first | (go_at_call 61; refine hNum.mono ?_; rintro e w3 ⟨rfl, hb3⟩; have hown3 := owns_kept hown hb3; have hs3 := hb3.size; have hsr := hbr.size) | (at_builtin; refine wpList_append_own _ rfl _ _ 22 rfl W.heap.size 3 i0 (.int .i64 0) 1 8 Tryd.underlying22 hi hz0 hz1 hz2 rfl (by decide) _ _ _ rfl (hown3.alloc _) ⟨w3.heap.size, 0, none⟩ 1 1 [.int .i64 x] rfl rfl (cell_one_new _ _ _) (by simp [Value.oneCell']) (by unfold maxLen; omega) (by omega) (by simp; omega) ?_; intro v' w4 hown4 hgrow4 hnil4))
          go_roundw
          case rel => exact ⟨k + 1, false, by omega, by go_num, rfl, Lib.hid (by have h1 := hok.out; rw [HB.out, ← Bool.and_assoc, ← h1, Bool.false_and]), by rw [HM.out]; exact hown4, (kept_alloc (kept_trans hbr hb3) _).grown hgrow4 (by simp; omega) (fun j hj => hown3.lt j hj |>.1)⟩
          case measure => simp [intOf]; omega
      · have HF := Lib.hid (show all.take k = all from List.take_of_length_le (by omega))
        have hkk : k = all.length := by omega
        have HKK := Lib.hid hkk
        clear hkk
        obtain ⟨oa, oc, rfl, hoc⟩ := owns_open hown
        have HO := Lib.hid hown
        clear hown
        go_wp2
        refine bodyPost_ret (v := .tuple #[.slice oa k oc, .bool ok]) ?_ rfl ⟨.slice oa k oc, by rw [HN.out, hok.out, HF.out], ?_, kept_trans hbW hbr⟩
        · simp [results, Tryd.results42, go_sem]
        · have ho := HO.out
          rw [HF.out, HKK.out] at ho
          rw [HN.out, HKK.out]
          simp only [List.length_map]
          exact base_owns ho hbW.size
  · have q1 : (tl.toList == []) = false := by rw [beq_eq_false_iff_ne, ByteArray.toList_eq]; exact hemp
    have q2 : tl.data.toList.isEmpty = false := by simpa using hemp
    have hps : ∀ ss : List ByteArray, ss = Lib.splitB ⟨#[32]⟩ 0 (Lib.countB tl ⟨#[32]⟩) tl → partsB ⟨#[32]⟩ tl hd = hd :: ss.tail := fun ss h => by unfold partsB; rw [if_neg (by rw [q2]; decide), h]
    have HP := Lib.hid hps
    have hS := split_any tl 32 (w := w1.alloc (Obj.cells #[Value.string hd] 9)) (by omega) (hT1.up (kept_alloc (Below.refl _ _) _))
    clear hemp hps
    obtain ⟨W1, hW1⟩ : ∃ y, y = w1.alloc (Obj.cells #[Value.string hd] 9) := ⟨_, rfl⟩
    have hrow : W1.ownsRow w.heap.size 9 1 (.slice (some ⟨w1.heap.size, 0, none⟩) 1 1) 1 [.string hd] := by rw [hW1]; exact own_one w1 _ hb1.size
    have hbW1 : Below w.heap.size w W1 := by rw [hW1]; exact kept_alloc hb1 _
    have hTW1 : TextOk W1 := hT1.up (by rw [hW1]; exact kept_alloc (Below.refl _ _) _)
    have hbx : Below w1.heap.size w1 W1 := by rw [hW1]; exact kept_alloc (Below.refl _ _) _
    rw [← hW1] at hS
    go_wp2_with fail
    rw [← hW1]
    clear hW1
    refine hS.mono ?_
    clear hS
    rintro e w2 ⟨ss, hss, l1, l2, rfl, hw2⟩
    have hbW2 : Below W1.heap.size W1 w2 := by rw [hw2]; exact kept_alloc (Below.refl _ _) _
    have hx2 : StrsAt w2 W1.heap.size 0 ss := fun j t hj => by
      rw [hw2, Nat.zero_add]
      exact cell_new_cells W1 (by simp [hj])
    replace hrow := owns_kept hrow hbW2
    have hb2 := kept_trans hbW1 hbW2
    replace hbx := kept_trans hbx hbW2
    have hTW2 := hTW1.up hbW2
    rw [HP.out ss hss] at HN
    clear HP hss hw2 hTW1 hbW2
    obtain ⟨g1, hg1⟩ : ∃ g, g = W1.heap.size := ⟨_, rfl⟩
    rw [← hg1] at hx2 ⊢
    clear hg1
    obtain ⟨L, hL⟩ : ∃ L, L + 1 = ss.length := ⟨ss.length - 1, by omega⟩
    rw [← hL]
    have HL := Lib.hid hL
    have HV := Lib.hid (show (ss.tail.map Value.string).length = L * 1 by rw [List.length_map, List.length_tail]; omega)
    have hLb : L ≤ 4294967200 := by omega
    have hall1 : (hd :: ss.tail).length = L + 1 := by rw [List.length_cons, List.length_tail]; omega
    have HA1 := Lib.hid hall1
    clear hL hall1 l1 l2
    by_cases hL0 : L = 0
    · obtain rfl : L = 0 := hL0
      go_wp2_with fail
      have hl1 : (hd :: ss.tail).length ≤ 1 := by have := HA1.out; omega
      have hl2 : 1 ≤ (hd :: ss.tail).length := by have := HA1.out; omega
      have hA : StrsAt w2 w1.heap.size 0 (hd :: ss.tail) := by
        have : hd :: ss.tail = [hd] := by rw [List.eq_nil_of_length_eq_zero (l := ss.tail) (by rw [List.length_tail, ← HL.out])]
        rw [this]
        exact strs_of_row hrow rfl
      have hgW : w1.heap.size < w2.heap.size := (owns_some hrow Nat.one_pos).elim fun g h => by obtain ⟨c, h, _, _, h2⟩ := h; cases h; exact h2
      have hbig : (hd :: ss.tail).length < 4294967290 := by omega
      obtain ⟨g, hg⟩ : ∃ g, g = w1.heap.size := ⟨_, rfl⟩
      rw [← hg] at hA hgW ⊢
      obtain ⟨W, hW⟩ : ∃ W, W = w2 := ⟨_, rfl⟩
      rw [← hW] at hA hgW hb2 hTW2 ⊢
      have hbW := hb2
      have hTW := hTW2
      obtain ⟨all, hall⟩ : ∃ all, all = hd :: ss.tail := ⟨_, rfl⟩
      rw [← hall] at HN hA hbig hl1 hl2
      clear hall hg HA1 HL HV hrow hW hx2 hb2 hTW2 hbW1 q1 q2 hb1 hbx hT1
      go_loopw [6, 8, 10, 11, 12, 30] (fun okv ov _ _ _ iv wr => ∃ (k : Nat) (ok : Bool), k ≤ all.length ∧ iv = .int .i64 k ∧ okv = .bool ok ∧ Hid (ok = (ok0 && (all.take k).all fun t => (numberL t.data.toList).2)) ∧ wr.ownsRow W.heap.size 3 1 ov k (((all.take k).map fun t => (numberL t.data.toList).1).map (Value.int .i64)) ∧ Below W.heap.size W wr) (fun _ _ _ _ _ iv _ => all.length - (intOf iv).toNat)
      case atStart => exact ⟨0, ok0, Nat.zero_le _, rfl, rfl, Lib.hid (by simp), World.ownsRow_nil _ _ _ _, Below.refl _ _⟩
      case round =>
        obtain ⟨k, ok, hk, rfl, rfl, hok, hown, hbr⟩ := hrel
        have hTr := hTW.up hbr
        by_cases hlt : k < all.length
        · obtain ⟨t, ht⟩ : ∃ t, all[k]? = some t := ⟨_, List.getElem?_eq_getElem hlt⟩
          have hcell : wr.cell? ⟨g, k, none⟩ = some (.string t) := by have := hA k t ht; rw [Nat.zero_add] at this; exact (hbr.cell (p := ⟨g, k, none⟩) hgW).trans this
          have hNum := number_any t wr
          obtain ⟨x, hx⟩ : ∃ x, x = (numberL t.data.toList).1 := ⟨_, rfl⟩
          obtain ⟨b, hb⟩ : ∃ x, x = (numberL t.data.toList).2 := ⟨_, rfl⟩
          rw [← hx, ← hb] at hNum
          have HM := Lib.hid (show ((all.take (k + 1)).map fun t => (numberL t.data.toList).1).map (Value.int .i64) = ((all.take k).map fun t => (numberL t.data.toList).1).map (Value.int .i64) ++ [.int .i64 x] by rw [take_map_snoc ht, List.map_append, hx]; rfl)
          have HB := Lib.hid (show (all.take (k + 1)).all (fun t => (numberL t.data.toList).2) = ((all.take k).all (fun t => (numberL t.data.toList).2) && b) by rw [take_all_snoc ht (fun l => (numberL l).2), hb])
          clear hx hb ht
          cases ok with
          | true =>
            go_wp2_with (first | (go_at_call 61; refine hNum.mono ?_; rintro e w3 ⟨rfl, hb3⟩; have hown3 := owns_kept hown hb3; have hs3 := hb3.size; have hsr := hbr.size) | (at_builtin; refine wpList_append_own _ rfl _ _ 22 rfl W.heap.size 3 i0 (.int .i64 0) 1 8 Tryd.underlying22 hi hz0 hz1 hz2 rfl (by decide) _ _ _ rfl (hown3.alloc _) ⟨w3.heap.size, 0, none⟩ 1 1 [.int .i64 x] rfl rfl (cell_one_new _ _ _) (by simp [Value.oneCell']) (by unfold maxLen; omega) (by omega) (by simp; omega) ?_; intro v' w4 hown4 hgrow4 hnil4))
            go_roundw
            case rel => exact ⟨k + 1, b, by omega, by go_num, rfl, Lib.hid (by have h1 := hok.out; rw [HB.out, ← Bool.and_assoc, ← h1, Bool.true_and]), by rw [HM.out]; exact hown4, (kept_alloc (kept_trans hbr hb3) _).grown hgrow4 (by simp; omega) (fun j hj => hown3.lt j hj |>.1)⟩
            case measure => simp [intOf]; omega
          | false =>
            go_wp2_with (first | (go_at_call 61; refine hNum.mono ?_; rintro e w3 ⟨rfl, hb3⟩; have hown3 := owns_kept hown hb3; have hs3 := hb3.size; have hsr := hbr.size) | (at_builtin; refine wpList_append_own _ rfl _ _ 22 rfl W.heap.size 3 i0 (.int .i64 0) 1 8 Tryd.underlying22 hi hz0 hz1 hz2 rfl (by decide) _ _ _ rfl (hown3.alloc _) ⟨w3.heap.size, 0, none⟩ 1 1 [.int .i64 x] rfl rfl (cell_one_new _ _ _) (by simp [Value.oneCell']) (by unfold maxLen; omega) (by omega) (by simp; omega) ?_; intro v' w4 hown4 hgrow4 hnil4))
            go_roundw
            case rel => exact ⟨k + 1, false, by omega, by go_num, rfl, Lib.hid (by have h1 := hok.out; rw [HB.out, ← Bool.and_assoc, ← h1, Bool.false_and]), by rw [HM.out]; exact hown4, (kept_alloc (kept_trans hbr hb3) _).grown hgrow4 (by simp; omega) (fun j hj => hown3.lt j hj |>.1)⟩
            case measure => simp [intOf]; omega
        · have HF := Lib.hid (show all.take k = all from List.take_of_length_le (by omega))
          have hkk : k = all.length := by omega
          have HKK := Lib.hid hkk
          clear hkk
          obtain ⟨oa, oc, rfl, hoc⟩ := owns_open hown
          have HO := Lib.hid hown
          clear hown
          go_wp2
          refine bodyPost_ret (v := .tuple #[.slice oa k oc, .bool ok]) ?_ rfl ⟨.slice oa k oc, by rw [HN.out, hok.out, HF.out], ?_, kept_trans hbW hbr⟩
          · simp [results, Tryd.results42, go_sem]
          · have ho := HO.out
            rw [HF.out, HKK.out] at ho
            rw [HN.out, HKK.out]
            simp only [List.length_map]
            exact base_owns ho hbW.size
    · go_wp2_with (at_builtin; refine wpList_append_own _ rfl _ _ 110 rfl w.heap.size 9 is (.string ByteArray.empty) 1 16 Tryd.underlying110 si sz0 sz1 sz2 rfl (by decide) _ _ _ rfl hrow ⟨g1, 1, none⟩ L L (ss.tail.map Value.string) rfl HV.out (strs_tail hx2) (fun u hu => by obtain ⟨_, _, rfl⟩ := List.mem_map.1 hu; rfl) (by unfold maxLen; omega) (by omega) hb2.size ?_; intro v' W hown' hgrow hnil; obtain ⟨g, c, rfl, hlc, hcm, hgW⟩ := owns_some hown' (by omega))
      have hl1 : (hd :: ss.tail).length ≤ 1 + L := by have := HA1.out; omega
      have hl2 : 1 + L ≤ (hd :: ss.tail).length := by have := HA1.out; omega
      have hA : StrsAt W g 0 (hd :: ss.tail) := strs_of_row (n := 1 + L) hown' rfl
      have hbig : (hd :: ss.tail).length < 4294967290 := by omega
      have hbW : Below w.heap.size w W := hb2.grown hgrow hb2.size (fun j hj => by cases hj; exact hb1.size)
      have hTW : TextOk W := hT1.up (hbx.grown hgrow hbx.size (fun j hj => by cases hj; exact Nat.le_refl _))
      obtain ⟨all, hall⟩ : ∃ all, all = hd :: ss.tail := ⟨_, rfl⟩
      rw [← hall] at HN hA hbig hl1 hl2
      clear hall HA1 HL HV hrow hx2 hb2 hTW2 hbW1 q1 q2 hb1 hown' hgrow hnil hbx hT1
      go_loopw [6, 8, 10, 11, 12, 30] (fun okv ov _ _ _ iv wr => ∃ (k : Nat) (ok : Bool), k ≤ all.length ∧ iv = .int .i64 k ∧ okv = .bool ok ∧ Hid (ok = (ok0 && (all.take k).all fun t => (numberL t.data.toList).2)) ∧ wr.ownsRow W.heap.size 3 1 ov k (((all.take k).map fun t => (numberL t.data.toList).1).map (Value.int .i64)) ∧ Below W.heap.size W wr) (fun _ _ _ _ _ iv _ => all.length - (intOf iv).toNat)
      case atStart => exact ⟨0, ok0, Nat.zero_le _, rfl, rfl, Lib.hid (by simp), World.ownsRow_nil _ _ _ _, Below.refl _ _⟩
      case round =>
        obtain ⟨k, ok, hk, rfl, rfl, hok, hown, hbr⟩ := hrel
        have hTr := hTW.up hbr
        by_cases hlt : k < all.length
        · obtain ⟨t, ht⟩ : ∃ t, all[k]? = some t := ⟨_, List.getElem?_eq_getElem hlt⟩
          have hcell : wr.cell? ⟨g, k, none⟩ = some (.string t) := by have := hA k t ht; rw [Nat.zero_add] at this; exact (hbr.cell (p := ⟨g, k, none⟩) hgW).trans this
          have hNum := number_any t wr
          obtain ⟨x, hx⟩ : ∃ x, x = (numberL t.data.toList).1 := ⟨_, rfl⟩
          obtain ⟨b, hb⟩ : ∃ x, x = (numberL t.data.toList).2 := ⟨_, rfl⟩
          rw [← hx, ← hb] at hNum
          have HM := Lib.hid (show ((all.take (k + 1)).map fun t => (numberL t.data.toList).1).map (Value.int .i64) = ((all.take k).map fun t => (numberL t.data.toList).1).map (Value.int .i64) ++ [.int .i64 x] by rw [take_map_snoc ht, List.map_append, hx]; rfl)
          have HB := Lib.hid (show (all.take (k + 1)).all (fun t => (numberL t.data.toList).2) = ((all.take k).all (fun t => (numberL t.data.toList).2) && b) by rw [take_all_snoc ht (fun l => (numberL l).2), hb])
          clear hx hb ht
          cases ok with
          | true =>
            go_wp2_with (first | (go_at_call 61; refine hNum.mono ?_; rintro e w3 ⟨rfl, hb3⟩; have hown3 := owns_kept hown hb3; have hs3 := hb3.size; have hsr := hbr.size) | (at_builtin; refine wpList_append_own _ rfl _ _ 22 rfl W.heap.size 3 i0 (.int .i64 0) 1 8 Tryd.underlying22 hi hz0 hz1 hz2 rfl (by decide) _ _ _ rfl (hown3.alloc _) ⟨w3.heap.size, 0, none⟩ 1 1 [.int .i64 x] rfl rfl (cell_one_new _ _ _) (by simp [Value.oneCell']) (by unfold maxLen; omega) (by omega) (by simp; omega) ?_; intro v' w4 hown4 hgrow4 hnil4))
            go_roundw
            case rel => exact ⟨k + 1, b, by omega, by go_num, rfl, Lib.hid (by have h1 := hok.out; rw [HB.out, ← Bool.and_assoc, ← h1, Bool.true_and]), by rw [HM.out]; exact hown4, (kept_alloc (kept_trans hbr hb3) _).grown hgrow4 (by simp; omega) (fun j hj => hown3.lt j hj |>.1)⟩
            case measure => simp [intOf]; omega
          | false =>
            go_wp2_with (first | (go_at_call 61; refine hNum.mono ?_; rintro e w3 ⟨rfl, hb3⟩; have hown3 := owns_kept hown hb3; have hs3 := hb3.size; have hsr := hbr.size) | (at_builtin; refine wpList_append_own _ rfl _ _ 22 rfl W.heap.size 3 i0 (.int .i64 0) 1 8 Tryd.underlying22 hi hz0 hz1 hz2 rfl (by decide) _ _ _ rfl (hown3.alloc _) ⟨w3.heap.size, 0, none⟩ 1 1 [.int .i64 x] rfl rfl (cell_one_new _ _ _) (by simp [Value.oneCell']) (by unfold maxLen; omega) (by omega) (by simp; omega) ?_; intro v' w4 hown4 hgrow4 hnil4))
            go_roundw
            case rel => exact ⟨k + 1, false, by omega, by go_num, rfl, Lib.hid (by have h1 := hok.out; rw [HB.out, ← Bool.and_assoc, ← h1, Bool.false_and]), by rw [HM.out]; exact hown4, (kept_alloc (kept_trans hbr hb3) _).grown hgrow4 (by simp; omega) (fun j hj => hown3.lt j hj |>.1)⟩
            case measure => simp [intOf]; omega
        · have HF := Lib.hid (show all.take k = all from List.take_of_length_le (by omega))
          have hkk : k = all.length := by omega
          have HKK := Lib.hid hkk
          clear hkk
          obtain ⟨oa, oc, rfl, hoc⟩ := owns_open hown
          have HO := Lib.hid hown
          clear hown
          go_wp2
          refine bodyPost_ret (v := .tuple #[.slice oa k oc, .bool ok]) ?_ rfl ⟨.slice oa k oc, by rw [HN.out, hok.out, HF.out], ?_, kept_trans hbW hbr⟩
          · simp [results, Tryd.results42, go_sem]
          · have ho := HO.out
            rw [HF.out, HKK.out] at ho
            rw [HN.out, HKK.out]
            simp only [List.length_map]
            exact base_owns ho hbW.size
end Go.Proofs.YtjhmghcfhgajcaaDoor
