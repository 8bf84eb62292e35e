/- slices.Repeat at one function value; math/bits.Mul. -/
import Derived.Test.YtihmgiifphheeaaGreatDoorRun4
import Derived.Laws.CopyOwn
import Derived.Laws.OwnMore
import Derived.Deep.RegionLaw
namespace Go.Sel
open Go Go.RowKit
/-- m values that are laid, and the rest as it was made. -/
def fillL {α : Type} (k m : Nat) (x z : α) : List α := List.replicate m x ++ List.replicate (k - m) z
theorem length_fillL {α : Type} {k m : Nat} (x z : α) (h : m ≤ k) : (fillL k m x z).length = k := by simp [fillL]; omega
theorem fillL_at {α : Type} {k m j : Nat} (x z : α) (h : j < m) : (fillL k m x z)[j]? = some x := by
  unfold fillL
  rw [List.getElem?_append_left (by simpa using h), List.getElem?_replicate, if_pos h]
theorem fillL_zero {α : Type} (k : Nat) (x z : α) : fillL k 0 x z = List.replicate k z := by simp [fillL]
theorem fillL_full {α : Type} (k : Nat) (x z : α) : fillL k k x z = List.replicate k x := by simp [fillL]
theorem splice_fillL {α : Type} {k m c : Nat} (x z : α) (_h : m + c ≤ k) : splice (fillL k m x z) m (List.replicate c x) = fillL k (m + c) x z := by
  unfold splice fillL
  rw [List.take_append_of_le_length (by simp), List.take_of_length_le (by simp)]
  rw [List.drop_append, List.drop_of_length_le (by simp), List.length_replicate, List.length_replicate, Nat.add_sub_cancel_left, List.drop_replicate, List.nil_append, ← List.append_assoc, List.replicate_append_replicate]
  congr 2; omega
end Go.Sel
namespace Go.Proofs.YtihmgiifphheeaaGreatDoor
open Go.RowKit Go.Sel

set_option maxHeartbeats 1000000 in
theorem mul64_any (x y : Nat) (hx : x < 18446744073709551616) (hy : y < 18446744073709551616) (w : World) :
    Calls Tryz.prog 89 #[.int .u64 x, .int .u64 y] w fun e w' => e = .returned (.tuple #[.int .u64 ((x * y / 18446744073709551616 : Nat) : Int), .int .u64 ((x * y % 18446744073709551616 : Nat) : Int)]) ∧ w' = w := by
  obtain ⟨bd, bt, bw, hhi⟩ := Lib.mul64_hi x y hx hy
  have ba := Lib.half_mul_le (a := x / 4294967296) (b := y / 4294967296) (by omega) (by omega)
  have bb := Lib.half_mul_le (a := x / 4294967296) (b := y % 4294967296) (by omega) (by omega)
  have bc := Lib.half_mul_le (a := x % 4294967296) (b := y / 4294967296) (by omega) (by omega)
  have ba' : x / 4294967296 * (y / 4294967296) < 18446744073709551616 := by omega
  have bb' : x / 4294967296 * (y % 4294967296) < 18446744073709551616 := by omega
  have bc' : x % 4294967296 * (y / 4294967296) < 18446744073709551616 := by omega
  have bh1 : x / 4294967296 * (y / 4294967296) + (x / 4294967296 * (y % 4294967296) + x % 4294967296 * (y % 4294967296) / 4294967296) / 4294967296 < 18446744073709551616 := by omega
  have bh : x / 4294967296 * (y / 4294967296) + (x / 4294967296 * (y % 4294967296) + x % 4294967296 * (y % 4294967296) / 4294967296) / 4294967296 + ((x / 4294967296 * (y % 4294967296) + x % 4294967296 * (y % 4294967296) / 4294967296) % 4294967296 + x % 4294967296 * (y / 4294967296)) / 4294967296 < 18446744073709551616 := by omega
  go_enter Tryz.func89, Tryz.ntmps89
  go_wp2
  simp only [Mul64.maskN x hx, Mul64.maskN y hy, Mul64.divN, Mul64.mulN, Mul64.addN, Mul64.wrapN _ bd, Mul64.wrapN _ bb', Mul64.wrapN _ bt, Mul64.maskN _ bt, Mul64.wrapN _ bc', Mul64.wrapN _ bw, Mul64.wrapN _ ba', Mul64.wrapN _ bh1, Mul64.wrapN _ bh, Mul64.wrapM (x * y)]
  rw [hhi]
  go_ret2
  exact ⟨rfl, rfl⟩

set_option maxHeartbeats 1000000 in
theorem mul_any (x y : Nat) (hx : x < 18446744073709551616) (hy : y < 18446744073709551616) (w : World) :
    Calls Tryz.prog 75 #[.int .u64 x, .int .u64 y] w fun e w' => e = .returned (.tuple #[.int .u64 ((x * y / 18446744073709551616 : Nat) : Int), .int .u64 ((x * y % 18446744073709551616 : Nat) : Int)]) ∧ w' = w := by
  have c64 := mul64_any x y hx hy w
  go_enter Tryz.func75, Tryz.ntmps75
  go_wp2_with (go_at_call 89; refine c64.mono ?_; rintro e w' ⟨rfl, hw⟩; rw [hw])
  go_ret2
  exact ⟨rfl, rfl⟩

theorem infoFn : (Tryz.prog.info? 77).map (fun i => (i.zero, i.size, i.bytes)) = some (some .nilFunc, 1, 8) := by kernel_rfl

def RepPost (gf k n : Nat) (w0 : World) (e : Ending) (w' : World) : Prop := ∃ v, e = .returned v ∧ IsFns w'.heap.size w' v gf k ∧ Below n w0 w'

/-- A function value. -/
def fnV (gf : Nat) : Value := .func (.func gf) #[] #[]
/-- The row of a repeat. -/
def RepRow (g k m gf : Nat) (w : World) : Prop := w.heap[g]? = some (.cells (fillL k m (fnV gf) .nilFunc).toArray 77 (0, 0))
theorem RepRow.at {g k m gf j : Nat} {w : World} (h : RepRow g k m gf w) (hj : j < m) : w.cell? ⟨g, j, none⟩ = some (fnV gf) := by
  unfold RepRow at h
  simp [World.cell?, h, fillL_at _ _ hj]
theorem RepRow.isFns {g k gf : Nat} {w : World} (h : RepRow g k k gf w) (hk : k ≤ big) : IsFns w.heap.size w (.slice (some ⟨g, 0, none⟩) k k) gf k := by
  have hg : g < w.heap.size := (Array.getElem?_eq_some_iff.1 h).1
  refine ⟨some ⟨g, 0, none⟩, k, by rw [List.length_replicate], by rw [List.length_replicate]; exact Nat.le_refl k, by rw [List.length_replicate]; exact hk, fun j x hj => ⟨g, 0, rfl, hg, ?_⟩⟩
  have hj' : j < k := by
    have := (List.getElem?_eq_some_iff.1 hj).1
    simpa using this
  show w.cell? _ = _
  rw [Nat.mul_one, Nat.zero_add]
  exact h.at hj'

set_option maxRecDepth 100000 in
set_option maxHeartbeats 1000000 in
theorem repeat_any {gf b k : Nat} {w : World} (hk : 1 ≤ k) (hk2 : k ≤ big) (hb : w.cell? ⟨b, 0, none⟩ = some (fnV gf)) (hbl : b < w.heap.size) :
    Calls Tryz.prog 54 #[.slice (some ⟨b, 0, none⟩) 1 1, .int .i64 k] w (RepPost gf k w.heap.size w) := by
  have HK := hk2
  unfold big at hk2
  obtain ⟨i, hi, hz0, hz1, hz2⟩ := info_parts infoFn
  have hm := mul_any 1 k (by omega) (by omega) w
  rw [Nat.one_mul, show (k / 18446744073709551616 : Nat) = 0 by omega, show (k % 18446744073709551616 : Nat) = k by omega] at hm
  have hmk := run_makeSlice (P := Tryz.prog) (w := w) 79 77 i .nilFunc Tryz.underlying79 hi hz0 .i64 .i64 (k : Int) (k : Int) (by omega) (Int.le_refl _) (by rw [hz1]; omega) (by rw [hz2]; omega) (by omega)
  obtain ⟨w1, hw1⟩ : ∃ w1, w1 = w.alloc (.cells (madeCells (Value.cells .nilFunc) ((k : Int).toNat * i.size)) 77) := ⟨_, rfl⟩
  rw [← hw1] at hmk
  have hrow : RepRow w.heap.size k 0 gf w1 := by
    unfold RepRow
    rw [hw1, World.alloc_heap_new, fillL_zero, hz1, Nat.mul_one, Int.toNat_natCast]
    congr 2
    exact Array.ext' (by rw [show Value.cells .nilFunc = #[.nilFunc] from rfl, toList_madeCells_one])
  have hbelow : Below w.heap.size w w1 := by rw [hw1]; exact (Below.refl _ w).alloc (Nat.le_refl _) _
  have hb1 : w1.cell? ⟨b, 0, none⟩ = some (fnV gf) := (hbelow.cell (p := ⟨b, 0, none⟩) hbl).trans hb
  have HRow := Lib.hid hrow
  have HB := Lib.hid hb1
  clear hw1 hi hz0 hz1 hz2 hrow hb1 hb
  simp only [Int.toNat_natCast] at hmk
  go_enter Tryz.func54, Tryz.ntmps54
  go_wp2_with (first
    | (go_at_call 75; refine hm.mono ?_; rintro e w' ⟨rfl, hw⟩; rw [hw])
    | (refine wpList_copy_splice (o := ⟨some 33, _, _, _, _, _⟩) rfl (.tmp 31) (.tmp 32) 79 79 rfl 77 Tryz.underlying79 (by kernel_rfl) (some ⟨w.heap.size, 0, none⟩) (some ⟨b, 0, none⟩) k k 1 1 rfl rfl w.heap.size 0 (fillL k 0 (fnV gf) .nilFunc) 77 HRow.out [fnV gf] ?q1 ?q2 ?q3 ?q4 w.heap.size w hbelow (Nat.le_refl _) (fun w2 hR2 hB2 => ?q5)))
  case q1 => show 1 = Nat.min 1 k; simp [Nat.min_def]; omega
  case q2 =>
    intro j v hj
    cases j with
    | zero => simp at hj; subst hj; exact HB.out
    | succ j => simp at hj
  case q3 => rw [length_fillL _ _ (Nat.zero_le _)]; simp; omega
  case q4 => intro v hv; simp at hv; subst hv; rfl
  · have hr2 : RepRow w.heap.size k 1 gf w2 := by
      have := hR2.out
      rwa [show [fnV gf] = List.replicate 1 (fnV gf) from rfl, splice_fillL _ _ (by omega)] at this
    clear hR2 HRow HB hmk hm hbelow
    have HR2 := Lib.hid hr2
    clear hr2
    go_wp2
    go_loopw [8] (fun i W => ∃ m : Nat, 1 ≤ m ∧ m ≤ k ∧ i = .int .i64 m ∧ Hid (RepRow w.heap.size k m gf W) ∧ Below w.heap.size w W) (fun i _ => k - (intOf i).toNat)
    case atStart => exact ⟨1, Nat.le_refl _, hk, rfl, HR2, hB2⟩
    case round =>
      obtain ⟨m, h1, h2, rfl, HR, hB⟩ := hrel
      by_cases hlt : m < k
      · go_wp2
        obtain ⟨c, hc⟩ : ∃ c, c = min m (k - m) := ⟨_, rfl⟩
        have hcm : c ≤ m := by omega
        have hck : m + c ≤ k := by omega
        have hc0 : 1 ≤ c := by omega
        have r1 := Lib.hid (show (List.replicate c (fnV gf)).length = Nat.min m (k - m) by rw [List.length_replicate, hc])
        have r2 := Lib.hid (show 0 < (List.replicate c (fnV gf)).length → (some (⟨w.heap.size, m, none⟩ : Addr)) = some ⟨w.heap.size, m, none⟩ ∧ ∃ ad, some (⟨w.heap.size, 0, none⟩ : Addr) = some ad ∧ ∀ j v, (List.replicate c (fnV gf))[j]? = some v → wr.drew.cell? (ad.add j) = some v from
          fun _ => ⟨rfl, _, rfl, fun j v hj => by
            rw [List.getElem?_replicate] at hj
            split at hj
            · cases hj
              rw [Addr.add_lit, Nat.zero_add]
              exact HR.out.at (by omega)
            · cases hj⟩)
        have r3 := Lib.hid (show m + (List.replicate c (fnV gf)).length ≤ (fillL k m (fnV gf) .nilFunc).length by rw [List.length_replicate, length_fillL _ _ h2]; exact hck)
        have r4 := Lib.hid (show ∀ v ∈ List.replicate c (fnV gf), v.oneCell' = true from fun v hv => by rw [(List.mem_replicate.1 hv).2]; rfl)
        have r5 := Lib.hid hB.drew
        have r6 : Hid (wr.drew.heap[w.heap.size]? = some (.cells (fillL k m (fnV gf) .nilFunc).toArray 77 (0, 0))) := Lib.hid HR.out
        clear hc
        go_region_law (refine step_copy_splice rfl (.tmp 41) (.tmp 44) 79 79 rfl 77 Tryz.underlying79 (by kernel_rfl) (some ⟨w.heap.size, m, none⟩) (some ⟨w.heap.size, 0, none⟩) (k - m) (k - m) m k (by simp [Act.eval, Act.put]; try omega) (by simp [Act.eval, Act.put]; try omega) w.heap.size m (fillL k m (fnV gf) .nilFunc) 77 r6.out (List.replicate c (fnV gf)) r1.out r2.out r3.out r4.out w.heap.size w r5.out (Nat.le_refl _) (fun w3 hR3 hB3 => ?_))
        have hr3 : RepRow w.heap.size k (m + c) gf w3 := by
          have := hR3.out
          rwa [splice_fillL _ _ hck] at this
        have HR3 := Lib.hid hr3
        clear hr3 hR3 r1 r2 r3 r4 r5 r6 HR hB
        simp only [Act.put]
        go_simp
        have hwr : IntKind.i64.wrap ((m : Int) + (c : Int)) = ((m + c : Nat) : Int) := by rw [IntKind.wrap_i64]; omega
        rw [hwr]
        go_roundw
        case measure => simp [intOf]; omega
        case rel => simp; exact ⟨m + c, by omega, hck, by simp, HR3, hB3⟩
      · obtain rfl : m = k := by omega
        go_wp2
        go_ret
        exact ⟨_, rfl, HR.out.isFns HK, hB⟩

end Go.Proofs.YtihmgiifphheeaaGreatDoor
