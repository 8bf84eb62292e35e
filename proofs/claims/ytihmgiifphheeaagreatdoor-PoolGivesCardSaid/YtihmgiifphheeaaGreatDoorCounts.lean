/- Contract of pool.Counts. -/
import Derived.Test.YtihmgiifphheeaaGreatDoorTakeRun
namespace Go.Sel
open Go Go.RowKit
/-- How many blocks have which state, of the first k states. -/
def countsTo (s : List Int) (k : Nat) : List Int := (List.range 6).map fun (i : Nat) => if i < k then (s.count (i : Int) : Int) else 0
def countsP (s : List Int) : List Int := (List.range 6).map fun (i : Nat) => (s.count (i : Int) : Int)
theorem countsTo_len (s : List Int) (k : Nat) : (countsTo s k).length = 6 := by simp [countsTo]
theorem countsTo_zero (s : List Int) : countsTo s 0 = List.replicate 6 0 := by simp [countsTo, List.range_succ]
theorem countsTo_full (s : List Int) : countsTo s 6 = countsP s := by
  unfold countsTo countsP
  refine List.map_congr_left (fun i hi => ?_)
  rw [List.mem_range] at hi
  rw [if_pos hi]
theorem countsTo_step (s : List Int) {k : Nat} (hk : k < 6) : (countsTo s k).set k (s.count (k : Int) : Int) = countsTo s (k + 1) := by
  refine List.ext_getElem? (fun i => ?_)
  unfold countsTo
  rw [List.getElem?_set, List.getElem?_map, List.getElem?_map]
  by_cases h6 : i < 6
  · have hr : (List.range 6)[i]? = some i := by simp [h6]
    rw [hr]
    by_cases e : k = i
    · subst e
      simp [hk]
    · rw [if_neg e]
      simp only [Option.map_some, Option.some.injEq]
      by_cases h : i < k
      · rw [if_pos h, if_pos (by omega)]
      · rw [if_neg h, if_neg (by omega)]
  · have hr : (List.range 6)[i]? = none := by simp; omega
    rw [hr]
    rw [if_neg (by omega)]
    rfl
end Go.Sel
namespace Go.Proofs.YtihmgiifphheeaaGreatDoor
open Go.RowKit Go.Sel

/-- Counts' answer. -/
def CountsPost (s : List Int) (t : List (List Int)) (w : World) (e : Ending) (w' : World) : Prop :=
  Below w.heap.size w w' ∧ ((rightP s t = false ∧ e = .returned (.tuple #[.slice none 0 0, .int .i64 100])) ∨
    (rightP s t = true ∧ ∃ v, e = .returned (.tuple #[v, .int .i64 0]) ∧ w'.ownsRow w.heap.size 3 1 v 6 ((countsP s).map (Value.int .i64))))

set_option maxHeartbeats 2000000 in
theorem poolCounts_any {n : Nat} {v : Value} {s : List Int} {t : List (List Int)} {w : World} (h : IsPool n w v s t) (hn : n ≤ w.heap.size) :
    Calls Tryz.prog 22 #[v] w (CountsPost s t w) := by
  have hok := h.ok
  have hls := hok.ls
  unfold big at hls
  obtain ⟨a1, c1, a2, c2, rfl⟩ := IsPool.open h
  have hmk : ∀ w, (Instr.makeSlice 22 (.int .i64 6) (.int .i64 6)).run Tryz.prog w = .ok (.slice (some ⟨w.heap.size, 0, none⟩) 6 6) (w.alloc (.cells ((List.replicate 6 0).map (Value.int .i64)).toArray 3)) := fun _ => by kernel_rfl
  obtain ⟨w1, hw1⟩ : ∃ x, x = w.alloc (Obj.cells #[.slice a1 s.length c1, .slice a2 t.length c2] 25) := ⟨_, rfl⟩
  have hb1 : Below w.heap.size w w1 := by rw [hw1]; exact kept_alloc (Below.refl _ _) _
  have hs1 : w1.heap.size = w.heap.size + 1 := by rw [hw1]; simp
  have hx1 : w1.heap[w.heap.size]? = some (.cells #[.slice a1 s.length c1, .slice a2 t.length c2] 25 (0, 0)) := by rw [hw1]; exact World.alloc_heap_new w _
  have hR := poolRight_any (h.below (hb1.mono hn)) (by omega)
  obtain ⟨y1, y2⟩ := pair_cells hx1
  rw [hw1] at y1 y2
  go_enter Tryz.func22, Tryz.ntmps22
  go_wp2_with fail
  rw [← hw1]
  refine hR.mono ?_
  clear hR y1 y2
  rintro e w2 ⟨rfl, hb2⟩
  have hs2 := hb2.size
  have hy1 := (hb2.block _ (by omega)).trans hx1
  have hb02 : Below w.heap.size w w2 := hb1.trans (hb2.mono (by omega))
  clear hw1 hx1 hb1
  cases hr : rightP s t with
  | false =>
    have HR := Lib.hid hr
    clear hr h
    go_wp2
    go_ret2
    exact ⟨hb02, .inl ⟨HR.out, rfl⟩⟩
  | true =>
    have HR := Lib.hid hr
    obtain ⟨w3, hw3⟩ : ∃ x, x = w2.alloc (.cells ((List.replicate 6 0).map (Value.int .i64)).toArray 3) := ⟨_, rfl⟩
    have hb3 : Below w2.heap.size w2 w3 := by rw [hw3]; exact kept_alloc (Below.refl _ _) _
    have hmk2 := hmk w2
    rw [← hw3] at hmk2
    have hrow : w3.ownsRow (w.heap.size + 1) 3 1 (.slice (some ⟨w2.heap.size, 0, none⟩) 6 6) 6 ((countsTo s 0).map (Value.int .i64)) := by
      rw [countsTo_zero]
      refine ⟨by simp, .inr ⟨w2.heap.size, 6, ((List.replicate 6 0).map (Value.int .i64)).toArray, rfl, by omega, by rw [hw3]; exact World.alloc_heap_new w2 _, by decide, by decide, by simp, by simp⟩⟩
    have H0 : Hid (w3.ownsRow (w.heap.size + 1) 3 1 (.slice (some ⟨w2.heap.size, 0, none⟩) 6 6) 6 ((countsTo s 0).map (Value.int .i64)) ∧ Below w.heap.size w w3 ∧ w3.heap[w.heap.size]? = some (.cells #[.slice a1 s.length c1, .slice a2 t.length c2] 25 (0, 0))) :=
      ⟨hrow, kept_trans hb02 hb3, (hb3.block _ (by omega)).trans hy1⟩
    clear hr hmk hrow hw3 hb3 hy1
    obtain ⟨v1, v2, hv, h1, h2⟩ := h
    cases hv
    clear h2
    go_wp2
    go_loopw [5, 12] (fun _ i W => ∃ k : Nat, k ≤ 6 ∧ i = .int .i64 k ∧ Hid (W.ownsRow (w.heap.size + 1) 3 1 (.slice (some ⟨w2.heap.size, 0, none⟩) 6 6) 6 ((countsTo s k).map (Value.int .i64)) ∧ Below w.heap.size w W ∧ W.heap[w.heap.size]? = some (.cells #[.slice a1 s.length c1, .slice a2 t.length c2] 25 (0, 0)))) (fun _ i _ => 6 - (intOf i).toNat)
    case atStart => exact ⟨0, Nat.zero_le _, rfl, H0⟩
    case round =>
      obtain ⟨k, hk, rfl, hh⟩ := hrel
      clear H0
      obtain ⟨q1, q2, q3⟩ := hh.out
      obtain ⟨y1, y2⟩ := pair_cells q3
      by_cases hlt : k < 6
      · have hC := runCount_any (k : Int) (by unfold I64; omega) ((h1.below (q2.mono hn)).wider (n' := wr.heap.size) (Nat.le_trans hn q2.size)) (Nat.le_refl _)
        have hlt' : (k : Int) < 6 := by omega
        clear h1
        go_wp2_with fail
        refine hC.mono ?_
        clear hC
        rintro e w4 ⟨rfl, hb4⟩
        have p1 := owns_kept q1 hb4
        obtain ⟨s1, s2⟩ := p1.stored k (.int .i64 (s.count (k : Int) : Nat))
        have hcell := p1.cellAt k (by omega)
        rw [List.getElem?_eq_getElem (by rw [List.length_map, countsTo_len]; exact hlt)] at hcell
        have hfz := p1.frozenAt k
        have hlg := (q1.lt w2.heap.size rfl).1
        have hq3l := (Array.getElem?_eq_some_iff.1 q3).1
        have HN : Hid ((w4.setCell ⟨w2.heap.size, k, none⟩ (.int .i64 (s.count (k : Int) : Nat))).ownsRow (w.heap.size + 1) 3 1 (.slice (some ⟨w2.heap.size, 0, none⟩) 6 6) 6 ((countsTo s (k + 1)).map (Value.int .i64)) ∧ Below w.heap.size w (w4.setCell ⟨w2.heap.size, k, none⟩ (.int .i64 (s.count (k : Int) : Nat))) ∧
            (w4.setCell ⟨w2.heap.size, k, none⟩ (.int .i64 (s.count (k : Int) : Nat))).heap[w.heap.size]? = some (.cells #[.slice a1 s.length c1, .slice a2 t.length c2] 25 (0, 0))) := by
          refine ⟨by rw [← countsTo_step s hlt, List.map_set]; exact s1, (kept_trans q2 hb4).setCell (p := ⟨w2.heap.size, k, none⟩) (by show w.heap.size ≤ w2.heap.size; omega) _, ?_⟩
          exact (Below.heap_setCell _ _ _ _ (by show w.heap.size ≠ w2.heap.size; omega)).trans ((hb4.block _ hq3l).trans q3)
        clear q1 q2 q3 p1 s1 s2 hh y1 y2 hb4
        go_wp2
        go_roundw
        case rel => exact ⟨k + 1, by omega, by go_num, HN⟩
        case measure => simp [intOf]; omega
      · obtain rfl : k = 6 := by omega
        clear h1 y1 y2 q1 q2 q3
        go_wp2
        go_ret2
        have hf := hh.out
        rw [countsTo_full] at hf
        exact ⟨hf.2.1, .inr ⟨HR.out, _, rfl, owns_base hf.1 (by omega)⟩⟩

end Go.Proofs.YtihmgiifphheeaaGreatDoor
