/- Contract of selionlaw10.shown. -/
import Derived.Test.YtihmgiifphheeaaGreatDoorLaw2
namespace Go.Proofs.YtihmgiifphheeaaGreatDoor
open Go.RowKit Go.Sel

def zt : List (List Int) := List.replicate 4 (List.replicate 32 0)
theorem sh1 : rightP [0, 0, 0, 0] zt = true := by decide +kernel
theorem sh2 : takeB [0, 0, 0, 0] [0] = some 0 := by decide +kernel
theorem sh3 : rightP [5, 0, 0, 0] zt = true := by decide +kernel
theorem sh4 : firstL [5, 0, 0, 0] 2 = some (1, 4) := by decide +kernel
theorem sh5 : putRow [5, 0, 0, 0] 1 2 = [5, 3, 4, 0] := by decide +kernel
theorem sh6 : blockE [5, 3, 4, 0] zt 0 [5] = none := by decide +kernel
theorem sh7 : takeB [2, 3, 4, 0] [1] = none := by decide +kernel
theorem sh8 : blockE [2, 3, 4, 0] zt 0 [5] = some 90 := by decide +kernel
theorem sh9 : rightP [5, 3, 4, 0] zt = true := by decide +kernel
theorem sh10 : countsP [5, 3, 4, 0] = [1, 0, 0, 1, 1, 1] := by decide +kernel

theorem open4 {n : Nat} {w : World} {v : Value} {s : List Int} (h : IsPool n w v s zt) (hs : s.length = 4) : ∃ a1 c1 a2 c2, v = .agg #[.slice a1 4 c1, .slice a2 4 c2] := by
  obtain ⟨a1, c1, a2, c2, e⟩ := IsPool.open h
  exact ⟨a1, c1, a2, c2, by rw [e, hs]; rfl⟩

/-- Behind a call: the pool that it gave, laid in a new block. -/
theorem laid {B : Nat} {w W : World} {v : Value} {s : List Int} {t : List (List Int)} (h : IsPool W.heap.size W v s t) (hb : Below B w W) (hB : B ≤ W.heap.size) (o : Obj) : IsPool (W.alloc o).heap.size (W.alloc o) v s t ∧ Below B w (W.alloc o) :=
  ⟨(h.below ((Below.refl _ W).alloc (Nat.le_refl _) o)).wider (by simp), hb.alloc hB o⟩

set_option maxRecDepth 100000 in
set_option maxHeartbeats 4000000 in
theorem shown_any {a0 a1 : Addr} {w : World} (hE : ErrT w.heap.size w) (hR : RunErrs a0 a1 w.heap.size w) :
    Calls Tryz.prog 5 #[] w fun e w' => e = .returned (.bool true) ∧ Below w.heap.size w w' := by
  go_enter Tryz.func5, Tryz.ntmps5
  go_wp2_with fail
  refine (new_any 4 (by unfold I64; omega) w).mono ?_
  rintro e w1 ⟨hb1, hA⟩
  rcases hA with ⟨hno, _⟩ | ⟨_, _, v1, rfl, hP1⟩
  · exact absurd ⟨by decide, by decide⟩ hno
  replace hP1 : IsPool w1.heap.size w1 v1 [0, 0, 0, 0] zt := hP1.pool
  obtain ⟨p1, c1, r1, d1, rfl⟩ := open4 hP1 rfl
  obtain ⟨w2, hw2⟩ : ∃ y, y = w1.alloc (Obj.cells #[.slice p1 4 c1, .slice r1 4 d1] 25) := ⟨_, rfl⟩
  obtain ⟨hL1, hbL1⟩ := laid hP1 hb1 hb1.size (Obj.cells #[.slice p1 4 c1, .slice r1 4 d1] 25)
  rw [← hw2] at hL1 hbL1
  have hx1 : w2.heap[w1.heap.size]? = some (.cells #[.slice p1 4 c1, .slice r1 4 d1] 25 (0, 0)) := by rw [hw2]; exact World.alloc_heap_new _ _
  have hk1 : Below w1.heap.size w1 w2 := by rw [hw2]; exact kept_alloc (Below.refl _ _) _
  have hC := takeFree_any hL1 (Nat.le_refl _)
  obtain ⟨y1, y2⟩ := pair_cells hx1
  rw [hw2] at y1 y2
  go_wp2_with fail
  rw [← hw2]
  clear y1 y2 hw2 hP1 hb1
  refine hC.mono ?_
  clear hC
  rintro e w3 ⟨hb23, hA⟩
  rcases hA with ⟨hno, _⟩ | ⟨b, v3, _, hb, rfl, hP2⟩
  · rcases hno with hno | hno
    · rw [sh1] at hno; cases hno
    · rw [sh2] at hno; cases hno
  rw [sh2] at hb
  cases hb
  replace hP2 : IsPool w3.heap.size w3 v3 [5, 0, 0, 0] zt := hP2.pool
  have hb2 : Below w.heap.size w w3 := kept_trans hbL1 hb23
  clear hx1 hL1 hbL1 hk1 hb23
  obtain ⟨p2, c2, r2, d2, rfl⟩ := open4 hP2 rfl
  obtain ⟨w4, hw4⟩ : ∃ y, y = w3.alloc (Obj.cells #[.slice p2 4 c2, .slice r2 4 d2] 25) := ⟨_, rfl⟩
  obtain ⟨hL2, hbL2⟩ := laid hP2 hb2 hb2.size (Obj.cells #[.slice p2 4 c2, .slice r2 4 d2] 25)
  rw [← hw4] at hL2 hbL2
  have hx2 : w4.heap[w3.heap.size]? = some (.cells #[.slice p2 4 c2, .slice r2 4 d2] 25 (0, 0)) := by rw [hw4]; exact World.alloc_heap_new _ _
  have hk2 : Below w3.heap.size w3 w4 := by rw [hw4]; exact kept_alloc (Below.refl _ _) _
  have hR4 : RunErrs a0 a1 w4.heap.size w4 := by
    have := hR.below hbL2
    obtain ⟨⟨g1, g2, g3, g4⟩, ⟨j1, j2, j3, j4⟩, r⟩ := this
    have := hbL2.size
    exact ⟨⟨g1, by omega, by omega, g4⟩, ⟨j1, by omega, by omega, j4⟩, r⟩
  have hC := takeRun_any 2 (by unfold I64; omega) hL2 hR4 (Nat.le_refl _)
  obtain ⟨y1, y2⟩ := pair_cells hx2
  rw [hw4] at y1 y2
  go_wp2_with fail
  rw [← hw4]
  clear y1 y2 hw4 hP2 hb2 hR4
  refine hC.mono ?_
  clear hC
  rintro e w5 ⟨hb45, hA⟩
  rcases hA with ⟨hno, _⟩ | ⟨hh, v5, hf, _, rfl, hP3⟩
  · rcases hno with hno | hno
    · rw [sh4] at hno; cases hno
    · rw [sh3] at hno; cases hno
  rw [sh4] at hf
  cases hf
  rw [show (2 : Int).toNat = 2 from rfl, sh5] at hP3
  replace hP3 : IsPool w5.heap.size w5 v5 [5, 3, 4, 0] zt := hP3.pool
  have hb3 : Below w.heap.size w w5 := kept_trans hbL2 hb45
  clear hx2 hL2 hbL2 hk2 hb45
  obtain ⟨p3, c3, r3, d3, rfl⟩ := open4 hP3 rfl
  obtain ⟨w6, hw6⟩ : ∃ y, y = w5.alloc (Obj.cells #[.slice p3 4 c3, .slice r3 4 d3] 25) := ⟨_, rfl⟩
  obtain ⟨hL3, hbL3⟩ := laid hP3 hb3 hb3.size (Obj.cells #[.slice p3 4 c3, .slice r3 4 d3] 25)
  rw [← hw6] at hL3 hbL3
  have hx3 : w6.heap[w5.heap.size]? = some (.cells #[.slice p3 4 c3, .slice r3 4 d3] 25 (0, 0)) := by rw [hw6]; exact World.alloc_heap_new _ _
  have hk3 : Below w5.heap.size w5 w6 := by rw [hw6]; exact kept_alloc (Below.refl _ _) _
  have hC := close_any 0 (by unfold I64; omega) hL3 (hE.below hbL3 |> fun h => ⟨h.1, Nat.lt_of_lt_of_le h.2 hbL3.size⟩) (Nat.le_refl _)
  obtain ⟨y1, y2⟩ := pair_cells hx3
  rw [hw6] at y1 y2
  go_wp2_with fail
  rw [← hw6]
  clear y1 y2 hw6 hP3 hb3
  refine hC.mono ?_
  clear hC
  rintro e w7 ⟨hb67, hA⟩
  rcases hA with ⟨x, hno, _⟩ | ⟨v7, _, rfl, hP4⟩
  · rw [sh6] at hno; cases hno
  replace hP4 : IsPool w7.heap.size w7 v7 [2, 3, 4, 0] zt := hP4.pool
  have hb4 : Below w.heap.size w w7 := kept_trans hbL3 hb67
  have hx3 := mark_any hx3 hb67
  have hL3 := (hL3.below hb67).wider hb67.size
  clear hbL3 hk3
  obtain ⟨p4, c4, r4, d4, rfl⟩ := open4 hP4 rfl
  obtain ⟨w8, hw8⟩ : ∃ y, y = w7.alloc (Obj.cells #[.slice p4 4 c4, .slice r4 4 d4] 25) := ⟨_, rfl⟩
  obtain ⟨hL4, hbL4⟩ := laid hP4 hb4 hb4.size (Obj.cells #[.slice p4 4 c4, .slice r4 4 d4] 25)
  rw [← hw8] at hL4 hbL4
  have hx4 : w8.heap[w7.heap.size]? = some (.cells #[.slice p4 4 c4, .slice r4 4 d4] 25 (0, 0)) := by rw [hw8]; exact World.alloc_heap_new _ _
  have hk4 : Below w7.heap.size w7 w8 := by rw [hw8]; exact kept_alloc (Below.refl _ _) _
  have hx3 := mark_any hx3 hk4
  have hL3 := (hL3.below hk4).wider hk4.size
  have hC := takeHole_any hL4 (Nat.le_refl _)
  obtain ⟨y1, y2⟩ := pair_cells hx4
  rw [hw8] at y1 y2
  go_wp2_with fail
  rw [← hw8]
  clear y1 y2 hw8 hP4 hb4
  refine hC.mono ?_
  clear hC
  rintro e w9 ⟨hb89, hA⟩
  rcases hA with ⟨_, rfl⟩ | ⟨b, v9, _, hno, _⟩
  rotate_left
  · rw [sh7] at hno; cases hno
  have hx3 := mark_any hx3 hb89
  have hx4 := mark_any hx4 hb89
  have hL3 := (hL3.below hb89).wider hb89.size
  have hL4 := (hL4.below hb89).wider hb89.size
  have hb9 : Below w.heap.size w w9 := kept_trans hbL4 hb89
  obtain ⟨w10, hw10⟩ : ∃ y, y = w9.alloc (Obj.cells #[.slice none 0 0, .slice none 0 0] 25) := ⟨_, rfl⟩
  have hk9 : Below w9.heap.size w9 w10 := by rw [hw10]; exact kept_alloc (Below.refl _ _) _
  have hx3 := mark_any hx3 hk9
  have hx4 := mark_any hx4 hk9
  have hL3 := (hL3.below hk9).wider hk9.size
  have hL4 := (hL4.below hk9).wider hk9.size
  have hb10 : Below w.heap.size w w10 := kept_trans hb9 hk9
  have hC := close_any 0 (by unfold I64; omega) hL4 (hE.below hb10 |> fun h => ⟨h.1, Nat.lt_of_lt_of_le h.2 hb10.size⟩) (Nat.le_refl _)
  obtain ⟨y1, y2⟩ := pair_cells hx4
  rw [hw10] at y1 y2
  go_wp2_with fail
  rw [← hw10]
  clear y1 y2 hw10
  refine hC.mono ?_
  clear hC
  rintro e w11 ⟨hb11, hA⟩
  rcases hA with ⟨x, hx, rfl⟩ | ⟨v11, hno, _⟩
  rotate_left
  · rw [sh8] at hno; cases hno
  rw [sh8] at hx
  cases hx
  have hx3 := mark_any hx3 hb11
  have hx4 := mark_any hx4 hb11
  have hL3 := (hL3.below hb11).wider hb11.size
  have hL4 := (hL4.below hb11).wider hb11.size
  have hb12 : Below w.heap.size w w11 := kept_trans hb10 hb11
  obtain ⟨w12, hw12⟩ : ∃ y, y = w11.alloc (Obj.cells #[.slice none 0 0, .slice none 0 0] 25) := ⟨_, rfl⟩
  have hk12 : Below w11.heap.size w11 w12 := by rw [hw12]; exact kept_alloc (Below.refl _ _) _
  have hx3 := mark_any hx3 hk12
  have hx4 := mark_any hx4 hk12
  have hL3 := (hL3.below hk12).wider hk12.size
  have hL4 := (hL4.below hk12).wider hk12.size
  have hb13 : Below w.heap.size w w12 := kept_trans hb12 hk12
  have hC := poolCounts_any hL3 (Nat.le_refl _)
  obtain ⟨y1, y2⟩ := pair_cells hx3
  rw [hw12] at y1 y2
  go_wp2_with fail
  rw [← hw12]
  clear y1 y2 hw12
  refine hC.mono ?_
  clear hC
  rintro e w13 ⟨hb14, hA⟩
  rcases hA with ⟨hno, _⟩ | ⟨_, vc, rfl, hrow⟩
  · rw [sh9] at hno; cases hno
  rw [sh10] at hrow
  have hx4 := mark_any hx4 hb14
  have hL4 := (hL4.below hb14).wider hb14.size
  have hb15 : Below w.heap.size w w13 := kept_trans hb13 hb14
  obtain ⟨vca, vcc, rfl, _⟩ := owns_open hrow
  have hvc : IsInts w13.heap.size w13 (.slice vca 6 vcc) [1, 0, 0, 1, 1, 1] := IsInts.of_owns (xs := [1, 0, 0, 1, 1, 1]) hrow (by simp [big]) (by intro x hx; simp at hx; unfold I64; omega)
  obtain ⟨z1, z2, hz, hz1, _⟩ := hL4
  cases hz
  -- the first comparison
  obtain ⟨w14, hw14⟩ : ∃ y, y = w13.alloc (Obj.cells #[.int .i64 2, .int .i64 3, .int .i64 4, .int .i64 0] 3) := ⟨_, rfl⟩
  have hk14 : Below w13.heap.size w13 w14 := by rw [hw14]; exact kept_alloc (Below.refl _ _) _
  have hn14 : IsInts w14.heap.size w14 (.slice (some ⟨w13.heap.size, 0, none⟩) 4 4) [2, 3, 4, 0] := by
    have hrow4 : w14.ownsRow w13.heap.size 3 1 (.slice (some ⟨w13.heap.size, 0, none⟩) 4 4) 4 (([2, 3, 4, 0] : List Int).map (Value.int .i64)) :=
      ⟨by simp, .inr ⟨w13.heap.size, 4, #[.int .i64 2, .int .i64 3, .int .i64 4, .int .i64 0], rfl, Nat.le_refl _, by rw [hw14]; exact World.alloc_heap_new _ _, Nat.le_refl _, by decide, rfl, rfl⟩⟩
    exact IsInts.of_owns (xs := [2, 3, 4, 0]) hrow4 (by simp [big]) (by intro x hx; simp at hx; unfold I64; omega)
  have hC := refInts_any ((hz1.below hk14).wider hk14.size) hn14
  obtain ⟨y1, y2⟩ := pair_cells hx4
  have hvc14 := (hvc.below hk14).wider hk14.size
  have hb16 : Below w.heap.size w w14 := kept_trans hb15 hk14
  go_wp2_with fail
  rw [← hw14]
  clear hw14
  refine hC.mono ?_
  clear hC
  rintro e w15 ⟨rfl, q, rfl⟩
  have hb17 : Below w.heap.size w (w14.drewN q) := below_drewN hb16 q
  have hvc15 := hvc14.below (below_drewN (Below.refl w14.heap.size w14) q)
  obtain ⟨w15, hw15⟩ : ∃ y, y = (w14.drewN q).alloc (Obj.cells #[.int .i64 1, .int .i64 0, .int .i64 0, .int .i64 1, .int .i64 1, .int .i64 1] 3) := ⟨_, rfl⟩
  have hk15 : Below (w14.drewN q).heap.size (w14.drewN q) w15 := by rw [hw15]; exact kept_alloc (Below.refl _ _) _
  have hn15 : IsInts w15.heap.size w15 (.slice (some ⟨(w14.drewN q).heap.size, 0, none⟩) 6 6) [1, 0, 0, 1, 1, 1] := by
    have hrow4 : w15.ownsRow (w14.drewN q).heap.size 3 1 (.slice (some ⟨(w14.drewN q).heap.size, 0, none⟩) 6 6) 6 (([1, 0, 0, 1, 1, 1] : List Int).map (Value.int .i64)) :=
      ⟨by simp, .inr ⟨(w14.drewN q).heap.size, 6, #[.int .i64 1, .int .i64 0, .int .i64 0, .int .i64 1, .int .i64 1, .int .i64 1], rfl, Nat.le_refl _, by rw [hw15]; exact World.alloc_heap_new _ _, Nat.le_refl _, by decide, rfl, rfl⟩⟩
    exact IsInts.of_owns (xs := [1, 0, 0, 1, 1, 1]) hrow4 (by simp [big]) (by intro x hx; simp at hx; unfold I64; omega)
  have hvcw : IsInts w15.heap.size w15 (.slice vca 6 vcc) [1, 0, 0, 1, 1, 1] := ((hvc15.wider (n' := (w14.drewN q).heap.size) (Nat.le_refl _)).below hk15).wider hk15.size
  have hC := refInts_any hvcw hn15
  have hb18 : Below w.heap.size w w15 := kept_trans hb17 hk15
  go_wp2_with fail
  rw [← hw15]
  clear hw15
  refine hC.mono ?_
  clear hC
  rintro e w16 ⟨rfl, q', rfl⟩
  go_wp2
  go_ret
  exact ⟨rfl, below_drewN hb18 q'⟩

end Go.Proofs.YtihmgiifphheeaaGreatDoor
