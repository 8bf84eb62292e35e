/- The walk of PoolTells. (Printed by laws10.py.) -/
import Derived.Test.YtihmgiifphheeaaDoorViews3
namespace Go.Proofs.YtihmgiifphheeaaDoor
open Go.RowKit Go.Sel

set_option maxRecDepth 100000 in
set_option maxHeartbeats 8000000 in
theorem tells_any {n : Nat} {a0 a1' : Addr} {v1 v2 : Value} {s1 : List Int} {t1 : List (List Int)} {w : World} {v3 v4 : Value} {s2 : List Int} {t2 : List (List Int)} (b : Int) (hbI : I64 b) (hs2 : HeadInts n w v3 s2) (ht2 : HeadTabs n w v4 t2) (hs : HeadInts n w v1 s1) (ht : HeadTabs n w v2 t1) (hn : n ≤ w.heap.size) (hE : ErrT w.heap.size w) (hR : RunErrs a0 a1' w.heap.size w) :
    Calls Tryd.prog 5 #[.agg #[v1, v2], .agg #[v3, v4], .int .i64 b] w fun e w' => e = .returned (.bool true) ∧ Below w.heap.size w w' := by
  obtain ⟨w1, hw1⟩ : ∃ y, y = (w.alloc (Obj.cells #[v1, v2] 25)).alloc (Obj.cells #[v3, v4] 25) := ⟨_, rfl⟩
  have hB : Below w.heap.size w w1 := by rw [hw1]; exact kept_alloc (kept_alloc (Below.refl _ _) _) _
  have hx1 : w1.heap[w.heap.size]? = some (.cells #[v1, v2] 25 (0, 0)) := by rw [hw1]; exact heap_alloc_at (World.alloc_heap_new w _) _
  have hx2 : w1.heap[w.heap.size + 1]? = some (.cells #[v3, v4] 25 (0, 0)) := by rw [hw1]; have := World.alloc_heap_new (w.alloc (Obj.cells #[v1, v2] 25)) (Obj.cells #[v3, v4] 25); rwa [World.size_alloc] at this
  have hS := shown_any (hE.up hB) (hR.up hB)
  go_enter Tryd.func5, Tryd.ntmps5
  go_wp2_with fail
  rw [← hw1]
  clear hw1
  refine hS.mono ?_
  clear hS
  rintro e w2 ⟨rfl, hb⟩
  replace hx1 := mark_any hx1 hb
  replace hx2 := mark_any hx2 hb
  replace hB := kept_trans hB hb
  clear hb
  have hC := lawCut_any (hs.below (hB.mono hn)) (ht.below (hB.mono hn)) (Nat.le_trans hn hB.size)
  obtain ⟨y1, y2⟩ := pair_cells hx1
  go_wp2_with fail
  refine hC.mono ?_
  clear hC y1 y2
  rintro e w3 ⟨v, rfl, hPA, hb⟩
  obtain ⟨p1a, c1a, p1b, c1b, rfl⟩ := IsPool.open (hPA w3 (fun _ _ _ _ h => h))
  obtain ⟨B1, hBl1, hQ1⟩ : ∃ B, w.heap.size + 1 < B ∧ PoolOut n B (.agg #[.slice p1a s1.length c1a, .slice p1b t1.length c1b]) s1 t1 w3 := ⟨w2.heap.size + 3, by have := (Array.getElem?_eq_some_iff.1 hx2).1; omega, PoolOut.of_cut hPA⟩
  clear hPA
  replace hx1 := mark_any hx1 hb
  replace hx2 := mark_any hx2 hb
  replace hB := kept_trans hB hb
  clear hb
  obtain ⟨y1, y2⟩ := pair_cells hx1
  have y3 := row_frozen hx1 0
  have y4 := row_frozen hx1 1
  have hO := write2_only (W := w3) (B1 := w.heap.size) (.slice p1a s1.length c1a) (.slice p1b t1.length c1b)
  have hxn := write2 hx1 (.slice p1a s1.length c1a) (.slice p1b t1.length c1b)
  have hBn : Below w.heap.size w ((w3.setCell ⟨w.heap.size, 0, none⟩ (.slice p1a s1.length c1a)).setCell ⟨w.heap.size, 1, none⟩ (.slice p1b t1.length c1b)) := hB.trans (hO.below hB.size (fun k hk e => by omega))
  replace hx2 := (hO.block _ (Array.getElem?_eq_some_iff.1 hx2).1 (by omega)).trans hx2
  replace hQ1 := hQ1.only hO (fun k e => by omega)
  obtain ⟨w4, hw4⟩ : ∃ y, y = (w3.setCell ⟨w.heap.size, 0, none⟩ (.slice p1a s1.length c1a)).setCell ⟨w.heap.size, 1, none⟩ (.slice p1b t1.length c1b) := ⟨_, rfl⟩
  rw [← hw4] at hxn hBn hx2 hQ1
  replace hx1 := hxn
  replace hB := hBn
  clear hO hxn hBn
  have hC := lawCut_any (hs2.below (hB.mono hn)) (ht2.below (hB.mono hn)) (Nat.le_trans hn hB.size)
  obtain ⟨y1, y2⟩ := pair_cells hx2
  rw [hw4] at y1 y2
  go_wp2_with fail
  rw [← hw4]
  clear hw4
  refine hC.mono ?_
  clear hC y1 y2
  rintro e w5 ⟨v, rfl, hPA, hb⟩
  obtain ⟨p2a, c2a, p2b, c2b, rfl⟩ := IsPool.open (hPA w5 (fun _ _ _ _ h => h))
  obtain ⟨B2, hBl2, hQ2⟩ : ∃ B, w.heap.size + 1 < B ∧ PoolOut n B (.agg #[.slice p2a s2.length c2a, .slice p2b t2.length c2b]) s2 t2 w5 := ⟨w4.heap.size + 3, by have := (Array.getElem?_eq_some_iff.1 hx2).1; omega, PoolOut.of_cut hPA⟩
  clear hPA
  replace hx1 := mark_any hx1 hb
  replace hx2 := mark_any hx2 hb
  replace hQ1 := hQ1.up hb
  replace hB := kept_trans hB hb
  clear hb
  obtain ⟨y1, y2⟩ := pair_cells hx2
  have y3 := row_frozen hx2 0
  have y4 := row_frozen hx2 1
  have hO := write2_only (W := w5) (B1 := w.heap.size + 1) (.slice p2a s2.length c2a) (.slice p2b t2.length c2b)
  have hxn := write2 hx2 (.slice p2a s2.length c2a) (.slice p2b t2.length c2b)
  have hBn : Below w.heap.size w ((w5.setCell ⟨w.heap.size + 1, 0, none⟩ (.slice p2a s2.length c2a)).setCell ⟨w.heap.size + 1, 1, none⟩ (.slice p2b t2.length c2b)) := hB.trans (hO.below hB.size (fun k hk e => by omega))
  replace hx1 := (hO.block _ (Array.getElem?_eq_some_iff.1 hx1).1 (by omega)).trans hx1
  replace hQ1 := hQ1.only hO (fun k e => by omega)
  replace hQ2 := hQ2.only hO (fun k e => by omega)
  obtain ⟨w6, hw6⟩ : ∃ y, y = (w5.setCell ⟨w.heap.size + 1, 0, none⟩ (.slice p2a s2.length c2a)).setCell ⟨w.heap.size + 1, 1, none⟩ (.slice p2b t2.length c2b) := ⟨_, rfl⟩
  rw [← hw6] at hxn hBn hx1 hQ1 hQ2
  replace hx2 := hxn
  replace hB := hBn
  clear hO hxn hBn
  have hP1 := hQ1.pool
  clear hQ1
  have hP2 := hQ2.pool
  clear hQ2
  have hC := new_num b hbI w6
  go_wp2_with fail
  rw [← hw6]
  clear hw6
  refine hC.mono ?_
  clear hC
  rintro e w7 ⟨hb, a5, b5, l5, c5, m5, d5, rfl, hN5⟩
  replace hx1 := mark_any hx1 hb
  replace hx2 := mark_any hx2 hb
  replace hP1 := (hP1.below hb).wider hb.size
  replace hP2 := (hP2.below hb).wider hb.size
  replace hB := kept_trans hB hb
  clear hb
  clear y1 y2 y3 y4
  obtain ⟨w8, hw8⟩ : ∃ y, y = w7.alloc (Obj.cells #[.slice a5 l5 c5, .slice b5 m5 d5] 25) := ⟨_, rfl⟩
  have hk8 : Below w7.heap.size w7 w8 := by rw [hw8]; exact kept_alloc (Below.refl _ _) _
  replace hx1 := mark_any hx1 hk8
  replace hx2 := mark_any hx2 hk8
  replace hP1 := (hP1.below hk8).wider hk8.size
  replace hP2 := (hP2.below hk8).wider hk8.size
  replace hN5 := (hN5.below hk8).wider hk8.size
  replace hB := kept_trans hB hk8
  have h5 : w8.heap[w7.heap.size]? = some (.cells #[.slice a5 l5 c5, .slice b5 m5 d5] 25 (0, 0)) := by rw [hw8]; exact World.alloc_heap_new _ _
  clear hk8
  have hC := refNew_num b hbI w8
  go_wp2_with fail
  rw [← hw8]
  clear hw8
  refine hC.mono ?_
  clear hC
  rintro e w9 ⟨hb, a6, b6, l6, c6, m6, d6, rfl, hN6⟩
  replace hx1 := mark_any hx1 hb
  replace hx2 := mark_any hx2 hb
  replace hP1 := (hP1.below hb).wider hb.size
  replace hP2 := (hP2.below hb).wider hb.size
  replace hN5 := (hN5.below hb).wider hb.size
  replace h5 := mark_any h5 hb
  replace hB := kept_trans hB hb
  clear hb
  obtain ⟨w10, hw10⟩ : ∃ y, y = w9.alloc (Obj.cells #[.slice a6 l6 c6, .slice b6 m6 d6] 25) := ⟨_, rfl⟩
  have hk10 : Below w9.heap.size w9 w10 := by rw [hw10]; exact kept_alloc (Below.refl _ _) _
  replace hx1 := mark_any hx1 hk10
  replace hx2 := mark_any hx2 hk10
  replace hP1 := (hP1.below hk10).wider hk10.size
  replace hP2 := (hP2.below hk10).wider hk10.size
  replace hN5 := (hN5.below hk10).wider hk10.size
  replace h5 := mark_any h5 hk10
  replace hN6 := (hN6.below hk10).wider hk10.size
  replace hB := kept_trans hB hk10
  have h6 : w10.heap[w9.heap.size]? = some (.cells #[.slice a6 l6 c6, .slice b6 m6 d6] 25 (0, 0)) := by rw [hw10]; exact World.alloc_heap_new _ _
  clear hk10
  have hC := poolCounts_any hP1 (Nat.le_refl _)
  obtain ⟨z0a, z0b⟩ := pair_cells hx1
  rw [hw10] at z0a z0b
  go_wp2_with fail
  rw [← hw10]
  clear z0a z0b
  clear hw10
  refine hC.mono ?_
  clear hC
  rintro e w11 hA
  obtain ⟨hb, ca7, cl7, cc7, cx7, rfl, hC7⟩ := counts_view hA
  clear hA
  replace hx1 := mark_any hx1 hb
  replace hx2 := mark_any hx2 hb
  replace hP1 := (hP1.below hb).wider hb.size
  replace hP2 := (hP2.below hb).wider hb.size
  replace hN5 := (hN5.below hb).wider hb.size
  replace h5 := mark_any h5 hb
  replace hN6 := (hN6.below hb).wider hb.size
  replace h6 := mark_any h6 hb
  replace hB := kept_trans hB hb
  clear hb
  have hC := ref10Counts_any hP1 (Nat.le_refl _)
  obtain ⟨z0a, z0b⟩ := pair_cells hx1
  go_wp2_with fail
  clear z0a z0b
  refine hC.mono ?_
  clear hC
  rintro e w12 hA
  obtain ⟨hb, ca8, cl8, cc8, cx8, rfl, hC8⟩ := counts_view hA
  clear hA
  replace hx1 := mark_any hx1 hb
  replace hx2 := mark_any hx2 hb
  replace hP1 := (hP1.below hb).wider hb.size
  replace hP2 := (hP2.below hb).wider hb.size
  replace hN5 := (hN5.below hb).wider hb.size
  replace h5 := mark_any h5 hb
  replace hN6 := (hN6.below hb).wider hb.size
  replace h6 := mark_any h6 hb
  replace hC7 := hC7.up hb
  replace hB := kept_trans hB hb
  clear hb
  have e7 := hC7.num
  have e8 := hC8.num
  have e78 := e7.trans e8.symm
  subst e78
  clear e7 e8
  generalize newX b = nx at *
  have hI7 := hC7.1
  have hI8 := hC8.1
  clear hC7 hC8
  go_wp2_with fail
  have hd : Below w12.heap.size w12 w12.drew := (Below.refl _ w12).drew
  replace hx1 := mark_any hx1 hd
  replace hx2 := mark_any hx2 hd
  replace hP1 := (hP1.below hd).wider hd.size
  replace hP2 := (hP2.below hd).wider hd.size
  replace hN5 := (hN5.below hd).wider hd.size
  replace h5 := mark_any h5 hd
  replace hN6 := (hN6.below hd).wider hd.size
  replace h6 := mark_any h6 hd
  replace hI7 := (hI7.below hd).wider hd.size
  replace hI8 := (hI8.below hd).wider hd.size
  replace hB := kept_trans hB hd
  refine wp_region_class (fun W => HasBlk w7.heap.size #[.slice a5 l5 c5, .slice b5 m5 d5] 25 W ∧ HasBlk w9.heap.size #[.slice a6 l6 c6, .slice b6 m6 d6] 25 W ∧ HasBlk w.heap.size #[.slice p1a s1.length c1a, .slice p1b t1.length c1b] 25 W ∧ HasBlk (w.heap.size + 1) #[.slice p2a s2.length c2a, .slice p2b t2.length c2b] 25 W) 42 (by kernel_rfl) ?_
  obtain ⟨wd, hwd⟩ : ∃ y, y = w12.drew := ⟨_, rfl⟩
  rw [← hwd]
  rw [← hwd] at hx1 hx2 hP1 hP2 hN5 h5 hN6 h6 hI7 hI8 hB
  clear hwd hd
  have hC0 : (fun W => HasBlk w7.heap.size #[.slice a5 l5 c5, .slice b5 m5 d5] 25 W ∧ HasBlk w9.heap.size #[.slice a6 l6 c6, .slice b6 m6 d6] 25 W ∧ HasBlk w.heap.size #[.slice p1a s1.length c1a, .slice p1b t1.length c1b] 25 W ∧ HasBlk (w.heap.size + 1) #[.slice p2a s2.length c2a, .slice p2b t2.length c2b] 25 W) wd := ⟨h5, h6, hx1, hx2⟩
  refine wpAnyC_takeG 0 (.bool true) rfl (by kernel_rfl) rfl (fun _ _ _ h => h) hC0 (fun W hW => by obtain ⟨c1, c2, c3, c4⟩ := hW; obtain ⟨g1, g2⟩ := pair_cells c1.out; obtain ⟨g3, g4⟩ := pair_cells c2.out; obtain ⟨g5, g6⟩ := pair_cells c3.out; obtain ⟨g7, g8⟩ := pair_cells c4.out; go_simp) ?_
  go_simp
  refine wpAnyC_takeG 1 (.bool true) rfl (by kernel_rfl) rfl (fun _ _ _ h => h) hC0 (fun W hW => by obtain ⟨c1, c2, c3, c4⟩ := hW; obtain ⟨g1, g2⟩ := pair_cells c1.out; obtain ⟨g3, g4⟩ := pair_cells c2.out; obtain ⟨g5, g6⟩ := pair_cells c3.out; obtain ⟨g7, g8⟩ := pair_cells c4.out; go_simp) ?_
  go_simp
  refine wpAnyC_takeG 2 (.agg #[.slice a5 l5 c5, .slice b5 m5 d5]) rfl (by kernel_rfl) rfl (fun _ _ _ h => h) hC0 (fun W hW => by obtain ⟨c1, c2, c3, c4⟩ := hW; obtain ⟨g1, g2⟩ := pair_cells c1.out; obtain ⟨g3, g4⟩ := pair_cells c2.out; obtain ⟨g5, g6⟩ := pair_cells c3.out; obtain ⟨g7, g8⟩ := pair_cells c4.out; go_simp) ?_
  go_simp
  refine wpAnyC_takeG 3 (.agg #[.slice a6 l6 c6, .slice b6 m6 d6]) rfl (by kernel_rfl) rfl (fun _ _ _ h => h) hC0 (fun W hW => by obtain ⟨c1, c2, c3, c4⟩ := hW; obtain ⟨g1, g2⟩ := pair_cells c1.out; obtain ⟨g3, g4⟩ := pair_cells c2.out; obtain ⟨g5, g6⟩ := pair_cells c3.out; obtain ⟨g7, g8⟩ := pair_cells c4.out; go_simp) ?_
  go_simp
  refine wpAnyC_actG 4 rfl (by kernel_rfl) rfl ?_
  go_simp
  refine (refSame_true hN5 hN6 ⟨rfl, rfl⟩).mono ?_
  rintro e w13 ⟨rfl, hb⟩
  replace hx1 := mark_any hx1 hb
  replace hx2 := mark_any hx2 hb
  replace hP1 := (hP1.below hb).wider hb.size
  replace hP2 := (hP2.below hb).wider hb.size
  replace hN5 := (hN5.below hb).wider hb.size
  replace h5 := mark_any h5 hb
  replace hN6 := (hN6.below hb).wider hb.size
  replace h6 := mark_any h6 hb
  replace hI7 := (hI7.below hb).wider hb.size
  replace hI8 := (hI8.below hb).wider hb.size
  replace hB := kept_trans hB hb
  clear hb hC0
  have hC0 : (fun W => HasBlk w7.heap.size #[.slice a5 l5 c5, .slice b5 m5 d5] 25 W ∧ HasBlk w9.heap.size #[.slice a6 l6 c6, .slice b6 m6 d6] 25 W ∧ HasBlk w.heap.size #[.slice p1a s1.length c1a, .slice p1b t1.length c1b] 25 W ∧ HasBlk (w.heap.size + 1) #[.slice p2a s2.length c2a, .slice p2b t2.length c2b] 25 W) w13 := ⟨h5, h6, hx1, hx2⟩
  refine ⟨hC0, ?_⟩
  refine wpAnyC_takeG 5 (.bool true) rfl (by kernel_rfl) rfl (fun _ _ _ h => h) hC0 (fun W hW => by obtain ⟨c1, c2, c3, c4⟩ := hW; obtain ⟨g1, g2⟩ := pair_cells c1.out; obtain ⟨g3, g4⟩ := pair_cells c2.out; obtain ⟨g5, g6⟩ := pair_cells c3.out; obtain ⟨g7, g8⟩ := pair_cells c4.out; go_simp) ?_
  go_simp
  refine wpAnyC_takeG 6 (.bool true) rfl (by kernel_rfl) rfl (fun _ _ _ h => h) hC0 (fun W hW => by obtain ⟨c1, c2, c3, c4⟩ := hW; obtain ⟨g1, g2⟩ := pair_cells c1.out; obtain ⟨g3, g4⟩ := pair_cells c2.out; obtain ⟨g5, g6⟩ := pair_cells c3.out; obtain ⟨g7, g8⟩ := pair_cells c4.out; go_simp) ?_
  go_simp
  refine wpAnyC_takeG 7 (.int .i64 nx) rfl (by kernel_rfl) rfl (fun _ _ _ h => h) hC0 (fun W hW => by obtain ⟨c1, c2, c3, c4⟩ := hW; obtain ⟨g1, g2⟩ := pair_cells c1.out; obtain ⟨g3, g4⟩ := pair_cells c2.out; obtain ⟨g5, g6⟩ := pair_cells c3.out; obtain ⟨g7, g8⟩ := pair_cells c4.out; go_simp) ?_
  go_simp
  refine wpAnyC_takeG 8 (.int .i64 nx) rfl (by kernel_rfl) rfl (fun _ _ _ h => h) hC0 (fun W hW => by obtain ⟨c1, c2, c3, c4⟩ := hW; obtain ⟨g1, g2⟩ := pair_cells c1.out; obtain ⟨g3, g4⟩ := pair_cells c2.out; obtain ⟨g5, g6⟩ := pair_cells c3.out; obtain ⟨g7, g8⟩ := pair_cells c4.out; go_simp) ?_
  go_simp
  refine wpAnyC_takeG 9 (.bool true) rfl (by kernel_rfl) rfl (fun _ _ _ h => h) hC0 (fun W hW => by obtain ⟨c1, c2, c3, c4⟩ := hW; obtain ⟨g1, g2⟩ := pair_cells c1.out; obtain ⟨g3, g4⟩ := pair_cells c2.out; obtain ⟨g5, g6⟩ := pair_cells c3.out; obtain ⟨g7, g8⟩ := pair_cells c4.out; go_simp) ?_
  go_simp
  refine wpAnyC_takeG 10 (.bool true) rfl (by kernel_rfl) rfl (fun _ _ _ h => h) hC0 (fun W hW => by obtain ⟨c1, c2, c3, c4⟩ := hW; obtain ⟨g1, g2⟩ := pair_cells c1.out; obtain ⟨g3, g4⟩ := pair_cells c2.out; obtain ⟨g5, g6⟩ := pair_cells c3.out; obtain ⟨g7, g8⟩ := pair_cells c4.out; go_simp) ?_
  go_simp
  refine wpAnyC_takeG 11 (.bool true) rfl (by kernel_rfl) rfl (fun _ _ _ h => h) hC0 (fun W hW => by obtain ⟨c1, c2, c3, c4⟩ := hW; obtain ⟨g1, g2⟩ := pair_cells c1.out; obtain ⟨g3, g4⟩ := pair_cells c2.out; obtain ⟨g5, g6⟩ := pair_cells c3.out; obtain ⟨g7, g8⟩ := pair_cells c4.out; go_simp) ?_
  go_simp
  refine wpAnyC_takeG 12 (.agg #[.slice p1a s1.length c1a, .slice p1b t1.length c1b]) rfl (by kernel_rfl) rfl (fun _ _ _ h => h) hC0 (fun W hW => by obtain ⟨c1, c2, c3, c4⟩ := hW; obtain ⟨g1, g2⟩ := pair_cells c1.out; obtain ⟨g3, g4⟩ := pair_cells c2.out; obtain ⟨g5, g6⟩ := pair_cells c3.out; obtain ⟨g7, g8⟩ := pair_cells c4.out; go_simp) ?_
  go_simp
  refine wpAnyC_takeG 14 (.agg #[.slice p1a s1.length c1a, .slice p1b t1.length c1b]) rfl (by kernel_rfl) rfl (fun _ _ _ h => h) hC0 (fun W hW => by obtain ⟨c1, c2, c3, c4⟩ := hW; obtain ⟨g1, g2⟩ := pair_cells c1.out; obtain ⟨g3, g4⟩ := pair_cells c2.out; obtain ⟨g5, g6⟩ := pair_cells c3.out; obtain ⟨g7, g8⟩ := pair_cells c4.out; go_simp) ?_
  go_simp
  refine wpAnyC_actG 13 rfl (by kernel_rfl) rfl ?_
  go_simp
  refine (poolRight_any hP1 (Nat.le_refl _)).mono ?_
  rintro e w14 ⟨rfl, hb⟩
  replace hx1 := mark_any hx1 hb
  replace hx2 := mark_any hx2 hb
  replace hP1 := (hP1.below hb).wider hb.size
  replace hP2 := (hP2.below hb).wider hb.size
  replace hN5 := (hN5.below hb).wider hb.size
  replace h5 := mark_any h5 hb
  replace hN6 := (hN6.below hb).wider hb.size
  replace h6 := mark_any h6 hb
  replace hI7 := (hI7.below hb).wider hb.size
  replace hI8 := (hI8.below hb).wider hb.size
  replace hB := kept_trans hB hb
  clear hb hC0
  have hC0 : (fun W => HasBlk w7.heap.size #[.slice a5 l5 c5, .slice b5 m5 d5] 25 W ∧ HasBlk w9.heap.size #[.slice a6 l6 c6, .slice b6 m6 d6] 25 W ∧ HasBlk w.heap.size #[.slice p1a s1.length c1a, .slice p1b t1.length c1b] 25 W ∧ HasBlk (w.heap.size + 1) #[.slice p2a s2.length c2a, .slice p2b t2.length c2b] 25 W) w14 := ⟨h5, h6, hx1, hx2⟩
  refine ⟨hC0, ?_⟩
  refine wpAnyC_actG 15 rfl (by kernel_rfl) rfl ?_
  go_simp
  refine (ref10Right_any hP1 (Nat.le_refl _)).mono ?_
  rintro e w15 ⟨rfl, hb⟩
  replace hx1 := mark_any hx1 hb
  replace hx2 := mark_any hx2 hb
  replace hP1 := (hP1.below hb).wider hb.size
  replace hP2 := (hP2.below hb).wider hb.size
  replace hN5 := (hN5.below hb).wider hb.size
  replace h5 := mark_any h5 hb
  replace hN6 := (hN6.below hb).wider hb.size
  replace h6 := mark_any h6 hb
  replace hI7 := (hI7.below hb).wider hb.size
  replace hI8 := (hI8.below hb).wider hb.size
  replace hB := kept_trans hB hb
  clear hb hC0
  have hC0 : (fun W => HasBlk w7.heap.size #[.slice a5 l5 c5, .slice b5 m5 d5] 25 W ∧ HasBlk w9.heap.size #[.slice a6 l6 c6, .slice b6 m6 d6] 25 W ∧ HasBlk w.heap.size #[.slice p1a s1.length c1a, .slice p1b t1.length c1b] 25 W ∧ HasBlk (w.heap.size + 1) #[.slice p2a s2.length c2a, .slice p2b t2.length c2b] 25 W) w15 := ⟨h5, h6, hx1, hx2⟩
  refine ⟨hC0, ?_⟩
  refine wpAnyC_takeG 16 (.bool true) rfl (by kernel_rfl) rfl (fun _ _ _ h => h) hC0 (fun W hW => by obtain ⟨c1, c2, c3, c4⟩ := hW; obtain ⟨g1, g2⟩ := pair_cells c1.out; obtain ⟨g3, g4⟩ := pair_cells c2.out; obtain ⟨g5, g6⟩ := pair_cells c3.out; obtain ⟨g7, g8⟩ := pair_cells c4.out; go_simp) ?_
  go_simp
  refine wpAnyC_takeG 17 (.bool true) rfl (by kernel_rfl) rfl (fun _ _ _ h => h) hC0 (fun W hW => by obtain ⟨c1, c2, c3, c4⟩ := hW; obtain ⟨g1, g2⟩ := pair_cells c1.out; obtain ⟨g3, g4⟩ := pair_cells c2.out; obtain ⟨g5, g6⟩ := pair_cells c3.out; obtain ⟨g7, g8⟩ := pair_cells c4.out; go_simp) ?_
  go_simp
  refine wpAnyC_takeG 18 (.bool true) rfl (by kernel_rfl) rfl (fun _ _ _ h => h) hC0 (fun W hW => by obtain ⟨c1, c2, c3, c4⟩ := hW; obtain ⟨g1, g2⟩ := pair_cells c1.out; obtain ⟨g3, g4⟩ := pair_cells c2.out; obtain ⟨g5, g6⟩ := pair_cells c3.out; obtain ⟨g7, g8⟩ := pair_cells c4.out; go_simp) ?_
  go_simp
  refine wpAnyC_takeG 19 (.slice ca7 cl7 cc7) rfl (by kernel_rfl) rfl (fun _ _ _ h => h) hC0 (fun W hW => by obtain ⟨c1, c2, c3, c4⟩ := hW; obtain ⟨g1, g2⟩ := pair_cells c1.out; obtain ⟨g3, g4⟩ := pair_cells c2.out; obtain ⟨g5, g6⟩ := pair_cells c3.out; obtain ⟨g7, g8⟩ := pair_cells c4.out; go_simp) ?_
  go_simp
  refine wpAnyC_takeG 20 (.slice ca8 cl8 cc8) rfl (by kernel_rfl) rfl (fun _ _ _ h => h) hC0 (fun W hW => by obtain ⟨c1, c2, c3, c4⟩ := hW; obtain ⟨g1, g2⟩ := pair_cells c1.out; obtain ⟨g3, g4⟩ := pair_cells c2.out; obtain ⟨g5, g6⟩ := pair_cells c3.out; obtain ⟨g7, g8⟩ := pair_cells c4.out; go_simp) ?_
  go_simp
  refine wpAnyC_actG 21 rfl (by kernel_rfl) rfl ?_
  go_simp
  refine (ints_true hI7 hI8).mono ?_
  rintro e w16 ⟨rfl, hb⟩
  replace hx1 := mark_any hx1 hb
  replace hx2 := mark_any hx2 hb
  replace hP1 := (hP1.below hb).wider hb.size
  replace hP2 := (hP2.below hb).wider hb.size
  replace hN5 := (hN5.below hb).wider hb.size
  replace h5 := mark_any h5 hb
  replace hN6 := (hN6.below hb).wider hb.size
  replace h6 := mark_any h6 hb
  replace hI7 := (hI7.below hb).wider hb.size
  replace hI8 := (hI8.below hb).wider hb.size
  replace hB := kept_trans hB hb
  clear hb hC0
  have hC0 : (fun W => HasBlk w7.heap.size #[.slice a5 l5 c5, .slice b5 m5 d5] 25 W ∧ HasBlk w9.heap.size #[.slice a6 l6 c6, .slice b6 m6 d6] 25 W ∧ HasBlk w.heap.size #[.slice p1a s1.length c1a, .slice p1b t1.length c1b] 25 W ∧ HasBlk (w.heap.size + 1) #[.slice p2a s2.length c2a, .slice p2b t2.length c2b] 25 W) w16 := ⟨h5, h6, hx1, hx2⟩
  refine ⟨hC0, ?_⟩
  refine wpAnyC_takeG 22 (.bool true) rfl (by kernel_rfl) rfl (fun _ _ _ h => h) hC0 (fun W hW => by obtain ⟨c1, c2, c3, c4⟩ := hW; obtain ⟨g1, g2⟩ := pair_cells c1.out; obtain ⟨g3, g4⟩ := pair_cells c2.out; obtain ⟨g5, g6⟩ := pair_cells c3.out; obtain ⟨g7, g8⟩ := pair_cells c4.out; go_simp) ?_
  go_simp
  refine wpAnyC_takeG 23 (.bool true) rfl (by kernel_rfl) rfl (fun _ _ _ h => h) hC0 (fun W hW => by obtain ⟨c1, c2, c3, c4⟩ := hW; obtain ⟨g1, g2⟩ := pair_cells c1.out; obtain ⟨g3, g4⟩ := pair_cells c2.out; obtain ⟨g5, g6⟩ := pair_cells c3.out; obtain ⟨g7, g8⟩ := pair_cells c4.out; go_simp) ?_
  go_simp
  refine wpAnyC_takeG 24 (.int .i64 cx7) rfl (by kernel_rfl) rfl (fun _ _ _ h => h) hC0 (fun W hW => by obtain ⟨c1, c2, c3, c4⟩ := hW; obtain ⟨g1, g2⟩ := pair_cells c1.out; obtain ⟨g3, g4⟩ := pair_cells c2.out; obtain ⟨g5, g6⟩ := pair_cells c3.out; obtain ⟨g7, g8⟩ := pair_cells c4.out; go_simp) ?_
  go_simp
  refine wpAnyC_takeG 25 (.int .i64 cx7) rfl (by kernel_rfl) rfl (fun _ _ _ h => h) hC0 (fun W hW => by obtain ⟨c1, c2, c3, c4⟩ := hW; obtain ⟨g1, g2⟩ := pair_cells c1.out; obtain ⟨g3, g4⟩ := pair_cells c2.out; obtain ⟨g5, g6⟩ := pair_cells c3.out; obtain ⟨g7, g8⟩ := pair_cells c4.out; go_simp) ?_
  go_simp
  refine wpAnyC_takeG 26 (.bool true) rfl (by kernel_rfl) rfl (fun _ _ _ h => h) hC0 (fun W hW => by obtain ⟨c1, c2, c3, c4⟩ := hW; obtain ⟨g1, g2⟩ := pair_cells c1.out; obtain ⟨g3, g4⟩ := pair_cells c2.out; obtain ⟨g5, g6⟩ := pair_cells c3.out; obtain ⟨g7, g8⟩ := pair_cells c4.out; go_simp) ?_
  go_simp
  refine wpAnyC_takeG 27 (.bool true) rfl (by kernel_rfl) rfl (fun _ _ _ h => h) hC0 (fun W hW => by obtain ⟨c1, c2, c3, c4⟩ := hW; obtain ⟨g1, g2⟩ := pair_cells c1.out; obtain ⟨g3, g4⟩ := pair_cells c2.out; obtain ⟨g5, g6⟩ := pair_cells c3.out; obtain ⟨g7, g8⟩ := pair_cells c4.out; go_simp) ?_
  go_simp
  refine wpAnyC_takeG 28 (.bool true) rfl (by kernel_rfl) rfl (fun _ _ _ h => h) hC0 (fun W hW => by obtain ⟨c1, c2, c3, c4⟩ := hW; obtain ⟨g1, g2⟩ := pair_cells c1.out; obtain ⟨g3, g4⟩ := pair_cells c2.out; obtain ⟨g5, g6⟩ := pair_cells c3.out; obtain ⟨g7, g8⟩ := pair_cells c4.out; go_simp) ?_
  go_simp
  refine wpAnyC_takeG 29 (.agg #[.slice p1a s1.length c1a, .slice p1b t1.length c1b]) rfl (by kernel_rfl) rfl (fun _ _ _ h => h) hC0 (fun W hW => by obtain ⟨c1, c2, c3, c4⟩ := hW; obtain ⟨g1, g2⟩ := pair_cells c1.out; obtain ⟨g3, g4⟩ := pair_cells c2.out; obtain ⟨g5, g6⟩ := pair_cells c3.out; obtain ⟨g7, g8⟩ := pair_cells c4.out; go_simp) ?_
  go_simp
  refine wpAnyC_takeG 30 (.agg #[.slice p2a s2.length c2a, .slice p2b t2.length c2b]) rfl (by kernel_rfl) rfl (fun _ _ _ h => h) hC0 (fun W hW => by obtain ⟨c1, c2, c3, c4⟩ := hW; obtain ⟨g1, g2⟩ := pair_cells c1.out; obtain ⟨g3, g4⟩ := pair_cells c2.out; obtain ⟨g5, g6⟩ := pair_cells c3.out; obtain ⟨g7, g8⟩ := pair_cells c4.out; go_simp) ?_
  go_simp
  refine wpAnyC_takeG 32 (.agg #[.slice p1a s1.length c1a, .slice p1b t1.length c1b]) rfl (by kernel_rfl) rfl (fun _ _ _ h => h) hC0 (fun W hW => by obtain ⟨c1, c2, c3, c4⟩ := hW; obtain ⟨g1, g2⟩ := pair_cells c1.out; obtain ⟨g3, g4⟩ := pair_cells c2.out; obtain ⟨g5, g6⟩ := pair_cells c3.out; obtain ⟨g7, g8⟩ := pair_cells c4.out; go_simp) ?_
  go_simp
  refine wpAnyC_takeG 33 (.agg #[.slice p2a s2.length c2a, .slice p2b t2.length c2b]) rfl (by kernel_rfl) rfl (fun _ _ _ h => h) hC0 (fun W hW => by obtain ⟨c1, c2, c3, c4⟩ := hW; obtain ⟨g1, g2⟩ := pair_cells c1.out; obtain ⟨g3, g4⟩ := pair_cells c2.out; obtain ⟨g5, g6⟩ := pair_cells c3.out; obtain ⟨g7, g8⟩ := pair_cells c4.out; go_simp) ?_
  go_simp
  refine wpAnyC_actG 31 rfl (by kernel_rfl) rfl ?_
  go_simp
  refine (poolSame_any hP1 hP2 (Nat.le_refl _)).mono ?_
  rintro e w17 ⟨rfl, hb⟩
  replace hx1 := mark_any hx1 hb
  replace hx2 := mark_any hx2 hb
  replace hP1 := (hP1.below hb).wider hb.size
  replace hP2 := (hP2.below hb).wider hb.size
  replace hN5 := (hN5.below hb).wider hb.size
  replace h5 := mark_any h5 hb
  replace hN6 := (hN6.below hb).wider hb.size
  replace h6 := mark_any h6 hb
  replace hI7 := (hI7.below hb).wider hb.size
  replace hI8 := (hI8.below hb).wider hb.size
  replace hB := kept_trans hB hb
  clear hb hC0
  have hC0 : (fun W => HasBlk w7.heap.size #[.slice a5 l5 c5, .slice b5 m5 d5] 25 W ∧ HasBlk w9.heap.size #[.slice a6 l6 c6, .slice b6 m6 d6] 25 W ∧ HasBlk w.heap.size #[.slice p1a s1.length c1a, .slice p1b t1.length c1b] 25 W ∧ HasBlk (w.heap.size + 1) #[.slice p2a s2.length c2a, .slice p2b t2.length c2b] 25 W) w17 := ⟨h5, h6, hx1, hx2⟩
  refine ⟨hC0, ?_⟩
  refine wpAnyC_actG 34 rfl (by kernel_rfl) rfl ?_
  go_simp
  refine (ref10Same_any hP1 hP2 (Nat.le_refl _)).mono ?_
  rintro e w18 ⟨rfl, hb⟩
  replace hx1 := mark_any hx1 hb
  replace hx2 := mark_any hx2 hb
  replace hP1 := (hP1.below hb).wider hb.size
  replace hP2 := (hP2.below hb).wider hb.size
  replace hN5 := (hN5.below hb).wider hb.size
  replace h5 := mark_any h5 hb
  replace hN6 := (hN6.below hb).wider hb.size
  replace h6 := mark_any h6 hb
  replace hI7 := (hI7.below hb).wider hb.size
  replace hI8 := (hI8.below hb).wider hb.size
  replace hB := kept_trans hB hb
  clear hb hC0
  have hC0 : (fun W => HasBlk w7.heap.size #[.slice a5 l5 c5, .slice b5 m5 d5] 25 W ∧ HasBlk w9.heap.size #[.slice a6 l6 c6, .slice b6 m6 d6] 25 W ∧ HasBlk w.heap.size #[.slice p1a s1.length c1a, .slice p1b t1.length c1b] 25 W ∧ HasBlk (w.heap.size + 1) #[.slice p2a s2.length c2a, .slice p2b t2.length c2b] 25 W) w18 := ⟨h5, h6, hx1, hx2⟩
  refine ⟨hC0, ?_⟩
  refine wpAnyC_takeG 35 (.bool true) rfl (by kernel_rfl) rfl (fun _ _ _ h => h) hC0 (fun W hW => by obtain ⟨c1, c2, c3, c4⟩ := hW; obtain ⟨g1, g2⟩ := pair_cells c1.out; obtain ⟨g3, g4⟩ := pair_cells c2.out; obtain ⟨g5, g6⟩ := pair_cells c3.out; obtain ⟨g7, g8⟩ := pair_cells c4.out; go_simp) ?_
  go_simp
  refine wpAnyC_takeG 36 (.bool true) rfl (by kernel_rfl) rfl (fun _ _ _ h => h) hC0 (fun W hW => by obtain ⟨c1, c2, c3, c4⟩ := hW; obtain ⟨g1, g2⟩ := pair_cells c1.out; obtain ⟨g3, g4⟩ := pair_cells c2.out; obtain ⟨g5, g6⟩ := pair_cells c3.out; obtain ⟨g7, g8⟩ := pair_cells c4.out; go_simp) ?_
  go_simp
  refine wpAnyC_takeG 37 (.bool true) rfl (by kernel_rfl) rfl (fun _ _ _ h => h) hC0 (fun W hW => by obtain ⟨c1, c2, c3, c4⟩ := hW; obtain ⟨g1, g2⟩ := pair_cells c1.out; obtain ⟨g3, g4⟩ := pair_cells c2.out; obtain ⟨g5, g6⟩ := pair_cells c3.out; obtain ⟨g7, g8⟩ := pair_cells c4.out; go_simp) ?_
  go_simp
  refine wpAnyC_takeG 38 (.agg #[.slice p1a s1.length c1a, .slice p1b t1.length c1b]) rfl (by kernel_rfl) rfl (fun _ _ _ h => h) hC0 (fun W hW => by obtain ⟨c1, c2, c3, c4⟩ := hW; obtain ⟨g1, g2⟩ := pair_cells c1.out; obtain ⟨g3, g4⟩ := pair_cells c2.out; obtain ⟨g5, g6⟩ := pair_cells c3.out; obtain ⟨g7, g8⟩ := pair_cells c4.out; go_simp) ?_
  go_simp
  refine wpAnyC_takeG 39 (.agg #[.slice p1a s1.length c1a, .slice p1b t1.length c1b]) rfl (by kernel_rfl) rfl (fun _ _ _ h => h) hC0 (fun W hW => by obtain ⟨c1, c2, c3, c4⟩ := hW; obtain ⟨g1, g2⟩ := pair_cells c1.out; obtain ⟨g3, g4⟩ := pair_cells c2.out; obtain ⟨g5, g6⟩ := pair_cells c3.out; obtain ⟨g7, g8⟩ := pair_cells c4.out; go_simp) ?_
  go_simp
  refine wpAnyC_actG 40 rfl (by kernel_rfl) rfl ?_
  go_simp
  refine (same_true hP1 hP1 ⟨rfl, rfl⟩).mono ?_
  rintro e w19 ⟨rfl, hb⟩
  replace hx1 := mark_any hx1 hb
  replace hx2 := mark_any hx2 hb
  replace hP1 := (hP1.below hb).wider hb.size
  replace hP2 := (hP2.below hb).wider hb.size
  replace hN5 := (hN5.below hb).wider hb.size
  replace h5 := mark_any h5 hb
  replace hN6 := (hN6.below hb).wider hb.size
  replace h6 := mark_any h6 hb
  replace hI7 := (hI7.below hb).wider hb.size
  replace hI8 := (hI8.below hb).wider hb.size
  replace hB := kept_trans hB hb
  clear hb hC0
  have hC0 : (fun W => HasBlk w7.heap.size #[.slice a5 l5 c5, .slice b5 m5 d5] 25 W ∧ HasBlk w9.heap.size #[.slice a6 l6 c6, .slice b6 m6 d6] 25 W ∧ HasBlk w.heap.size #[.slice p1a s1.length c1a, .slice p1b t1.length c1b] 25 W ∧ HasBlk (w.heap.size + 1) #[.slice p2a s2.length c2a, .slice p2b t2.length c2b] 25 W) w19 := ⟨h5, h6, hx1, hx2⟩
  refine ⟨hC0, ?_⟩
  refine wpAnyC_takeG 41 (.bool true) rfl (by kernel_rfl) rfl (fun _ _ _ h => h) hC0 (fun W hW => by obtain ⟨c1, c2, c3, c4⟩ := hW; obtain ⟨g1, g2⟩ := pair_cells c1.out; obtain ⟨g3, g4⟩ := pair_cells c2.out; obtain ⟨g5, g6⟩ := pair_cells c3.out; obtain ⟨g7, g8⟩ := pair_cells c4.out; go_simp) ?_
  go_simp
  refine wpAnyC_actG 42 rfl (by kernel_rfl) rfl ?_
  go_simp
  refine wpAnyC_done (by kernel_rfl) ?_
  go_wp2
  go_ret
  exact ⟨rfl, hB⟩

end Go.Proofs.YtihmgiifphheeaaDoor
