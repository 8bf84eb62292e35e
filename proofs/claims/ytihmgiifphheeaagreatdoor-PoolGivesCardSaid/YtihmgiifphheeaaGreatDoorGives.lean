/- The walk of PoolGives. (Printed by laws10.py.) -/
import Derived.Test.YtihmgiifphheeaaGreatDoorRef10
namespace Go.Proofs.YtihmgiifphheeaaGreatDoor
open Go.RowKit Go.Sel

set_option maxRecDepth 100000 in
set_option maxHeartbeats 8000000 in
theorem gives_any {n : Nat} {a0 a1' : Addr} {v1 v2 : Value} {s : List Int} {t : List (List Int)} {w : World} {v3 : Value} {x : List Int} (b : Int) (hbI : I64 b) (hs3 : HeadInts n w v3 x) (hs : HeadInts n w v1 s) (ht : HeadTabs n w v2 t) (hn : n ≤ w.heap.size) (hE : ErrT w.heap.size w) (hR : RunErrs a0 a1' w.heap.size w) :
    Calls Tryz.prog 4 #[.agg #[v1, v2], .int .i64 b, v3] w fun e w' => e = .returned (.bool true) ∧ Below w.heap.size w w' := by
  obtain ⟨w1, hw1⟩ : ∃ y, y = w.alloc (Obj.cells #[v1, v2] 25) := ⟨_, rfl⟩
  have hB : Below w.heap.size w w1 := by rw [hw1]; exact kept_alloc (Below.refl _ _) _
  have hx : w1.heap[w.heap.size]? = some (.cells #[v1, v2] 25 (0, 0)) := by rw [hw1]; exact World.alloc_heap_new w _
  have hS := shown_any (hE.up hB) (hR.up hB)
  go_enter Tryz.func4, Tryz.ntmps4
  go_wp2_with fail
  rw [← hw1]
  clear hw1
  refine hS.mono ?_
  clear hS
  rintro e w2 ⟨rfl, hb⟩
  replace hx := mark_any hx hb
  replace hB := kept_trans hB hb
  clear hb
  have hC := lawCut_any (hs.below (hB.mono hn)) (ht.below (hB.mono hn)) (Nat.le_trans hn hB.size)
  obtain ⟨y1, y2⟩ := pair_cells hx
  go_wp2_with fail
  refine hC.mono ?_
  clear hC y1 y2
  rintro e w3 ⟨v, rfl, hPA, hb3⟩
  obtain ⟨p1, c1, p2, c2, rfl⟩ := IsPool.open (hPA w3 (fun _ _ _ _ h => h))
  have hsz2 : w.heap.size < w2.heap.size := (Array.getElem?_eq_some_iff.1 hx).1
  replace hx := mark_any hx hb3
  have hB3 := kept_trans hB hb3
  clear hB hb3
  have hs3 := hB3.size
  obtain ⟨y1, y2⟩ := pair_cells hx
  have y3 := row_frozen hx 0
  have y4 := row_frozen hx 1
  have hO4 := write2_only (W := w3) (B1 := w.heap.size) (.slice p1 s.length c1) (.slice p2 t.length c2)
  have hP := hPA _ (fun k o hk ho h => (hO4.block k (Array.getElem?_eq_some_iff.1 h).1 (by omega)).trans h)
  have hx4 := write2 hx (.slice p1 s.length c1) (.slice p2 t.length c2)
  have hB : Below w.heap.size w ((w3.setCell ⟨w.heap.size, 0, none⟩ (.slice p1 s.length c1)).setCell ⟨w.heap.size, 1, none⟩ (.slice p2 t.length c2)) := hB3.trans (hO4.below hB3.size (fun k hk e => by omega))
  obtain ⟨w4, hw4⟩ : ∃ y, y = (w3.setCell ⟨w.heap.size, 0, none⟩ (.slice p1 s.length c1)).setCell ⟨w.heap.size, 1, none⟩ (.slice p2 t.length c2) := ⟨_, rfl⟩
  have hsz4 : w3.heap.size ≤ w4.heap.size := by rw [hw4]; exact hO4.size
  rw [← hw4] at hP hx4 hB
  replace hP : IsPool w4.heap.size w4 (.agg #[.slice p1 s.length c1, .slice p2 t.length c2]) s t := IsPool.wider hP hsz4
  clear hPA hx hO4 hB3 hsz2 hs3 hsz4
  replace hx := hx4
  clear hx4
  have hC := cut07_any (hs3.below (hB.mono hn))
  go_wp2_with fail
  rw [← hw4]
  clear hw4 y1 y2 y3 y4
  refine hC.mono ?_
  clear hC
  rintro e w5 ⟨⟨vt, rfl, hT⟩, he⟩
  obtain rfl := he.symm
  replace hT := hT.wider (Nat.le_trans hn hB.size)
  have hC := close_ans b hbI hP (hE.up hB)
  obtain ⟨z0a, z0b⟩ := pair_cells hx
  go_wp2_with fail
  clear z0a z0b
  refine hC.mono ?_
  clear hC
  rintro e w5 ⟨hb, a5, b5, l5, c5, m5, d5, rfl, hN5⟩
  replace hN5 := hN5.pool
  replace hx := mark_any hx hb
  replace hP := (hP.below hb).wider hb.size
  replace hT := (hT.below hb).wider hb.size
  replace hB := kept_trans hB hb
  clear hb
  obtain ⟨w6, hw6⟩ : ∃ y, y = w5.alloc (Obj.cells #[.slice a5 l5 c5, .slice b5 m5 d5] 25) := ⟨_, rfl⟩
  have hk6 : Below w5.heap.size w5 w6 := by rw [hw6]; exact kept_alloc (Below.refl _ _) _
  replace hx := mark_any hx hk6
  replace hP := (hP.below hk6).wider hk6.size
  replace hT := (hT.below hk6).wider hk6.size
  replace hN5 := (hN5.below hk6).wider hk6.size
  replace hB := kept_trans hB hk6
  have h5 : w6.heap[w5.heap.size]? = some (.cells #[.slice a5 l5 c5, .slice b5 m5 d5] 25 (0, 0)) := by rw [hw6]; exact World.alloc_heap_new _ _
  clear hk6
  have hC := ref10Close_any b hbI hP (Nat.le_refl _)
  obtain ⟨z0a, z0b⟩ := pair_cells hx
  rw [hw6] at z0a z0b
  go_wp2_with fail
  rw [← hw6]
  clear z0a z0b
  clear hw6
  refine hC.mono ?_
  clear hC
  rintro e w7 ⟨hb, a6, b6, l6, c6, m6, d6, rfl, hN6⟩
  replace hN6 := hN6.pool
  replace hx := mark_any hx hb
  replace hP := (hP.below hb).wider hb.size
  replace hT := (hT.below hb).wider hb.size
  replace hN5 := (hN5.below hb).wider hb.size
  replace h5 := mark_any h5 hb
  replace hB := kept_trans hB hb
  clear hb
  generalize closeAns s t b = r0 at *
  obtain ⟨w8, hw8⟩ : ∃ y, y = w7.alloc (Obj.cells #[.slice a6 l6 c6, .slice b6 m6 d6] 25) := ⟨_, rfl⟩
  have hk8 : Below w7.heap.size w7 w8 := by rw [hw8]; exact kept_alloc (Below.refl _ _) _
  replace hx := mark_any hx hk8
  replace hP := (hP.below hk8).wider hk8.size
  replace hT := (hT.below hk8).wider hk8.size
  replace hN5 := (hN5.below hk8).wider hk8.size
  replace h5 := mark_any h5 hk8
  replace hN6 := (hN6.below hk8).wider hk8.size
  replace hB := kept_trans hB hk8
  have h6 : w8.heap[w7.heap.size]? = some (.cells #[.slice a6 l6 c6, .slice b6 m6 d6] 25 (0, 0)) := by rw [hw8]; exact World.alloc_heap_new _ _
  clear hk8
  have hC := drop_ans b hbI hP (hR.up hB)
  obtain ⟨z0a, z0b⟩ := pair_cells hx
  rw [hw8] at z0a z0b
  go_wp2_with fail
  rw [← hw8]
  clear z0a z0b
  clear hw8
  refine hC.mono ?_
  clear hC
  rintro e w9 ⟨hb, a7, b7, l7, c7, m7, d7, rfl, hN7⟩
  replace hN7 := hN7.pool
  replace hx := mark_any hx hb
  replace hP := (hP.below hb).wider hb.size
  replace hT := (hT.below hb).wider hb.size
  replace hN5 := (hN5.below hb).wider hb.size
  replace h5 := mark_any h5 hb
  replace hN6 := (hN6.below hb).wider hb.size
  replace h6 := mark_any h6 hb
  replace hB := kept_trans hB hb
  clear hb
  obtain ⟨w10, hw10⟩ : ∃ y, y = w9.alloc (Obj.cells #[.slice a7 l7 c7, .slice b7 m7 d7] 25) := ⟨_, rfl⟩
  have hk10 : Below w9.heap.size w9 w10 := by rw [hw10]; exact kept_alloc (Below.refl _ _) _
  replace hx := mark_any hx hk10
  replace hP := (hP.below hk10).wider hk10.size
  replace hT := (hT.below hk10).wider hk10.size
  replace hN5 := (hN5.below hk10).wider hk10.size
  replace h5 := mark_any h5 hk10
  replace hN6 := (hN6.below hk10).wider hk10.size
  replace h6 := mark_any h6 hk10
  replace hN7 := (hN7.below hk10).wider hk10.size
  replace hB := kept_trans hB hk10
  have h7 : w10.heap[w9.heap.size]? = some (.cells #[.slice a7 l7 c7, .slice b7 m7 d7] 25 (0, 0)) := by rw [hw10]; exact World.alloc_heap_new _ _
  clear hk10
  have hC := ref10Drop_any b hbI hP (Nat.le_refl _)
  obtain ⟨z0a, z0b⟩ := pair_cells hx
  rw [hw10] at z0a z0b
  go_wp2_with fail
  rw [← hw10]
  clear z0a z0b
  clear hw10
  refine hC.mono ?_
  clear hC
  rintro e w11 ⟨hb, a8, b8, l8, c8, m8, d8, rfl, hN8⟩
  replace hN8 := hN8.pool
  replace hx := mark_any hx hb
  replace hP := (hP.below hb).wider hb.size
  replace hT := (hT.below hb).wider hb.size
  replace hN5 := (hN5.below hb).wider hb.size
  replace h5 := mark_any h5 hb
  replace hN6 := (hN6.below hb).wider hb.size
  replace h6 := mark_any h6 hb
  replace hN7 := (hN7.below hb).wider hb.size
  replace h7 := mark_any h7 hb
  replace hB := kept_trans hB hb
  clear hb
  generalize dropAns s t b = r1 at *
  obtain ⟨w12, hw12⟩ : ∃ y, y = w11.alloc (Obj.cells #[.slice a8 l8 c8, .slice b8 m8 d8] 25) := ⟨_, rfl⟩
  have hk12 : Below w11.heap.size w11 w12 := by rw [hw12]; exact kept_alloc (Below.refl _ _) _
  replace hx := mark_any hx hk12
  replace hP := (hP.below hk12).wider hk12.size
  replace hT := (hT.below hk12).wider hk12.size
  replace hN5 := (hN5.below hk12).wider hk12.size
  replace h5 := mark_any h5 hk12
  replace hN6 := (hN6.below hk12).wider hk12.size
  replace h6 := mark_any h6 hk12
  replace hN7 := (hN7.below hk12).wider hk12.size
  replace h7 := mark_any h7 hk12
  replace hN8 := (hN8.below hk12).wider hk12.size
  replace hB := kept_trans hB hk12
  have h8 : w12.heap[w11.heap.size]? = some (.cells #[.slice a8 l8 c8, .slice b8 m8 d8] 25 (0, 0)) := by rw [hw12]; exact World.alloc_heap_new _ _
  clear hk12
  have hC := set_ans b hbI hP hT (hE.up hB)
  obtain ⟨z0a, z0b⟩ := pair_cells hx
  rw [hw12] at z0a z0b
  go_wp2_with fail
  rw [← hw12]
  clear z0a z0b
  clear hw12
  refine hC.mono ?_
  clear hC
  rintro e w13 ⟨hb, a9, b9, l9, c9, m9, d9, rfl, hN9⟩
  replace hN9 := hN9.pool
  replace hx := mark_any hx hb
  replace hP := (hP.below hb).wider hb.size
  replace hT := (hT.below hb).wider hb.size
  replace hN5 := (hN5.below hb).wider hb.size
  replace h5 := mark_any h5 hb
  replace hN6 := (hN6.below hb).wider hb.size
  replace h6 := mark_any h6 hb
  replace hN7 := (hN7.below hb).wider hb.size
  replace h7 := mark_any h7 hb
  replace hN8 := (hN8.below hb).wider hb.size
  replace h8 := mark_any h8 hb
  replace hB := kept_trans hB hb
  clear hb
  obtain ⟨w14, hw14⟩ : ∃ y, y = w13.alloc (Obj.cells #[.slice a9 l9 c9, .slice b9 m9 d9] 25) := ⟨_, rfl⟩
  have hk14 : Below w13.heap.size w13 w14 := by rw [hw14]; exact kept_alloc (Below.refl _ _) _
  replace hx := mark_any hx hk14
  replace hP := (hP.below hk14).wider hk14.size
  replace hT := (hT.below hk14).wider hk14.size
  replace hN5 := (hN5.below hk14).wider hk14.size
  replace h5 := mark_any h5 hk14
  replace hN6 := (hN6.below hk14).wider hk14.size
  replace h6 := mark_any h6 hk14
  replace hN7 := (hN7.below hk14).wider hk14.size
  replace h7 := mark_any h7 hk14
  replace hN8 := (hN8.below hk14).wider hk14.size
  replace h8 := mark_any h8 hk14
  replace hN9 := (hN9.below hk14).wider hk14.size
  replace hB := kept_trans hB hk14
  have h9 : w14.heap[w13.heap.size]? = some (.cells #[.slice a9 l9 c9, .slice b9 m9 d9] 25 (0, 0)) := by rw [hw14]; exact World.alloc_heap_new _ _
  clear hk14
  have hC := ref10Set_any b hbI hP hT (Nat.le_refl _)
  obtain ⟨z0a, z0b⟩ := pair_cells hx
  rw [hw14] at z0a z0b
  go_wp2_with fail
  rw [← hw14]
  clear z0a z0b
  clear hw14
  refine hC.mono ?_
  clear hC
  rintro e w15 ⟨hb, ax, bx, lx, cx, mx, dx, rfl, hNx⟩
  replace hNx := hNx.pool
  replace hx := mark_any hx hb
  replace hP := (hP.below hb).wider hb.size
  replace hT := (hT.below hb).wider hb.size
  replace hN5 := (hN5.below hb).wider hb.size
  replace h5 := mark_any h5 hb
  replace hN6 := (hN6.below hb).wider hb.size
  replace h6 := mark_any h6 hb
  replace hN7 := (hN7.below hb).wider hb.size
  replace h7 := mark_any h7 hb
  replace hN8 := (hN8.below hb).wider hb.size
  replace h8 := mark_any h8 hb
  replace hN9 := (hN9.below hb).wider hb.size
  replace h9 := mark_any h9 hb
  replace hB := kept_trans hB hb
  clear hb
  generalize setAns s t b x = r2 at *
  obtain ⟨w16, hw16⟩ : ∃ y, y = w15.alloc (Obj.cells #[.slice ax lx cx, .slice bx mx dx] 25) := ⟨_, rfl⟩
  have hk16 : Below w15.heap.size w15 w16 := by rw [hw16]; exact kept_alloc (Below.refl _ _) _
  replace hx := mark_any hx hk16
  replace hP := (hP.below hk16).wider hk16.size
  replace hT := (hT.below hk16).wider hk16.size
  replace hN5 := (hN5.below hk16).wider hk16.size
  replace h5 := mark_any h5 hk16
  replace hN6 := (hN6.below hk16).wider hk16.size
  replace h6 := mark_any h6 hk16
  replace hN7 := (hN7.below hk16).wider hk16.size
  replace h7 := mark_any h7 hk16
  replace hN8 := (hN8.below hk16).wider hk16.size
  replace h8 := mark_any h8 hk16
  replace hN9 := (hN9.below hk16).wider hk16.size
  replace h9 := mark_any h9 hk16
  replace hNx := (hNx.below hk16).wider hk16.size
  replace hB := kept_trans hB hk16
  have hx0 : w16.heap[w15.heap.size]? = some (.cells #[.slice ax lx cx, .slice bx mx dx] 25 (0, 0)) := by rw [hw16]; exact World.alloc_heap_new _ _
  clear hk16
  have hC := refSame_true hN5 hN6 ⟨rfl, rfl⟩
  obtain ⟨z0a, z0b⟩ := pair_cells h5
  obtain ⟨z1a, z1b⟩ := pair_cells h6
  rw [hw16] at z0a z0b z1a z1b
  go_wp2_with fail
  rw [← hw16]
  clear z0a z0b z1a z1b
  clear hw16
  refine hC.mono ?_
  clear hC
  rintro e w17 ⟨rfl, hb⟩
  replace hx := mark_any hx hb
  replace hP := (hP.below hb).wider hb.size
  replace hT := (hT.below hb).wider hb.size
  replace hN5 := (hN5.below hb).wider hb.size
  replace h5 := mark_any h5 hb
  replace hN6 := (hN6.below hb).wider hb.size
  replace h6 := mark_any h6 hb
  replace hN7 := (hN7.below hb).wider hb.size
  replace h7 := mark_any h7 hb
  replace hN8 := (hN8.below hb).wider hb.size
  replace h8 := mark_any h8 hb
  replace hN9 := (hN9.below hb).wider hb.size
  replace h9 := mark_any h9 hb
  replace hNx := (hNx.below hb).wider hb.size
  replace hx0 := mark_any hx0 hb
  replace hB := kept_trans hB hb
  clear hb
  have hC := refSame_true hN7 hN8 ⟨rfl, rfl⟩
  obtain ⟨z0a, z0b⟩ := pair_cells h7
  obtain ⟨z1a, z1b⟩ := pair_cells h8
  go_wp2_with fail
  clear z0a z0b z1a z1b
  refine hC.mono ?_
  clear hC
  rintro e w18 ⟨rfl, hb⟩
  replace hx := mark_any hx hb
  replace hP := (hP.below hb).wider hb.size
  replace hT := (hT.below hb).wider hb.size
  replace hN5 := (hN5.below hb).wider hb.size
  replace h5 := mark_any h5 hb
  replace hN6 := (hN6.below hb).wider hb.size
  replace h6 := mark_any h6 hb
  replace hN7 := (hN7.below hb).wider hb.size
  replace h7 := mark_any h7 hb
  replace hN8 := (hN8.below hb).wider hb.size
  replace h8 := mark_any h8 hb
  replace hN9 := (hN9.below hb).wider hb.size
  replace h9 := mark_any h9 hb
  replace hNx := (hNx.below hb).wider hb.size
  replace hx0 := mark_any hx0 hb
  replace hB := kept_trans hB hb
  clear hb
  have hC := refSame_true hN9 hNx ⟨rfl, rfl⟩
  obtain ⟨z0a, z0b⟩ := pair_cells h9
  obtain ⟨z1a, z1b⟩ := pair_cells hx0
  go_wp2_with fail
  clear z0a z0b z1a z1b
  refine hC.mono ?_
  clear hC
  rintro e w19 ⟨rfl, hb⟩
  replace hx := mark_any hx hb
  replace hP := (hP.below hb).wider hb.size
  replace hT := (hT.below hb).wider hb.size
  replace hN5 := (hN5.below hb).wider hb.size
  replace h5 := mark_any h5 hb
  replace hN6 := (hN6.below hb).wider hb.size
  replace h6 := mark_any h6 hb
  replace hN7 := (hN7.below hb).wider hb.size
  replace h7 := mark_any h7 hb
  replace hN8 := (hN8.below hb).wider hb.size
  replace h8 := mark_any h8 hb
  replace hN9 := (hN9.below hb).wider hb.size
  replace h9 := mark_any h9 hb
  replace hNx := (hNx.below hb).wider hb.size
  replace hx0 := mark_any hx0 hb
  replace hB := kept_trans hB hb
  clear hb
  go_wp2
  go_ret
  exact ⟨rfl, hB⟩

end Go.Proofs.YtihmgiifphheeaaGreatDoor
