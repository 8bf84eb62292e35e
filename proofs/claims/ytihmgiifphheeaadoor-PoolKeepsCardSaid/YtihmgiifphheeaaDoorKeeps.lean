/- The walk of PoolKeeps. (Printed by laws10.py.) -/
import Derived.Test.YtihmgiifphheeaaDoorViews
namespace Go.Proofs.YtihmgiifphheeaaDoor
open Go.RowKit Go.Sel

set_option maxRecDepth 100000 in
set_option maxHeartbeats 8000000 in
theorem keeps_any {n : Nat} {a0 a1' : Addr} {v1 v2 : Value} {s : List Int} {t : List (List Int)} {w : World} (k : Int) (hk : I64 k) (hs : HeadInts n w v1 s) (ht : HeadTabs n w v2 t) (hn : n ≤ w.heap.size) (hE : ErrT w.heap.size w) (hR : RunErrs a0 a1' w.heap.size w) :
    Calls Tryd.prog 3 #[.agg #[v1, v2], .int .i64 k] w fun e w' => e = .returned (.bool true) ∧ Below w.heap.size w w' := by
  obtain ⟨w1, hw1⟩ : ∃ y, y = w.alloc (Obj.cells #[v1, v2] 25) := ⟨_, rfl⟩
  have hB : Below w.heap.size w w1 := by rw [hw1]; exact kept_alloc (Below.refl _ _) _
  have hx : w1.heap[w.heap.size]? = some (.cells #[v1, v2] 25 (0, 0)) := by rw [hw1]; exact World.alloc_heap_new w _
  have hS := shown_any (hE.up hB) (hR.up hB)
  go_enter Tryd.func3, Tryd.ntmps3
  go_wp2_with fail
  rw [← hw1]
  clear hw1
  refine hS.mono ?_
  clear hS
  rintro e w2 ⟨rfl, hb⟩
  replace hx := mark_any hx hb
  replace hB := kept_trans hB hb
  clear hb
  have hC := lawCut_any (hs.below (hB.mono hn)) (ht.below (hB.mono hn)) (Nat.le_trans hn hB.size)
  obtain ⟨y1, y2⟩ := pair_cells hx
  go_wp2_with fail
  refine hC.mono ?_
  clear hC y1 y2
  rintro e w3 ⟨v, rfl, hPA, hb3⟩
  obtain ⟨p1, c1, p2, c2, rfl⟩ := IsPool.open (hPA w3 (fun _ _ _ _ h => h))
  have hsz2 : w.heap.size < w2.heap.size := (Array.getElem?_eq_some_iff.1 hx).1
  replace hx := mark_any hx hb3
  have hB3 := kept_trans hB hb3
  clear hB hb3
  have hs3 := hB3.size
  obtain ⟨y1, y2⟩ := pair_cells hx
  have y3 := row_frozen hx 0
  have y4 := row_frozen hx 1
  have hO4 := write2_only (W := w3) (B1 := w.heap.size) (.slice p1 s.length c1) (.slice p2 t.length c2)
  have hP := hPA _ (fun k o hk ho h => (hO4.block k (Array.getElem?_eq_some_iff.1 h).1 (by omega)).trans h)
  have hx4 := write2 hx (.slice p1 s.length c1) (.slice p2 t.length c2)
  have hB : Below w.heap.size w ((w3.setCell ⟨w.heap.size, 0, none⟩ (.slice p1 s.length c1)).setCell ⟨w.heap.size, 1, none⟩ (.slice p2 t.length c2)) := hB3.trans (hO4.below hB3.size (fun k hk e => by omega))
  obtain ⟨w4, hw4⟩ : ∃ y, y = (w3.setCell ⟨w.heap.size, 0, none⟩ (.slice p1 s.length c1)).setCell ⟨w.heap.size, 1, none⟩ (.slice p2 t.length c2) := ⟨_, rfl⟩
  have hsz4 : w3.heap.size ≤ w4.heap.size := by rw [hw4]; exact hO4.size
  rw [← hw4] at hP hx4 hB
  replace hP : IsPool w4.heap.size w4 (.agg #[.slice p1 s.length c1, .slice p2 t.length c2]) s t := IsPool.wider hP hsz4
  clear hPA hx hO4 hB3 hsz2 hs3 hsz4
  replace hx := hx4
  clear hx4
  have hC := takeFree_any hP (Nat.le_refl _)
  obtain ⟨z0a, z0b⟩ := pair_cells hx
  rw [hw4] at z0a z0b
  go_wp2_with fail
  rw [← hw4]
  clear z0a z0b
  clear hw4
  refine hC.mono ?_
  clear hC
  rintro e w5 hA
  obtain ⟨hb, a5, b5, l5, c5, m5, d5, f5, ok5, rfl, hT5⟩ := take_view hA
  clear hA
  replace hx := mark_any hx hb
  replace hP := (hP.below hb).wider hb.size
  replace hB := kept_trans hB hb
  clear hb
  clear y1 y2 y3 y4
  obtain ⟨w6, hw6⟩ : ∃ y, y = w5.alloc (Obj.cells #[.slice a5 l5 c5, .slice b5 m5 d5] 25) := ⟨_, rfl⟩
  have hk6 : Below w5.heap.size w5 w6 := by rw [hw6]; exact kept_alloc (Below.refl _ _) _
  replace hx := mark_any hx hk6
  replace hP := (hP.below hk6).wider hk6.size
  replace hT5 := hT5.up hk6
  replace hB := kept_trans hB hk6
  have h5 : w6.heap[w5.heap.size]? = some (.cells #[.slice a5 l5 c5, .slice b5 m5 d5] 25 (0, 0)) := by rw [hw6]; exact World.alloc_heap_new _ _
  clear hk6
  have hC := takeHole_any hP (Nat.le_refl _)
  obtain ⟨z0a, z0b⟩ := pair_cells hx
  rw [hw6] at z0a z0b
  go_wp2_with fail
  rw [← hw6]
  clear z0a z0b
  clear hw6
  refine hC.mono ?_
  clear hC
  rintro e w7 hA
  obtain ⟨hb, a7, b7, l7, c7, m7, d7, f7, ok7, rfl, hT7⟩ := take_view hA
  clear hA
  replace hx := mark_any hx hb
  replace hP := (hP.below hb).wider hb.size
  replace hT5 := hT5.up hb
  replace h5 := mark_any h5 hb
  replace hB := kept_trans hB hb
  clear hb
  obtain ⟨w8, hw8⟩ : ∃ y, y = w7.alloc (Obj.cells #[.slice a7 l7 c7, .slice b7 m7 d7] 25) := ⟨_, rfl⟩
  have hk8 : Below w7.heap.size w7 w8 := by rw [hw8]; exact kept_alloc (Below.refl _ _) _
  replace hx := mark_any hx hk8
  replace hP := (hP.below hk8).wider hk8.size
  replace hT5 := hT5.up hk8
  replace h5 := mark_any h5 hk8
  replace hT7 := hT7.up hk8
  replace hB := kept_trans hB hk8
  have h7 : w8.heap[w7.heap.size]? = some (.cells #[.slice a7 l7 c7, .slice b7 m7 d7] 25 (0, 0)) := by rw [hw8]; exact World.alloc_heap_new _ _
  clear hk8
  have hC := takeRun_any k hk hP (hR.up hB) (Nat.le_refl _)
  obtain ⟨z0a, z0b⟩ := pair_cells hx
  rw [hw8] at z0a z0b
  go_wp2_with fail
  rw [← hw8]
  clear z0a z0b
  clear hw8
  refine hC.mono ?_
  clear hC
  rintro e w9 hA
  obtain ⟨hb, a9, b9, l9, c9, m9, d9, f9, ok9, rfl, hT9⟩ := takeRun_view hA
  clear hA
  replace hx := mark_any hx hb
  replace hP := (hP.below hb).wider hb.size
  replace hT5 := hT5.up hb
  replace h5 := mark_any h5 hb
  replace hT7 := hT7.up hb
  replace h7 := mark_any h7 hb
  replace hB := kept_trans hB hb
  clear hb
  obtain ⟨w10, hw10⟩ : ∃ y, y = w9.alloc (Obj.cells #[.slice a9 l9 c9, .slice b9 m9 d9] 25) := ⟨_, rfl⟩
  have hk10 : Below w9.heap.size w9 w10 := by rw [hw10]; exact kept_alloc (Below.refl _ _) _
  replace hx := mark_any hx hk10
  replace hP := (hP.below hk10).wider hk10.size
  replace hT5 := hT5.up hk10
  replace h5 := mark_any h5 hk10
  replace hT7 := hT7.up hk10
  replace h7 := mark_any h7 hk10
  replace hT9 := hT9.up hk10
  replace hB := kept_trans hB hk10
  have h9 : w10.heap[w9.heap.size]? = some (.cells #[.slice a9 l9 c9, .slice b9 m9 d9] 25 (0, 0)) := by rw [hw10]; exact World.alloc_heap_new _ _
  clear hk10
  have hC := poolRight_any hP (Nat.le_refl _)
  obtain ⟨z0a, z0b⟩ := pair_cells hx
  rw [hw10] at z0a z0b
  go_wp2_with fail
  rw [← hw10]
  clear z0a z0b
  clear hw10
  refine hC.mono ?_
  clear hC
  rintro e w11 ⟨rfl, hb⟩
  replace hx := mark_any hx hb
  replace hP := (hP.below hb).wider hb.size
  replace hT5 := hT5.up hb
  replace h5 := mark_any h5 hb
  replace hT7 := hT7.up hb
  replace h7 := mark_any h7 hb
  replace hT9 := hT9.up hb
  replace h9 := mark_any h9 hb
  replace hB := kept_trans hB hb
  clear hb
  cases hr : rightP s t with
  | false =>
    obtain ⟨s5, t5, hQ5, ⟨rfl, _, rfl, rfl⟩ | ⟨_, hno⟩⟩ := hT5
    rotate_left
    · rw [hr] at hno; cases hno.1
    obtain ⟨s7, t7, hQ7, ⟨rfl, _, rfl, rfl⟩ | ⟨_, hno⟩⟩ := hT7
    rotate_left
    · rw [hr] at hno; cases hno.1
    obtain ⟨s9, t9, hQ9, ⟨rfl, _, rfl, rfl⟩ | ⟨_, hno⟩⟩ := hT9
    rotate_left
    · rw [hr] at hno; cases hno.1
    clear hr
    go_wp2
    go_ret
    exact ⟨rfl, hB⟩
  | true =>
    have HR := Lib.hid hr
    clear hr
    obtain ⟨s5, t5, hQ5, hA5⟩ := hT5
    obtain ⟨s7, t7, hQ7, hA7⟩ := hT7
    obtain ⟨s9, t9, hQ9, hA9⟩ := hT9
    rcases hA5 with ⟨rfl, -, rfl, rfl⟩ | ⟨rfl, hA5⟩
    · skip
      rcases hA7 with ⟨rfl, -, rfl, rfl⟩ | ⟨rfl, hA7⟩
      · skip
        rcases hA9 with ⟨rfl, -, rfl, rfl⟩ | ⟨rfl, hA9⟩
        · skip
          go_wp2
          go_ret
          exact ⟨rfl, hB⟩
        · replace hA9 := run_keeps hA9
          have HA9 := Lib.hid hA9
          clear hA9
          have hk1 : 1 ≤ k := HA9.out.2.2.2.1
          have hk2 : k ≤ 32 := HA9.out.2.2.2.2
          obtain ⟨k0, rfl⟩ := Int.eq_ofNat_of_zero_le (show 0 ≤ k by omega)
          have hk3 : (1 : Int) ≤ (k0 : Int) := hk1
          have hC := right_true hQ9 HA9.out.1
          obtain ⟨z0a, z0b⟩ := pair_cells h9
          go_wp2_with fail
          clear z0a z0b
          refine hC.mono ?_
          clear hC
          rintro e w12 ⟨rfl, hb⟩
          replace hx := mark_any hx hb
          replace hP := (hP.below hb).wider hb.size
          replace h5 := mark_any h5 hb
          replace h7 := mark_any h7 hb
          replace h9 := mark_any h9 hb
          replace hQ5 := (hQ5.below hb).wider hb.size
          replace hQ7 := (hQ7.below hb).wider hb.size
          replace hQ9 := (hQ9.below hb).wider hb.size
          replace hB := kept_trans hB hb
          clear hb
          have hC := others_true f9 k0 (HA9.out.2.2.1) (by omega) hP hQ9 (by have := HA9.out.2.1; rwa [Int.toNat_natCast] at this)
          obtain ⟨z0a, z0b⟩ := pair_cells hx
          obtain ⟨z1a, z1b⟩ := pair_cells h9
          go_wp2_with fail
          clear z0a z0b z1a z1b
          refine hC.mono ?_
          clear hC
          rintro e w13 ⟨rfl, hb⟩
          replace hx := mark_any hx hb
          replace hP := (hP.below hb).wider hb.size
          replace h5 := mark_any h5 hb
          replace h7 := mark_any h7 hb
          replace h9 := mark_any h9 hb
          replace hQ5 := (hQ5.below hb).wider hb.size
          replace hQ7 := (hQ7.below hb).wider hb.size
          replace hQ9 := (hQ9.below hb).wider hb.size
          replace hB := kept_trans hB hb
          clear hb
          go_wp2
          go_ret
          exact ⟨rfl, hB⟩
      · replace hA7 := take_keeps (.inr rfl) hA7
        have HA7 := Lib.hid hA7
        clear hA7
        rcases hA9 with ⟨rfl, -, rfl, rfl⟩ | ⟨rfl, hA9⟩
        · skip
          have hC := right_true hQ7 HA7.out.1
          obtain ⟨z0a, z0b⟩ := pair_cells h7
          go_wp2_with fail
          clear z0a z0b
          refine hC.mono ?_
          clear hC
          rintro e w12 ⟨rfl, hb⟩
          replace hx := mark_any hx hb
          replace hP := (hP.below hb).wider hb.size
          replace h5 := mark_any h5 hb
          replace h7 := mark_any h7 hb
          replace h9 := mark_any h9 hb
          replace hQ5 := (hQ5.below hb).wider hb.size
          replace hQ7 := (hQ7.below hb).wider hb.size
          replace hQ9 := (hQ9.below hb).wider hb.size
          replace hB := kept_trans hB hb
          clear hb
          have hC := others_true f7 1 (HA7.out.2.2) (by omega) hP hQ7 HA7.out.2.1
          obtain ⟨z0a, z0b⟩ := pair_cells hx
          obtain ⟨z1a, z1b⟩ := pair_cells h7
          go_wp2_with fail
          clear z0a z0b z1a z1b
          refine hC.mono ?_
          clear hC
          rintro e w13 ⟨rfl, hb⟩
          replace hx := mark_any hx hb
          replace hP := (hP.below hb).wider hb.size
          replace h5 := mark_any h5 hb
          replace h7 := mark_any h7 hb
          replace h9 := mark_any h9 hb
          replace hQ5 := (hQ5.below hb).wider hb.size
          replace hQ7 := (hQ7.below hb).wider hb.size
          replace hQ9 := (hQ9.below hb).wider hb.size
          replace hB := kept_trans hB hb
          clear hb
          go_wp2
          go_ret
          exact ⟨rfl, hB⟩
        · replace hA9 := run_keeps hA9
          have HA9 := Lib.hid hA9
          clear hA9
          have hk1 : 1 ≤ k := HA9.out.2.2.2.1
          have hk2 : k ≤ 32 := HA9.out.2.2.2.2
          obtain ⟨k0, rfl⟩ := Int.eq_ofNat_of_zero_le (show 0 ≤ k by omega)
          have hk3 : (1 : Int) ≤ (k0 : Int) := hk1
          have hC := right_true hQ7 HA7.out.1
          obtain ⟨z0a, z0b⟩ := pair_cells h7
          go_wp2_with fail
          clear z0a z0b
          refine hC.mono ?_
          clear hC
          rintro e w12 ⟨rfl, hb⟩
          replace hx := mark_any hx hb
          replace hP := (hP.below hb).wider hb.size
          replace h5 := mark_any h5 hb
          replace h7 := mark_any h7 hb
          replace h9 := mark_any h9 hb
          replace hQ5 := (hQ5.below hb).wider hb.size
          replace hQ7 := (hQ7.below hb).wider hb.size
          replace hQ9 := (hQ9.below hb).wider hb.size
          replace hB := kept_trans hB hb
          clear hb
          have hC := others_true f7 1 (HA7.out.2.2) (by omega) hP hQ7 HA7.out.2.1
          obtain ⟨z0a, z0b⟩ := pair_cells hx
          obtain ⟨z1a, z1b⟩ := pair_cells h7
          go_wp2_with fail
          clear z0a z0b z1a z1b
          refine hC.mono ?_
          clear hC
          rintro e w13 ⟨rfl, hb⟩
          replace hx := mark_any hx hb
          replace hP := (hP.below hb).wider hb.size
          replace h5 := mark_any h5 hb
          replace h7 := mark_any h7 hb
          replace h9 := mark_any h9 hb
          replace hQ5 := (hQ5.below hb).wider hb.size
          replace hQ7 := (hQ7.below hb).wider hb.size
          replace hQ9 := (hQ9.below hb).wider hb.size
          replace hB := kept_trans hB hb
          clear hb
          have hC := right_true hQ9 HA9.out.1
          obtain ⟨z0a, z0b⟩ := pair_cells h9
          go_wp2_with fail
          clear z0a z0b
          refine hC.mono ?_
          clear hC
          rintro e w14 ⟨rfl, hb⟩
          replace hx := mark_any hx hb
          replace hP := (hP.below hb).wider hb.size
          replace h5 := mark_any h5 hb
          replace h7 := mark_any h7 hb
          replace h9 := mark_any h9 hb
          replace hQ5 := (hQ5.below hb).wider hb.size
          replace hQ7 := (hQ7.below hb).wider hb.size
          replace hQ9 := (hQ9.below hb).wider hb.size
          replace hB := kept_trans hB hb
          clear hb
          have hC := others_true f9 k0 (HA9.out.2.2.1) (by omega) hP hQ9 (by have := HA9.out.2.1; rwa [Int.toNat_natCast] at this)
          obtain ⟨z0a, z0b⟩ := pair_cells hx
          obtain ⟨z1a, z1b⟩ := pair_cells h9
          go_wp2_with fail
          clear z0a z0b z1a z1b
          refine hC.mono ?_
          clear hC
          rintro e w15 ⟨rfl, hb⟩
          replace hx := mark_any hx hb
          replace hP := (hP.below hb).wider hb.size
          replace h5 := mark_any h5 hb
          replace h7 := mark_any h7 hb
          replace h9 := mark_any h9 hb
          replace hQ5 := (hQ5.below hb).wider hb.size
          replace hQ7 := (hQ7.below hb).wider hb.size
          replace hQ9 := (hQ9.below hb).wider hb.size
          replace hB := kept_trans hB hb
          clear hb
          go_wp2
          go_ret
          exact ⟨rfl, hB⟩
    · replace hA5 := take_keeps (.inl rfl) hA5
      have HA5 := Lib.hid hA5
      clear hA5
      rcases hA7 with ⟨rfl, -, rfl, rfl⟩ | ⟨rfl, hA7⟩
      · skip
        rcases hA9 with ⟨rfl, -, rfl, rfl⟩ | ⟨rfl, hA9⟩
        · skip
          have hC := right_true hQ5 HA5.out.1
          obtain ⟨z0a, z0b⟩ := pair_cells h5
          go_wp2_with fail
          clear z0a z0b
          refine hC.mono ?_
          clear hC
          rintro e w12 ⟨rfl, hb⟩
          replace hx := mark_any hx hb
          replace hP := (hP.below hb).wider hb.size
          replace h5 := mark_any h5 hb
          replace h7 := mark_any h7 hb
          replace h9 := mark_any h9 hb
          replace hQ5 := (hQ5.below hb).wider hb.size
          replace hQ7 := (hQ7.below hb).wider hb.size
          replace hQ9 := (hQ9.below hb).wider hb.size
          replace hB := kept_trans hB hb
          clear hb
          have hC := others_true f5 1 (HA5.out.2.2) (by omega) hP hQ5 HA5.out.2.1
          obtain ⟨z0a, z0b⟩ := pair_cells hx
          obtain ⟨z1a, z1b⟩ := pair_cells h5
          go_wp2_with fail
          clear z0a z0b z1a z1b
          refine hC.mono ?_
          clear hC
          rintro e w13 ⟨rfl, hb⟩
          replace hx := mark_any hx hb
          replace hP := (hP.below hb).wider hb.size
          replace h5 := mark_any h5 hb
          replace h7 := mark_any h7 hb
          replace h9 := mark_any h9 hb
          replace hQ5 := (hQ5.below hb).wider hb.size
          replace hQ7 := (hQ7.below hb).wider hb.size
          replace hQ9 := (hQ9.below hb).wider hb.size
          replace hB := kept_trans hB hb
          clear hb
          go_wp2
          go_ret
          exact ⟨rfl, hB⟩
        · replace hA9 := run_keeps hA9
          have HA9 := Lib.hid hA9
          clear hA9
          have hk1 : 1 ≤ k := HA9.out.2.2.2.1
          have hk2 : k ≤ 32 := HA9.out.2.2.2.2
          obtain ⟨k0, rfl⟩ := Int.eq_ofNat_of_zero_le (show 0 ≤ k by omega)
          have hk3 : (1 : Int) ≤ (k0 : Int) := hk1
          have hC := right_true hQ5 HA5.out.1
          obtain ⟨z0a, z0b⟩ := pair_cells h5
          go_wp2_with fail
          clear z0a z0b
          refine hC.mono ?_
          clear hC
          rintro e w12 ⟨rfl, hb⟩
          replace hx := mark_any hx hb
          replace hP := (hP.below hb).wider hb.size
          replace h5 := mark_any h5 hb
          replace h7 := mark_any h7 hb
          replace h9 := mark_any h9 hb
          replace hQ5 := (hQ5.below hb).wider hb.size
          replace hQ7 := (hQ7.below hb).wider hb.size
          replace hQ9 := (hQ9.below hb).wider hb.size
          replace hB := kept_trans hB hb
          clear hb
          have hC := others_true f5 1 (HA5.out.2.2) (by omega) hP hQ5 HA5.out.2.1
          obtain ⟨z0a, z0b⟩ := pair_cells hx
          obtain ⟨z1a, z1b⟩ := pair_cells h5
          go_wp2_with fail
          clear z0a z0b z1a z1b
          refine hC.mono ?_
          clear hC
          rintro e w13 ⟨rfl, hb⟩
          replace hx := mark_any hx hb
          replace hP := (hP.below hb).wider hb.size
          replace h5 := mark_any h5 hb
          replace h7 := mark_any h7 hb
          replace h9 := mark_any h9 hb
          replace hQ5 := (hQ5.below hb).wider hb.size
          replace hQ7 := (hQ7.below hb).wider hb.size
          replace hQ9 := (hQ9.below hb).wider hb.size
          replace hB := kept_trans hB hb
          clear hb
          have hC := right_true hQ9 HA9.out.1
          obtain ⟨z0a, z0b⟩ := pair_cells h9
          go_wp2_with fail
          clear z0a z0b
          refine hC.mono ?_
          clear hC
          rintro e w14 ⟨rfl, hb⟩
          replace hx := mark_any hx hb
          replace hP := (hP.below hb).wider hb.size
          replace h5 := mark_any h5 hb
          replace h7 := mark_any h7 hb
          replace h9 := mark_any h9 hb
          replace hQ5 := (hQ5.below hb).wider hb.size
          replace hQ7 := (hQ7.below hb).wider hb.size
          replace hQ9 := (hQ9.below hb).wider hb.size
          replace hB := kept_trans hB hb
          clear hb
          have hC := others_true f9 k0 (HA9.out.2.2.1) (by omega) hP hQ9 (by have := HA9.out.2.1; rwa [Int.toNat_natCast] at this)
          obtain ⟨z0a, z0b⟩ := pair_cells hx
          obtain ⟨z1a, z1b⟩ := pair_cells h9
          go_wp2_with fail
          clear z0a z0b z1a z1b
          refine hC.mono ?_
          clear hC
          rintro e w15 ⟨rfl, hb⟩
          replace hx := mark_any hx hb
          replace hP := (hP.below hb).wider hb.size
          replace h5 := mark_any h5 hb
          replace h7 := mark_any h7 hb
          replace h9 := mark_any h9 hb
          replace hQ5 := (hQ5.below hb).wider hb.size
          replace hQ7 := (hQ7.below hb).wider hb.size
          replace hQ9 := (hQ9.below hb).wider hb.size
          replace hB := kept_trans hB hb
          clear hb
          go_wp2
          go_ret
          exact ⟨rfl, hB⟩
      · replace hA7 := take_keeps (.inr rfl) hA7
        have HA7 := Lib.hid hA7
        clear hA7
        rcases hA9 with ⟨rfl, -, rfl, rfl⟩ | ⟨rfl, hA9⟩
        · skip
          have hC := right_true hQ5 HA5.out.1
          obtain ⟨z0a, z0b⟩ := pair_cells h5
          go_wp2_with fail
          clear z0a z0b
          refine hC.mono ?_
          clear hC
          rintro e w12 ⟨rfl, hb⟩
          replace hx := mark_any hx hb
          replace hP := (hP.below hb).wider hb.size
          replace h5 := mark_any h5 hb
          replace h7 := mark_any h7 hb
          replace h9 := mark_any h9 hb
          replace hQ5 := (hQ5.below hb).wider hb.size
          replace hQ7 := (hQ7.below hb).wider hb.size
          replace hQ9 := (hQ9.below hb).wider hb.size
          replace hB := kept_trans hB hb
          clear hb
          have hC := others_true f5 1 (HA5.out.2.2) (by omega) hP hQ5 HA5.out.2.1
          obtain ⟨z0a, z0b⟩ := pair_cells hx
          obtain ⟨z1a, z1b⟩ := pair_cells h5
          go_wp2_with fail
          clear z0a z0b z1a z1b
          refine hC.mono ?_
          clear hC
          rintro e w13 ⟨rfl, hb⟩
          replace hx := mark_any hx hb
          replace hP := (hP.below hb).wider hb.size
          replace h5 := mark_any h5 hb
          replace h7 := mark_any h7 hb
          replace h9 := mark_any h9 hb
          replace hQ5 := (hQ5.below hb).wider hb.size
          replace hQ7 := (hQ7.below hb).wider hb.size
          replace hQ9 := (hQ9.below hb).wider hb.size
          replace hB := kept_trans hB hb
          clear hb
          have hC := right_true hQ7 HA7.out.1
          obtain ⟨z0a, z0b⟩ := pair_cells h7
          go_wp2_with fail
          clear z0a z0b
          refine hC.mono ?_
          clear hC
          rintro e w14 ⟨rfl, hb⟩
          replace hx := mark_any hx hb
          replace hP := (hP.below hb).wider hb.size
          replace h5 := mark_any h5 hb
          replace h7 := mark_any h7 hb
          replace h9 := mark_any h9 hb
          replace hQ5 := (hQ5.below hb).wider hb.size
          replace hQ7 := (hQ7.below hb).wider hb.size
          replace hQ9 := (hQ9.below hb).wider hb.size
          replace hB := kept_trans hB hb
          clear hb
          have hC := others_true f7 1 (HA7.out.2.2) (by omega) hP hQ7 HA7.out.2.1
          obtain ⟨z0a, z0b⟩ := pair_cells hx
          obtain ⟨z1a, z1b⟩ := pair_cells h7
          go_wp2_with fail
          clear z0a z0b z1a z1b
          refine hC.mono ?_
          clear hC
          rintro e w15 ⟨rfl, hb⟩
          replace hx := mark_any hx hb
          replace hP := (hP.below hb).wider hb.size
          replace h5 := mark_any h5 hb
          replace h7 := mark_any h7 hb
          replace h9 := mark_any h9 hb
          replace hQ5 := (hQ5.below hb).wider hb.size
          replace hQ7 := (hQ7.below hb).wider hb.size
          replace hQ9 := (hQ9.below hb).wider hb.size
          replace hB := kept_trans hB hb
          clear hb
          go_wp2
          go_ret
          exact ⟨rfl, hB⟩
        · replace hA9 := run_keeps hA9
          have HA9 := Lib.hid hA9
          clear hA9
          have hk1 : 1 ≤ k := HA9.out.2.2.2.1
          have hk2 : k ≤ 32 := HA9.out.2.2.2.2
          obtain ⟨k0, rfl⟩ := Int.eq_ofNat_of_zero_le (show 0 ≤ k by omega)
          have hk3 : (1 : Int) ≤ (k0 : Int) := hk1
          have hC := right_true hQ5 HA5.out.1
          obtain ⟨z0a, z0b⟩ := pair_cells h5
          go_wp2_with fail
          clear z0a z0b
          refine hC.mono ?_
          clear hC
          rintro e w12 ⟨rfl, hb⟩
          replace hx := mark_any hx hb
          replace hP := (hP.below hb).wider hb.size
          replace h5 := mark_any h5 hb
          replace h7 := mark_any h7 hb
          replace h9 := mark_any h9 hb
          replace hQ5 := (hQ5.below hb).wider hb.size
          replace hQ7 := (hQ7.below hb).wider hb.size
          replace hQ9 := (hQ9.below hb).wider hb.size
          replace hB := kept_trans hB hb
          clear hb
          have hC := others_true f5 1 (HA5.out.2.2) (by omega) hP hQ5 HA5.out.2.1
          obtain ⟨z0a, z0b⟩ := pair_cells hx
          obtain ⟨z1a, z1b⟩ := pair_cells h5
          go_wp2_with fail
          clear z0a z0b z1a z1b
          refine hC.mono ?_
          clear hC
          rintro e w13 ⟨rfl, hb⟩
          replace hx := mark_any hx hb
          replace hP := (hP.below hb).wider hb.size
          replace h5 := mark_any h5 hb
          replace h7 := mark_any h7 hb
          replace h9 := mark_any h9 hb
          replace hQ5 := (hQ5.below hb).wider hb.size
          replace hQ7 := (hQ7.below hb).wider hb.size
          replace hQ9 := (hQ9.below hb).wider hb.size
          replace hB := kept_trans hB hb
          clear hb
          have hC := right_true hQ7 HA7.out.1
          obtain ⟨z0a, z0b⟩ := pair_cells h7
          go_wp2_with fail
          clear z0a z0b
          refine hC.mono ?_
          clear hC
          rintro e w14 ⟨rfl, hb⟩
          replace hx := mark_any hx hb
          replace hP := (hP.below hb).wider hb.size
          replace h5 := mark_any h5 hb
          replace h7 := mark_any h7 hb
          replace h9 := mark_any h9 hb
          replace hQ5 := (hQ5.below hb).wider hb.size
          replace hQ7 := (hQ7.below hb).wider hb.size
          replace hQ9 := (hQ9.below hb).wider hb.size
          replace hB := kept_trans hB hb
          clear hb
          have hC := others_true f7 1 (HA7.out.2.2) (by omega) hP hQ7 HA7.out.2.1
          obtain ⟨z0a, z0b⟩ := pair_cells hx
          obtain ⟨z1a, z1b⟩ := pair_cells h7
          go_wp2_with fail
          clear z0a z0b z1a z1b
          refine hC.mono ?_
          clear hC
          rintro e w15 ⟨rfl, hb⟩
          replace hx := mark_any hx hb
          replace hP := (hP.below hb).wider hb.size
          replace h5 := mark_any h5 hb
          replace h7 := mark_any h7 hb
          replace h9 := mark_any h9 hb
          replace hQ5 := (hQ5.below hb).wider hb.size
          replace hQ7 := (hQ7.below hb).wider hb.size
          replace hQ9 := (hQ9.below hb).wider hb.size
          replace hB := kept_trans hB hb
          clear hb
          have hC := right_true hQ9 HA9.out.1
          obtain ⟨z0a, z0b⟩ := pair_cells h9
          go_wp2_with fail
          clear z0a z0b
          refine hC.mono ?_
          clear hC
          rintro e w16 ⟨rfl, hb⟩
          replace hx := mark_any hx hb
          replace hP := (hP.below hb).wider hb.size
          replace h5 := mark_any h5 hb
          replace h7 := mark_any h7 hb
          replace h9 := mark_any h9 hb
          replace hQ5 := (hQ5.below hb).wider hb.size
          replace hQ7 := (hQ7.below hb).wider hb.size
          replace hQ9 := (hQ9.below hb).wider hb.size
          replace hB := kept_trans hB hb
          clear hb
          have hC := others_true f9 k0 (HA9.out.2.2.1) (by omega) hP hQ9 (by have := HA9.out.2.1; rwa [Int.toNat_natCast] at this)
          obtain ⟨z0a, z0b⟩ := pair_cells hx
          obtain ⟨z1a, z1b⟩ := pair_cells h9
          go_wp2_with fail
          clear z0a z0b z1a z1b
          refine hC.mono ?_
          clear hC
          rintro e w17 ⟨rfl, hb⟩
          replace hx := mark_any hx hb
          replace hP := (hP.below hb).wider hb.size
          replace h5 := mark_any h5 hb
          replace h7 := mark_any h7 hb
          replace h9 := mark_any h9 hb
          replace hQ5 := (hQ5.below hb).wider hb.size
          replace hQ7 := (hQ7.below hb).wider hb.size
          replace hQ9 := (hQ9.below hb).wider hb.size
          replace hB := kept_trans hB hb
          clear hb
          go_wp2
          go_ret
          exact ⟨rfl, hB⟩

end Go.Proofs.YtihmgiifphheeaaDoor
