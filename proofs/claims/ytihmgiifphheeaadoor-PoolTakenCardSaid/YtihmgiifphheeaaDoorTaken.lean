/- The walk of PoolTaken. (Printed by laws10.py.) -/
import Derived.Test.YtihmgiifphheeaaDoorViews
import Derived.IntWalk
namespace Go.Proofs.YtihmgiifphheeaaDoor
open Go.RowKit Go.Sel

set_option maxRecDepth 100000 in
set_option maxHeartbeats 8000000 in
theorem taken_any {n : Nat} {a0 a1' : Addr} {v1 v2 : Value} {s : List Int} {t : List (List Int)} {w : World} (k : Int) (hk : I64 k) (hs : HeadInts n w v1 s) (ht : HeadTabs n w v2 t) (hn : n ≤ w.heap.size) (hE : ErrT w.heap.size w) (hR : RunErrs a0 a1' w.heap.size w) :
    Calls Tryd.prog 4 #[.agg #[v1, v2], .int .i64 k] w fun e w' => e = .returned (.bool true) ∧ Below w.heap.size w w' := by
  obtain ⟨w1, hw1⟩ : ∃ y, y = w.alloc (Obj.cells #[v1, v2] 25) := ⟨_, rfl⟩
  have hB : Below w.heap.size w w1 := by rw [hw1]; exact kept_alloc (Below.refl _ _) _
  have hx : w1.heap[w.heap.size]? = some (.cells #[v1, v2] 25 (0, 0)) := by rw [hw1]; exact World.alloc_heap_new w _
  have hS := shown_any (hE.up hB) (hR.up hB)
  go_enter Tryd.func4, Tryd.ntmps4
  go_wp2_with fail
  rw [← hw1]
  clear hw1
  refine hS.mono ?_
  clear hS
  rintro e w2 ⟨rfl, hb⟩
  replace hx := mark_any hx hb
  replace hB := kept_trans hB hb
  clear hb
  have hC := lawCut_any (hs.below (hB.mono hn)) (ht.below (hB.mono hn)) (Nat.le_trans hn hB.size)
  obtain ⟨y1, y2⟩ := pair_cells hx
  go_wp2_with fail
  refine hC.mono ?_
  clear hC y1 y2
  rintro e w3 ⟨v, rfl, hPA, hb3⟩
  obtain ⟨p1, c1, p2, c2, rfl⟩ := IsPool.open (hPA w3 (fun _ _ _ _ h => h))
  have hsz2 : w.heap.size < w2.heap.size := (Array.getElem?_eq_some_iff.1 hx).1
  replace hx := mark_any hx hb3
  have hB3 := kept_trans hB hb3
  clear hB hb3
  have hs3 := hB3.size
  obtain ⟨y1, y2⟩ := pair_cells hx
  have y3 := row_frozen hx 0
  have y4 := row_frozen hx 1
  have hO4 := write2_only (W := w3) (B1 := w.heap.size) (.slice p1 s.length c1) (.slice p2 t.length c2)
  have hP := hPA _ (fun k o hk ho h => (hO4.block k (Array.getElem?_eq_some_iff.1 h).1 (by omega)).trans h)
  have hx4 := write2 hx (.slice p1 s.length c1) (.slice p2 t.length c2)
  have hB : Below w.heap.size w ((w3.setCell ⟨w.heap.size, 0, none⟩ (.slice p1 s.length c1)).setCell ⟨w.heap.size, 1, none⟩ (.slice p2 t.length c2)) := hB3.trans (hO4.below hB3.size (fun k hk e => by omega))
  obtain ⟨w4, hw4⟩ : ∃ y, y = (w3.setCell ⟨w.heap.size, 0, none⟩ (.slice p1 s.length c1)).setCell ⟨w.heap.size, 1, none⟩ (.slice p2 t.length c2) := ⟨_, rfl⟩
  have hsz4 : w3.heap.size ≤ w4.heap.size := by rw [hw4]; exact hO4.size
  rw [← hw4] at hP hx4 hB
  replace hP : IsPool w4.heap.size w4 (.agg #[.slice p1 s.length c1, .slice p2 t.length c2]) s t := IsPool.wider hP hsz4
  clear hPA hx hO4 hB3 hsz2 hs3 hsz4
  replace hx := hx4
  clear hx4
  have hC := poolCounts_any hP (Nat.le_refl _)
  obtain ⟨z0a, z0b⟩ := pair_cells hx
  rw [hw4] at z0a z0b
  go_wp2_with fail
  rw [← hw4]
  clear z0a z0b
  clear hw4
  refine hC.mono ?_
  clear hC
  rintro e w5 hA
  obtain ⟨hb, ca0, cl0, cc0, cx0, rfl, hC0⟩ := counts_view hA
  clear hA
  replace hx := mark_any hx hb
  replace hP := (hP.below hb).wider hb.size
  replace hB := kept_trans hB hb
  clear hb
  clear y1 y2 y3 y4
  have hC := takeFree_any hP (Nat.le_refl _)
  obtain ⟨z0a, z0b⟩ := pair_cells hx
  go_wp2_with fail
  clear z0a z0b
  refine hC.mono ?_
  clear hC
  rintro e w6 hA
  obtain ⟨hb, a5, b5, l5, c5, m5, d5, f5, ok5, rfl, hT5⟩ := take_view hA
  clear hA
  replace hx := mark_any hx hb
  replace hP := (hP.below hb).wider hb.size
  replace hC0 := hC0.up hb
  replace hB := kept_trans hB hb
  clear hb
  obtain ⟨w7, hw7⟩ : ∃ y, y = w6.alloc (Obj.cells #[.slice a5 l5 c5, .slice b5 m5 d5] 25) := ⟨_, rfl⟩
  have hk7 : Below w6.heap.size w6 w7 := by rw [hw7]; exact kept_alloc (Below.refl _ _) _
  replace hx := mark_any hx hk7
  replace hP := (hP.below hk7).wider hk7.size
  replace hC0 := hC0.up hk7
  replace hT5 := hT5.up hk7
  replace hB := kept_trans hB hk7
  have h5 : w7.heap[w6.heap.size]? = some (.cells #[.slice a5 l5 c5, .slice b5 m5 d5] 25 (0, 0)) := by rw [hw7]; exact World.alloc_heap_new _ _
  clear hk7
  obtain ⟨s5, t5, hQ5, hA5⟩ := hT5
  have HA5 := Lib.hid hA5
  clear hA5
  have hC := poolCounts_any hQ5 (Nat.le_refl _)
  obtain ⟨z0a, z0b⟩ := pair_cells h5
  rw [hw7] at z0a z0b
  go_wp2_with fail
  rw [← hw7]
  clear z0a z0b
  clear hw7
  refine hC.mono ?_
  clear hC
  rintro e w8 hA
  obtain ⟨hb, ca5, cl5, cc5, cx5, rfl, hC5⟩ := counts_view hA
  clear hA
  replace hx := mark_any hx hb
  replace hP := (hP.below hb).wider hb.size
  replace hC0 := hC0.up hb
  replace h5 := mark_any h5 hb
  replace hQ5 := (hQ5.below hb).wider hb.size
  replace hB := kept_trans hB hb
  clear hb
  have hC := takeHole_any hP (Nat.le_refl _)
  obtain ⟨z0a, z0b⟩ := pair_cells hx
  go_wp2_with fail
  clear z0a z0b
  refine hC.mono ?_
  clear hC
  rintro e w9 hA
  obtain ⟨hb, a7, b7, l7, c7, m7, d7, f7, ok7, rfl, hT7⟩ := take_view hA
  clear hA
  replace hx := mark_any hx hb
  replace hP := (hP.below hb).wider hb.size
  replace hC0 := hC0.up hb
  replace h5 := mark_any h5 hb
  replace hQ5 := (hQ5.below hb).wider hb.size
  replace hC5 := hC5.up hb
  replace hB := kept_trans hB hb
  clear hb
  obtain ⟨w10, hw10⟩ : ∃ y, y = w9.alloc (Obj.cells #[.slice a7 l7 c7, .slice b7 m7 d7] 25) := ⟨_, rfl⟩
  have hk10 : Below w9.heap.size w9 w10 := by rw [hw10]; exact kept_alloc (Below.refl _ _) _
  replace hx := mark_any hx hk10
  replace hP := (hP.below hk10).wider hk10.size
  replace hC0 := hC0.up hk10
  replace h5 := mark_any h5 hk10
  replace hQ5 := (hQ5.below hk10).wider hk10.size
  replace hC5 := hC5.up hk10
  replace hT7 := hT7.up hk10
  replace hB := kept_trans hB hk10
  have h7 : w10.heap[w9.heap.size]? = some (.cells #[.slice a7 l7 c7, .slice b7 m7 d7] 25 (0, 0)) := by rw [hw10]; exact World.alloc_heap_new _ _
  clear hk10
  obtain ⟨s7, t7, hQ7, hA7⟩ := hT7
  have HA7 := Lib.hid hA7
  clear hA7
  have hC := poolCounts_any hQ7 (Nat.le_refl _)
  obtain ⟨z0a, z0b⟩ := pair_cells h7
  rw [hw10] at z0a z0b
  go_wp2_with fail
  rw [← hw10]
  clear z0a z0b
  clear hw10
  refine hC.mono ?_
  clear hC
  rintro e w11 hA
  obtain ⟨hb, ca7, cl7, cc7, cx7, rfl, hC7⟩ := counts_view hA
  clear hA
  replace hx := mark_any hx hb
  replace hP := (hP.below hb).wider hb.size
  replace hC0 := hC0.up hb
  replace h5 := mark_any h5 hb
  replace hQ5 := (hQ5.below hb).wider hb.size
  replace hC5 := hC5.up hb
  replace h7 := mark_any h7 hb
  replace hQ7 := (hQ7.below hb).wider hb.size
  replace hB := kept_trans hB hb
  clear hb
  have hC := takeRun_any k hk hP (hR.up hB) (Nat.le_refl _)
  obtain ⟨z0a, z0b⟩ := pair_cells hx
  go_wp2_with fail
  clear z0a z0b
  refine hC.mono ?_
  clear hC
  rintro e w12 hA
  obtain ⟨hb, a9, b9, l9, c9, m9, d9, f9, ok9, rfl, hT9⟩ := takeRun_view hA
  clear hA
  replace hx := mark_any hx hb
  replace hP := (hP.below hb).wider hb.size
  replace hC0 := hC0.up hb
  replace h5 := mark_any h5 hb
  replace hQ5 := (hQ5.below hb).wider hb.size
  replace hC5 := hC5.up hb
  replace h7 := mark_any h7 hb
  replace hQ7 := (hQ7.below hb).wider hb.size
  replace hC7 := hC7.up hb
  replace hB := kept_trans hB hb
  clear hb
  obtain ⟨w13, hw13⟩ : ∃ y, y = w12.alloc (Obj.cells #[.slice a9 l9 c9, .slice b9 m9 d9] 25) := ⟨_, rfl⟩
  have hk13 : Below w12.heap.size w12 w13 := by rw [hw13]; exact kept_alloc (Below.refl _ _) _
  replace hx := mark_any hx hk13
  replace hP := (hP.below hk13).wider hk13.size
  replace hC0 := hC0.up hk13
  replace h5 := mark_any h5 hk13
  replace hQ5 := (hQ5.below hk13).wider hk13.size
  replace hC5 := hC5.up hk13
  replace h7 := mark_any h7 hk13
  replace hQ7 := (hQ7.below hk13).wider hk13.size
  replace hC7 := hC7.up hk13
  replace hT9 := hT9.up hk13
  replace hB := kept_trans hB hk13
  have h9 : w13.heap[w12.heap.size]? = some (.cells #[.slice a9 l9 c9, .slice b9 m9 d9] 25 (0, 0)) := by rw [hw13]; exact World.alloc_heap_new _ _
  clear hk13
  obtain ⟨s9, t9, hQ9, hA9⟩ := hT9
  have HA9 := Lib.hid hA9
  clear hA9
  have hC := poolCounts_any hQ9 (Nat.le_refl _)
  obtain ⟨z0a, z0b⟩ := pair_cells h9
  rw [hw13] at z0a z0b
  go_wp2_with fail
  rw [← hw13]
  clear z0a z0b
  clear hw13
  refine hC.mono ?_
  clear hC
  rintro e w14 hA
  obtain ⟨hb, ca9, cl9, cc9, cx9, rfl, hC9⟩ := counts_view hA
  clear hA
  replace hx := mark_any hx hb
  replace hP := (hP.below hb).wider hb.size
  replace hC0 := hC0.up hb
  replace h5 := mark_any h5 hb
  replace hQ5 := (hQ5.below hb).wider hb.size
  replace hC5 := hC5.up hb
  replace h7 := mark_any h7 hb
  replace hQ7 := (hQ7.below hb).wider hb.size
  replace hC7 := hC7.up hb
  replace h9 := mark_any h9 hb
  replace hQ9 := (hQ9.below hb).wider hb.size
  replace hB := kept_trans hB hb
  clear hb
  cases hr : rightP s t with
  | false =>
    have ok5f : ok5 = false := by
      rcases HA5.out with ⟨h, _⟩ | ⟨_, h, _⟩
      · exact h
      · rw [hr] at h; cases h
    subst ok5f
    have ok7f : ok7 = false := by
      rcases HA7.out with ⟨h, _⟩ | ⟨_, h, _⟩
      · exact h
      · rw [hr] at h; cases h
    subst ok7f
    have ok9f : ok9 = false := by
      rcases HA9.out with ⟨h, _⟩ | ⟨_, h, _⟩
      · exact h
      · rw [hr] at h; cases h
    subst ok9f
    have cx : cx0 = 100 := by
      rcases hC0.2 with ⟨_, h⟩ | ⟨h, _⟩
      · exact h
      · rw [hr] at h; cases h
    subst cx
    have HR := Lib.hid hr
    clear hr hC0 hC5 hC7 hC9
    have hC := right_false hP HR.out
    obtain ⟨z0a, z0b⟩ := pair_cells hx
    go_wp2_with fail
    clear z0a z0b
    refine hC.mono ?_
    clear hC
    rintro e w15 ⟨rfl, hb⟩
    replace hx := mark_any hx hb
    replace hP := (hP.below hb).wider hb.size
    replace h5 := mark_any h5 hb
    replace hQ5 := (hQ5.below hb).wider hb.size
    replace h7 := mark_any h7 hb
    replace hQ7 := (hQ7.below hb).wider hb.size
    replace h9 := mark_any h9 hb
    replace hQ9 := (hQ9.below hb).wider hb.size
    replace hB := kept_trans hB hb
    clear hb
    go_wp2
    go_ret
    exact ⟨rfl, hB⟩
  | true =>
    obtain ⟨rfl, rfl, gc, oc, rfl, hcc, e0, e1, e2, e3, e4, e5⟩ := hC0.cells hr (countsP_eq s)
    clear hC0
    have hl0 := counts_le hr 0
    have hl1 := counts_le hr 1
    have hl2 := counts_le hr 2
    have hl3 := counts_le hr 3
    have hl4 := counts_le hr 4
    have hl5 := counts_le hr 5
    have hi0 := takeB_some_iff (s := s) (a := 0)
    have hi1 := takeB_some_iff (s := s) (a := 1)
    have hD5 : ok5 = true → rightP s5 t5 = true ∧ countsP s5 = _ := fun h => by
      rcases HA5.out with ⟨h1, _⟩ | ⟨_, _, h2, rfl, rfl⟩
      · rw [h] at h1; cases h1
      · exact ⟨rightP_taken hr h2 (.inl rfl), counts_free h2⟩
    have hD7 : ok7 = true → rightP s7 t7 = true ∧ countsP s7 = _ := fun h => by
      rcases HA7.out with ⟨h1, _⟩ | ⟨_, _, h2, rfl, rfl⟩
      · rw [h] at h1; cases h1
      · exact ⟨rightP_taken hr h2 (.inr rfl), counts_hole h2⟩
    have hD9 : ok9 = true → (rightP s9 t9 = true ∧ countsP s9 = _) ∧ 1 ≤ k ∧ k ≤ 32 := fun h => by
      rcases HA9.out with ⟨h1, _⟩ | ⟨_, _, ⟨p, h2, _, rfl⟩, rfl⟩
      · rw [h] at h1; cases h1
      · have h3 := counts_put h2
        have h4 := (rightP_states hr).2.1
        exact ⟨⟨rightP_put hr h2, h3.2.2⟩, h3.1, by omega⟩
    have hI5 : ok5 = true ↔ 0 < s.count 0 := by
      rw [← hi0]
      rcases HA5.out with ⟨rfl, h1 | h1, _⟩ | ⟨rfl, _, h2, _⟩
      · rw [hr] at h1; cases h1
      · rw [h1]; simp
      · rw [h2]; simp
    have hI7 : ok7 = true ↔ 0 < s.count 1 := by
      rw [← hi1]
      rcases HA7.out with ⟨rfl, h1 | h1, _⟩ | ⟨rfl, _, h2, _⟩
      · rw [hr] at h1; cases h1
      · rw [h1]; simp
      · rw [h2]; simp
    clear hi0 hi1 HA5 HA7 HA9 hr
    generalize s.count 0 = n0 at *
    generalize s.count 1 = n1 at *
    generalize s.count 2 = n2 at *
    generalize s.count 3 = n3 at *
    generalize s.count 4 = n4 at *
    generalize s.count 5 = n5 at *
    have HD5 := Lib.hid hD5
    have HD7 := Lib.hid hD7
    have HD9 := Lib.hid hD9
    have HI5 := Lib.hid hI5
    have HI7 := Lib.hid hI7
    clear hD5 hD7 hD9 hI5 hI7
    clear hx
    clear h5
    clear hQ5
    clear h7
    clear hQ7
    clear h9
    clear hQ9
    clear hP
    have HC5 := Lib.hid hC5
    have HC7 := Lib.hid hC7
    have HC9 := Lib.hid hC9
    clear hC5 hC7 hC9 hs ht hE hR
    cases ok5 with
    | false =>
      have hn5 : ¬ 0 < n0 := fun h => by have := HI5.out.2 h; cases this
      have hn5I : ¬ (0 : Int) < (n0 : Int) := by omega
      go_wp2_with fail
      go_quiet (fail)
      cases ok7 with
      | false =>
        have hn7 : ¬ 0 < n1 := fun h => by have := HI7.out.2 h; cases this
        have hn7I : ¬ (0 : Int) < (n1 : Int) := by omega
        go_wp2_with fail
        go_quiet (fail)
        cases ok9 with
        | false =>
          go_wp2_with fail
          go_quiet (fail)
          go_wp2
          go_ret
          exact ⟨rfl, (by repeat (first | exact hB | refine below_drewN ?_ _))⟩
        | true =>
          obtain ⟨-, hk1, hk2⟩ := HD9.out rfl
          obtain ⟨hx9, hy9, g9, o9, hz9, hcc9, u0, u1, u2, u3, u4, u5⟩ := HC9.out.cells (HD9.out rfl).1.1 (HD9.out rfl).1.2
          obtain rfl := hx9
          obtain rfl := hy9
          obtain rfl := hz9
          have wr0 : IntKind.i64.wrap ((n0 : Int) - k) = (n0 : Int) - k := IntWalk.i64_in _ (by omega)
          have wr1 : IntKind.i64.wrap ((n3 : Int) + 1) = (n3 : Int) + 1 := IntWalk.i64_in _ (by omega)
          have wr2 : IntKind.i64.wrap ((n4 : Int) + k) = (n4 : Int) + k := IntWalk.i64_in _ (by omega)
          have wr3 : IntKind.i64.wrap ((n4 : Int) + k - 1) = (n4 : Int) + k - 1 := IntWalk.i64_in _ (by omega)
          go_wp2_with fail
          go_quiet (fail)
          clear u0 u1 u2 u3 u4 u5 wr0 wr1 wr2 wr3
          go_wp2
          go_ret
          exact ⟨rfl, (by repeat (first | exact hB | refine below_drewN ?_ _))⟩
      | true =>
        have hn7 : 0 < n1 := HI7.out.1 rfl
        have hn7I : (0 : Int) < (n1 : Int) := by omega
        obtain ⟨hx7, hy7, g7, o7, hz7, hcc7, u0, u1, u2, u3, u4, u5⟩ := HC7.out.cells (HD7.out rfl).1 (HD7.out rfl).2
        obtain rfl := hx7
        obtain rfl := hy7
        obtain rfl := hz7
        have wr0 : IntKind.i64.wrap ((n1 : Int) - 1) = (n1 : Int) - 1 := IntWalk.i64_in _ (by omega)
        have wr1 : IntKind.i64.wrap ((n5 : Int) + 1) = (n5 : Int) + 1 := IntWalk.i64_in _ (by omega)
        go_wp2_with fail
        go_quiet (fail)
        clear u0 u1 u2 u3 u4 u5 wr0 wr1
        cases ok9 with
        | false =>
          go_wp2_with fail
          go_quiet (fail)
          go_wp2
          go_ret
          exact ⟨rfl, (by repeat (first | exact hB | refine below_drewN ?_ _))⟩
        | true =>
          obtain ⟨-, hk1, hk2⟩ := HD9.out rfl
          obtain ⟨hx9, hy9, g9, o9, hz9, hcc9, u0, u1, u2, u3, u4, u5⟩ := HC9.out.cells (HD9.out rfl).1.1 (HD9.out rfl).1.2
          obtain rfl := hx9
          obtain rfl := hy9
          obtain rfl := hz9
          have wr0 : IntKind.i64.wrap ((n0 : Int) - k) = (n0 : Int) - k := IntWalk.i64_in _ (by omega)
          have wr1 : IntKind.i64.wrap ((n3 : Int) + 1) = (n3 : Int) + 1 := IntWalk.i64_in _ (by omega)
          have wr2 : IntKind.i64.wrap ((n4 : Int) + k) = (n4 : Int) + k := IntWalk.i64_in _ (by omega)
          have wr3 : IntKind.i64.wrap ((n4 : Int) + k - 1) = (n4 : Int) + k - 1 := IntWalk.i64_in _ (by omega)
          go_wp2_with fail
          go_quiet (fail)
          clear u0 u1 u2 u3 u4 u5 wr0 wr1 wr2 wr3
          go_wp2
          go_ret
          exact ⟨rfl, (by repeat (first | exact hB | refine below_drewN ?_ _))⟩
    | true =>
      have hn5 : 0 < n0 := HI5.out.1 rfl
      have hn5I : (0 : Int) < (n0 : Int) := by omega
      obtain ⟨hx5, hy5, g5, o5, hz5, hcc5, u0, u1, u2, u3, u4, u5⟩ := HC5.out.cells (HD5.out rfl).1 (HD5.out rfl).2
      obtain rfl := hx5
      obtain rfl := hy5
      obtain rfl := hz5
      have wr0 : IntKind.i64.wrap ((n0 : Int) - 1) = (n0 : Int) - 1 := IntWalk.i64_in _ (by omega)
      have wr1 : IntKind.i64.wrap ((n5 : Int) + 1) = (n5 : Int) + 1 := IntWalk.i64_in _ (by omega)
      go_wp2_with fail
      go_quiet (fail)
      clear u0 u1 u2 u3 u4 u5 wr0 wr1
      cases ok7 with
      | false =>
        have hn7 : ¬ 0 < n1 := fun h => by have := HI7.out.2 h; cases this
        have hn7I : ¬ (0 : Int) < (n1 : Int) := by omega
        go_wp2_with fail
        go_quiet (fail)
        cases ok9 with
        | false =>
          go_wp2_with fail
          go_quiet (fail)
          go_wp2
          go_ret
          exact ⟨rfl, (by repeat (first | exact hB | refine below_drewN ?_ _))⟩
        | true =>
          obtain ⟨-, hk1, hk2⟩ := HD9.out rfl
          obtain ⟨hx9, hy9, g9, o9, hz9, hcc9, u0, u1, u2, u3, u4, u5⟩ := HC9.out.cells (HD9.out rfl).1.1 (HD9.out rfl).1.2
          obtain rfl := hx9
          obtain rfl := hy9
          obtain rfl := hz9
          have wr0 : IntKind.i64.wrap ((n0 : Int) - k) = (n0 : Int) - k := IntWalk.i64_in _ (by omega)
          have wr1 : IntKind.i64.wrap ((n3 : Int) + 1) = (n3 : Int) + 1 := IntWalk.i64_in _ (by omega)
          have wr2 : IntKind.i64.wrap ((n4 : Int) + k) = (n4 : Int) + k := IntWalk.i64_in _ (by omega)
          have wr3 : IntKind.i64.wrap ((n4 : Int) + k - 1) = (n4 : Int) + k - 1 := IntWalk.i64_in _ (by omega)
          go_wp2_with fail
          go_quiet (fail)
          clear u0 u1 u2 u3 u4 u5 wr0 wr1 wr2 wr3
          go_wp2
          go_ret
          exact ⟨rfl, (by repeat (first | exact hB | refine below_drewN ?_ _))⟩
      | true =>
        have hn7 : 0 < n1 := HI7.out.1 rfl
        have hn7I : (0 : Int) < (n1 : Int) := by omega
        obtain ⟨hx7, hy7, g7, o7, hz7, hcc7, u0, u1, u2, u3, u4, u5⟩ := HC7.out.cells (HD7.out rfl).1 (HD7.out rfl).2
        obtain rfl := hx7
        obtain rfl := hy7
        obtain rfl := hz7
        have wr0 : IntKind.i64.wrap ((n1 : Int) - 1) = (n1 : Int) - 1 := IntWalk.i64_in _ (by omega)
        have wr1 : IntKind.i64.wrap ((n5 : Int) + 1) = (n5 : Int) + 1 := IntWalk.i64_in _ (by omega)
        go_wp2_with fail
        go_quiet (fail)
        clear u0 u1 u2 u3 u4 u5 wr0 wr1
        cases ok9 with
        | false =>
          go_wp2_with fail
          go_quiet (fail)
          go_wp2
          go_ret
          exact ⟨rfl, (by repeat (first | exact hB | refine below_drewN ?_ _))⟩
        | true =>
          obtain ⟨-, hk1, hk2⟩ := HD9.out rfl
          obtain ⟨hx9, hy9, g9, o9, hz9, hcc9, u0, u1, u2, u3, u4, u5⟩ := HC9.out.cells (HD9.out rfl).1.1 (HD9.out rfl).1.2
          obtain rfl := hx9
          obtain rfl := hy9
          obtain rfl := hz9
          have wr0 : IntKind.i64.wrap ((n0 : Int) - k) = (n0 : Int) - k := IntWalk.i64_in _ (by omega)
          have wr1 : IntKind.i64.wrap ((n3 : Int) + 1) = (n3 : Int) + 1 := IntWalk.i64_in _ (by omega)
          have wr2 : IntKind.i64.wrap ((n4 : Int) + k) = (n4 : Int) + k := IntWalk.i64_in _ (by omega)
          have wr3 : IntKind.i64.wrap ((n4 : Int) + k - 1) = (n4 : Int) + k - 1 := IntWalk.i64_in _ (by omega)
          go_wp2_with fail
          go_quiet (fail)
          clear u0 u1 u2 u3 u4 u5 wr0 wr1 wr2 wr3
          go_wp2
          go_ret
          exact ⟨rfl, (by repeat (first | exact hB | refine below_drewN ?_ _))⟩

end Go.Proofs.YtihmgiifphheeaaDoor
