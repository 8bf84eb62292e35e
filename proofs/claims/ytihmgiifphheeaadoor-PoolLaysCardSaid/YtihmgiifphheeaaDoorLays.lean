/- The walk of PoolLays. (Printed by laws10.py.) -/
import Derived.Test.YtihmgiifphheeaaDoorPlain3
import Derived.IntWalk
namespace Go.Proofs.YtihmgiifphheeaaDoor
open Go.RowKit Go.Sel

set_option maxRecDepth 100000 in
set_option maxHeartbeats 8000000 in
theorem lays_any {n : Nat} {a0 a1' : Addr} {v1 v2 : Value} {s : List Int} {t : List (List Int)} {w : World} {v3 : Value} {x : List Int} (b : Int) (hbI : I64 b) (hs3 : HeadInts n w v3 x) (hs : HeadInts n w v1 s) (ht : HeadTabs n w v2 t) (hn : n ≤ w.heap.size) (hE : ErrT w.heap.size w) (hR : RunErrs a0 a1' w.heap.size w) :
    Calls Tryd.prog 6 #[.agg #[v1, v2], .int .i64 b, v3] w fun e w' => e = .returned (.bool true) ∧ Below w.heap.size w w' := by
  obtain ⟨w1, hw1⟩ : ∃ y, y = w.alloc (Obj.cells #[v1, v2] 25) := ⟨_, rfl⟩
  have hB : Below w.heap.size w w1 := by rw [hw1]; exact kept_alloc (Below.refl _ _) _
  have hx : w1.heap[w.heap.size]? = some (.cells #[v1, v2] 25 (0, 0)) := by rw [hw1]; exact World.alloc_heap_new w _
  have hS := shown_any (hE.up hB) (hR.up hB)
  go_enter Tryd.func6, Tryd.ntmps6
  go_wp2_with fail
  rw [← hw1]
  clear hw1
  refine hS.mono ?_
  clear hS
  rintro e w2 ⟨rfl, hb⟩
  replace hx := mark_any hx hb
  replace hB := kept_trans hB hb
  clear hb
  have hC := lawCut_any (hs.below (hB.mono hn)) (ht.below (hB.mono hn)) (Nat.le_trans hn hB.size)
  obtain ⟨y1, y2⟩ := pair_cells hx
  go_wp2_with fail
  refine hC.mono ?_
  clear hC y1 y2
  rintro e w3 ⟨v, rfl, hPA, hb3⟩
  obtain ⟨p1, c1, p2, c2, rfl⟩ := IsPool.open (hPA w3 (fun _ _ _ _ h => h))
  have hsz2 : w.heap.size < w2.heap.size := (Array.getElem?_eq_some_iff.1 hx).1
  replace hx := mark_any hx hb3
  have hB3 := kept_trans hB hb3
  clear hB hb3
  have hs3 := hB3.size
  obtain ⟨y1, y2⟩ := pair_cells hx
  have y3 := row_frozen hx 0
  have y4 := row_frozen hx 1
  have hO4 := write2_only (W := w3) (B1 := w.heap.size) (.slice p1 s.length c1) (.slice p2 t.length c2)
  have hP := hPA _ (fun k o hk ho h => (hO4.block k (Array.getElem?_eq_some_iff.1 h).1 (by omega)).trans h)
  have hx4 := write2 hx (.slice p1 s.length c1) (.slice p2 t.length c2)
  have hB : Below w.heap.size w ((w3.setCell ⟨w.heap.size, 0, none⟩ (.slice p1 s.length c1)).setCell ⟨w.heap.size, 1, none⟩ (.slice p2 t.length c2)) := hB3.trans (hO4.below hB3.size (fun k hk e => by omega))
  obtain ⟨w4, hw4⟩ : ∃ y, y = (w3.setCell ⟨w.heap.size, 0, none⟩ (.slice p1 s.length c1)).setCell ⟨w.heap.size, 1, none⟩ (.slice p2 t.length c2) := ⟨_, rfl⟩
  have hsz4 : w3.heap.size ≤ w4.heap.size := by rw [hw4]; exact hO4.size
  rw [← hw4] at hP hx4 hB
  replace hP : IsPool w4.heap.size w4 (.agg #[.slice p1 s.length c1, .slice p2 t.length c2]) s t := IsPool.wider hP hsz4
  clear hPA hx hO4 hB3 hsz2 hs3 hsz4
  replace hx := hx4
  clear hx4
  have hC := cut07_any (hs3.below (hB.mono hn))
  go_wp2_with fail
  rw [← hw4]
  clear hw4 y1 y2 y3 y4
  refine hC.mono ?_
  clear hC
  rintro e w5 ⟨⟨vt, rfl, hT⟩, he⟩
  obtain rfl := he.symm
  replace hT := hT.wider (Nat.le_trans hn hB.size)
  have hC := set_any b hbI hP hT (hE.up hB) (Nat.le_refl _)
  obtain ⟨z0a, z0b⟩ := pair_cells hx
  go_wp2_with fail
  clear z0a z0b
  refine hC.mono ?_
  clear hC
  rintro e w5 hA
  obtain ⟨hb, a5, b5, l5, c5, m5, d5, x5, rfl, sq, tq, hQ, hG⟩ := give_view hA
  clear hA
  replace hx := mark_any hx hb
  replace hP := (hP.below hb).wider hb.size
  replace hT := (hT.below hb).wider hb.size
  replace hB := kept_trans hB hb
  clear hb
  obtain ⟨w6, hw6⟩ : ∃ y, y = w5.alloc (Obj.cells #[.slice a5 l5 c5, .slice b5 m5 d5] 25) := ⟨_, rfl⟩
  have hk6 : Below w5.heap.size w5 w6 := by rw [hw6]; exact kept_alloc (Below.refl _ _) _
  replace hx := mark_any hx hk6
  replace hP := (hP.below hk6).wider hk6.size
  replace hT := (hT.below hk6).wider hk6.size
  replace hQ := (hQ.below hk6).wider hk6.size
  replace hB := kept_trans hB hk6
  have h8 : w6.heap[w5.heap.size]? = some (.cells #[.slice a5 l5 c5, .slice b5 m5 d5] 25 (0, 0)) := by rw [hw6]; exact World.alloc_heap_new _ _
  clear hk6
  rcases hG with ⟨hS, rfl, rfl⟩ | ⟨hS, rfl, rfl, rfl⟩
  · obtain ⟨hl5, hm5⟩ := pool_lens hQ
    simp only [List.length_nil] at hl5 hm5
    obtain rfl := hl5
    obtain rfl := hm5
    have hcell := pair_cells h8
    obtain ⟨y1, y2⟩ := hcell
    rw [hw6] at y1 y2
    rcases setE_some hS with ⟨hr, rfl⟩ | ⟨hr, rfl⟩
    · have HR := Lib.hid hr
      clear hr hS
      have hC := right_false hP HR.out
      obtain ⟨z0a, z0b⟩ := pair_cells hx
      rw [hw6] at z0a z0b
      go_wp2_with fail
      rw [← hw6]
      clear z0a z0b
      clear hw6
      refine hC.mono ?_
      clear hC
      rintro e w7 ⟨rfl, hb⟩
      replace hx := mark_any hx hb
      replace hP := (hP.below hb).wider hb.size
      replace hT := (hT.below hb).wider hb.size
      replace hQ := (hQ.below hb).wider hb.size
      replace h8 := mark_any h8 hb
      replace hB := kept_trans hB hb
      clear hb
      go_wp2
      go_ret
      exact ⟨rfl, hB⟩
    · have HR := Lib.hid hr
      clear hr hS
      have hC := right_true hP HR.out
      obtain ⟨z0a, z0b⟩ := pair_cells hx
      rw [hw6] at z0a z0b
      go_wp2_with fail
      rw [← hw6]
      clear z0a z0b
      clear hw6
      refine hC.mono ?_
      clear hC
      rintro e w7 ⟨rfl, hb⟩
      replace hx := mark_any hx hb
      replace hP := (hP.below hb).wider hb.size
      replace hT := (hT.below hb).wider hb.size
      replace hQ := (hQ.below hb).wider hb.size
      replace h8 := mark_any h8 hb
      replace hB := kept_trans hB hb
      clear hb
      go_wp2
      go_ret
      exact ⟨rfl, hB⟩
  · have HS := Lib.hid hS
    obtain ⟨hr, hb0, hlt, htl, hrx, y, hy, hm⟩ := setE_none hS
    have HL := Lib.hid (lays_all hS)
    have HR := Lib.hid hr
    clear hr hS hrx hy hm
    obtain ⟨b0, rfl⟩ := Int.eq_ofNat_of_zero_le hb0
    rw [Int.toNat_natCast] at hlt
    simp only [Int.toNat_natCast] at hQ HL
    clear hb0 hbI
    have h32 := (rightP_states HR.out).2.1
    have hlt2 : b0 < t.length := by omega
    clear htl
    obtain ⟨rfl, rfl, hk1, hk2⟩ := pool_row hQ (i := b0) (by rw [List.length_set]; exact hlt) (by rw [List.length_set]; exact hlt2)
    clear hk1 hk2
    have hB1 : (b0 : Int) < ((s.set b0 (stateL x)).length : Int) := by rw [List.length_set]; omega
    have hB2 : (b0 : Int) < ((t.set b0 x).length : Int) := by rw [List.length_set]; omega
    have hB3 : b0 < (s.set b0 (stateL x)).length := by rw [List.length_set]; omega
    have hB4 : b0 < (t.set b0 x).length := by rw [List.length_set]; omega
    generalize hsq : s.set b0 (stateL x) = sq at *
    generalize htq : t.set b0 x = tq at *
    have HSQ := Lib.hid hsq
    have HTQ := Lib.hid htq
    clear hsq htq
    have hC := right_true hQ HL.out.1
    obtain ⟨z0a, z0b⟩ := pair_cells h8
    rw [hw6] at z0a z0b
    go_wp2_with fail
    rw [← hw6]
    clear z0a z0b
    clear hw6
    refine hC.mono ?_
    clear hC
    rintro e w7 ⟨rfl, hb⟩
    replace hx := mark_any hx hb
    replace hP := (hP.below hb).wider hb.size
    replace hT := (hT.below hb).wider hb.size
    replace hQ := (hQ.below hb).wider hb.size
    replace h8 := mark_any h8 hb
    replace hB := kept_trans hB hb
    clear hb
    have y12 := pair_cells h8
    obtain ⟨y1, y2⟩ := y12
    have hC := others_true b0 1 (by omega) (by omega) hP hQ HL.out.2.1
    obtain ⟨z0a, z0b⟩ := pair_cells hx
    obtain ⟨z1a, z1b⟩ := pair_cells h8
    go_wp2_with fail
    clear z0a z0b z1a z1b
    refine hC.mono ?_
    clear hC
    rintro e w8 ⟨rfl, hb⟩
    clear y1 y2
    replace hx := mark_any hx hb
    replace hP := (hP.below hb).wider hb.size
    replace hT := (hT.below hb).wider hb.size
    replace hQ := (hQ.below hb).wider hb.size
    replace h8 := mark_any h8 hb
    replace hB := kept_trans hB hb
    clear hb
    have hC := poolCounts_any hP (Nat.le_refl _)
    obtain ⟨z0a, z0b⟩ := pair_cells hx
    go_wp2_with fail
    clear z0a z0b
    refine hC.mono ?_
    clear hC
    rintro e w9 hA
    obtain ⟨hb, ca0, cl0, cc0, cx0, rfl, hC0⟩ := counts_view hA
    clear hA
    replace hx := mark_any hx hb
    replace hP := (hP.below hb).wider hb.size
    replace hT := (hT.below hb).wider hb.size
    replace hQ := (hQ.below hb).wider hb.size
    replace h8 := mark_any h8 hb
    replace hB := kept_trans hB hb
    clear hb
    have hC := poolCounts_any hQ (Nat.le_refl _)
    obtain ⟨z0a, z0b⟩ := pair_cells h8
    go_wp2_with fail
    clear z0a z0b
    refine hC.mono ?_
    clear hC
    rintro e w10 hA
    obtain ⟨hb, ca1, cl1, cc1, cx1, rfl, hC1⟩ := counts_view hA
    clear hA
    replace hx := mark_any hx hb
    replace hP := (hP.below hb).wider hb.size
    replace hT := (hT.below hb).wider hb.size
    replace hQ := (hQ.below hb).wider hb.size
    replace h8 := mark_any h8 hb
    replace hC0 := hC0.up hb
    replace hB := kept_trans hB hb
    clear hb
    obtain ⟨rfl, rfl, gc, oc, rfl, hcc, e0, e1, e2, e3, e4, e5⟩ := hC0.cells HR.out (countsP_eq s)
    obtain ⟨rfl, rfl, gd, od, rfl, hcd, u0, u1, u2, u3, u4, u5⟩ := hC1.cells HL.out.1 (countsP_eq sq)
    clear hC0 hC1
    have hl0 := counts_le HR.out 0
    have hj0 := counts_le HL.out.1 0
    have hl1 := counts_le HR.out 1
    have hj1 := counts_le HL.out.1 1
    have hl2 := counts_le HR.out 2
    have hj2 := counts_le HL.out.1 2
    have hl3 := counts_le HR.out 3
    have hj3 := counts_le HL.out.1 3
    have hl4 := counts_le HR.out 4
    have hj4 := counts_le HL.out.1 4
    have hl5 := counts_le HR.out 5
    have hj5 := counts_le HL.out.1 5
    have hS3 := HL.out.2.2.1
    have hS4 := HL.out.2.2.2.1
    have hS5 := HL.out.2.2.2.2
    rw [hS3] at u3
    rw [hS4] at u4
    generalize s.count 0 = n0 at *
    generalize sq.count 0 = m0 at *
    generalize s.count 1 = n1 at *
    generalize sq.count 1 = m1 at *
    generalize s.count 2 = n2 at *
    generalize sq.count 2 = m2 at *
    generalize s.count 3 = n3 at *
    generalize sq.count 3 = m3 at *
    generalize s.count 4 = n4 at *
    generalize sq.count 4 = m4 at *
    generalize s.count 5 = n5 at *
    generalize sq.count 5 = m5 at *
    have hsum : ((((n0 : Int) + n1) + n2) + n5 == (((m0 : Int) + m1) + m2) + m5) = true := by rw [beq_iff_eq]; omega
    clear hS3 hS4 hS5
    obtain ⟨-, -, ⟨g1, o1, y1, rfl, hy1, hs1⟩, g2, o2, y2, v2, rfl, hy2, ht2, hti⟩ := pool_row hQ hB3 hB4
    have hy1e : y1 = stateL x := by rw [← HSQ.out, List.getElem?_set_self hlt] at hy1; exact (Option.some.inj hy1).symm
    subst hy1e
    have hy2e : y2 = x := by rw [← HTQ.out, List.getElem?_set_self hlt2] at hy2; exact (Option.some.inj hy2).symm
    subst hy2e
    have hs2 := (stateL_ask y2).2
    have hs3 := (stateL_ask y2).1
    have hci : ∀ q, Calls Tryd.prog 21 #[v2, vt] (w10.drewN q) fun e w' => e = .returned (.bool true) ∧ ∃ m, w' = (w10.drewN q).drewN m := fun q => by have := ints_any (hti.below (below_drewN (Below.refl _ _) q)) (hT.below (below_drewN (Below.refl _ _) q)); rwa [decide_eq_true rfl] at this
    have HC := Lib.hid hci
    clear hci hy1 hy2 hti hT hQ hP HSQ HTQ HL HS
    generalize stateL y2 = st at *
    have wr0 : IntKind.i64.wrap ((n0 : Int) + n1) = (n0 : Int) + n1 := IntWalk.i64_in _ (by omega)
    have wr1 : IntKind.i64.wrap ((n0 : Int) + n1 + n2) = (n0 : Int) + n1 + n2 := IntWalk.i64_in _ (by omega)
    have wr2 : IntKind.i64.wrap ((n0 : Int) + n1 + n2 + n5) = (n0 : Int) + n1 + n2 + n5 := IntWalk.i64_in _ (by omega)
    have wr3 : IntKind.i64.wrap ((m0 : Int) + m1) = (m0 : Int) + m1 := IntWalk.i64_in _ (by omega)
    have wr4 : IntKind.i64.wrap ((m0 : Int) + m1 + m2) = (m0 : Int) + m1 + m2 := IntWalk.i64_in _ (by omega)
    have wr5 : IntKind.i64.wrap ((m0 : Int) + m1 + m2 + m5) = (m0 : Int) + m1 + m2 + m5 := IntWalk.i64_in _ (by omega)
    obtain ⟨z1, z2⟩ := pair_cells h8
    go_wp2_with fail
    go_quiet (refine Calls.quiet_of (HC.out _))
    go_wp2
    go_ret
    exact ⟨rfl, (by repeat (first | exact hB | refine below_drewN ?_ _))⟩

end Go.Proofs.YtihmgiifphheeaaDoor
