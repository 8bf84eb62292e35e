/- The walk of selionlaw04.DescFields. (Printed by laws04.py.) -/
import Derived.Test.YtjhmghcfhgajcaaDoorDesc17
namespace Go.Proofs.YtjhmghcfhgajcaaDoor
open Go.RowKit Go.Sel

set_option maxRecDepth 100000 in
set_option maxHeartbeats 8000000 in
theorem descFields_any {n : Nat} {a0 a1 a2 : Addr} {v1 v2 : Value} {xs ys : List Int} {w : World} (size elem nn at' : Int) (i1 : I64 size) (i2 : I64 elem) (hnn : I64 nn) (hat : I64 at') (hs : Head20 n w v1 xs) (ht : Head20 n w v2 ys) (hn : n ≤ w.heap.size) (hE : AddrErrs a0 a1 a2 w.heap.size w) (hR : ErrT w.heap.size w) (hT : TextOk w) :
    Calls Tryd.prog 4 #[.agg #[.int .i64 size, v1, .int .i64 elem, v2], .int .i64 nn, .int .i64 at'] w fun e w' => e = .returned (.bool true) ∧ Below w.heap.size w w' := by
  obtain ⟨w1, hw1⟩ : ∃ y, y = w.alloc (Obj.cells #[.int .i64 size, v1, .int .i64 elem, v2] 24) := ⟨_, rfl⟩
  have hB : Below w.heap.size w w1 := by rw [hw1]; exact kept_alloc (Below.refl _ _) _
  have hx : HasBlk w.heap.size #[.int .i64 size, v1, .int .i64 elem, v2] 24 w1 := by rw [hw1]; exact HasBlk.new w _ _
  have hS := shown04_any (hE.up hB) (hR.up hB) (hT.up hB)
  go_enter Tryd.func4, Tryd.ntmps4
  go_wp2_with fail
  rw [← hw1]
  clear hw1
  refine hS.mono ?_
  clear hS
  rintro e w2 ⟨rfl, hb⟩
  replace hx := hx.below hb (Array.getElem?_eq_some_iff.1 hx.out).1
  replace hB := kept_trans hB hb
  clear hb
  have hC := descCut_any (w := w2) size elem i1 i2 (hs.below (hB.mono hn)) (ht.below (hB.mono hn)) (Nat.le_trans hn hB.size)
  obtain ⟨y0, y1, y2, y3⟩ := four_cells hx.out
  go_wp2_with fail
  refine hC.mono ?_
  clear hC y0 y1 y2 y3
  rintro e w3 ⟨⟨v, rfl, hD⟩, hb3⟩
  obtain ⟨d, hd⟩ : ∃ d : DescL, d = ⟨size, xs, elem, ys⟩ := ⟨_, rfl⟩
  rw [← hd] at hD
  have hl1 : d.ptrs.length ≤ 20 := by rw [hd]; exact hs.len
  have hl2 : d.eptrs.length ≤ 20 := by rw [hd]; exact ht.len
  clear hd
  have hD0 := hD
  obtain ⟨p1, p2, rfl, j1, j2, h1, h2⟩ := hD
  obtain ⟨q1, c1, rfl, hc1⟩ := h1.open
  obtain ⟨q2, c2, rfl, hc2⟩ := h2.open
  clear h1 h2 hc1 hc2
  have hx3 := hx.below hb3 (Array.getElem?_eq_some_iff.1 hx.out).1
  have hB3 := kept_trans hB hb3
  have hs3 := hB3.size
  clear hx hB hb3
  obtain ⟨y0, y1, y2, y3⟩ := four_cells hx3.out
  have f0 := row_frozen4 hx3.out 0
  have f1 := row_frozen4 hx3.out 1
  have f2 := row_frozen4 hx3.out 2
  have f3 := row_frozen4 hx3.out 3
  have hx4 := write4 hx3.out (.int .i64 d.size) (.slice q1 d.ptrs.length c1) (.int .i64 d.elem) (.slice q2 d.eptrs.length c2)
  have hO : Below w.heap.size w3 ((((w3.setCell ⟨w.heap.size, 0, none⟩ (.int .i64 d.size)).setCell ⟨w.heap.size, 1, none⟩ (.slice q1 d.ptrs.length c1)).setCell ⟨w.heap.size, 2, none⟩ (.int .i64 d.elem)).setCell ⟨w.heap.size, 3, none⟩ (.slice q2 d.eptrs.length c2)) :=
    ((((Below.refl w.heap.size w3).setCell (p := ⟨w.heap.size, 0, none⟩) (Nat.le_refl _) _).setCell (p := ⟨w.heap.size, 1, none⟩) (Nat.le_refl _) _).setCell (p := ⟨w.heap.size, 2, none⟩) (Nat.le_refl _) _).setCell (p := ⟨w.heap.size, 3, none⟩) (Nat.le_refl _) _
  obtain ⟨w4, hw4⟩ : ∃ y, y = ((((w3.setCell ⟨w.heap.size, 0, none⟩ (.int .i64 d.size)).setCell ⟨w.heap.size, 1, none⟩ (.slice q1 d.ptrs.length c1)).setCell ⟨w.heap.size, 2, none⟩ (.int .i64 d.elem)).setCell ⟨w.heap.size, 3, none⟩ (.slice q2 d.eptrs.length c2)) := ⟨_, rfl⟩
  rw [← hw4] at hx4 hO
  have hB := hB3.trans hO
  replace hD := (hD0.below (hO.mono hn)).wider (Nat.le_trans hn hB.size)
  have hx : HasBlk w.heap.size #[.int .i64 d.size, .slice q1 d.ptrs.length c1, .int .i64 d.elem, .slice q2 d.eptrs.length c2] 24 w4 := hx4
  clear hD0 hx3 hx4 hB3 hO
  obtain ⟨m, hm⟩ : ∃ m, min nn 300 = m := ⟨_, rfl⟩
  have hm1 : m ≤ 300 := by omega
  have hm0 : I64 m := by unfold I64 at hnn ⊢; omega
  have wm : IntKind.i64.wrap (m + 1) = m + 1 := IntWalk.i64_in _ (by unfold I64 at hm0; omega)
  have hm2 : I64 (m + 1) := by unfold I64 at hm0 ⊢; omega
  have hC := kind_any m at' hm0 hat hD (hE.up hB) (hR.up hB)
  obtain ⟨z0a, z0b, z0c, z0d⟩ := four_cells hx.out
  rw [hw4] at z0a z0b z0c z0d
  go_wp2_with fail
  rw [← hw4]
  clear hw4 y0 y1 y2 y3 f0 f1 f2 f3
  clear z0a z0b z0c z0d
  refine hC.mono ?_
  clear hC
  rintro e w5 ⟨rfl, hb⟩
  replace hx := hx.below hb (Array.getElem?_eq_some_iff.1 hx.out).1
  replace hD := hD.up hb
  replace hB := kept_trans hB hb
  clear hb
  clear hm
  have he := errD_cases d m
  obtain ⟨e0, he0⟩ : ∃ x, x = errD d m := ⟨_, rfl⟩
  obtain ⟨K0, hK0⟩ : ∃ x, x = numD d m (kindP d m.toNat at') := ⟨_, rfl⟩
  rw [← he0] at he
  rw [← he0, ← hK0]
  by_cases hok : e0 = 0
  · subst hok
    have s1 := errD_zero he0.symm
    rw [numD_none s1] at hK0
    obtain ⟨r1, r2, -, -, r5⟩ := shapeE_none s1
    have rp := rightD_parts r1
    have hk : K0 ≠ 0 ↔ (0 ≤ at' ∧ at' % 4 = 0 ∧ at' < d.size + m * d.elem) := by
      obtain ⟨u, rfl⟩ := Int.eq_ofNat_of_zero_le r2
      rw [hK0]
      exact kindP_field r1 at'
    obtain ⟨pr, hpr⟩ : ∃ p, m * d.elem = p := ⟨_, rfl⟩
    have hp0 : 0 ≤ pr := by rw [← hpr]; exact Int.mul_nonneg (by omega) rp.2.1.1
    rw [hpr] at hk r5
    have g2 : IntKind.i64.wrap pr = pr := IntWalk.i64_in _ (by omega)
    have g3 : IntKind.i64.wrap (d.size + pr) = d.size + pr := IntWalk.i64_in _ (by omega)
    obtain ⟨z0, z1, z2, z3⟩ := four_cells hx.out
    clear he he0 hK0 s1 r1 rp hE hR hT hx hD
    by_cases c0 : 0 ≤ at'
    · have g4 : at'.tmod 4 = at' % 4 := Int.tmod_eq_emod_of_nonneg c0
      by_cases c1 : at' % 4 = 0
      · by_cases c2 : at' < d.size + pr
        · have kk : (K0 != 0) = true := bne_iff_ne.2 (hk.2 ⟨c0, c1, c2⟩)
          clear hk
          go_wp2
          go_ret
          exact ⟨rfl, hB⟩
        · obtain rfl : K0 = 0 := Decidable.byContradiction fun h => c2 (hk.1 h).2.2
          have hdd : decide (at' < d.size + pr) = false := decide_eq_false c2
          clear hk
          go_wp2
          go_ret
          exact ⟨rfl, hB⟩
      · obtain rfl : K0 = 0 := Decidable.byContradiction fun h => c1 (hk.1 h).2.1
        clear hk
        go_wp2
        go_ret
        exact ⟨rfl, hB⟩
    · obtain rfl : K0 = 0 := Decidable.byContradiction fun h => c0 (hk.1 h).1
      clear hk
      go_wp2
      go_ret
      exact ⟨rfl, hB⟩
  · obtain ⟨x, hx1, hx2⟩ := errD_right (n := m) he0 hok
    have hk0 : K0 = 0 := by rw [hK0]; exact numD_err he0 hok _
    have hRi := right_any hD (Nat.le_refl _)
    obtain ⟨z0, z1, z2, z3⟩ := four_cells hx.out
    clear he0 hK0 hE hR hT hx
    subst hk0
    subst hx1
    rcases hx2 with ⟨rfl, hr⟩ | ⟨rfl, hr⟩
    all_goals
      rw [hr] at hRi
      clear hr he
      go_wp2_with fail
      refine hRi.mono ?_
      clear hRi
      rintro e wz ⟨rfl, hb⟩
      go_wp2
      go_ret
      exact ⟨rfl, kept_trans hB hb⟩
end Go.Proofs.YtjhmghcfhgajcaaDoor
