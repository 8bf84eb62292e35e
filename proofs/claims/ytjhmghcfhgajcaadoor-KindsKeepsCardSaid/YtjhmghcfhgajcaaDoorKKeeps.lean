/- selionlaw05.KindsKeeps says true. -/
import Derived.Test.YtjhmghcfhgajcaaDoorKindsD
namespace Go.Sel
open Go
theorem addK_bad {l : List DescL} {d : DescL} (h : ¬ (addK l d).2.2 = 0) : (addK l d).1 = [] ∧ (addK l d).2.1 = 0 := by
  unfold addK at h ⊢
  split
  · rename_i h1
    rw [if_pos h1] at h
    split
    · rename_i h2
      rw [if_pos h2] at h
      split
      · rename_i h3
        rw [if_pos h3] at h
        exact absurd rfl h
      · rename_i h3
        rw [if_neg h3] at h
        split
        · exact ⟨rfl, rfl⟩
        · rename_i h4
          rw [if_neg h4] at h
          exact absurd rfl h
    · exact ⟨rfl, rfl⟩
  · exact ⟨rfl, rfl⟩
theorem ofK_at {l : List DescL} {j : Nat} {d : DescL} (hr : rightK l = true) (h : l[j]? = some d) : ofK l ((j : Int) + 1) = (some d, 0) := by
  have hj := (List.getElem?_eq_some_iff.1 h).1
  unfold ofK
  rw [if_pos hr, if_neg (by omega), show ((j : Int) + 1 - 1).toNat = j by omega, h]
/-- What is added is there, under its number; all others are under theirs. -/
theorem addK_good {l m : List DescL} {d : DescL} {k : Int} (h : addK l d = (m, k, 0)) :
    rightK l = true ∧ rightK m = true ∧ ofK m k = (some d, 0) ∧ addK m d = (m, k, 0) ∧ (∀ (j : Nat) (y : DescL), l[j]? = some y → m[j]? = some y) ∧ I64 k := by
  unfold addK at h
  split at h
  · rename_i h1
    split at h
    · rename_i h2
      split at h
      · rename_i h3
        simp only [Prod.mk.injEq, and_true] at h
        obtain ⟨rfl, rfl⟩ := h
        have hp := placeN_le l d
        have h60 := (rightK_iff.1 h1).2.2
        refine ⟨h1, h1, ofK_at h1 (placeN_get (hasK_iff.1 h3)), ?_, fun j y hj => hj, by unfold I64; omega⟩
        unfold addK
        rw [if_pos h1, if_pos h2, if_pos h3]
      · rename_i h3
        split at h
        · simp at h
        · rename_i h4
          simp only [Prod.mk.injEq, and_true] at h
          obtain ⟨rfl, rfl⟩ := h
          have hm := rightK_snoc h1 h2 h3 h4
          have h60 := (rightK_iff.1 h1).2.2
          refine ⟨h1, hm, ofK_at hm (by rw [List.getElem?_append_right (Nat.le_refl _), Nat.sub_self]; rfl), ?_, fun j y hj => ?_, by unfold I64; omega⟩
          · unfold addK
            rw [if_pos hm, if_pos h2, if_pos (hasK_iff.2 (by simp)), placeN_snoc h3]
          · rw [List.getElem?_append_left (List.getElem?_eq_some_iff.1 hj).1]; exact hj
    · simp at h
  · simp at h
theorem ofK_right {l : List DescL} {n : Int} (hr : rightK l = true) : ofK l n = (none, 51) ∨ ∃ (j : Nat) (d : DescL), n = (j : Int) + 1 ∧ l[j]? = some d ∧ ofK l n = (some d, 0) := by
  by_cases hk : n < 1 ∨ (l.length : Int) < n
  · left
    unfold ofK
    rw [if_pos hr, if_pos hk]
  · right
    obtain ⟨j, rfl⟩ : ∃ j : Nat, n = (j : Int) + 1 := ⟨(n - 1).toNat, by omega⟩
    have hj : j < l.length := by omega
    exact ⟨j, l[j], rfl, List.getElem?_eq_getElem hj, ofK_at hr (List.getElem?_eq_getElem hj)⟩
end Go.Sel
namespace Go.Proofs.YtjhmghcfhgajcaaDoor
open Go.RowKit Go.Sel
theorem FewDs.only {n B : Nat} {S : Nat → Prop} {ov : Value} {ds : List DescL} {w w' : World} (h : FewDs n B ov ds w) (hO : Only S w w') (hS : ∀ g, S g → g < B) (hb : Below n w w') : FewDs n B ov ds w' := by
  obtain ⟨cells, hr, he⟩ := h
  refine ⟨cells, owns_only hr hO (fun g hg e => by have h1 := (hr.lt g e).1; have h2 := hS g hg; omega), fun j d hj => ?_⟩
  obtain ⟨s1, s2, k0, k1, k2, k3, hD⟩ := he j d hj
  exact ⟨s1, s2, k0, k1, k2, k3, hD.below hb⟩
set_option maxRecDepth 100000 in
set_option maxHeartbeats 8000000 in
theorem kindsKeeps_any {v v1 v2 : Value} {l : List DescL} {xs ys : List Int} {w : World} (size elem n : Int) (i1 : I64 size) (i2 : I64 elem) (i3 : I64 n) (hl : HeadDescs w.heap.size w v l) (h1 : Head20 w.heap.size w v1 xs) (h2 : Head20 w.heap.size w v2 ys) (hR : ErrT w.heap.size w) (hT : TextOk w) :
    Calls Tryd.prog 7 #[v, .agg #[.int .i64 size, v1, .int .i64 elem, v2], .int .i64 n] w fun e w' => e = .returned (.bool true) ∧ Below w.heap.size w w' := by
  have hlen := hl.len
  obtain ⟨va, vl, vc, hv⟩ : ∃ a l c, v = .slice a l c := by obtain ⟨a, l, c, h, _⟩ := id hl; exact ⟨a, l, c, h⟩
  subst hv
  obtain ⟨u1, p1, c1, rfl⟩ := h1.open
  obtain ⟨u2, p2, c2, rfl⟩ := h2.open
  obtain ⟨W0, hW0⟩ : ∃ y, y = w.alloc (Obj.cells #[.int .i64 size, .slice u1 p1 c1, .int .i64 elem, .slice u2 p2 c2] 24) := ⟨_, rfl⟩
  have hb1 : Below w.heap.size w W0 := by rw [hW0]; exact kept_alloc (Below.refl _ _) _
  have hx : HasBlk w.heap.size #[.int .i64 size, .slice u1 p1 c1, .int .i64 elem, .slice u2 p2 c2] 24 W0 := by rw [hW0]; exact HasBlk.new w _ _
  have hSh := shown05_any (hR.up hb1) (hT.up hb1)
  clear hR hT
  go_enter Tryd.func7, Tryd.ntmps7
  go_wp2_with fail
  rw [← hW0]
  clear hW0
  refine hSh.mono ?_
  clear hSh
  rintro e w1 ⟨rfl, hb2⟩
  replace hx := hx.below hb2 (Array.getElem?_eq_some_iff.1 hx.out).1
  replace hb1 := kept_trans hb1 hb2
  clear hb2
  have hF := few05_own (hl.below hb1) hb1.size
  clear hl
  have hs1 : w.heap.size < w1.heap.size := (Array.getElem?_eq_some_iff.1 hx.out).1
  go_wp2_with fail
  refine hF.mono ?_
  clear hF
  rintro e w2 ⟨v2, rfl, hFe, hb2⟩
  replace hx := hx.below hb2 (Array.getElem?_eq_some_iff.1 hx.out).1
  replace hb1 := kept_trans hb1 hb2
  clear hb2
  obtain ⟨q, c, hq⟩ : ∃ q c, v2 = .slice q l.length c := by obtain ⟨cells, hr, _⟩ := id hFe; obtain ⟨q, c, e, _⟩ := owns_open hr; exact ⟨q, c, e⟩
  subst hq
  have hCut := descCut_any size elem i1 i2 (h1.below hb1) (h2.below hb1) hb1.size
  clear h1 h2
  obtain ⟨z0, z1, z2, z3⟩ := four_cells hx.out
  go_wp2_with fail
  refine hCut.mono ?_
  clear hCut z0 z1 z2 z3
  rintro e w3 ⟨⟨v', rfl, hDn⟩, hb2⟩
  replace hFe : FewDs w.heap.size w1.heap.size (.slice q l.length c) l w3 := by
    obtain ⟨cells, hr, he⟩ := hFe
    exact ⟨cells, owns_kept hr hb2, fun j d hj => by
      obtain ⟨s1, s2, k0, k1, k2, k3, hD⟩ := he j d hj
      exact ⟨s1, s2, k0, k1, k2, k3, hD.below (hb2.mono hb1.size)⟩⟩
  replace hx := hx.below hb2 (Array.getElem?_eq_some_iff.1 hx.out).1
  replace hb1 := kept_trans hb1 hb2
  clear hb2
  obtain ⟨s1, s2, rfl, -, -, g1, g2⟩ := id hDn
  obtain ⟨a1, d1, rfl, -⟩ := g1.open
  obtain ⟨a2, d2, rfl, -⟩ := g2.open
  clear g1 g2
  obtain ⟨D, hDD⟩ : ∃ D : DescL, D = ⟨size, xs, elem, ys⟩ := ⟨_, rfl⟩
  have HDD := Lib.hid hDD
  obtain ⟨W4, hW4⟩ : ∃ y, y = ((((w3.setCell ⟨w.heap.size, 0, none⟩ (.int .i64 size)).setCell ⟨w.heap.size, 1, none⟩ (.slice a1 xs.length d1)).setCell ⟨w.heap.size, 2, none⟩ (.int .i64 elem)).setCell ⟨w.heap.size, 3, none⟩ (.slice a2 ys.length d2)) := ⟨_, rfl⟩
  have hy : HasBlk w.heap.size #[.int .i64 size, .slice a1 xs.length d1, .int .i64 elem, .slice a2 ys.length d2] 24 W4 := by rw [hW4]; exact write4 hx.out _ _ _ _
  have hO4 : Only (fun b => b = w.heap.size) w3 W4 := by
    rw [hW4]
    exact (((Only.refl (fun b => b = w.heap.size) _).setCell (p := ⟨w.heap.size, 0, none⟩) (.inl rfl) _).setCell (p := ⟨w.heap.size, 1, none⟩) (.inl rfl) _).setCell (p := ⟨w.heap.size, 2, none⟩) (.inl rfl) _ |>.setCell (p := ⟨w.heap.size, 3, none⟩) (.inl rfl) _
  have hB4 : Below w.heap.size w3 W4 := by
    rw [hW4]
    exact ((((Below.refl w.heap.size w3).setCell (p := ⟨w.heap.size, 0, none⟩) (Nat.le_refl _) _).setCell (p := ⟨w.heap.size, 1, none⟩) (Nat.le_refl _) _).setCell (p := ⟨w.heap.size, 2, none⟩) (Nat.le_refl _) _).setCell (p := ⟨w.heap.size, 3, none⟩) (Nat.le_refl _) _
  have hF4 := hFe.only hO4 (fun g hg => by have : g = w.heap.size := hg; omega) hB4
  replace hb1 := hb1.trans hB4
  have hL := hF4.is hb1.size (by unfold big; omega)
  have hD : IsDesc W4.heap.size W4 (.agg #[.int .i64 size, .slice a1 xs.length d1, .int .i64 elem, .slice a2 ys.length d2]) D := by rw [hDD]; exact (hDn.below hB4).wider hb1.size
  clear hFe hF4 hO4 hB4 hDn hDD
  obtain ⟨x0, x1, x2, x3⟩ := four_cells hx.out
  have f0 := row_frozen4 hx.out 0
  have f1 := row_frozen4 hx.out 1
  have f2 := row_frozen4 hx.out 2
  have f3 := row_frozen4 hx.out 3
  obtain ⟨z0, z1, z2, z3⟩ := four_cells hy.out
  subst hW4
  have hAd := addK_any hL hD (Nat.le_refl _)
  unfold AddPost at hAd
  obtain ⟨r, hr⟩ : ∃ r, r = addK l D := ⟨_, rfl⟩
  rw [← hr] at hAd
  have HRE := Lib.hid hr
  clear hr hx hs1
  go_wp2_with fail
  clear z0 z1 z2 z3 x0 x1 x2 x3 f0 f1 f2 f3
  refine hAd.mono ?_
  clear hAd
  rintro e w5 ⟨v5, rfl, hM, hb2⟩
  replace hy := hy.below hb2 (Array.getElem?_eq_some_iff.1 hy.out).1
  replace hL := hL.up hb2
  replace hD := hD.up hb2
  replace hb1 := kept_trans hb1 hb2
  clear hb2
  obtain ⟨m, k, er⟩ := r
  simp only [] at hM ⊢
  obtain ⟨qm, cm, rfl, hcm⟩ := hM.open
  by_cases her : er = 0
  case neg =>
    obtain ⟨t1, t2⟩ := addK_bad (l := l) (d := D) (by rw [← HRE.out]; exact her)
    rw [← HRE.out] at t1 t2
    simp only [] at t1 t2
    subst t1
    subst t2
    clear HRE hM hL hD hy
    go_wp2
    go_ret
    exact ⟨rfl, hb1⟩
  subst her
  obtain ⟨hrl, hrm, hom, ham, hat, ik⟩ := addK_good HRE.out.symm
  have HRM := Lib.hid hrm
  have HAM := Lib.hid ham
  have hO1 := ofK_any k ik hM (Nat.le_refl _)
  unfold OfPost at hO1
  rw [hom] at hO1
  simp only [Option.getD_some] at hO1
  -- the second and third
  have HOL := Lib.hid (ofK_right (n := n) hrl)
  have HOM : Hid ((ofK l n = (none, 51)) ∨ ∃ y, ofK l n = (some y, 0) ∧ ofK m n = (some y, 0)) := Lib.hid (by
    rcases HOL.out with h | ⟨j, d, rfl, h3, h4⟩
    · exact .inl h
    · exact .inr ⟨d, h4, ofK_at hrm (hat j d h3)⟩)
  clear hrl hrm hom ham hat ik HRE HOL
  go_wp2_with fail
  refine hO1.mono ?_
  clear hO1
  rintro e w6 ⟨v6, rfl, hX, hb2⟩
  replace hy := hy.below hb2 (Array.getElem?_eq_some_iff.1 hy.out).1
  replace hL := hL.up hb2
  replace hD := hD.up hb2
  replace hM := hM.up hb2
  replace hb1 := kept_trans hb1 hb2
  clear hb2
  obtain ⟨g1, g2, rfl, -, -, hg1, hg2⟩ := id hX
  obtain ⟨b17, e17, rfl, -⟩ := hg1.open
  obtain ⟨b27, e27, rfl, -⟩ := hg2.open
  clear hg1 hg2
  obtain ⟨W7, hW7⟩ : ∃ y, y = w6.alloc (Obj.cells #[.int .i64 D.size, .slice b17 D.ptrs.length e17, .int .i64 D.elem, .slice b27 D.eptrs.length e27] 24) := ⟨_, rfl⟩
  have hb2 : Below w6.heap.size w6 W7 := by rw [hW7]; exact kept_alloc (Below.refl _ _) _
  have hy7 : HasBlk w6.heap.size #[.int .i64 D.size, .slice b17 D.ptrs.length e17, .int .i64 D.elem, .slice b27 D.eptrs.length e27] 24 W7 := by rw [hW7]; exact HasBlk.new w6 _ _
  replace hy := hy.below hb2 (Array.getElem?_eq_some_iff.1 hy.out).1
  replace hL := hL.up hb2
  replace hD := hD.up hb2
  replace hM := hM.up hb2
  replace hX := hX.up hb2
  replace hb1 := kept_trans hb1 hb2
  clear hb2
  have hO2 := ofK_any n i3 hL (Nat.le_refl _)
  unfold OfPost at hO2
  obtain ⟨ol, hol⟩ : ∃ x, x = ofK l n := ⟨_, rfl⟩
  have HL1 := Lib.hid hol
  rw [← hol] at hO2
  clear hol
  obtain ⟨yd, hyd⟩ : ∃ x, x = ol.1.getD zeroDesc := ⟨_, rfl⟩
  have HY1 := Lib.hid hyd
  rw [← hyd] at hO2
  clear hyd
  go_wp2_with fail
  rw [← hW7]
  clear hW7
  refine hO2.mono ?_
  clear hO2
  rintro e w8 ⟨v8, rfl, hY, hb2⟩
  replace hy := hy.below hb2 (Array.getElem?_eq_some_iff.1 hy.out).1
  replace hy7 := hy7.below hb2 (Array.getElem?_eq_some_iff.1 hy7.out).1
  replace hL := hL.up hb2
  replace hD := hD.up hb2
  replace hM := hM.up hb2
  replace hX := hX.up hb2
  replace hb1 := kept_trans hb1 hb2
  clear hb2
  obtain ⟨g1, g2, rfl, -, -, hg1, hg2⟩ := id hY
  obtain ⟨b19, e19, rfl, -⟩ := hg1.open
  obtain ⟨b29, e29, rfl, -⟩ := hg2.open
  clear hg1 hg2
  obtain ⟨W9, hW9⟩ : ∃ y, y = w8.alloc (Obj.cells #[.int .i64 yd.size, .slice b19 yd.ptrs.length e19, .int .i64 yd.elem, .slice b29 yd.eptrs.length e29] 24) := ⟨_, rfl⟩
  have hb2 : Below w8.heap.size w8 W9 := by rw [hW9]; exact kept_alloc (Below.refl _ _) _
  have hy9 : HasBlk w8.heap.size #[.int .i64 yd.size, .slice b19 yd.ptrs.length e19, .int .i64 yd.elem, .slice b29 yd.eptrs.length e29] 24 W9 := by rw [hW9]; exact HasBlk.new w8 _ _
  replace hy := hy.below hb2 (Array.getElem?_eq_some_iff.1 hy.out).1
  replace hy7 := hy7.below hb2 (Array.getElem?_eq_some_iff.1 hy7.out).1
  replace hL := hL.up hb2
  replace hD := hD.up hb2
  replace hM := hM.up hb2
  replace hX := hX.up hb2
  replace hY := hY.up hb2
  replace hb1 := kept_trans hb1 hb2
  clear hb2
  have hO3 := ofK_any n i3 hM (Nat.le_refl _)
  unfold OfPost at hO3
  obtain ⟨om, hom⟩ : ∃ x, x = ofK m n := ⟨_, rfl⟩
  have HL2 := Lib.hid hom
  rw [← hom] at hO3
  clear hom
  obtain ⟨zd, hzd⟩ : ∃ x, x = om.1.getD zeroDesc := ⟨_, rfl⟩
  have HZ1 := Lib.hid hzd
  rw [← hzd] at hO3
  clear hzd
  go_wp2_with fail
  rw [← hW9]
  clear hW9
  refine hO3.mono ?_
  clear hO3
  rintro e w10 ⟨v10, rfl, hZ, hb2⟩
  replace hy := hy.below hb2 (Array.getElem?_eq_some_iff.1 hy.out).1
  replace hy7 := hy7.below hb2 (Array.getElem?_eq_some_iff.1 hy7.out).1
  replace hy9 := hy9.below hb2 (Array.getElem?_eq_some_iff.1 hy9.out).1
  replace hL := hL.up hb2
  replace hD := hD.up hb2
  replace hM := hM.up hb2
  replace hX := hX.up hb2
  replace hY := hY.up hb2
  replace hb1 := kept_trans hb1 hb2
  clear hb2
  obtain ⟨g1, g2, rfl, -, -, hg1, hg2⟩ := id hZ
  obtain ⟨b111, e111, rfl, -⟩ := hg1.open
  obtain ⟨b211, e211, rfl, -⟩ := hg2.open
  clear hg1 hg2
  obtain ⟨W11, hW11⟩ : ∃ y, y = w10.alloc (Obj.cells #[.int .i64 zd.size, .slice b111 zd.ptrs.length e111, .int .i64 zd.elem, .slice b211 zd.eptrs.length e211] 24) := ⟨_, rfl⟩
  have hb2 : Below w10.heap.size w10 W11 := by rw [hW11]; exact kept_alloc (Below.refl _ _) _
  have hy11 : HasBlk w10.heap.size #[.int .i64 zd.size, .slice b111 zd.ptrs.length e111, .int .i64 zd.elem, .slice b211 zd.eptrs.length e211] 24 W11 := by rw [hW11]; exact HasBlk.new w10 _ _
  replace hy := hy.below hb2 (Array.getElem?_eq_some_iff.1 hy.out).1
  replace hy7 := hy7.below hb2 (Array.getElem?_eq_some_iff.1 hy7.out).1
  replace hy9 := hy9.below hb2 (Array.getElem?_eq_some_iff.1 hy9.out).1
  replace hL := hL.up hb2
  replace hD := hD.up hb2
  replace hM := hM.up hb2
  replace hX := hX.up hb2
  replace hY := hY.up hb2
  replace hZ := hZ.up hb2
  replace hb1 := kept_trans hb1 hb2
  clear hb2
  have hA2 := addK_any hM hD (Nat.le_refl _)
  unfold AddPost at hA2
  rw [HAM.out] at hA2
  simp only [] at hA2
  obtain ⟨z0, z1, z2, z3⟩ := four_cells hy.out
  rw [hW11] at z0 z1 z2 z3
  go_wp2_with fail
  rw [← hW11]
  clear hW11 z0 z1 z2 z3
  refine hA2.mono ?_
  clear hA2
  rintro e w12 ⟨v12, rfl, hAg, hb2⟩
  replace hy := hy.below hb2 (Array.getElem?_eq_some_iff.1 hy.out).1
  replace hy7 := hy7.below hb2 (Array.getElem?_eq_some_iff.1 hy7.out).1
  replace hy9 := hy9.below hb2 (Array.getElem?_eq_some_iff.1 hy9.out).1
  replace hy11 := hy11.below hb2 (Array.getElem?_eq_some_iff.1 hy11.out).1
  replace hL := hL.up hb2
  replace hD := hD.up hb2
  replace hM := hM.up hb2
  replace hX := hX.up hb2
  replace hY := hY.up hb2
  replace hZ := hZ.up hb2
  replace hb1 := kept_trans hb1 hb2
  clear hb2
  obtain ⟨qg, cg, rfl, hcg⟩ := hAg.open
  have hS1 := descSame_any hX hD (Nat.le_refl _)
  rw [sameD_eqD, eqD_refl] at hS1
  rcases HOM.out with hz | ⟨y, hz1, hz2⟩
  · have e1 := HL1.out.trans hz
    subst e1
    clear hz hY hZ HL1 HL2 HY1 HZ1 HOM hy9 hy11
    obtain ⟨z0, z1, z2, z3⟩ := four_cells hy.out
    obtain ⟨y0, y1, y2, y3⟩ := four_cells hy7.out
    go_wp2_with fail
    refine hS1.mono ?_
    clear hS1 z0 z1 z2 z3 y0 y1 y2 y3
    rintro e w13 ⟨rfl, hb2⟩
    replace hM := hM.up hb2
    replace hAg := hAg.up hb2
    replace hb1 := kept_trans hb1 hb2
    clear hb2
    have hS3 := sameK_any hAg hM (Nat.le_refl _)
    rw [sameK_iff.2 rfl] at hS3
    go_wp2_with fail
    refine hS3.mono ?_
    clear hS3
    rintro e w15 ⟨rfl, hb2⟩
    replace hM := hM.up hb2
    replace hb1 := kept_trans hb1 hb2
    clear hb2
    have hRi := rightK_any hM (Nat.le_refl _)
    rw [HRM.out] at hRi
    go_wp2_with fail
    refine hRi.mono ?_
    clear hRi
    rintro e w16 ⟨rfl, hb2⟩
    replace hb1 := kept_trans hb1 hb2
    clear hb2
    go_wp2
    go_ret
    exact ⟨rfl, hb1⟩
  · have e1 := HL1.out.trans hz1
    subst e1
    have e2 := HL2.out.trans hz2
    subst e2
    have e3 : yd = y := HY1.out
    subst e3
    have e4 : zd = yd := HZ1.out
    subst e4
    clear hz1 hz2 HL1 HL2 HY1 HZ1 HOM
    obtain ⟨z0, z1, z2, z3⟩ := four_cells hy.out
    obtain ⟨y0, y1, y2, y3⟩ := four_cells hy7.out
    go_wp2_with fail
    refine hS1.mono ?_
    clear hS1 z0 z1 z2 z3 y0 y1 y2 y3
    rintro e w13 ⟨rfl, hb2⟩
    replace hy9 := hy9.below hb2 (Array.getElem?_eq_some_iff.1 hy9.out).1
    replace hy11 := hy11.below hb2 (Array.getElem?_eq_some_iff.1 hy11.out).1
    replace hY := hY.up hb2
    replace hZ := hZ.up hb2
    replace hM := hM.up hb2
    replace hAg := hAg.up hb2
    replace hb1 := kept_trans hb1 hb2
    clear hb2
    have hS2 := descSame_any hY hZ (Nat.le_refl _)
    rw [sameD_eqD, eqD_refl] at hS2
    obtain ⟨z0, z1, z2, z3⟩ := four_cells hy9.out
    obtain ⟨y0, y1, y2, y3⟩ := four_cells hy11.out
    go_wp2_with fail
    refine hS2.mono ?_
    clear hS2 z0 z1 z2 z3 y0 y1 y2 y3
    rintro e w14 ⟨rfl, hb2⟩
    replace hM := hM.up hb2
    replace hAg := hAg.up hb2
    replace hb1 := kept_trans hb1 hb2
    clear hb2
    have hS3 := sameK_any hAg hM (Nat.le_refl _)
    rw [sameK_iff.2 rfl] at hS3
    go_wp2_with fail
    refine hS3.mono ?_
    clear hS3
    rintro e w15 ⟨rfl, hb2⟩
    replace hM := hM.up hb2
    replace hb1 := kept_trans hb1 hb2
    clear hb2
    have hRi := rightK_any hM (Nat.le_refl _)
    rw [HRM.out] at hRi
    go_wp2_with fail
    refine hRi.mono ?_
    clear hRi
    rintro e w16 ⟨rfl, hb2⟩
    replace hb1 := kept_trans hb1 hb2
    clear hb2
    go_wp2
    go_ret
    exact ⟨rfl, hb1⟩
end Go.Proofs.YtjhmghcfhgajcaaDoor
