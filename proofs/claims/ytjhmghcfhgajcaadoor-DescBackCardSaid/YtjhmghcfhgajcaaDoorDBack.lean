/- The walk of selionlaw04.DescBack. (Printed by laws04.py.) -/
import Derived.Test.YtjhmghcfhgajcaaDoorDesc17
namespace Go.Proofs.YtjhmghcfhgajcaaDoor
open Go.RowKit Go.Sel

set_option maxRecDepth 100000 in
set_option maxHeartbeats 8000000 in
theorem descBack_any {n : Nat} {a0 a1 a2 : Addr} {v1 v2 : Value} {xs ys : List Int} {w : World} (size elem : Int) (i1 : I64 size) (i2 : I64 elem) (s : ByteArray) (hs : Head20 n w v1 xs) (ht : Head20 n w v2 ys) (hn : n ≤ w.heap.size) (hE : AddrErrs a0 a1 a2 w.heap.size w) (hR : ErrT w.heap.size w) (hT : TextOk w) :
    Calls Tryd.prog 5 #[.agg #[.int .i64 size, v1, .int .i64 elem, v2], .string s] w fun e w' => e = .returned (.bool true) ∧ Below w.heap.size w w' := by
  obtain ⟨w1, hw1⟩ : ∃ y, y = w.alloc (Obj.cells #[.int .i64 size, v1, .int .i64 elem, v2] 24) := ⟨_, rfl⟩
  have hB : Below w.heap.size w w1 := by rw [hw1]; exact kept_alloc (Below.refl _ _) _
  have hx : HasBlk w.heap.size #[.int .i64 size, v1, .int .i64 elem, v2] 24 w1 := by rw [hw1]; exact HasBlk.new w _ _
  have hS := shown04_any (hE.up hB) (hR.up hB) (hT.up hB)
  go_enter Tryd.func5, Tryd.ntmps5
  go_wp2_with fail
  rw [← hw1]
  clear hw1
  refine hS.mono ?_
  clear hS
  rintro e w2 ⟨rfl, hb⟩
  replace hx := hx.below hb (Array.getElem?_eq_some_iff.1 hx.out).1
  replace hB := kept_trans hB hb
  clear hb
  have hC := descCut_any (w := w2) size elem i1 i2 (hs.below (hB.mono hn)) (ht.below (hB.mono hn)) (Nat.le_trans hn hB.size)
  obtain ⟨y0, y1, y2, y3⟩ := four_cells hx.out
  go_wp2_with fail
  refine hC.mono ?_
  clear hC y0 y1 y2 y3
  rintro e w3 ⟨⟨v, rfl, hD⟩, hb3⟩
  obtain ⟨d, hd⟩ : ∃ d : DescL, d = ⟨size, xs, elem, ys⟩ := ⟨_, rfl⟩
  rw [← hd] at hD
  have hl1 : d.ptrs.length ≤ 20 := by rw [hd]; exact hs.len
  have hl2 : d.eptrs.length ≤ 20 := by rw [hd]; exact ht.len
  clear hd
  have hD0 := hD
  obtain ⟨p1, p2, rfl, j1, j2, h1, h2⟩ := hD
  obtain ⟨q1, c1, rfl, hc1⟩ := h1.open
  obtain ⟨q2, c2, rfl, hc2⟩ := h2.open
  clear h1 h2 hc1 hc2
  have hx3 := hx.below hb3 (Array.getElem?_eq_some_iff.1 hx.out).1
  have hB3 := kept_trans hB hb3
  have hs3 := hB3.size
  clear hx hB hb3
  obtain ⟨y0, y1, y2, y3⟩ := four_cells hx3.out
  have f0 := row_frozen4 hx3.out 0
  have f1 := row_frozen4 hx3.out 1
  have f2 := row_frozen4 hx3.out 2
  have f3 := row_frozen4 hx3.out 3
  have hx4 := write4 hx3.out (.int .i64 d.size) (.slice q1 d.ptrs.length c1) (.int .i64 d.elem) (.slice q2 d.eptrs.length c2)
  have hO : Below w.heap.size w3 ((((w3.setCell ⟨w.heap.size, 0, none⟩ (.int .i64 d.size)).setCell ⟨w.heap.size, 1, none⟩ (.slice q1 d.ptrs.length c1)).setCell ⟨w.heap.size, 2, none⟩ (.int .i64 d.elem)).setCell ⟨w.heap.size, 3, none⟩ (.slice q2 d.eptrs.length c2)) :=
    ((((Below.refl w.heap.size w3).setCell (p := ⟨w.heap.size, 0, none⟩) (Nat.le_refl _) _).setCell (p := ⟨w.heap.size, 1, none⟩) (Nat.le_refl _) _).setCell (p := ⟨w.heap.size, 2, none⟩) (Nat.le_refl _) _).setCell (p := ⟨w.heap.size, 3, none⟩) (Nat.le_refl _) _
  obtain ⟨w4, hw4⟩ : ∃ y, y = ((((w3.setCell ⟨w.heap.size, 0, none⟩ (.int .i64 d.size)).setCell ⟨w.heap.size, 1, none⟩ (.slice q1 d.ptrs.length c1)).setCell ⟨w.heap.size, 2, none⟩ (.int .i64 d.elem)).setCell ⟨w.heap.size, 3, none⟩ (.slice q2 d.eptrs.length c2)) := ⟨_, rfl⟩
  rw [← hw4] at hx4 hO
  have hB := hB3.trans hO
  replace hD := (hD0.below (hO.mono hn)).wider (Nat.le_trans hn hB.size)
  have hx : HasBlk w.heap.size #[.int .i64 d.size, .slice q1 d.ptrs.length c1, .int .i64 d.elem, .slice q2 d.eptrs.length c2] 24 w4 := hx4
  clear hD0 hx3 hx4 hB3 hO
  have hpl := prS_len d hl1 hl2
  have hC := print_any hD (hT.up hB)
  obtain ⟨z0a, z0b, z0c, z0d⟩ := four_cells hx.out
  rw [hw4] at z0a z0b z0c z0d
  go_wp2_with fail
  rw [← hw4]
  clear hw4 y0 y1 y2 y3 f0 f1 f2 f3
  clear z0a z0b z0c z0d
  refine hC.mono ?_
  clear hC
  rintro e w5 ⟨rfl, hb⟩
  replace hx := hx.below hb (Array.getElem?_eq_some_iff.1 hx.out).1
  replace hD := hD.up hb
  replace hB := kept_trans hB hb
  clear hb
  obtain ⟨ps, hps⟩ : ∃ x : ByteArray, x = ⟨(prS d).toArray⟩ := ⟨_, rfl⟩
  have hpz : ps.size ≤ 100000 := by rw [hps, ByteArray.size_mk', List.size_toArray]; omega
  have hpd : ps.data.toList = prS d := by rw [hps]
  rw [← hps]
  clear hps hpl
  have hC := parse_any ps w5 hpz (hT.up hB)
  go_wp2_with fail
  refine hC.mono ?_
  clear hC
  rintro e w6 ⟨v5, rfl, hA, hb⟩
  replace hx := hx.below hb (Array.getElem?_eq_some_iff.1 hx.out).1
  replace hD := hD.up hb
  replace hB := kept_trans hB hb
  clear hb
  obtain ⟨a, ha⟩ : ∃ a, a = (parseL ps.data.toList).getD zeroDesc := ⟨_, rfl⟩
  obtain ⟨pe, hpe⟩ : ∃ x, x = parseE ps.data.toList := ⟨_, rfl⟩
  rw [← ha] at hA
  rw [← hpe]
  rw [hpd] at ha hpe
  clear hpd
  have hA0 := hA
  obtain ⟨u1, u2, rfl, -, -, k1, k2⟩ := hA
  obtain ⟨s1, t1, rfl, -⟩ := k1.open
  obtain ⟨s2, t2, rfl, -⟩ := k2.open
  clear k1 k2
  obtain ⟨wa, hwa⟩ : ∃ y, y = w6.alloc (Obj.cells #[.int .i64 a.size, .slice s1 a.ptrs.length t1, .int .i64 a.elem, .slice s2 a.eptrs.length t2] 24) := ⟨_, rfl⟩
  have hb : Below w6.heap.size w6 wa := by rw [hwa]; exact kept_alloc (Below.refl _ _) _
  have hy : HasBlk w6.heap.size #[.int .i64 a.size, .slice s1 a.ptrs.length t1, .int .i64 a.elem, .slice s2 a.eptrs.length t2] 24 wa := by rw [hwa]; exact HasBlk.new w6 _ _
  have hA := hA0.up hb
  clear hA0
  replace hx := hx.below hb (Array.getElem?_eq_some_iff.1 hx.out).1
  replace hD := hD.up hb
  replace hB := kept_trans hB hb
  clear hb
  have HA := Lib.hid ha
  have HPE := Lib.hid hpe
  clear ha hpe
  cases hr : rightD d with
  | false =>
    have ha := HA.out
    have hpe := HPE.out
    have HR := Lib.hid hr
    have e0 : prE d = 40 := by unfold prE; rw [if_neg (by rw [hr]; decide)]
    rw [e0]
    clear ha hpe e0 hr
    have hC := cut04_any s wa
    go_wp2_with fail
    rw [← hwa]
    clear hwa
    refine hC.mono ?_
    clear hC
    rintro e w' ⟨rfl, rfl⟩
    have hb := Below.refl wa.heap.size wa
    replace hx := hx.below hb (Array.getElem?_eq_some_iff.1 hx.out).1
    replace hy := hy.below hb (Array.getElem?_eq_some_iff.1 hy.out).1
    replace hD := hD.up hb
    replace hA := hA.up hb
    replace hB := kept_trans hB hb
    clear hb
    obtain ⟨cs, hcs⟩ : ∃ x, x = s.extract 0 (min s.size 200) := ⟨_, rfl⟩
    have hcz : cs.size ≤ 100000 := by rw [hcs, ByteArray.size_extract]; omega
    rw [← hcs]
    have HCS := Lib.hid hcs
    clear hcs
    have hC := parse_any cs wa hcz (hT.up hB)
    go_wp2_with fail
    refine hC.mono ?_
    clear hC
    rintro e w8 ⟨v6, rfl, hQ, hb⟩
    replace hx := hx.below hb (Array.getElem?_eq_some_iff.1 hx.out).1
    replace hy := hy.below hb (Array.getElem?_eq_some_iff.1 hy.out).1
    replace hD := hD.up hb
    replace hA := hA.up hb
    replace hB := kept_trans hB hb
    clear hb
    obtain ⟨c, hc⟩ : ∃ a, a = (parseL cs.data.toList).getD zeroDesc := ⟨_, rfl⟩
    obtain ⟨ce, hce⟩ : ∃ x, x = parseE cs.data.toList := ⟨_, rfl⟩
    rw [← hc] at hQ
    rw [← hce]
    have HC := Lib.hid hc
    have HCE := Lib.hid hce
    clear hc hce
    have hQ0 := hQ
    obtain ⟨u3, u4, rfl, -, -, k3, k4⟩ := hQ
    obtain ⟨s3, t3, rfl, -⟩ := k3.open
    obtain ⟨s4, t4, rfl, -⟩ := k4.open
    clear k3 k4
    obtain ⟨wb, hwb⟩ : ∃ y, y = w8.alloc (Obj.cells #[.int .i64 c.size, .slice s3 c.ptrs.length t3, .int .i64 c.elem, .slice s4 c.eptrs.length t4] 24) := ⟨_, rfl⟩
    have hb : Below w8.heap.size w8 wb := by rw [hwb]; exact kept_alloc (Below.refl _ _) _
    have hv : HasBlk w8.heap.size #[.int .i64 c.size, .slice s3 c.ptrs.length t3, .int .i64 c.elem, .slice s4 c.eptrs.length t4] 24 wb := by rw [hwb]; exact HasBlk.new w8 _ _
    have hQ := hQ0.up hb
    clear hQ0
    replace hx := hx.below hb (Array.getElem?_eq_some_iff.1 hx.out).1
    replace hy := hy.below hb (Array.getElem?_eq_some_iff.1 hy.out).1
    replace hD := hD.up hb
    replace hA := hA.up hb
    replace hB := kept_trans hB hb
    clear hb
    have hC := print_any hQ (hT.up hB)
    obtain ⟨z0a, z0b, z0c, z0d⟩ := four_cells hv.out
    rw [hwb] at z0a z0b z0c z0d
    go_wp2_with fail
    rw [← hwb]
    clear hwb
    clear z0a z0b z0c z0d
    refine hC.mono ?_
    clear hC
    rintro e w9 ⟨rfl, hb⟩
    replace hx := hx.below hb (Array.getElem?_eq_some_iff.1 hx.out).1
    replace hy := hy.below hb (Array.getElem?_eq_some_iff.1 hy.out).1
    replace hv := hv.below hb (Array.getElem?_eq_some_iff.1 hv.out).1
    replace hD := hD.up hb
    replace hA := hA.up hb
    replace hQ := hQ.up hb
    replace hB := kept_trans hB hb
    clear hb
    have hRi := right_any hD (Nat.le_refl _)
    rw [HR.out] at hRi
    have hCu := cut04_any s
    have hc := HC.out
    have hce := HCE.out
    obtain ⟨z0, z1, z2, z3⟩ := four_cells hx.out
    obtain ⟨z4, z5, z6, z7⟩ := four_cells hv.out
    cases hpc : parseL cs.data.toList with
    | none =>
      have f1 : ce = 40 := by rw [hce]; unfold parseE; rw [hpc]; rfl
      subst f1
      have f2 : c.ptrs.length = 0 := by rw [hc, hpc]; rfl
      clear hc hce hpc hE hR hT hx hy hv hD hA hQ hCu
      go_wp2_with fail
      refine hRi.mono ?_
      clear hRi
      rintro e wz ⟨rfl, hb⟩
      have q5 := (hb.cell (p := ⟨w8.heap.size, 1, none⟩) (World.block_lt_of_cell? _ _ z5)).trans z5
      go_wp2
      go_ret
      exact ⟨rfl, kept_trans hB hb⟩
    | some dd =>
      obtain ⟨g1, g2⟩ := parseL_some hpc
      have f0 : c = dd := by rw [hc, hpc]; rfl
      have f1 : ce = 0 := by rw [hce]; unfold parseE; rw [hpc]; rfl
      subst f1
      have f2 : prE c = 0 := by rw [f0]; unfold prE; rw [if_pos g1]
      have f3 : (⟨(prS c).toArray⟩ : ByteArray) = cs := by rw [f0]; unfold prS; rw [if_pos g1, g2]
      rw [f2, f3]
      have f4 : (cs.toList == cs.toList) = true := beq_self_eq_true _
      clear f2 f3 hc hce hpc hE hR hT hx hy hv hD hA hQ g1 g2 f0
      go_wp2_with fail
      refine hRi.mono ?_
      clear hRi
      rintro e wz ⟨rfl, hb⟩
      go_wp2_with fail
      refine (hCu wz).mono ?_
      rintro e w' ⟨rfl, rfl⟩
      rw [← HCS.out]
      go_wp2
      go_ret
      exact ⟨rfl, kept_trans hB hb⟩
  | true =>
    have ha := HA.out
    have hpe := HPE.out
    have HR := Lib.hid hr
    have e0 : prE d = 0 := by unfold prE; rw [if_pos hr]
    have hPd : parseL (prS d) = some d := by unfold prS; rw [if_pos hr]; exact parseL_print hr
    have ead : a = d := by rw [ha, hPd]; rfl
    have epe : pe = 0 := by rw [hpe]; unfold parseE; rw [hPd]; rfl
    subst epe
    have hsm : sameD d d = true := by unfold sameD; simp
    rw [e0]
    clear hPd ha hpe e0 hr
    subst ead
    have hC := descSame_any hA hD (Nat.le_refl _)
    obtain ⟨z0a, z0b, z0c, z0d⟩ := four_cells hx.out
    obtain ⟨z1a, z1b, z1c, z1d⟩ := four_cells hy.out
    rw [hwa] at z0a z0b z0c z0d z1a z1b z1c z1d
    rw [hsm] at hC
    clear hsm
    go_wp2_with fail
    rw [← hwa]
    clear hwa
    clear z0a z0b z0c z0d z1a z1b z1c z1d
    refine hC.mono ?_
    clear hC
    rintro e w7 ⟨rfl, hb⟩
    replace hx := hx.below hb (Array.getElem?_eq_some_iff.1 hx.out).1
    replace hy := hy.below hb (Array.getElem?_eq_some_iff.1 hy.out).1
    replace hD := hD.up hb
    replace hA := hA.up hb
    replace hB := kept_trans hB hb
    clear hb
    have hC := cut04_any s w7
    go_wp2_with fail
    refine hC.mono ?_
    clear hC
    rintro e w' ⟨rfl, rfl⟩
    have hb := Below.refl w7.heap.size w7
    replace hx := hx.below hb (Array.getElem?_eq_some_iff.1 hx.out).1
    replace hy := hy.below hb (Array.getElem?_eq_some_iff.1 hy.out).1
    replace hD := hD.up hb
    replace hA := hA.up hb
    replace hB := kept_trans hB hb
    clear hb
    obtain ⟨cs, hcs⟩ : ∃ x, x = s.extract 0 (min s.size 200) := ⟨_, rfl⟩
    have hcz : cs.size ≤ 100000 := by rw [hcs, ByteArray.size_extract]; omega
    rw [← hcs]
    have HCS := Lib.hid hcs
    clear hcs
    have hC := parse_any cs w7 hcz (hT.up hB)
    go_wp2_with fail
    refine hC.mono ?_
    clear hC
    rintro e w8 ⟨v6, rfl, hQ, hb⟩
    replace hx := hx.below hb (Array.getElem?_eq_some_iff.1 hx.out).1
    replace hy := hy.below hb (Array.getElem?_eq_some_iff.1 hy.out).1
    replace hD := hD.up hb
    replace hA := hA.up hb
    replace hB := kept_trans hB hb
    clear hb
    obtain ⟨c, hc⟩ : ∃ a, a = (parseL cs.data.toList).getD zeroDesc := ⟨_, rfl⟩
    obtain ⟨ce, hce⟩ : ∃ x, x = parseE cs.data.toList := ⟨_, rfl⟩
    rw [← hc] at hQ
    rw [← hce]
    have HC := Lib.hid hc
    have HCE := Lib.hid hce
    clear hc hce
    have hQ0 := hQ
    obtain ⟨u3, u4, rfl, -, -, k3, k4⟩ := hQ
    obtain ⟨s3, t3, rfl, -⟩ := k3.open
    obtain ⟨s4, t4, rfl, -⟩ := k4.open
    clear k3 k4
    obtain ⟨wb, hwb⟩ : ∃ y, y = w8.alloc (Obj.cells #[.int .i64 c.size, .slice s3 c.ptrs.length t3, .int .i64 c.elem, .slice s4 c.eptrs.length t4] 24) := ⟨_, rfl⟩
    have hb : Below w8.heap.size w8 wb := by rw [hwb]; exact kept_alloc (Below.refl _ _) _
    have hv : HasBlk w8.heap.size #[.int .i64 c.size, .slice s3 c.ptrs.length t3, .int .i64 c.elem, .slice s4 c.eptrs.length t4] 24 wb := by rw [hwb]; exact HasBlk.new w8 _ _
    have hQ := hQ0.up hb
    clear hQ0
    replace hx := hx.below hb (Array.getElem?_eq_some_iff.1 hx.out).1
    replace hy := hy.below hb (Array.getElem?_eq_some_iff.1 hy.out).1
    replace hD := hD.up hb
    replace hA := hA.up hb
    replace hB := kept_trans hB hb
    clear hb
    have hC := print_any hQ (hT.up hB)
    obtain ⟨z0a, z0b, z0c, z0d⟩ := four_cells hv.out
    rw [hwb] at z0a z0b z0c z0d
    go_wp2_with fail
    rw [← hwb]
    clear hwb
    clear z0a z0b z0c z0d
    refine hC.mono ?_
    clear hC
    rintro e w9 ⟨rfl, hb⟩
    replace hx := hx.below hb (Array.getElem?_eq_some_iff.1 hx.out).1
    replace hy := hy.below hb (Array.getElem?_eq_some_iff.1 hy.out).1
    replace hv := hv.below hb (Array.getElem?_eq_some_iff.1 hv.out).1
    replace hD := hD.up hb
    replace hA := hA.up hb
    replace hQ := hQ.up hb
    replace hB := kept_trans hB hb
    clear hb
    have hRi := right_any hD (Nat.le_refl _)
    rw [HR.out] at hRi
    have hCu := cut04_any s
    have hc := HC.out
    have hce := HCE.out
    obtain ⟨z0, z1, z2, z3⟩ := four_cells hx.out
    obtain ⟨z4, z5, z6, z7⟩ := four_cells hv.out
    cases hpc : parseL cs.data.toList with
    | none =>
      have f1 : ce = 40 := by rw [hce]; unfold parseE; rw [hpc]; rfl
      subst f1
      have f2 : c.ptrs.length = 0 := by rw [hc, hpc]; rfl
      clear hc hce hpc hE hR hT hx hy hv hD hA hQ hCu
      go_wp2_with fail
      refine hRi.mono ?_
      clear hRi
      rintro e wz ⟨rfl, hb⟩
      have q5 := (hb.cell (p := ⟨w8.heap.size, 1, none⟩) (World.block_lt_of_cell? _ _ z5)).trans z5
      go_wp2
      go_ret
      exact ⟨rfl, kept_trans hB hb⟩
    | some dd =>
      obtain ⟨g1, g2⟩ := parseL_some hpc
      have f0 : c = dd := by rw [hc, hpc]; rfl
      have f1 : ce = 0 := by rw [hce]; unfold parseE; rw [hpc]; rfl
      subst f1
      have f2 : prE c = 0 := by rw [f0]; unfold prE; rw [if_pos g1]
      have f3 : (⟨(prS c).toArray⟩ : ByteArray) = cs := by rw [f0]; unfold prS; rw [if_pos g1, g2]
      rw [f2, f3]
      have f4 : (cs.toList == cs.toList) = true := beq_self_eq_true _
      clear f2 f3 hc hce hpc hE hR hT hx hy hv hD hA hQ g1 g2 f0
      go_wp2_with fail
      refine hRi.mono ?_
      clear hRi
      rintro e wz ⟨rfl, hb⟩
      go_wp2_with fail
      refine (hCu wz).mono ?_
      rintro e w' ⟨rfl, rfl⟩
      rw [← HCS.out]
      go_wp2
      go_ret
      exact ⟨rfl, kept_trans hB hb⟩
end Go.Proofs.YtjhmghcfhgajcaaDoor
