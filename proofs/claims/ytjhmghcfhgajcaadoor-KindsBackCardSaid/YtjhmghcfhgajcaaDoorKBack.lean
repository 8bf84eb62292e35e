/- selionlaw05.KindsBack says true. -/
import Derived.Test.YtjhmghcfhgajcaaDoorKindsD
namespace Go.Proofs.YtjhmghcfhgajcaaDoor
open Go.RowKit Go.Sel
theorem prKS_len {l : List DescL} (h : ∀ d ∈ l, d.ptrs.length ≤ 20 ∧ d.eptrs.length ≤ 20) : (prKS l).length ≤ 60060 := by
  unfold prKS
  split
  · rename_i hr
    obtain ⟨h1, _, h3⟩ := rightK_iff.1 hr
    have : ∀ r : List DescL, (∀ d ∈ r, rightD d = true) → (∀ d ∈ r, d.ptrs.length ≤ 20 ∧ d.eptrs.length ≤ 20) → (printK r).length ≤ r.length * 1001 := fun r => by
      induction r with
      | nil => intro _ _; exact Nat.zero_le _
      | cons d r ih =>
        intro g1 g2
        have e : printK (d :: r) = printD d ++ [10] ++ printK r := by unfold printK; rw [List.flatMap_cons]
        have i := ih (fun x hx => g1 x (by simp [hx])) (fun x hx => g2 x (by simp [hx]))
        have p := prS_len d (g2 d (by simp)).1 (g2 d (by simp)).2
        unfold prS at p
        rw [if_pos (g1 d (by simp))] at p
        rw [e]
        simp only [List.length_append, List.length_cons, List.length_nil]
        omega
    have := this l h1 h
    omega
  · exact Nat.zero_le _
theorem HeadDescs.short {n : Nat} {w : World} {v : Value} {ds : List DescL} (h : HeadDescs n w v ds) : ∀ d ∈ ds, d.ptrs.length ≤ 20 ∧ d.eptrs.length ≤ 20 := fun d hd => by
  obtain ⟨a, l, c, _, _, _, _, h6⟩ := h
  obtain ⟨j, hj⟩ := List.getElem?_of_mem hd
  obtain ⟨b, o, v1, v2, _, _, _, _, _, _, _, _, g1, g2⟩ := h6 j d hj
  exact ⟨g1.len, g2.len⟩
/-- A text that was printed of right ones: what it parses as. -/
theorem back_good {l : List DescL} (h : rightK l = true) : parseKB ⟨(prKS l).toArray⟩ = (l, 0, 0) ∧ prKE l = 0 := by
  unfold prKS prKE
  rw [if_pos h, if_pos h]
  exact ⟨parse_printK h, rfl⟩
theorem back_text {s : ByteArray} (h1 : rightK (parseKB s).1 = true) (h2 : printK (parseKB s).1 = s.data.toList) : (⟨(prKS (parseKB s).1).toArray⟩ : ByteArray) = s ∧ prKE (parseKB s).1 = 0 := by
  unfold prKS prKE
  rw [if_pos h1, if_pos h1, h2]
  exact ⟨bytes_ext (by simp), rfl⟩
set_option maxRecDepth 100000 in
set_option maxHeartbeats 8000000 in
theorem kindsBack_any {v : Value} {l : List DescL} {w : World} (s : ByteArray) (hl : HeadDescs w.heap.size w v l) (hR : ErrT w.heap.size w) (hT : TextOk w) :
    Calls Tryd.prog 8 #[v, .string s] w fun e w' => e = .returned (.bool true) ∧ Below w.heap.size w w' := by
  have hpl := prKS_len (HeadDescs.short hl)
  have hSh := shown05_any hR hT
  obtain ⟨va, vl, vc, hv⟩ : ∃ a l c, v = .slice a l c := by obtain ⟨a, l, c, h, _⟩ := id hl; exact ⟨a, l, c, h⟩
  subst hv
  obtain ⟨cs, hcs⟩ : ∃ x, x = s.extract 0 (min s.size 800) := ⟨_, rfl⟩
  have hcz : cs.size ≤ 100000 := by rw [hcs, ByteArray.size_extract]; omega
  have HCS := Lib.hid hcs
  clear hcs
  have HR := Lib.hid hR
  have HT := Lib.hid hT
  clear hR hT
  go_enter Tryd.func8, Tryd.ntmps8
  go_wp2_with fail
  refine hSh.mono ?_
  clear hSh
  rintro e w1 ⟨rfl, hb1⟩
  have hF := few05_any ((hl.below hb1).wider hb1.size)
  clear hl
  go_wp2_with fail
  refine hF.mono ?_
  clear hF
  rintro e w2 ⟨v2, rfl, hL, hb2⟩
  replace hb1 := kept_trans hb1 hb2
  clear hb2
  obtain ⟨q, c, rfl, hc⟩ := hL.open
  have hP := printK_any hL (Nat.le_refl _) (HT.out.up hb1)
  go_wp2_with fail
  refine hP.mono ?_
  clear hP
  rintro e w3 ⟨rfl, hb2⟩
  replace hb1 := kept_trans hb1 hb2
  replace hL := hL.up hb2
  clear hb2
  have hQ := parseK_any ⟨(prKS l).toArray⟩ w3 (by rw [ByteArray.size_mk', List.size_toArray]; omega) (HT.out.up hb1) (HR.out.up hb1)
  unfold ParseKPost at hQ
  have hcut := fun W => cut05_any s W
  simp only [← HCS.out] at hcut
  have HCUT := Lib.hid hcut
  clear hcut
  obtain ⟨ps, hps⟩ : ∃ x : ByteArray, x = ⟨(prKS l).toArray⟩ := ⟨_, rfl⟩
  rw [← hps] at hQ ⊢
  obtain ⟨pk, hpk⟩ : ∃ x, x = parseKB ps := ⟨_, rfl⟩
  rw [← hpk] at hQ
  have HPK := Lib.hid (hpk.trans (congrArg parseKB hps))
  clear hpk hps hpl
  go_wp2_with fail
  refine hQ.mono ?_
  clear hQ
  rintro e w4 ⟨v4, rfl, hL4, hb2⟩
  replace hb1 := kept_trans hb1 hb2
  replace hL := hL.up hb2
  clear hb2
  obtain ⟨q4, c4, rfl, hc4⟩ := hL4.open
  obtain ⟨br, hbr⟩ : ∃ b, b = rightK l := ⟨_, rfl⟩
  have HRR := Lib.hid hbr.symm
  have hP0 : prKE l = if br = true then 0 else 50 := by rw [hbr]; rfl
  rw [hP0]
  clear hP0 hbr
  cases br with
  | true =>
    obtain ⟨g1, g2⟩ := back_good HRR.out
    have hpk : pk = (l, 0, 0) := HPK.out.trans g1
    subst hpk
    clear g1 g2
    simp only [] at hL4 hc4 ⊢
    have hS := sameK_any hL hL4 (Nat.le_refl _)
    rw [sameK_iff.2 rfl] at hS
    clear hL4
    go_wp2_with fail
    refine hS.mono ?_
    clear hS
    rintro e w5 ⟨rfl, hb2⟩
    replace hb1 := kept_trans hb1 hb2
    replace hL := hL.up hb2
    clear hb2
    go_wp2_with fail
    refine (HCUT.out _).mono ?_
    rintro e wx ⟨rfl, hwx⟩
    subst hwx
    have hQ2 := parseK_any cs _ hcz (HT.out.up hb1) (HR.out.up hb1)
    unfold ParseKPost at hQ2
    have hsp := parseKB_spec cs
    have hbt := @back_text cs
    obtain ⟨pk2, hpk2⟩ : ∃ x, x = parseKB cs := ⟨_, rfl⟩
    rw [← hpk2] at hQ2 hsp hbt
    have HSP := Lib.hid hsp
    have HBT := Lib.hid hbt
    clear hsp hbt hpk2
    go_wp2_with fail
    refine hQ2.mono ?_
    clear hQ2
    rintro e w6 ⟨v6, rfl, hL6, hb2⟩
    replace hb1 := kept_trans hb1 hb2
    replace hL := hL.up hb2
    clear hb2
    obtain ⟨q6, c6, rfl, hc6⟩ := hL6.open
    have hP2 := printK_any hL6 (Nat.le_refl _) (HT.out.up hb1)
    clear hL6
    go_wp2_with fail
    refine hP2.mono ?_
    clear hP2
    rintro e w7 ⟨rfl, hb2⟩
    replace hb1 := kept_trans hb1 hb2
    replace hL := hL.up hb2
    clear hb2
    have hRi := rightK_any hL (Nat.le_refl _)
    rw [HRR.out] at hRi
    clear hL
    rcases HSP.out with ⟨k1, k2, k3⟩ | ⟨k1, k2, k3⟩
    · obtain ⟨t1, t2⟩ := HBT.out k2 k3
      rw [t1, t2]
      clear t1 t2 k2 k3 HBT HSP
      obtain ⟨o2, x2, y2⟩ := pk2
      simp only [Prod.mk.injEq] at k1
      obtain ⟨rfl, rfl⟩ := k1
      go_wp2_with fail
      refine hRi.mono ?_
      clear hRi
      rintro e w8 ⟨rfl, hb2⟩
      replace hb1 := kept_trans hb1 hb2
      clear hb2
      go_wp2_with fail
      refine (HCUT.out _).mono ?_
      rintro e wx ⟨rfl, hwx⟩
      subst hwx
      go_wp2
      go_ret
      exact ⟨rfl, hb1⟩
    · clear HBT HSP
      obtain ⟨o2, x2, y2⟩ := pk2
      simp only [] at k1 k2 k3
      subst k1
      rcases k3 with rfl | rfl | rfl
      all_goals
        go_wp2_with fail
        refine hRi.mono ?_
        clear hRi
        rintro e w8 ⟨rfl, hb2⟩
        replace hb1 := kept_trans hb1 hb2
        clear hb2
        go_wp2
        go_ret
        exact ⟨rfl, hb1⟩
  | false =>
    clear hL4
    go_wp2_with fail
    refine (HCUT.out _).mono ?_
    rintro e wx ⟨rfl, hwx⟩
    subst hwx
    have hQ2 := parseK_any cs _ hcz (HT.out.up hb1) (HR.out.up hb1)
    unfold ParseKPost at hQ2
    have hsp := parseKB_spec cs
    have hbt := @back_text cs
    obtain ⟨pk2, hpk2⟩ : ∃ x, x = parseKB cs := ⟨_, rfl⟩
    rw [← hpk2] at hQ2 hsp hbt
    have HSP := Lib.hid hsp
    have HBT := Lib.hid hbt
    clear hsp hbt hpk2
    go_wp2_with fail
    refine hQ2.mono ?_
    clear hQ2
    rintro e w6 ⟨v6, rfl, hL6, hb2⟩
    replace hb1 := kept_trans hb1 hb2
    replace hL := hL.up hb2
    clear hb2
    obtain ⟨q6, c6, rfl, hc6⟩ := hL6.open
    have hP2 := printK_any hL6 (Nat.le_refl _) (HT.out.up hb1)
    clear hL6
    go_wp2_with fail
    refine hP2.mono ?_
    clear hP2
    rintro e w7 ⟨rfl, hb2⟩
    replace hb1 := kept_trans hb1 hb2
    replace hL := hL.up hb2
    clear hb2
    have hRi := rightK_any hL (Nat.le_refl _)
    rw [HRR.out] at hRi
    clear hL
    rcases HSP.out with ⟨k1, k2, k3⟩ | ⟨k1, k2, k3⟩
    · obtain ⟨t1, t2⟩ := HBT.out k2 k3
      rw [t1, t2]
      clear t1 t2 k2 k3 HBT HSP
      obtain ⟨o2, x2, y2⟩ := pk2
      simp only [Prod.mk.injEq] at k1
      obtain ⟨rfl, rfl⟩ := k1
      go_wp2_with fail
      refine hRi.mono ?_
      clear hRi
      rintro e w8 ⟨rfl, hb2⟩
      replace hb1 := kept_trans hb1 hb2
      clear hb2
      go_wp2_with fail
      refine (HCUT.out _).mono ?_
      rintro e wx ⟨rfl, hwx⟩
      subst hwx
      go_wp2
      go_ret
      exact ⟨rfl, hb1⟩
    · clear HBT HSP
      obtain ⟨o2, x2, y2⟩ := pk2
      simp only [] at k1 k2 k3
      subst k1
      rcases k3 with rfl | rfl | rfl
      all_goals
        go_wp2_with fail
        refine hRi.mono ?_
        clear hRi
        rintro e w8 ⟨rfl, hb2⟩
        replace hb1 := kept_trans hb1 hb2
        clear hb2
        go_wp2
        go_ret
        exact ⟨rfl, hb1⟩
end Go.Proofs.YtjhmghcfhgajcaaDoor
