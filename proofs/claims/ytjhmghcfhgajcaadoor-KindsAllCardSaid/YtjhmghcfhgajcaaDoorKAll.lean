/- selionlaw05.KindsAll says true. -/
import Derived.Test.YtjhmghcfhgajcaaDoorKindsD
namespace Go.Sel
open Go
theorem ofK_zero {l : List DescL} {k : Int} (h : (ofK l k).2 = 0) : ∃ (j : Nat) (d : DescL), k = (j : Int) + 1 ∧ l[j]? = some d ∧ (ofK l k).1 = some d ∧ rightK l = true ∧ j < l.length := by
  unfold ofK at h ⊢
  split at h
  · rename_i hr
    split at h
    · cases h
    · rename_i hk
      obtain ⟨j, rfl⟩ : ∃ j : Nat, k = (j : Int) + 1 := ⟨(k - 1).toNat, by omega⟩
      have hj : j < l.length := by omega
      refine ⟨j, l[j], rfl, List.getElem?_eq_getElem hj, ?_, hr, hj⟩
      rw [if_pos hr, if_neg hk, show ((j : Int) + 1 - 1).toNat = j by omega]
      exact List.getElem?_eq_getElem hj
  · cases h
theorem ofK_err {l : List DescL} {k : Int} (h : ¬ (ofK l k).2 = 0) : ((ofK l k).2 = 50 ∧ rightK l = false) ∨ ((ofK l k).2 = 51 ∧ rightK l = true) := by
  unfold ofK at h ⊢
  split
  · rename_i hr
    rw [if_pos hr] at h
    split
    · exact .inr ⟨rfl, hr⟩
    · rename_i hk
      rw [if_neg hk] at h
      exact absurd rfl h
  · rename_i hr
    exact .inl ⟨rfl, by simpa using hr⟩
theorem idxK_at {l : List DescL} {j : Nat} {d : DescL} (hr : rightK l = true) (h : l[j]? = some d) : idxK l d + 1 = (j : Int) + 1 ∧ hasK l d = true ∧ rightD d = true := by
  obtain ⟨h1, h2, _⟩ := rightK_iff.1 hr
  have hm := List.mem_of_getElem? h
  have hk := hasK_iff.2 hm
  refine ⟨?_, hk, h1 d hm⟩
  unfold idxK
  rw [if_pos hk, placeN_nodup h2 h]
end Go.Sel
namespace Go.Proofs.YtjhmghcfhgajcaaDoor
open Go.RowKit Go.Sel
set_option maxRecDepth 100000 in
set_option maxHeartbeats 4000000 in
theorem kindsAll_any {v : Value} {l : List DescL} {w : World} (n : Int) (i1 : I64 n) (hl : HeadDescs w.heap.size w v l) (hR : ErrT w.heap.size w) (hT : TextOk w) :
    Calls Tryd.prog 6 #[v, .int .i64 n] w fun e w' => e = .returned (.bool true) ∧ Below w.heap.size w w' := by
  have hlen := hl.len
  have hSh := shown05_any hR hT
  clear hR hT
  obtain ⟨va, vl, vc, hv⟩ : ∃ a l c, v = .slice a l c := by obtain ⟨a, l, c, h, _⟩ := id hl; exact ⟨a, l, c, h⟩
  subst hv
  go_enter Tryd.func6, Tryd.ntmps6
  go_wp2_with fail
  refine hSh.mono ?_
  clear hSh
  rintro e w1 ⟨rfl, hb1⟩
  have hF := few05_any ((hl.below hb1).wider hb1.size)
  clear hl
  go_wp2_with fail
  refine hF.mono ?_
  clear hF
  rintro e w2 ⟨v2, rfl, hL, hb2⟩
  replace hb1 := kept_trans hb1 hb2
  clear hb2
  obtain ⟨q, c, rfl, hc⟩ := hL.open
  have hO := ofK_any n i1 hL (Nat.le_refl _)
  go_wp2_with fail
  refine hO.mono ?_
  clear hO
  rintro e w3 ⟨v3, rfl, hO3, hb2⟩
  replace hb1 := kept_trans hb1 hb2
  replace hL := hL.up hb2
  clear hb2
  obtain ⟨d, hd⟩ : ∃ d, d = (ofK l n).1.getD zeroDesc := ⟨_, rfl⟩
  rw [← hd] at hO3
  obtain ⟨v1, v2, rfl, -, -, h1, h2⟩ := id hO3
  obtain ⟨a1, d1, rfl, -⟩ := h1.open
  obtain ⟨a2, d2, rfl, -⟩ := h2.open
  clear h1 h2
  obtain ⟨W4, hW4⟩ : ∃ y, y = w3.alloc (Obj.cells #[.int .i64 d.size, .slice a1 d.ptrs.length d1, .int .i64 d.elem, .slice a2 d.eptrs.length d2] 24) := ⟨_, rfl⟩
  have hb4 : Below w3.heap.size w3 W4 := by rw [hW4]; exact kept_alloc (Below.refl _ _) _
  have hy : HasBlk w3.heap.size #[.int .i64 d.size, .slice a1 d.ptrs.length d1, .int .i64 d.elem, .slice a2 d.eptrs.length d2] 24 W4 := by rw [hW4]; exact HasBlk.new w3 _ _
  replace hb1 := kept_trans hb1 hb4
  replace hL := hL.up hb4
  replace hO3 := hO3.up hb4
  clear hb4
  by_cases he : (ofK l n).2 = 0
  · obtain ⟨j, d', rfl, hj, hj1, hr, hjl⟩ := ofK_zero he
    rw [hj1] at hd
    replace hd : d = d' := hd
    subst hd
    obtain ⟨x1, x2, x3⟩ := idxK_at hr hj
    have hFi := findK_any hL hO3 (Nat.le_refl _)
    rw [x1, x2] at hFi
    obtain ⟨y0, y1, y2, y3⟩ := four_cells hy.out
    rw [hW4] at y0 y1 y2 y3
    rw [he]
    have q1 : (j : Int) + 1 ≤ (l.length : Int) := by omega
    have q2 : (1 : Int) ≤ (j : Int) + 1 := by omega
    clear he hj hj1 hr x1 x2 hL hjl
    go_wp2_with fail
    rw [← hW4]
    clear hW4 y0 y1 y2 y3
    refine hFi.mono ?_
    clear hFi
    rintro e w5 ⟨rfl, hb5⟩
    replace hy := hy.below hb5 (Array.getElem?_eq_some_iff.1 hy.out).1
    replace hO3 := hO3.up hb5
    replace hb1 := kept_trans hb1 hb5
    clear hb5
    have hRi := right_any hO3 (Nat.le_refl _)
    rw [x3] at hRi
    obtain ⟨y0, y1, y2, y3⟩ := four_cells hy.out
    clear hO3 x3 hy
    go_wp2_with fail
    refine hRi.mono ?_
    clear hRi y0 y1 y2 y3
    rintro e w6 ⟨rfl, hb6⟩
    replace hb1 := kept_trans hb1 hb6
    go_wp2
    go_ret
    exact ⟨rfl, hb1⟩
  · have hRi := rightK_any hL (Nat.le_refl _)
    rcases ofK_err he with ⟨h1, h2⟩ | ⟨h1, h2⟩
    all_goals
      rw [h1]
      rw [h2] at hRi
      clear h1 h2 he hL hO3 hy hd
      go_wp2_with fail
      rw [← hW4]
      clear hW4
      refine hRi.mono ?_
      clear hRi
      rintro e w5 ⟨rfl, hb5⟩
      replace hb1 := kept_trans hb1 hb5
      clear hb5
      go_wp2
      go_ret
      exact ⟨rfl, hb1⟩
end Go.Proofs.YtjhmghcfhgajcaaDoor
