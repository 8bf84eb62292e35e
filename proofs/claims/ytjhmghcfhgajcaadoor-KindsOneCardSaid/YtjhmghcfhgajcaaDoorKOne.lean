/- selionlaw05.KindsOne says true. -/
import Derived.Test.YtjhmghcfhgajcaaDoorKindsD
namespace Go.Sel
open Go
theorem rightK_take {l : List DescL} (h : rightK l = true) (k : Nat) : rightK (l.take k) = true := by
  obtain ⟨h1, h2, h3⟩ := rightK_iff.1 h
  exact rightK_iff.2 ⟨fun d hd => h1 d (List.mem_of_mem_take hd), h2.sublist (List.take_sublist _ _), by rw [List.length_take]; omega⟩
/-- One is added to right ones: either it goes on, or all are not right. -/
theorem addK_step {l : List DescL} {k : Nat} {d : DescL} (hd : l[k]? = some d) (hr : rightK (l.take k) = true) :
    (addK (l.take k) d = (l.take (k + 1), (k : Int) + 1, 0) ∧ rightK (l.take (k + 1)) = true) ∨ (rightK l = false ∧ ((addK (l.take k) d).2.2 = 0 → (addK (l.take k) d).2.1 ≠ (k : Int) + 1)) := by
  have hk : k < l.length := (List.getElem?_eq_some_iff.1 hd).1
  have hlk : (l.take k).length = k := by rw [List.length_take]; omega
  have hs := take_snoc hd
  cases hl : rightK (l.take (k + 1)) with
  | true =>
    left
    have hl' := hl
    rw [hs] at hl'
    obtain ⟨h1, h2, h3⟩ := rightK_iff.1 hl'
    have hn : ¬ hasK (l.take k) d = true := fun e => (List.nodup_append.1 h2).2.2 d (hasK_iff.1 e) d (by simp) rfl
    rw [List.length_append, List.length_singleton] at h3
    refine ⟨?_, rfl⟩
    unfold addK
    rw [if_pos hr, if_pos (h1 d (by simp)), if_neg hn, if_neg (by omega), hlk, hs]
  | false =>
    right
    refine ⟨?_, ?_⟩
    · cases hq : rightK l with
      | true => rw [rightK_take hq] at hl; cases hl
      | false => rfl
    · intro h0 h1
      unfold addK at h0 h1
      rw [if_pos hr] at h0 h1
      split at h0
      · rename_i hd'
        rw [if_pos hd'] at h1
        split at h0
        · rename_i hh
          rw [if_pos hh] at h1
          have := placeN_lt.2 (hasK_iff.1 hh)
          simp only [] at h1
          omega
        · rename_i hh
          rw [if_neg hh] at h1
          split at h0
          · cases h0
          · rename_i h60
            have := rightK_snoc hr hd' hh h60
            rw [← hs, hl] at this
            cases this
      · cases h0
theorem addK_right {l : List DescL} {d : DescL} (h : (addK l d).2.2 = 0) : rightK (addK l d).1 = true := by
  unfold addK at h ⊢
  split at h
  · rename_i h1
    rw [if_pos h1]
    split at h
    · rename_i h2
      rw [if_pos h2]
      split at h
      · rename_i h3
        rw [if_pos h3]; exact h1
      · rename_i h3
        rw [if_neg h3]
        split at h
        · cases h
        · rename_i h4
          rw [if_neg h4]
          exact rightK_snoc h1 h2 h3 h4
    · cases h
  · cases h
/-- Where the loop stands: what has come, and whether all was well. -/
def OneAt (l : List DescL) (k : Nat) (p : List DescL) (b : Bool) : Prop := rightK p = true ∧ (if b = true then p = l.take k else rightK l = false)
theorem OneAt.zero (l : List DescL) : OneAt l 0 [] true := ⟨by decide, rfl⟩
end Go.Sel
namespace Go.Proofs.YtjhmghcfhgajcaaDoor
open Go.RowKit Go.Sel
set_option maxRecDepth 100000 in
set_option maxHeartbeats 8000000 in
theorem kindsOne_any {v : Value} {l : List DescL} {w : World} (hl : HeadDescs w.heap.size w v l) (hR : ErrT w.heap.size w) (hT : TextOk w) :
    Calls Tryd.prog 9 #[v] w fun e w' => e = .returned (.bool true) ∧ Below w.heap.size w w' := by
  have hlen := hl.len
  have hSh := shown05_any hR hT
  clear hR hT
  obtain ⟨va, vl, vc, hv⟩ : ∃ a l c, v = .slice a l c := by obtain ⟨a, l, c, h, _⟩ := id hl; exact ⟨a, l, c, h⟩
  subst hv
  go_enter Tryd.func9, Tryd.ntmps9
  go_wp2_with fail
  refine hSh.mono ?_
  clear hSh
  rintro e w1 ⟨rfl, hb1⟩
  have hF := few05_any ((hl.below hb1).wider hb1.size)
  clear hl
  go_wp2_with fail
  refine hF.mono ?_
  clear hF
  rintro e w2 ⟨v2, rfl, hL, hb2⟩
  replace hb1 := kept_trans hb1 hb2
  clear hb2
  obtain ⟨q, c, rfl, hc⟩ := hL.open
  go_wp2
  go_loopw [4, 5, 6, 7, 8, 9] (fun all r i _ _ _ wr => ∃ (k : Nat) (p : List DescL) (b : Bool), k ≤ l.length ∧ i = .int .i64 k ∧ r = .bool b ∧ Hid (OneAt l k p b) ∧ IsDescs wr.heap.size wr all p ∧ IsDescs wr.heap.size wr (.slice q l.length c) l ∧ Below w.heap.size w wr) (fun _ _ i _ _ _ _ => l.length - (intOf i).toNat)
  case atStart => exact ⟨0, [], true, Nat.zero_le _, rfl, rfl, Lib.hid (OneAt.zero l), IsSl.nil, hL, hb1⟩
  case round =>
    obtain ⟨k, p, b, hk, rfl, rfl, hone, hA, hL, hb⟩ := hrel
    obtain ⟨qa, ca, rfl, hca⟩ := hA.open
    by_cases hlt : k < l.length
    · obtain ⟨x, b0, o, g1, k1, g2, k2, hx, rfl, hbn, z0, z1, z2, z3, hxd⟩ := hL.atS hlt
      have hAd := addK_any hA hxd (Nat.le_refl _)
      have HX := Lib.hid hx
      unfold AddPost at hAd
      obtain ⟨r, hr⟩ : ∃ r, r = addK p x := ⟨_, rfl⟩
      rw [← hr] at hAd
      have HRE := Lib.hid hr
      clear hr hx hxd
      go_wp2_with fail
      refine hAd.mono ?_
      clear hAd z0 z1 z2 z3
      rintro e w3 ⟨v3, rfl, hA3, hb3⟩
      replace hA := hA.up hb3
      replace hL := hL.up hb3
      replace hb := kept_trans hb hb3
      clear hb3
      obtain ⟨m', n', e'⟩ := r
      simp only [] at hA3 ⊢
      obtain ⟨q3, c3, rfl, hc3⟩ := hA3.open
      have hw1 : IntKind.i64.wrap ((k : Int) + 1) = (k : Int) + 1 := by rw [IntWalk.i64_in _ (by omega)]
      cases b with
      | true =>
        obtain ⟨hp, hpt⟩ := hone.out
        rw [if_pos rfl] at hpt
        rcases addK_step HX.out (hpt ▸ hp) with ⟨s1, s2⟩ | ⟨s1, s2⟩
        · have he := HRE.out
          rw [hpt, s1] at he
          cases he
          have HO := Lib.hid (show OneAt l (k + 1) (l.take (k + 1)) true from ⟨s2, rfl⟩)
          clear hp hpt s1 s2 hone HRE hA
          rw [List.length_take] at hA3 ⊢
          go_wp2
          go_roundw
          case measure => simp [intOf]; omega
          case rel => exact ⟨k + 1, _, true, by omega, by go_num, rfl, HO, hA3, hL, hb⟩
        · rw [← hpt, ← HRE.out] at s2
          simp only [] at s2
          by_cases he : e' = 0
          · have hne : (n' == (k : Int) + 1) = false := beq_eq_false_iff_ne.2 (s2 he)
            have hm : rightK m' = true := by have := addK_right (l := p) (d := x) (by rw [← HRE.out]; exact he); rw [← HRE.out] at this; exact this
            have HO := Lib.hid (show OneAt l (k + 1) m' false from ⟨hm, by simpa using s1⟩)
            subst he
            clear hp hpt s1 s2 hone HRE hA hm
            go_wp2
            go_roundw
            case measure => simp [intOf]; omega
            case rel => exact ⟨k + 1, _, false, by omega, by go_num, rfl, HO, hA3, hL, hb⟩
          · have HO := Lib.hid (show OneAt l (k + 1) p false from ⟨hp, by simpa using s1⟩)
            clear hp hpt s1 s2 hone HRE hA3
            go_wp2
            go_roundw
            case measure => simp [intOf]; omega
            case rel => exact ⟨k + 1, _, false, by omega, by go_num, rfl, HO, hA, hL, hb⟩
      | false =>
        obtain ⟨hp, hpt⟩ := hone.out
        rw [if_neg (by decide)] at hpt
        by_cases he : e' = 0
        · have hm : rightK m' = true := by have := addK_right (l := p) (d := x) (by rw [← HRE.out]; exact he); rw [← HRE.out] at this; exact this
          have HO := Lib.hid (show OneAt l (k + 1) m' false from ⟨hm, by simpa using hpt⟩)
          subst he
          clear hp hpt hone HRE hA hm
          go_wp2
          go_roundw
          case measure => simp [intOf]; omega
          case rel => exact ⟨k + 1, _, false, by omega, by go_num, rfl, HO, hA3, hL, hb⟩
        · have HO := Lib.hid (show OneAt l (k + 1) p false from ⟨hp, by simpa using hpt⟩)
          clear hp hpt hone HRE hA3
          go_wp2
          go_roundw
          case measure => simp [intOf]; omega
          case rel => exact ⟨k + 1, _, false, by omega, by go_num, rfl, HO, hA, hL, hb⟩
    · obtain rfl : k = l.length := by omega
      have hRL := rightK_any hL (Nat.le_refl _)
      obtain ⟨hp, hpt⟩ := hone.out
      cases b with
      | true =>
        rw [if_pos rfl, List.take_length] at hpt
        subst hpt
        rw [hp] at hRL
        have HP := Lib.hid hp
        clear hp hone
        go_wp2_with fail
        refine hRL.mono ?_
        clear hRL
        rintro e w3 ⟨rfl, hb3⟩
        replace hA := hA.up hb3
        replace hL := hL.up hb3
        replace hb := kept_trans hb hb3
        clear hb3
        have hS := sameK_any hA hL (Nat.le_refl _)
        rw [sameK_iff.2 rfl] at hS
        go_wp2_with fail
        refine hS.mono ?_
        clear hS
        rintro e w4 ⟨rfl, hb3⟩
        replace hA := hA.up hb3
        replace hb := kept_trans hb hb3
        clear hb3
        have hRA := rightK_any hA (Nat.le_refl _)
        rw [HP.out] at hRA
        go_wp2_with fail
        refine hRA.mono ?_
        clear hRA
        rintro e w5 ⟨rfl, hb3⟩
        replace hb := kept_trans hb hb3
        clear hb3 hA hL
        go_wp2
        go_ret
        exact ⟨rfl, hb⟩
      | false =>
        rw [if_neg (by decide)] at hpt
        rw [hpt] at hRL
        have HP := Lib.hid hp
        clear hp hone hpt
        go_wp2_with fail
        refine hRL.mono ?_
        clear hRL
        rintro e w3 ⟨rfl, hb3⟩
        replace hA := hA.up hb3
        replace hb := kept_trans hb hb3
        clear hb3
        have hRA := rightK_any hA (Nat.le_refl _)
        rw [HP.out] at hRA
        go_wp2_with fail
        refine hRA.mono ?_
        clear hRA
        rintro e w5 ⟨rfl, hb3⟩
        replace hb := kept_trans hb hb3
        clear hb3 hA hL
        go_wp2
        go_ret
        exact ⟨rfl, hb⟩
end Go.Proofs.YtjhmghcfhgajcaaDoor
