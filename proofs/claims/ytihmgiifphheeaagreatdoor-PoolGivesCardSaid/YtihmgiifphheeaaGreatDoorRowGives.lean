/- PoolGives: for every input the law says true, and what it was given reads as before. Conditions: the package variables that the row lists hold what they are laid with (the card ties that to the text). -/
import Derived.Test.YtihmgiifphheeaaGreatDoorGives
import Derived.Test.YtihmgiifphheeaaGreatDoorRowG
import Derived.Test.YtihmgiifphheeaaGreatDoorRowV
import Derived.Test.YtihmgiifphheeaaGreatDoorRows
import Derived.Test.YtihmgiifphheeaaGreatDoorTie
import Derived.Test.YtihmgiifphheeaaGreatDoorCards
import Derived.SevenTiedAt
import Derived.Lib.SmallJoins
namespace Go.Proofs.YtihmgiifphheeaaGreatDoor.lawPoolGives
open Go.RowKit Go.Sel Go.ChangeShapes Go.WideShapes Go.Joins Go.Proofs.YtihmgiifphheeaaGreatDoor

set_option maxRecDepth 100000 in
theorem lifted (os : Os) (started : os.Started) (H : Type) (enc : TypeId × Value → H) :
    ReturnsInHanded {} Tryz.checked os 4 .any (fun w args => (Rows.poolGivesSpec.pre enc Tryz.prog Tryz.f4 [] false w args ∧ laidMetH Tryz.prog Ld w) ∧ sizedMet enc Tryz.prog Tryz.f4 (OpenSpec.ofChange Rows.poolGivesSpec) false w args)
      (Rows.poolGivesSpec.post enc Tryz.prog Tryz.f4 false true false false) := by
  refine returnsInHanded_of_change_and (C := Tryz.checked) (X := fun w _ => laidMetH Tryz.prog Ld w) (fun _ _ _ hh h => h.of_heap hh) Tryz.own started (by kernel_rfl) Tryz.func4
    (ChangeSpec.witness_at (enc := enc) (C := Tryz.checked) (os := os) (X := fun w _ => laidMetH Tryz.prog Ld w) false (laidWorld os) #[.agg #[.slice none 0 0, .slice none 0 0], .int .i64 0, .slice none 0 0] 8 rfl (by kernel_rfl) (by kernel_rfl) (by kernel_rfl) (by kernel_rfl) (by kernel_rfl) (laidWorld_met os _)) ?_
  intro W base args ds gs before hval0 hW _ _ hL _
  have hval : ∀ (j : Nat) t v, Tryz.f4.params[j]? = some t → args[j]? = some v → Value.okWide Tryz.prog W .any base t v := hval0
  have hW' := hW
  obtain ⟨p, q, hA0, hV0, he0, hfz, hnd⟩ := hW
  have hA : DataW.TrodAll enc Tryz.prog W 0 (fun _ => true) true Tryz.f4.params.toList args.toList ds p := hA0
  rw [Tryz.params4] at hA hval
  obtain ⟨v0, v1, v2, d0, d1, d2, p0, p1, p2, rfl, rfl, rfl, h0, h1, h2⟩ := trodAll_three hA
  replace hL : laidMetH Tryz.prog Ld W := hL
  have hE := errT_of_laid hL
  obtain ⟨a0, a1, q0, q1, hne⟩ := sentinels_of_laid hL
  have hR : RunErrs a0 a1 W.heap.size W := ⟨q0, q1, hne⟩
  obtain ⟨rfl, _⟩ := trodVars_none (show DataW.TrodVars enc Tryz.prog W (fun _ => true) [] gs q from hV0)
  have fin : ∀ (W' : World), Below W.heap.size W W' → Rows.poolGivesSpec.post enc Tryz.prog Tryz.f4 false true false false W #[v0, v1, v2] (.bool true) W' := fun W' hb =>
    law_post (tb := 4) Tryz.kids Tryz.full (by rw [Tryz.params4, Tryz.size]; decide) Tryz.underlying4 rfl rfl rfl rfl rfl hW' hb
  clear hA0 hval0 hW' hV0 he0 hfz hnd hA
  obtain ⟨v0a, v0b, y0a, y0b, m0, rfl, -, -, ha0, hb0⟩ := open_agg2 Tryz.underlying25 (by kernel_rfl) (by kernel_rfl) (hval 0 25 v0 rfl rfl) h0
  obtain ⟨xs0, hs0⟩ := head_of_trod Tryz.underlying22 Tryz.underlying3 (by kernel_rfl) ha0
  obtain ⟨tt0, ht0⟩ := heads_of_trod Tryz.underlying23 Tryz.underlying22 Tryz.underlying3 (by kernel_rfl) (by kernel_rfl) hb0
  obtain ⟨n1, rfl, -, -, wn1⟩ := open_int Tryz.underlying3 (hval 1 3 v1 rfl rfl) h1
  obtain ⟨fu2, hf2⟩ := h2
  obtain ⟨a2, l2, c2, rfl⟩ := okWide_slice Tryz.underlying22 (hval 2 22 v2 rfl rfl)
  obtain ⟨xs2, hs2⟩ := head_of_trod Tryz.underlying22 Tryz.underlying3 (by kernel_rfl) (show DataW.trod enc Tryz.prog W 0 (fun _ => true) true fu2 22 [.slice a2 l2 c2] = some _ from hf2)
  exact (gives_any n1 (wf_I64 wn1) hs2 hs0 ht0 (Nat.le_refl _) hE hR).mono fun e W' ⟨he, hb⟩ => ⟨_, he, fin W' hb⟩

theorem row_holds : Rows.PoolGivesSaid :=
  OpenClaim.holds_of_wide 4 Tryz.f4 rfl rfl rfl rfl rfl rfl rfl ⟨rfl, rfl, rfl, rfl, rfl⟩ rfl rfl rfl rfl rfl (by kernel_rfl) Tryz.func4 (by kernel_rfl)
    (of_decide_eq_true (by kernel_rfl)) (by unfold Func.isWrapper; rw [if_neg (of_decide_eq_false (by kernel_rfl))]; exact ⟨rfl, rfl⟩)
    (fun os started H enc _ => lifted os started H enc)

/-- The card: the row, its variables tied to the text. -/
theorem proved : Rows.PoolGivesCardSaid :=
  Claim7.holds_tied_plain_at .later [] [.handle, .sentinel, .sentinel] true (true, "5048b3496de747e06ac4f84bf4d692d3f5d3885e288bb33edb4e93b687d0f25e") true
    row_holds (fun _ h => by cases h) (by kernel_rfl) (fun _ h => by cases h) poolGives_row_tie rfl ⟨rfl, rfl⟩ (by kernel_rfl) rfl
    (fun f fn hf hfn => by
      obtain rfl : f = 4 := Option.some.inj (hf.symm.trans (by kernel_rfl))
      obtain rfl : fn = Tryz.f4 := (Option.some.inj (Tryz.func4.symm.trans hfn)).symm
      exact ⟨by kernel_rfl, fun j t ht => by
        rw [Tryz.params4] at ht
        have hm := List.mem_of_getElem? (l := [25, 3, 22]) (i := j) (a := t) (by simpa using ht)
        simp only [List.mem_cons, List.not_mem_nil, or_false] at hm
        rcases hm with rfl | rfl | rfl
        · exact (show Tryz.prog.wantsStandIn 25 = false by kernel_rfl)
        · exact (show Tryz.prog.wantsStandIn 3 = false by kernel_rfl)
        · exact (show Tryz.prog.wantsStandIn 22 = false by kernel_rfl)⟩)
    (by kernel_rfl)
end Go.Proofs.YtihmgiifphheeaaGreatDoor.lawPoolGives
