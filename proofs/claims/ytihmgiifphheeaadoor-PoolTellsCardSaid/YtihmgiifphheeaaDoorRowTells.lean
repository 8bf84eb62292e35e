/- PoolTells: for every input the law says true, and what it was given reads as before. Conditions: the package variables that the row lists hold what they are laid with (the card ties that to the text). -/
import Derived.Test.YtihmgiifphheeaaDoorTells
import Derived.Test.YtihmgiifphheeaaDoorRowV
import Derived.Test.YtihmgiifphheeaaDoorRows
import Derived.Test.YtihmgiifphheeaaDoorTie
import Derived.Test.YtihmgiifphheeaaDoorCards
import Derived.SevenTiedAt
import Derived.Lib.SmallJoins
namespace Go.Proofs.YtihmgiifphheeaaDoor.lawPoolTells
open Go.RowKit Go.Sel Go.ChangeShapes Go.WideShapes Go.Joins Go.Proofs.YtihmgiifphheeaaDoor

set_option maxRecDepth 100000 in
theorem lifted (os : Os) (started : os.Started) (H : Type) (enc : TypeId × Value → H) :
    ReturnsInHanded {} Tryd.checked os 5 .any (fun w args => (Rows.poolTellsSpec.pre enc Tryd.prog Tryd.f5 [] false w args ∧ laidMetH Tryd.prog Ld w) ∧ sizedMet enc Tryd.prog Tryd.f5 (OpenSpec.ofChange Rows.poolTellsSpec) false w args)
      (Rows.poolTellsSpec.post enc Tryd.prog Tryd.f5 false true false false) := by
  refine returnsInHanded_of_change_and (C := Tryd.checked) (X := fun w _ => laidMetH Tryd.prog Ld w) (fun _ _ _ hh h => h.of_heap hh) Tryd.own started (by kernel_rfl) Tryd.func5
    (ChangeSpec.witness_at (enc := enc) (C := Tryd.checked) (os := os) (X := fun w _ => laidMetH Tryd.prog Ld w) false (laidWorld os) #[.agg #[.slice none 0 0, .slice none 0 0], .agg #[.slice none 0 0, .slice none 0 0], .int .i64 0] 8 rfl (by kernel_rfl) (by kernel_rfl) (by kernel_rfl) (by kernel_rfl) (by kernel_rfl) (laidWorld_met os _)) ?_
  intro W base args ds gs before hval0 hW _ _ hL _
  have hval : ∀ (j : Nat) t v, Tryd.f5.params[j]? = some t → args[j]? = some v → Value.okWide Tryd.prog W .any base t v := hval0
  have hW' := hW
  obtain ⟨p, q, hA0, hV0, he0, hfz, hnd⟩ := hW
  have hA : DataW.TrodAll enc Tryd.prog W 0 (fun _ => true) true Tryd.f5.params.toList args.toList ds p := hA0
  rw [Tryd.params5] at hA hval
  obtain ⟨v0, v1, v2, d0, d1, d2, p0, p1, p2, rfl, rfl, rfl, h0, h1, h2⟩ := trodAll_three hA
  replace hL : laidMetH Tryd.prog Ld W := hL
  have hE := errT_of_laid hL
  obtain ⟨a0, a1, q0, q1, hne⟩ := sentinels_of_laid hL
  have hR : RunErrs a0 a1 W.heap.size W := ⟨q0, q1, hne⟩
  obtain ⟨rfl, _⟩ := trodVars_none (show DataW.TrodVars enc Tryd.prog W (fun _ => true) [] gs q from hV0)
  have fin : ∀ (W' : World), Below W.heap.size W W' → Rows.poolTellsSpec.post enc Tryd.prog Tryd.f5 false true false false W #[v0, v1, v2] (.bool true) W' := fun W' hb =>
    law_post (tb := 4) Tryd.kids Tryd.full (by rw [Tryd.params5, Tryd.size]; decide) Tryd.underlying4 rfl rfl rfl rfl rfl hW' hb
  clear hA0 hval0 hW' hV0 he0 hfz hnd hA
  obtain ⟨v0a, v0b, y0a, y0b, m0, rfl, -, -, ha0, hb0⟩ := open_agg2 Tryd.underlying25 (by kernel_rfl) (by kernel_rfl) (hval 0 25 v0 rfl rfl) h0
  obtain ⟨xs0, hs0⟩ := head_of_trod Tryd.underlying22 Tryd.underlying3 (by kernel_rfl) ha0
  obtain ⟨tt0, ht0⟩ := heads_of_trod Tryd.underlying23 Tryd.underlying22 Tryd.underlying3 (by kernel_rfl) (by kernel_rfl) hb0
  obtain ⟨v1a, v1b, y1a, y1b, m1, rfl, -, -, ha1, hb1⟩ := open_agg2 Tryd.underlying25 (by kernel_rfl) (by kernel_rfl) (hval 1 25 v1 rfl rfl) h1
  obtain ⟨xs1, hs1⟩ := head_of_trod Tryd.underlying22 Tryd.underlying3 (by kernel_rfl) ha1
  obtain ⟨tt1, ht1⟩ := heads_of_trod Tryd.underlying23 Tryd.underlying22 Tryd.underlying3 (by kernel_rfl) (by kernel_rfl) hb1
  obtain ⟨n2, rfl, -, -, wn2⟩ := open_int Tryd.underlying3 (hval 2 3 v2 rfl rfl) h2
  exact (tells_any n2 (wf_I64 wn2) hs1 ht1 hs0 ht0 (Nat.le_refl _) hE hR).mono fun e W' ⟨he, hb⟩ => ⟨_, he, fin W' hb⟩

theorem row_holds : Rows.PoolTellsSaid :=
  OpenClaim.holds_of_wide 5 Tryd.f5 rfl rfl rfl rfl rfl rfl rfl ⟨rfl, rfl, rfl, rfl, rfl⟩ rfl rfl rfl rfl rfl (by kernel_rfl) Tryd.func5 (by kernel_rfl)
    (of_decide_eq_true (by kernel_rfl)) (by unfold Func.isWrapper; rw [if_neg (of_decide_eq_false (by kernel_rfl))]; exact ⟨rfl, rfl⟩)
    (fun os started H enc _ => lifted os started H enc)

/-- The card: the row, its variables tied to the text. -/
theorem proved : Rows.PoolTellsCardSaid :=
  Claim7.holds_tied_plain_at .later [] [.handle, .sentinel, .sentinel] true (true, "4db1a5f7b3804afe8e2556743561881fd55ccc9634df5e257a80c2c2ef0aa421") true
    row_holds (fun _ h => by cases h) (by kernel_rfl) (fun _ h => by cases h) poolTells_row_tie rfl ⟨rfl, rfl⟩ (by kernel_rfl) rfl
    (fun f fn hf hfn => by
      obtain rfl : f = 5 := Option.some.inj (hf.symm.trans (by kernel_rfl))
      obtain rfl : fn = Tryd.f5 := (Option.some.inj (Tryd.func5.symm.trans hfn)).symm
      exact ⟨by kernel_rfl, fun j t ht => by
        rw [Tryd.params5] at ht
        have hm := List.mem_of_getElem? (l := [25, 25, 3]) (i := j) (a := t) (by simpa using ht)
        simp only [List.mem_cons, List.not_mem_nil, or_false] at hm
        rcases hm with rfl | rfl | rfl
        · exact (show Tryd.prog.wantsStandIn 25 = false by kernel_rfl)
        · exact (show Tryd.prog.wantsStandIn 25 = false by kernel_rfl)
        · exact (show Tryd.prog.wantsStandIn 3 = false by kernel_rfl)⟩)
    (by kernel_rfl)
end Go.Proofs.YtihmgiifphheeaaDoor.lawPoolTells
