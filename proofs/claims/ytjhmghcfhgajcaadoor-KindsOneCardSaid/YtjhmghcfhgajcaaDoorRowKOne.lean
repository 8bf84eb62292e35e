/- KindsOne: for every input the law says true, and what it was given reads as before. Conditions: the package variables that the row lists hold what they are laid with (the card ties that to the text). -/
import Derived.Test.YtjhmghcfhgajcaaDoorKOne
import Derived.Test.YtjhmghcfhgajcaaDoorRowDs
import Derived.Test.YtjhmghcfhgajcaaDoorRowTextK
import Derived.Test.YtjhmghcfhgajcaaDoorRowVkindsAll
import Derived.Test.YtjhmghcfhgajcaaDoorRows
import Derived.Test.YtjhmghcfhgajcaaDoorTie
import Derived.Test.YtjhmghcfhgajcaaDoorCards
import Derived.SevenTiedAt
import Derived.Lib.SmallJoins
namespace Go.Proofs.YtjhmghcfhgajcaaDoor.lawKindsOne
open Go.RowKit Go.Sel Go.ChangeShapes Go.WideShapes Go.Joins Go.Proofs.YtjhmghcfhgajcaaDoor

set_option maxRecDepth 100000 in
theorem lifted (os : Os) (started : os.Started) (H : Type) (enc : TypeId × Value → H) :
    ReturnsInHanded {} Tryd.checked os 9 .any (fun w args => (Rows.kindsOneSpec.pre enc Tryd.prog Tryd.f9 [] false w args ∧ laidMetH Tryd.prog Ld w) ∧ sizedMet enc Tryd.prog Tryd.f9 (OpenSpec.ofChange Rows.kindsOneSpec) false w args)
      (Rows.kindsOneSpec.post enc Tryd.prog Tryd.f9 false true false false) := by
  refine handed_and_shaped (C := Tryd.checked) (X := fun w _ => laidMetH Tryd.prog Ld w) (fun _ _ _ hh h => h.of_heap hh) Tryd.own started (by kernel_rfl) Tryd.func9
    (ChangeSpec.witness_shaped (enc := enc) (C := Tryd.checked) (os := os) (X := fun w _ => laidMetH Tryd.prog Ld w) false (laidWorld os) #[.slice none 0 0] 8 rfl (laidWorld_shaped os _) (by kernel_rfl) (by kernel_rfl) (by kernel_rfl) (laidWorld_met os _)) ?_
  intro W base args ds gs before hval0 hW hsh hL
  have hval : ∀ (j : Nat) t v, Tryd.f9.params[j]? = some t → args[j]? = some v → Value.okWide Tryd.prog W .any base t v := hval0
  have hW' := hW
  obtain ⟨p, q, hA0, hV0, he0, hfz, hnd⟩ := hW
  have hA : DataW.TrodAll enc Tryd.prog W 0 (fun _ => true) true Tryd.f9.params.toList args.toList ds p := hA0
  rw [Tryd.params9] at hA hval
  obtain ⟨v0, d0, rfl, rfl, h0⟩ := trodAll_one hA
  replace hL : laidMetH Tryd.prog Ld W := hL
  have hR := errT_of_laid hL
  have hT := textOk_of_laid hsh hL
  obtain ⟨rfl, _⟩ := trodVars_none (show DataW.TrodVars enc Tryd.prog W (fun _ => true) [] gs q from hV0)
  have fin : ∀ (W' : World), Below W.heap.size W W' → Rows.kindsOneSpec.post enc Tryd.prog Tryd.f9 false true false false W #[v0] (.bool true) W' := fun W' hb =>
    law_post (tb := 4) Tryd.kids Tryd.full (by rw [Tryd.params9, Tryd.size]; decide) Tryd.underlying4 rfl rfl rfl rfl rfl hW' hb
  clear hA0 hval0 hW' hV0 he0 hfz hnd hA
  obtain ⟨fu0, hf0⟩ := h0
  obtain ⟨a0, l0, c0, rfl⟩ := okWide_slice Tryd.underlying41 (hval 0 41 v0 rfl rfl)
  obtain ⟨xs0, hs0⟩ := descs_of_trod Tryd.underlying41 Tryd.underlying24 (by kernel_rfl) (by kernel_rfl) Tryd.underlying3 Tryd.underlying22 Tryd.underlying3 Tryd.underlying22 Tryd.underlying3 (by kernel_rfl) (show DataW.trod enc Tryd.prog W 0 (fun _ => true) true fu0 41 [.slice a0 l0 c0] = some _ from hf0)
  exact (kindsOne_any hs0 hR hT).mono fun e W' ⟨he, hb⟩ => ⟨_, he, fin W' hb⟩

theorem row_holds : Rows.KindsOneSaid :=
  OpenClaim.holds_of_wide 9 Tryd.f9 rfl rfl rfl rfl rfl rfl rfl ⟨rfl, rfl, rfl, rfl, rfl⟩ rfl rfl rfl rfl rfl (by kernel_rfl) Tryd.func9 (by kernel_rfl)
    (of_decide_eq_true (by kernel_rfl)) (by unfold Func.isWrapper; rw [if_neg (of_decide_eq_false (by kernel_rfl))]; exact ⟨rfl, rfl⟩)
    (fun os started H enc _ => lifted os started H enc)

/-- The card: the row, its variables tied to the text. -/
theorem proved : Rows.KindsOneCardSaid :=
  Claim7.holds_tied_plain_at .later [] [.data, .data, .data, .data, .handle, .pinned] true (true, "eb42d139e7d5dd8843cbe3893ce7985c6f7127ea1c5c429001df4284887abde7") true
    row_holds (fun _ h => by cases h) (by kernel_rfl) (fun _ h => by cases h) kindsOne_row_tie rfl ⟨rfl, rfl⟩ (by kernel_rfl) rfl
    (fun f fn hf hfn => by
      obtain rfl : f = 9 := Option.some.inj (hf.symm.trans (by kernel_rfl))
      obtain rfl : fn = Tryd.f9 := (Option.some.inj (Tryd.func9.symm.trans hfn)).symm
      exact ⟨by kernel_rfl, fun j t ht => by
        rw [Tryd.params9] at ht
        have hm := List.mem_of_getElem? (l := [41]) (i := j) (a := t) (by simpa using ht)
        simp only [List.mem_cons, List.not_mem_nil, or_false] at hm
        subst hm; exact (show Tryd.prog.wantsStandIn 41 = false by kernel_rfl)⟩)
    (by kernel_rfl)
end Go.Proofs.YtjhmghcfhgajcaaDoor.lawKindsOne
