/- KindsKeeps: for every input the law says true, and what it was given reads as before. Conditions: the package variables that the row lists hold what they are laid with (the card ties that to the text). -/
import Derived.Test.YtjhmghcfhgajcaaDoorKKeeps
import Derived.Test.YtjhmghcfhgajcaaDoorRowDs
import Derived.Test.YtjhmghcfhgajcaaDoorRowTextK
import Derived.Test.YtjhmghcfhgajcaaDoorRowVkindsAll
import Derived.Test.YtjhmghcfhgajcaaDoorRows
import Derived.Test.YtjhmghcfhgajcaaDoorTie
import Derived.Test.YtjhmghcfhgajcaaDoorCards
import Derived.SevenTiedAt
import Derived.Lib.SmallJoins
namespace Go.Proofs.YtjhmghcfhgajcaaDoor.lawKindsKeeps
open Go.RowKit Go.Sel Go.ChangeShapes Go.WideShapes Go.Joins Go.Proofs.YtjhmghcfhgajcaaDoor

set_option maxRecDepth 100000 in
theorem lifted (os : Os) (started : os.Started) (H : Type) (enc : TypeId × Value → H) :
    ReturnsInHanded {} Tryd.checked os 7 .any (fun w args => (Rows.kindsKeepsSpec.pre enc Tryd.prog Tryd.f7 [] false w args ∧ laidMetH Tryd.prog Ld w) ∧ sizedMet enc Tryd.prog Tryd.f7 (OpenSpec.ofChange Rows.kindsKeepsSpec) false w args)
      (Rows.kindsKeepsSpec.post enc Tryd.prog Tryd.f7 false true false false) := by
  refine handed_and_shaped (C := Tryd.checked) (X := fun w _ => laidMetH Tryd.prog Ld w) (fun _ _ _ hh h => h.of_heap hh) Tryd.own started (by kernel_rfl) Tryd.func7
    (ChangeSpec.witness_shaped (enc := enc) (C := Tryd.checked) (os := os) (X := fun w _ => laidMetH Tryd.prog Ld w) false (laidWorld os) #[.slice none 0 0, .agg #[.int .i64 0, .slice none 0 0, .int .i64 0, .slice none 0 0], .int .i64 0] 8 rfl (laidWorld_shaped os _) (by kernel_rfl) (by kernel_rfl) (by kernel_rfl) (laidWorld_met os _)) ?_
  intro W base args ds gs before hval0 hW hsh hL
  have hval : ∀ (j : Nat) t v, Tryd.f7.params[j]? = some t → args[j]? = some v → Value.okWide Tryd.prog W .any base t v := hval0
  have hW' := hW
  obtain ⟨p, q, hA0, hV0, he0, hfz, hnd⟩ := hW
  have hA : DataW.TrodAll enc Tryd.prog W 0 (fun _ => true) true Tryd.f7.params.toList args.toList ds p := hA0
  rw [Tryd.params7] at hA hval
  obtain ⟨v0, v1, v2, d0, d1, d2, p0, p1, p2, rfl, rfl, rfl, h0, h1, h2⟩ := trodAll_three hA
  replace hL : laidMetH Tryd.prog Ld W := hL
  have hR := errT_of_laid hL
  have hT := textOk_of_laid hsh hL
  obtain ⟨rfl, _⟩ := trodVars_none (show DataW.TrodVars enc Tryd.prog W (fun _ => true) [] gs q from hV0)
  have fin : ∀ (W' : World), Below W.heap.size W W' → Rows.kindsKeepsSpec.post enc Tryd.prog Tryd.f7 false true false false W #[v0, v1, v2] (.bool true) W' := fun W' hb =>
    law_post (tb := 4) Tryd.kids Tryd.full (by rw [Tryd.params7, Tryd.size]; decide) Tryd.underlying4 rfl rfl rfl rfl rfl hW' hb
  clear hA0 hval0 hW' hV0 he0 hfz hnd hA
  obtain ⟨fu0, hf0⟩ := h0
  obtain ⟨a0, l0, c0, rfl⟩ := okWide_slice Tryd.underlying41 (hval 0 41 v0 rfl rfl)
  obtain ⟨xs0, hs0⟩ := descs_of_trod Tryd.underlying41 Tryd.underlying24 (by kernel_rfl) (by kernel_rfl) Tryd.underlying3 Tryd.underlying22 Tryd.underlying3 Tryd.underlying22 Tryd.underlying3 (by kernel_rfl) (show DataW.trod enc Tryd.prog W 0 (fun _ => true) true fu0 41 [.slice a0 l0 c0] = some _ from hf0)
  obtain ⟨v1a, v1b, v1c, v1d, y1a, y1b, y1c, y1d, m1, rfl, -, -, ha1, hb1, hc1, hd1⟩ := open_agg4 Tryd.underlying24 (by kernel_rfl) (by kernel_rfl) (hval 1 24 v1 rfl rfl) h1
  obtain ⟨sz1, ea1, -, wa1⟩ := DataW.trod_int Tryd.underlying3 ha1
  obtain rfl : v1a = _ := (List.cons.inj ea1).1
  obtain ⟨el1, ec1, -, wc1⟩ := DataW.trod_int Tryd.underlying3 hc1
  obtain rfl : v1c = _ := (List.cons.inj ec1).1
  obtain ⟨xs1, hs1⟩ := head_of_trod Tryd.underlying22 Tryd.underlying3 (by kernel_rfl) hb1
  obtain ⟨ys1, ht1⟩ := head_of_trod Tryd.underlying22 Tryd.underlying3 (by kernel_rfl) hd1
  obtain ⟨n2, rfl, -, -, wn2⟩ := open_int Tryd.underlying3 (hval 2 3 v2 rfl rfl) h2
  exact (kindsKeeps_any sz1 el1 n2 (wf_I64 wa1) (wf_I64 wc1) (wf_I64 wn2) hs0 hs1.to20 ht1.to20 hR hT).mono fun e W' ⟨he, hb⟩ => ⟨_, he, fin W' hb⟩

theorem row_holds : Rows.KindsKeepsSaid :=
  OpenClaim.holds_of_wide 7 Tryd.f7 rfl rfl rfl rfl rfl rfl rfl ⟨rfl, rfl, rfl, rfl, rfl⟩ rfl rfl rfl rfl rfl (by kernel_rfl) Tryd.func7 (by kernel_rfl)
    (of_decide_eq_true (by kernel_rfl)) (by unfold Func.isWrapper; rw [if_neg (of_decide_eq_false (by kernel_rfl))]; exact ⟨rfl, rfl⟩)
    (fun os started H enc _ => lifted os started H enc)

/-- The card: the row, its variables tied to the text. -/
theorem proved : Rows.KindsKeepsCardSaid :=
  Claim7.holds_tied_plain_at .later [] [.data, .data, .data, .data, .handle, .pinned] true (true, "eb42d139e7d5dd8843cbe3893ce7985c6f7127ea1c5c429001df4284887abde7") true
    row_holds (fun _ h => by cases h) (by kernel_rfl) (fun _ h => by cases h) kindsKeeps_row_tie rfl ⟨rfl, rfl⟩ (by kernel_rfl) rfl
    (fun f fn hf hfn => by
      obtain rfl : f = 7 := Option.some.inj (hf.symm.trans (by kernel_rfl))
      obtain rfl : fn = Tryd.f7 := (Option.some.inj (Tryd.func7.symm.trans hfn)).symm
      exact ⟨by kernel_rfl, fun j t ht => by
        rw [Tryd.params7] at ht
        have hm := List.mem_of_getElem? (l := [41, 24, 3]) (i := j) (a := t) (by simpa using ht)
        simp only [List.mem_cons, List.not_mem_nil, or_false] at hm
        rcases hm with rfl | rfl | rfl
        · exact (show Tryd.prog.wantsStandIn 41 = false by kernel_rfl)
        · exact (show Tryd.prog.wantsStandIn 24 = false by kernel_rfl)
        · exact (show Tryd.prog.wantsStandIn 3 = false by kernel_rfl)⟩)
    (by kernel_rfl)
end Go.Proofs.YtjhmghcfhgajcaaDoor.lawKindsKeeps
