/- DescBack: for every input the law says true, and what it was given reads as before. Conditions: the package variables that the row lists hold what they are laid with (the card ties that to the text). -/
import Derived.Test.YtjhmghcfhgajcaaDoorDBack
import Derived.Test.YtjhmghcfhgajcaaDoorRowText
import Derived.Test.YtjhmghcfhgajcaaDoorRowV
import Derived.Test.YtjhmghcfhgajcaaDoorRows
import Derived.Test.YtjhmghcfhgajcaaDoorTie
import Derived.Test.YtjhmghcfhgajcaaDoorCards
import Derived.SevenTiedAt
import Derived.Lib.SmallJoins
import Derived.ChangeMaps5
namespace Go.Proofs.YtjhmghcfhgajcaaDoor.lawDescBack
open Go.RowKit Go.Sel Go.ChangeShapes Go.WideShapes Go.Joins Go.Proofs.YtjhmghcfhgajcaaDoor
open Go.ChangeMaps (open_string)
set_option maxRecDepth 100000 in
theorem lifted (os : Os) (started : os.Started) (H : Type) (enc : TypeId × Value → H) :
    ReturnsInHanded {} Tryd.checked os 5 .any (fun w args => (Rows.descBackSpec.pre enc Tryd.prog Tryd.f5 [] false w args ∧ laidMetH Tryd.prog Ld w) ∧ sizedMet enc Tryd.prog Tryd.f5 (OpenSpec.ofChange Rows.descBackSpec) false w args)
      (Rows.descBackSpec.post enc Tryd.prog Tryd.f5 false true false false) := by
  refine handed_and_shaped (C := Tryd.checked) (X := fun w _ => laidMetH Tryd.prog Ld w) (fun _ _ _ hh h => h.of_heap hh) Tryd.own started (by kernel_rfl) Tryd.func5
    (ChangeSpec.witness_shaped (enc := enc) (C := Tryd.checked) (os := os) (X := fun w _ => laidMetH Tryd.prog Ld w) false (laidWorld os) #[.agg #[.int .i64 0, .slice none 0 0, .int .i64 0, .slice none 0 0], .string ⟨#[]⟩] 8 rfl (laidWorld_shaped os _) (by kernel_rfl) (by kernel_rfl) (by kernel_rfl) (laidWorld_met os _)) ?_
  intro W base args ds gs before hval0 hW hsh hL
  have hval : ∀ (j : Nat) t v, Tryd.f5.params[j]? = some t → args[j]? = some v → Value.okWide Tryd.prog W .any base t v := hval0
  have hW' := hW
  obtain ⟨p, q, hA0, hV0, he0, hfz, hnd⟩ := hW
  have hA : DataW.TrodAll enc Tryd.prog W 0 (fun _ => true) true Tryd.f5.params.toList args.toList ds p := hA0
  rw [Tryd.params5] at hA hval
  obtain ⟨v0, v1, d0, d1, p0, p1, rfl, rfl, rfl, h0, h1⟩ := trodAll_two hA
  replace hL : laidMetH Tryd.prog Ld W := hL
  have hR := errT_of_laid hL
  obtain ⟨a0, a1, a2, q0, q1, q2, hne1, hne2, hne3⟩ := sentinels_of_laid hL
  have hE : AddrErrs a0 a1 a2 W.heap.size W := ⟨q0, q1, q2, hne1, hne2, hne3⟩
  have hT := textOk_of_laid hsh hL
  obtain ⟨rfl, _⟩ := trodVars_none (show DataW.TrodVars enc Tryd.prog W (fun _ => true) [] gs q from hV0)
  have fin : ∀ (W' : World), Below W.heap.size W W' → Rows.descBackSpec.post enc Tryd.prog Tryd.f5 false true false false W #[v0, v1] (.bool true) W' := fun W' hb =>
    law_post (tb := 4) Tryd.kids Tryd.full (by rw [Tryd.params5, Tryd.size]; decide) Tryd.underlying4 rfl rfl rfl rfl rfl hW' hb
  clear hA0 hval0 hW' hV0 he0 hfz hnd hA
  obtain ⟨v0a, v0b, v0c, v0d, y0a, y0b, y0c, y0d, m0, rfl, -, -, ha0, hb0, hc0, hd0⟩ := open_agg4 Tryd.underlying24 (by kernel_rfl) (by kernel_rfl) (hval 0 24 v0 rfl rfl) h0
  obtain ⟨sz0, ea0, -, wa0⟩ := DataW.trod_int Tryd.underlying3 ha0
  obtain rfl : v0a = _ := (List.cons.inj ea0).1
  obtain ⟨el0, ec0, -, wc0⟩ := DataW.trod_int Tryd.underlying3 hc0
  obtain rfl : v0c = _ := (List.cons.inj ec0).1
  obtain ⟨xs0, hs0⟩ := head_of_trod Tryd.underlying22 Tryd.underlying3 (by kernel_rfl) hb0
  obtain ⟨ys0, ht0⟩ := head_of_trod Tryd.underlying22 Tryd.underlying3 (by kernel_rfl) hd0
  obtain ⟨s1, rfl, -, -, ws1⟩ := open_string Tryd.underlying9 (hval 1 9 v1 rfl rfl) h1
  exact (descBack_any sz0 el0 (wf_I64 wa0) (wf_I64 wc0) s1 hs0.to20 ht0.to20 (Nat.le_refl _) hE hR hT).mono fun e W' ⟨he, hb⟩ => ⟨_, he, fin W' hb⟩

theorem row_holds : Rows.DescBackSaid :=
  OpenClaim.holds_of_wide 5 Tryd.f5 rfl rfl rfl rfl rfl rfl rfl ⟨rfl, rfl, rfl, rfl, rfl⟩ rfl rfl rfl rfl rfl (by kernel_rfl) Tryd.func5 (by kernel_rfl)
    (of_decide_eq_true (by kernel_rfl)) (by unfold Func.isWrapper; rw [if_neg (of_decide_eq_false (by kernel_rfl))]; exact ⟨rfl, rfl⟩)
    (fun os started H enc _ => lifted os started H enc)

/-- The card: the row, its variables tied to the text. -/
theorem proved : Rows.DescBackCardSaid :=
  Claim7.holds_tied_plain_at .later [] [.data, .data, .data, .data, .handle, .sentinel, .sentinel, .sentinel, .pinned] true (true, "eb42d139e7d5dd8843cbe3893ce7985c6f7127ea1c5c429001df4284887abde7") true
    row_holds (fun _ h => by cases h) (by kernel_rfl) (fun _ h => by cases h) descBack_row_tie rfl ⟨rfl, rfl⟩ (by kernel_rfl) rfl
    (fun f fn hf hfn => by
      obtain rfl : f = 5 := Option.some.inj (hf.symm.trans (by kernel_rfl))
      obtain rfl : fn = Tryd.f5 := (Option.some.inj (Tryd.func5.symm.trans hfn)).symm
      exact ⟨by kernel_rfl, fun j t ht => by
        rw [Tryd.params5] at ht
        have hm := List.mem_of_getElem? (l := [24, 9]) (i := j) (a := t) (by simpa using ht)
        simp only [List.mem_cons, List.not_mem_nil, or_false] at hm
        rcases hm with rfl | rfl
        · exact (show Tryd.prog.wantsStandIn 24 = false by kernel_rfl)
        · exact (show Tryd.prog.wantsStandIn 9 = false by kernel_rfl)⟩)
    (by kernel_rfl)
end Go.Proofs.YtjhmghcfhgajcaaDoor.lawDescBack
