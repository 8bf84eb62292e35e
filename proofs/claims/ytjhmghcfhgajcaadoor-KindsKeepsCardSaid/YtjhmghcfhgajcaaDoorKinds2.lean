/- Contract of kinds.Right. -/
import Derived.Test.YtjhmghcfhgajcaaDoorKinds1
import Derived.Test.YtjhmghcfhgajcaaDoorDraw2
namespace Go.Sel
open Go Go.RowKit
section
variable {P : Program} {ops : Array Oper} {Q : Exit → Act → World → Prop} {md : Region.Mode} {C : World → Prop}
/-! The same where every act keeps the class (z lies beyond the operations): a read may be taken first, whoever waits for it. -/
theorem wpAnyC_keep {i z : Nat} {oi : Oper} {v : Value} {fuel : Nat} {listed : Array Bool} {a : Act} {w : World} (hnz : ops[z]? = none) (hi : ops[i]? = some oi)
    (hs : (Region.noSelect ops && Region.free md ops listed i && (Region.ready md ops listed).contains i) = true)
    (hQ : ∀ c a w, Q (.panic c) (a.put oi.dst v) w → Q (.panic c) a w) (hC : C w) (hy : YieldsC P ops C oi v a)
    (h : wpAnyC P md ops C z Q fuel (listed.setIfInBounds i true) (a.put oi.dst v) w) : wpAnyC P md ops C z Q (fuel + 1) listed a w := by
  simp only [Bool.and_eq_true] at hs
  obtain ⟨⟨hs, hf⟩, hr⟩ := hs
  refine wpAnyC_first hi (Region.noSelect_spec hs) hQ (fun l _ hz => ?_) (fun e => by subst e; rw [hnz] at hi; cases hi) fuel listed a w hC (Region.free_spec hi hf) (by simpa using hr) hy h
  obtain ⟨_, o, ho, _⟩ := mem_ready.1 hz
  rw [hnz] at ho
  cases ho
theorem wpAnyC_takeK (i : Nat) {z : Nat} {oi : Oper} (v : Value) {fuel : Nat} {listed : Array Bool} {a : Act} {w : World} (hnz : ops[z]? = none) (hi : ops[i]? = some oi)
    (hs : (Region.noSelect ops && Region.free md ops listed i && (Region.ready md ops listed).contains i) = true) (hg : Region.wanted oi (yielded ops a.tmps) = true)
    (hQ : ∀ c a w, Q (.panic c) (a.put oi.dst v) w → Q (.panic c) a w) (hC : C w) (hy : ∀ w, C w → (execOp a.eval oi).run P w = .ok (.value v) w)
    (h : wpAnyC P md ops C z Q fuel (listed.setIfInBounds i true) (a.put oi.dst v) w) : wpAnyC P md ops C z Q (fuel + 1) listed a w :=
  wpAnyC_keep hnz hi hs hQ hC (.inl ⟨hg, hy⟩) h
/-- An operation whose guard does not let it, passed over. -/
theorem wpAnyC_skipK (i : Nat) {z : Nat} {oi : Oper} {fuel : Nat} {listed : Array Bool} {a : Act} {w : World} (hnz : ops[z]? = none) (hi : ops[i]? = some oi)
    (hs : (Region.noSelect ops && Region.free md ops listed i && (Region.ready md ops listed).contains i) = true) (hg : Region.wanted oi (yielded ops a.tmps) = false)
    (hQ : ∀ c a w, Q (.panic c) (a.put oi.dst undef) w → Q (.panic c) a w) (hC : C w)
    (h : wpAnyC P md ops C z Q fuel (listed.setIfInBounds i true) (a.put oi.dst undef) w) : wpAnyC P md ops C z Q (fuel + 1) listed a w :=
  wpAnyC_keep hnz hi hs hQ hC (.inr ⟨hg, rfl⟩) h
end
theorem okFrom_app : ∀ {l r p : List DescL}, okFrom p (l ++ r) = (okFrom p l && okFrom (p ++ l) r)
  | [], r, p => by simp [okFrom]
  | d :: l, r, p => by
    have e : p ++ d :: l = p ++ [d] ++ l := by simp
    rw [List.cons_append, okFrom, okFrom, okFrom_app, e, Bool.and_assoc, Bool.and_assoc, Bool.and_assoc]
theorem okFrom_succ {ds : List DescL} {k : Nat} {x : DescL} (hx : ds[k]? = some x) : okFrom [] (ds.take (k + 1)) = (okFrom [] (ds.take k) && (rightD x && !hasK (ds.take k) x)) := by
  rw [take_snoc hx, okFrom_app]
  simp [okFrom, hasK]
theorem okFrom_bad {ds : List DescL} {k : Nat} (h : okFrom [] (ds.take k) = false) : rightK ds = false := by
  have : okFrom [] ds = false := by rw [← List.take_append_drop k ds, okFrom_app, h, Bool.false_and]
  unfold rightK
  rw [this, Bool.false_and]
end Go.Sel
namespace Go.Proofs.YtjhmghcfhgajcaaDoor
open Go.RowKit Go.Sel
set_option maxRecDepth 100000 in
set_option maxHeartbeats 2000000 in
theorem rightK_any {n : Nat} {ds : List DescL} {v : Value} {w : World} (h : IsDescs n w v ds) (hn : n ≤ w.heap.size) :
    Calls Tryd.prog 23 #[v] w fun e w' => e = .returned (.bool (rightK ds)) ∧ Below w.heap.size w w' := by
  obtain ⟨a, c, rfl, hc⟩ := h.open
  have hl := h.len
  unfold big at hl
  go_enter Tryd.func23, Tryd.ntmps23
  go_wp2
  go_loopw [3, 4, 7] (fun _ _ i wr => ∃ k : Nat, k ≤ ds.length ∧ i = .int .i64 k ∧ Hid (okFrom [] (ds.take k) = true) ∧ Below w.heap.size w wr) (fun _ _ i _ => ds.length - (intOf i).toNat)
  case atStart => exact ⟨0, Nat.zero_le _, rfl, Lib.hid rfl, Below.refl _ _⟩
  case round =>
    obtain ⟨k, hk, rfl, hpre, hb⟩ := hrel
    by_cases hlt : k < ds.length
    · obtain ⟨x, b, o, g1, k1, g2, k2, hx, rfl, hbn, z0, z1, z2, z3, hxd⟩ := (h.below (hb.mono hn)).atS hlt
      have hlr := (h.below (hb.mono hn)).take (k := k) (c' := k) (by omega) (Nat.le_refl _)
      have HT := Lib.hid (okFrom_succ hx)
      obtain ⟨w1, hw1⟩ : ∃ y, y = wr.alloc (Obj.cells #[.int .i64 x.size, .slice g1 x.ptrs.length k1, .int .i64 x.elem, .slice g2 x.eptrs.length k2] 24) := ⟨_, rfl⟩
      have hb1 : Below wr.heap.size wr w1 := by rw [hw1]; exact kept_alloc (Below.refl _ _) _
      have hC0 : HasBlk wr.heap.size #[.int .i64 x.size, .slice g1 x.ptrs.length k1, .int .i64 x.elem, .slice g2 x.eptrs.length k2] 24 w1 := by rw [hw1]; exact HasBlk.new wr _ _
      have hbw := kept_trans hb hb1
      have hR := right_any (w := w1.drew) (hxd.below ((hb1.mono (Nat.le_trans hn hb.size)).drew)) (Nat.le_trans hn hbw.size)
      have hlr1 := hlr.below ((hb1.mono (Nat.le_trans hn hb.size)).drew)
      have hxd1 := hxd.below ((hb1.mono (Nat.le_trans hn hb.size)).drew)
      clear hx hxd h hlr
      go_wp2_with fail
      rw [← hw1]
      clear hw1 z0 z1 z2 z3
      refine wp_region_class (fun W => HasBlk wr.heap.size #[.int .i64 x.size, .slice g1 x.ptrs.length k1, .int .i64 x.elem, .slice g2 x.eptrs.length k2] 24 W) 12 (by kernel_rfl) ?_
      replace hC0 := hC0.drew
      refine wpAnyC_takeK 0 (.agg #[.int .i64 x.size, .slice g1 x.ptrs.length k1, .int .i64 x.elem, .slice g2 x.eptrs.length k2]) rfl rfl (by kernel_rfl) (by kernel_rfl) (fun _ _ _ h => h) hC0 (fun W hW => by obtain ⟨g1, g2, g3, g4⟩ := four_cells hW.out; go_simp) ?_
      go_simp
      refine wpAnyC_act 1 rfl (by kernel_rfl) rfl ?_
      go_simp
      refine hR.mono ?_
      clear hR
      rintro e w2 ⟨rfl, hb2⟩
      replace hC0 := hC0.below hb2 (Array.getElem?_eq_some_iff.1 hC0.out).1
      refine ⟨hC0, ?_⟩
      have hbw2 := kept_trans hbw.drew hb2
      have hs2 := hb2.size
      cases hr : rightD x with
      | false =>
        have HJ := Lib.hid (okFrom_bad (show okFrom [] (ds.take (k + 1)) = false by rw [HT.out, hr, Bool.false_and, Bool.and_false]))
        clear HT hr hlr1 hxd1
        go_simp
        refine wpAnyC_takeK 2 (.bool true) rfl rfl (by kernel_rfl) (by kernel_rfl) (fun _ _ _ h => h) hC0 (fun W hW => by go_simp) ?_
        go_simp
        refine wpAnyC_takeK 3 (.bool true) rfl rfl (by kernel_rfl) (by kernel_rfl) (fun _ _ _ h => h) hC0 (fun W hW => by go_simp) ?_
        go_simp
        refine wpAnyC_skipK 4 rfl rfl (by kernel_rfl) (by kernel_rfl) (fun _ _ _ h => h) hC0 ?_
        go_simp
        refine wpAnyC_skipK 5 rfl rfl (by kernel_rfl) (by kernel_rfl) (fun _ _ _ h => h) hC0 ?_
        go_simp
        refine wpAnyC_skipK 6 rfl rfl (by kernel_rfl) (by kernel_rfl) (fun _ _ _ h => h) hC0 ?_
        go_simp
        refine wpAnyC_skipK 7 rfl rfl (by kernel_rfl) (by kernel_rfl) (fun _ _ _ h => h) hC0 ?_
        go_simp
        refine wpAnyC_skipK 8 rfl rfl (by kernel_rfl) (by kernel_rfl) (fun _ _ _ h => h) hC0 ?_
        go_simp
        refine wpAnyC_skipK 9 rfl rfl (by kernel_rfl) (by kernel_rfl) (fun _ _ _ h => h) hC0 ?_
        go_simp
        refine wpAnyC_skipK 10 rfl rfl (by kernel_rfl) (by kernel_rfl) (fun _ _ _ h => h) hC0 ?_
        go_simp
        refine wpAnyC_act 11 rfl (by kernel_rfl) rfl ?_
        go_simp
        refine ⟨by kernel_rfl, ?_⟩
        clear hC0
        go_wp2
        go_ret
        exact ⟨by rw [HJ.out]; rfl, hbw2⟩
      | true =>
        have hP := place_any (hlr1.below (hb2.mono (Nat.le_trans hn hbw.size))) (hxd1.below (hb2.mono (Nat.le_trans hn hbw.size))) (Nat.le_trans (Nat.le_trans hn hbw.size) hs2)
        have hkc : ¬ c < k := by omega
        go_simp
        refine wpAnyC_takeK 2 (.bool false) rfl rfl (by kernel_rfl) (by kernel_rfl) (fun _ _ _ h => h) hC0 (fun W hW => by go_simp) ?_
        go_simp
        refine wpAnyC_takeK 3 (.bool false) rfl rfl (by kernel_rfl) (by kernel_rfl) (fun _ _ _ h => h) hC0 (fun W hW => by go_simp) ?_
        go_simp
        refine wpAnyC_takeK 4 (.agg #[.int .i64 x.size, .slice g1 x.ptrs.length k1, .int .i64 x.elem, .slice g2 x.eptrs.length k2]) rfl rfl (by kernel_rfl) (by kernel_rfl) (fun _ _ _ h => h) hC0 (fun W hW => by obtain ⟨g1, g2, g3, g4⟩ := four_cells hW.out; go_simp) ?_
        go_simp
        refine wpAnyC_takeK 5 (.slice (some ⟨b, o, none⟩) ds.length c) rfl rfl (by kernel_rfl) (by kernel_rfl) (fun _ _ _ h => h) hC0 (fun W hW => by go_simp) ?_
        go_simp
        refine wpAnyC_takeK 6 (.int .i64 k) rfl rfl (by kernel_rfl) (by kernel_rfl) (fun _ _ _ h => h) hC0 (fun W hW => by go_simp) ?_
        go_simp
        refine wpAnyC_takeK 7 (.int .i64 k) rfl rfl (by kernel_rfl) (by kernel_rfl) (fun _ _ _ h => h) hC0 (fun W hW => by go_simp) ?_
        go_simp
        refine wpAnyC_takeK 8 (.slice (some ⟨b, o, none⟩) k k) rfl rfl (by kernel_rfl) (by kernel_rfl) (fun _ _ _ h => h) hC0 (fun W hW => by go_simp) ?_
        go_simp
        refine wpAnyC_actG 9 rfl (by kernel_rfl) (by kernel_rfl) ?_
        go_simp
        refine hP.mono ?_
        clear hP
        rintro e w3 ⟨rfl, hb3⟩
        replace hC0 := hC0.below hb3 (Array.getElem?_eq_some_iff.1 hC0.out).1
        refine ⟨hC0, ?_⟩
        have hbw3 := kept_trans hbw2 hb3
        have hge := idxK_ge (ds := ds.take k) (d := x)
        obtain ⟨j, hj⟩ : ∃ j, j = idxK (ds.take k) x := ⟨_, rfl⟩
        rw [← hj] at hge ⊢
        have HG := Lib.hid hge
        clear hge hj
        cases hh : hasK (ds.take k) x with
        | true =>
          have hj0 : 0 ≤ j := HG.out.2 hh
          have HJ := Lib.hid (okFrom_bad (show okFrom [] (ds.take (k + 1)) = false by rw [HT.out, hh, Bool.not_true, Bool.and_false, Bool.and_false]))
          clear HT HG hh hr
          go_simp
          refine wpAnyC_takeK 10 (.bool true) rfl rfl (by kernel_rfl) (by kernel_rfl) (fun _ _ _ h => h) hC0 (fun W hW => by go_simp) ?_
          go_simp
          refine wpAnyC_act 11 rfl (by kernel_rfl) rfl ?_
          go_simp
          refine ⟨by kernel_rfl, ?_⟩
          clear hC0
          go_wp2
          go_ret
          exact ⟨by rw [HJ.out]; rfl, hbw3⟩
        | false =>
          have hj0 : ¬ 0 ≤ j := fun h => by have := HG.out.1 h; rw [hh] at this; cases this
          have HJ := Lib.hid (show okFrom [] (ds.take (k + 1)) = true by rw [HT.out, hh, hpre.out, hr]; rfl)
          clear HT HG hh hr
          have hj1 : decide (0 ≤ j) = false := decide_eq_false hj0
          go_simp
          refine wpAnyC_takeK 10 (.bool false) rfl rfl (by kernel_rfl) (by kernel_rfl) (fun _ _ _ h => h) hC0 (fun W hW => by go_simp) ?_
          go_simp
          refine wpAnyC_act 11 rfl (by kernel_rfl) rfl ?_
          go_simp
          refine ⟨by kernel_rfl, ?_⟩
          clear hC0
          go_wp2
          go_roundw
          case rel => exact ⟨k + 1, by omega, by go_num, HJ, hbw3⟩
          case measure => simp [intOf]; omega
    · have HJ := Lib.hid (show rightK ds = decide (ds.length ≤ 60) by
        have := hpre.out
        rw [List.take_of_length_le (by omega)] at this
        unfold rightK
        rw [this, Bool.true_and])
      clear h hpre
      by_cases h60 : ds.length ≤ 60
      · have HD := Lib.hid (decide_eq_true h60)
        go_wp2
        go_ret
        exact ⟨by rw [HJ.out, HD.out]; exact ret_bool (decide_eq_true (by omega)), hb⟩
      · have HD := Lib.hid (decide_eq_false h60)
        go_wp2
        go_ret
        exact ⟨by rw [HJ.out, HD.out]; exact ret_bool (decide_eq_false (by omega)), hb⟩
end Go.Proofs.YtjhmghcfhgajcaaDoor
