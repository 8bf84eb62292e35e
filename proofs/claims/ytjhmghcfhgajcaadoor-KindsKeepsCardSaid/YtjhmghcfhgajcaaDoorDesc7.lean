/- Contracts of (*desc.shape).kind, desc.Kind. -/
import Derived.Test.YtjhmghcfhgajcaaDoorDesc6
namespace Go.Proofs.YtjhmghcfhgajcaaDoor
open Go.RowKit Go.Sel
attribute [local go_sem] Oper.semAt_some

/-- Between two rounds; where one has returned. -/
def KindI (d : DescL) (n : Nat) (at' : Int) (w : World) (j : Nat) (T1 : Nat → Prop) (W : World) : Prop :=
  (∀ b, T1 b ↔ b = w.heap.size + 1) ∧ Boxed W w.heap.size 3 (.int .i64 at') ∧ Boxed W (w.heap.size + 1) 3 (.int .i64 0) ∧ Below w.heap.size w W ∧ ∀ y ∈ (pointersL d n).take j, y ≠ at'
def KindX (d : DescL) (n : Nat) (at' : Int) (w : World) (c : Code) (_ : Nat) (_ : Nat → Prop) (W : World) : Prop :=
  c = .ret ∧ at' ∈ pointersL d n ∧ Boxed W (w.heap.size + 1) 3 (.int .i64 2) ∧ Below w.heap.size w W

set_option maxRecDepth 100000 in
set_option maxHeartbeats 4000000 in
theorem kindOf_any {g n0 : Nat} {d : DescL} {v1 v2 : Value} {n : Nat} {w : World} (at' : Int) (hat : I64 at') (hs : shapeE d (n : Int) = none) (hg : w.heap[g]? = some (.cells (shapeCells d v1 v2 (n : Int)) 65 (0, 0)))
    (h1 : IsInts n0 w v1 d.ptrs) (h2 : IsInts n0 w v2 d.eptrs) (hn0 : n0 ≤ w.heap.size) :
    Calls Tryd.prog 34 #[.pointer (some ⟨g, 0, none⟩), .int .i64 at'] w fun e w' => e = .returned (.int .i64 (kindP d n at')) ∧ Below w.heap.size w w' := by
  obtain ⟨hr, _, hn1, _, hsz⟩ := shapeE_none hs
  obtain ⟨⟨s1, s2, -⟩, ⟨e1, e2, -⟩, -, -⟩ := rightD_parts hr
  have l1 : 0 ≤ (n : Int) * d.elem := Int.mul_nonneg (by omega) e1
  have r1 : IntKind.i64.wrap ((n : Int) * d.elem) = (n : Int) * d.elem := IntWalk.i64_in _ (by omega)
  have r2 : IntKind.i64.wrap (d.size + (n : Int) * d.elem) = d.size + (n : Int) * d.elem := IntWalk.i64_in _ (by omega)
  have r3 : IntKind.i64.wrap (d.size + (n : Int) * d.elem - 4) = d.size + (n : Int) * d.elem - 4 := IntWalk.i64_in _ (by omega)
  have hm : I64 (d.size + (n : Int) * d.elem - 4) := by unfold I64; omega
  have hgl := (Array.getElem?_eq_some_iff.1 hg).1
  clear hr
  refine callsIn_wide.1 (callsIn_of_wp_marks (n := 0) Tryd.func34 rfl trivial ?_)
  simp only [Tryd.ntmps34, List.size_toArray, List.length_cons, List.length_nil, Nat.reduceAdd, Nat.reduceSub, Array.replicate_succ, Array.replicate_zero, List.push_toArray, List.append_toArray, List.nil_append, List.cons_append]
  gi_wp2_with fail
  obtain ⟨w0, hw0⟩ : ∃ x, x = (w.alloc (Obj.cells #[Value.int IntKind.i64 at'] 3)).alloc (Obj.cells #[Value.int IntKind.i64 0] 3) := ⟨_, rfl⟩
  rw [← hw0]
  have hs0 : w0.heap.size = w.heap.size + 2 := by rw [hw0]; simp
  have hb0 : Below w.heap.size w w0 := by rw [hw0]; exact kept_alloc (kept_alloc (Below.refl _ w) _) _
  have b1 : Boxed w0 w.heap.size 3 (.int .i64 at') := by rw [hw0]; exact (Boxed.new w _ _).alloc _
  have b2 : Boxed w0 (w.heap.size + 1) 3 (.int .i64 0) := by rw [hw0]; simpa using Boxed.new (w.alloc (Obj.cells #[Value.int IntKind.i64 at'] 3)) 3 (.int .i64 0)
  clear hw0
  have hg0 := (hb0.block _ hgl).trans hg
  obtain ⟨g1, g2, g3, g4, g5, g6⟩ := six_cells hg0
  have d1 := b1.cell
  have HC := Lib.hid (fun q => (isSize_any at' (d.size + (n : Int) * d.elem - 4) hat hm (w0.drewN q)).mono (fun e w' (h : _ ∧ _) => (⟨h.1, 0, h.2⟩ : e = .returned (.bool (isSizeP at' (d.size + (n : Int) * d.elem - 4))) ∧ ∃ m, w' = (w0.drewN q).drewN m)))
  have hsd : w.heap.size + 2 ≤ w0.heap.size := by omega
  clear hs0
  refine wpIn_wide.2 ?_
  go_quiet (refine Calls.quiet_of (HC.out _))
  obtain ⟨wd, hwd⟩ : ∃ y, y = w0.drewN nq := ⟨_, rfl⟩
  rw [← hwd]
  have hd0 : Below w0.heap.size w0 wd := by rw [hwd]; exact below_drewN (Below.refl _ _) nq
  replace hb0 := kept_trans hb0 hd0
  replace b1 := box_kept b1 hd0
  replace b2 := box_kept b2 hd0
  replace hsd : w.heap.size + 2 ≤ wd.heap.size := by have := hd0.size; omega
  have hgd := (hb0.block _ hgl).trans hg
  clear hwd hd0 HC g1 g2 g3 g4 g5 g6 hg0 d1
  have d1 := b1.cell
  have d2 := b2.cell
  have f2 := b2.frozen
  cases hp : isSizeP at' (d.size + (n : Int) * d.elem - 4) with
  | false =>
    have HF := Lib.hid (show kindP d n at' = 0 by unfold kindP; rw [if_neg (by rw [hp]; decide)])
    have HB := Lib.hid hb0
    clear hp hb0 b1 b2 h1 h2 hg hgd r1 r2 r3
    gi_wp2
    refine end_plain rfl ⟨.int .i64 0, ?_, by rw [HF.out], HB.out.setCell (p := ⟨w.heap.size + 1, 0, none⟩) (by simp) _⟩
    simp [results, Tryd.results34, go_sem, d2]
  | true =>
    have HK := Lib.hid (show kindP d n at' = if at' ∈ pointersL d n then 2 else 1 by unfold kindP; rw [if_pos hp])
    clear hp r1 r2 r3
    gi_wp2_with (gi_at_call 54; refine (callsIn_wide.2 (ptrMaker_any _ _)).mono ?_; rintro e w' ⟨rfl, rfl⟩)
    have hkb : Below wd.heap.size wd (wd.alloc (Obj.cells #[Value.pointer (some ⟨g, 0, none⟩)] 58)) := kept_alloc (Below.refl _ _) _
    have hsz : (wd.alloc (Obj.cells #[Value.pointer (some ⟨g, 0, none⟩)] 58)).heap.size = wd.heap.size + 1 := by simp
    have hfoot : ∀ b, PtrFoot wd.heap.size g d v1 v2 b → b < wd.heap.size + 1 ∧ b ≠ w.heap.size + 1 := fun b hb => by
      rcases hb with rfl | rfl | ⟨hp, e⟩ | ⟨hp, e⟩
      · omega
      · omega
      · have := ints_block h1 hp b e; omega
      · have := ints_block h2 hp b e; omega
    refine range_one 5 rfl (enters_of Tryd.func71 (by kernel_rfl) rfl)
      (pointers_iter (sb := wd.heap.size) (n0 := n0) hs ⟨Boxed.new _ _ _, blk_kept hgd hkb, h1.below ((hb0.trans (hkb.mono (by omega))).mono hn0), h2.below ((hb0.trans (hkb.mono (by omega))).mono hn0)⟩ (by omega)) (Below.refl _ _)
      (fun b => b = w.heap.size + 1) (fun b hb => ⟨by omega, fun hf => (hfoot b hf).2 hb⟩) (fun b hb => by have := (hfoot b hb).1; omega)
      (KindI d n at' w) (KindX d n at' w) ?hI ?hIx ?h0 ?assign ?body ?done ?stop
    case hI => exact fun j T1 A B ⟨e1, e2, e3, e4, e5⟩ hq => ⟨e1, hq.boxed e2 (.inl (by omega)), hq.boxed e3 (.inl (by omega)), hq.below e4 (by omega) (Nat.le_refl _), e5⟩
    case hIx => exact fun c j T1 A B ⟨e1, e2, e3, e4⟩ hq => ⟨e1, e2, hq.boxed e3 (.inl (by omega)), hq.below e4 (by omega) (Nat.le_refl _)⟩
    case h0 => exact ⟨fun b => Iff.rfl, b1.alloc _, b2.alloc _, hb0.alloc (by omega) _, fun y hy => by simp at hy⟩
    case assign =>
      intro lp j x W K hx hK
      clear hx
      gi_wp2
      exact hK
    case body =>
      intro lp j x T1 W hx hI ht
      obtain ⟨y, hy, rfl⟩ := map_at hx
      obtain ⟨i1, i2, i3, i4, i5⟩ := hI
      have HY := Lib.hid hy
      have H5 := Lib.hid i5
      have H1 := Lib.hid i1
      clear hx hy i5 i1 d1 d2 f2 b1 b2 hkb hsz hfoot
      have d1 := i2.cell
      have d2 := i3.cell
      have f2 := i3.frozen
      by_cases hya : y = at'
      · subst hya
        gi_wp2
        exact ⟨T1, fun b hb => .inl hb, (Only.refl T1 W).setCell (p := ⟨w.heap.size + 1, 0, none⟩) (.inl ((H1.out _).2 rfl)) _, rfl, List.mem_of_getElem? HY.out, i3.set _, i4.setCell (p := ⟨w.heap.size + 1, 0, none⟩) (by simp) _⟩
      · have hne : (y == at') = false := by rw [beq_eq_false_iff_ne]; exact hya
        gi_wp2
        refine ⟨T1, fun b hb => .inl hb, Only.refl T1 W, H1.out, i2, i3, i4, fun z hz => ?_⟩
        rw [take_snoc HY.out] at hz
        rcases List.mem_append.1 hz with hz | hz
        · exact H5.out z hz
        · rw [List.mem_singleton.1 hz]; exact hya
    case done =>
      rintro D T1 W hD ⟨i1, i2, i3, i4, i5⟩ hd
      have HF := Lib.hid (show kindP d n at' = 1 by
        rw [HK.out, if_neg]
        intro hm'
        rw [ptrVals, List.length_map, List.take_length] at i5
        exact i5 _ hm' rfl)
      have d2 := i3.cell
      have f2 := i3.frozen
      clear d1 i5
      gi_wp2
      refine end_mark (B := w.heap.size) (by omega) (mark_set hd _ _) (fun w' hq => ⟨.int .i64 1, ?_, by rw [HF.out], ?_⟩)
      · have e2 := (hq.boxed (i3.set (.int .i64 1)) (.inr trivial)).cell
        simp [results, Tryd.results34, go_sem, e2]
      · exact hq.below (i4.setCell (p := ⟨w.heap.size + 1, 0, none⟩) (by simp) _) (Nat.le_refl _) (Nat.le_refl _)
    case stop =>
      rintro D c j T1 W hD hj ⟨rfl, i1, i2, i3⟩ hd
      have HF := Lib.hid (show kindP d n at' = 2 by rw [HK.out, if_pos i1])
      clear i1
      gi_wp2
      refine end_mark (B := w.heap.size) (by omega) hd (fun w' hq => ⟨.int .i64 2, ?_, by rw [HF.out], hq.below i3 (Nat.le_refl _) (Nat.le_refl _)⟩)
      have e2 := (hq.boxed i2 (.inr trivial)).cell
      simp [results, Tryd.results34, go_sem, e2]
end Go.Proofs.YtjhmghcfhgajcaaDoor
