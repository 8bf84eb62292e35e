/- Contracts of package run: First. -/
import Derived.Test.YtihmgiifphheeaaGreatDoorRun2
import Derived.Test.YtihmgiifphheeaaGreatDoorRange
namespace Go.Proofs.YtihmgiifphheeaaGreatDoor
open Go.RowKit Go.Sel
attribute [local go_sem] Oper.semAt_some

/-- What First hands back. -/
def firstV : Option (Nat × Nat) → Value
  | some h => .tuple #[.int .i64 h.1, .bool true]
  | none => .tuple #[.int .i64 0, .bool false]

theorem firstV_hit {l : List Int} {k : Int} {j : Nat} {h : Nat × Nat} (hr : rightS l = true) (hk : 1 ≤ k) (h1 : ∀ y ∈ (runsL l).take j, (fun h : Nat × Nat => decide (k ≤ (h.2 : Int) - (h.1 : Int))) y = false) (hx : (runsL l)[j]? = some h) (hp : k ≤ (h.2 : Int) - (h.1 : Int)) : firstL l k = some h := by
  unfold firstL; rw [hr, decide_eq_true hk]; exact find_hit h1 hx (decide_eq_true hp)
theorem firstV_none {l : List Int} {k : Int} (hr : rightS l = true) (hk : 1 ≤ k) (h1 : ∀ y ∈ (runsL l).take (runsL l).length, (fun h : Nat × Nat => decide (k ≤ (h.2 : Int) - (h.1 : Int))) y = false) : firstL l k = none := by
  unfold firstL; rw [hr, decide_eq_true hk]; exact find_none h1
theorem firstV_wrong {l : List Int} {k : Int} (hr : rightS l = false) : firstL l k = none := by unfold firstL; rw [hr]; rfl
theorem firstV_low {l : List Int} {k : Int} (hr : rightS l = true) (hk : ¬ 1 ≤ k) : firstL l k = none := by unfold firstL; rw [hr, decide_eq_false hk]; rfl

/-- What holds between two rounds of First's loop; what a round leaves that returns. n0: the heap's size at the call. -/
def FirstI (l : List Int) (k : Int) (w : World) (j : Nat) (T1 : Nat → Prop) (W : World) : Prop :=
  (∀ b, T1 b ↔ b = w.heap.size + 1 ∨ b = w.heap.size + 1 + 1) ∧ Boxed W w.heap.size 3 (.int .i64 k) ∧ Boxed W (w.heap.size + 1) 3 (.int .i64 0) ∧ Boxed W (w.heap.size + 1 + 1) 4 (.bool false) ∧ Below w.heap.size w W ∧
    ∀ y ∈ (runsL l).take j, (fun h : Nat × Nat => decide (k ≤ (h.2 : Int) - (h.1 : Int))) y = false
def FirstX (l : List Int) (k : Int) (w : World) (c : Code) (_ : Nat) (_ : Nat → Prop) (W : World) : Prop :=
  ∃ h : Nat × Nat, c = .ret ∧ firstL l k = some h ∧ Boxed W (w.heap.size + 1) 3 (.int .i64 h.1) ∧ Boxed W (w.heap.size + 1 + 1) 4 (.bool true) ∧ Below w.heap.size w W

set_option maxHeartbeats 1000000 in
theorem first_any {n : Nat} {v : Value} {l : List Int} {w : World} (k : Int) (h1 : IsInts n w v l) (hn : n ≤ w.heap.size) :
    Calls Tryz.prog 28 #[v, .int .i64 k] w fun e w' => e = .returned (firstV (firstL l k)) ∧ Below w.heap.size w w' := by
  obtain ⟨a1, c1, rfl, hc1⟩ := h1.open
  have hl := h1.len
  unfold big at hl
  refine callsIn_wide.1 (callsIn_of_wp_marks (n := 0) Tryz.func28 rfl trivial ?_)
  simp only [Tryz.ntmps28, List.size_toArray, List.length_cons, List.length_nil, Nat.reduceAdd, Nat.reduceSub, Array.replicate_succ, Array.replicate_zero, List.push_toArray, List.append_toArray, List.nil_append, List.cons_append]
  gi_wp2_with fail
  obtain ⟨w0, hw0⟩ : ∃ x, x = ((w.alloc (Obj.cells #[Value.int IntKind.i64 k] 3)).alloc (Obj.cells #[Value.int IntKind.i64 0] 3)).alloc (Obj.cells #[Value.bool false] 4) := ⟨_, rfl⟩
  rw [← hw0]
  have hs0 : w0.heap.size = w.heap.size + 3 := by rw [hw0]; simp
  have hb0 : Below w.heap.size w w0 := by rw [hw0]; exact ((((Below.refl _ w).alloc (Nat.le_refl _) _).alloc (by simp) _).alloc (by simp; omega) _)
  have b1 : Boxed w0 w.heap.size 3 (.int .i64 k) := by rw [hw0]; exact ((Boxed.new w _ _).alloc _).alloc _
  have b2 : Boxed w0 (w.heap.size + 1) 3 (.int .i64 0) := by rw [hw0]; exact (by simpa using Boxed.new (w.alloc (Obj.cells #[Value.int IntKind.i64 k] 3)) 3 (.int .i64 0) : Boxed _ (w.heap.size + 1) _ _).alloc _
  have b3 : Boxed w0 (w.heap.size + 1 + 1) 4 (.bool false) := by rw [hw0]; simpa using Boxed.new ((w.alloc (Obj.cells #[Value.int IntKind.i64 k] 3)).alloc (Obj.cells #[Value.int IntKind.i64 0] 3)) 4 (.bool false)
  clear hw0
  have HS0 := Lib.hid hs0
  have hle0 : w.heap.size + 3 ≤ w0.heap.size := by omega
  clear hs0
  refine (callsIn_wide.2 (runRight_any (h1.below (hb0.mono hn)))).mono ?_
  rintro e W1 ⟨rfl, he1⟩
  have hb1 : Below w0.heap.size w0 W1 := by rw [he1]; exact Below.refl _ _
  clear he1
  have hs1 := hb1.size
  replace b1 : Boxed W1 _ _ _ := (hb1.block _ b1.lt).trans b1
  replace b2 : Boxed W1 _ _ _ := (hb1.block _ b2.lt).trans b2
  replace b3 : Boxed W1 _ _ _ := (hb1.block _ b3.lt).trans b3
  have hbw : Below w.heap.size w W1 := hb0.trans (hb1.mono (by omega))
  have d1 := b1.cell
  have d2 := b2.cell
  have d3 := b3.cell
  have f2 := b2.frozen
  have f3 := b3.frozen
  cases hr : rightS l with
  | false =>
    have HF := Lib.hid (firstV_wrong (k := k) hr)
    have HB := Lib.hid hbw
    clear hr hb0 hb1 hbw h1 b1 b2 b3
    gi_wp2
    refine end_plain rfl ⟨firstV none, ?_, by rw [HF.out], (HB.out.setCell (p := ⟨w.heap.size + 1, 0, none⟩) (by simp) _).setCell (p := ⟨w.heap.size + 1 + 1, 0, none⟩) (by simp; omega) _⟩
    simp [results, Tryz.results28, go_sem, d2, d3, firstV]
  | true =>
    by_cases hk : 1 ≤ k
    · have hk' : ¬ k < 1 := by omega
      have hI1 : IsInts n W1 (.slice a1 l.length c1) l := h1.below (hbw.mono hn)
      have HR := Lib.hid hr
      clear hr hb0 hb1
      gi_wp2_with (gi_at_call 49; refine (callsIn_wide.2 (runs_any _ _ _ _)).mono ?_; rintro e w' ⟨rfl, rfl⟩)
      have hBl : Boxed (W1.alloc (Obj.cells #[Value.slice a1 l.length c1] 22)) W1.heap.size 22 (.slice a1 l.length c1) := Boxed.new W1 _ _
      have hkb : Below W1.heap.size W1 (W1.alloc (Obj.cells #[Value.slice a1 l.length c1] 22)) := (Below.refl _ _).alloc (Nat.le_refl _) _
      have hsz : (W1.alloc (Obj.cells #[Value.slice a1 l.length c1] 22)).heap.size = W1.heap.size + 1 := by simp
      refine range_box 6 73 rfl (enters_of Tryz.func71 (by kernel_rfl) rfl) (runs_iter (n0 := n) (hI1.below (hkb.mono (by omega))) hBl (by omega)) (Below.refl _ _)
        (fun b => b = w.heap.size + 1 ∨ b = w.heap.size + 1 + 1) (fun b hb => by omega) (fun b hb => by omega)
        (FirstI l k w) (FirstX l k w)
        ?hI ?hIx ?h0 ?assign ?body ?done ?stop
      case hI => exact fun j T1 A B ⟨e1, e2, e3, e4, e5, e6⟩ hq => ⟨e1, hq.boxed e2 (.inl (by omega)), hq.boxed e3 (.inl (by omega)), hq.boxed e4 (.inl (by omega)), hq.below e5 (by omega) (Nat.le_refl _), e6⟩
      case hIx => exact fun c j T1 A B ⟨h, e1, e2, e3, e4, e5⟩ hq => ⟨h, e1, e2, hq.boxed e3 (.inl (by omega)), hq.boxed e4 (.inl (by omega)), hq.below e5 (by omega) (Nat.le_refl _)⟩
      case h0 => exact ⟨fun b => Iff.rfl, b1.alloc _, b2.alloc _, b3.alloc _, hbw.alloc (by omega) _, fun y hy => by simp at hy⟩
      case assign =>
        intro lp j x W K hx hK
        obtain ⟨h, hh, rfl⟩ := map_at hx
        clear hx hh
        simp only [encHole, Value.cells] at hK ⊢
        gi_wp2
        exact hK
      case body =>
        intro lp j x B T1 W hx hB hI ht
        obtain ⟨h, hh, rfl⟩ := map_at hx
        obtain ⟨i1, i2, i3, i4, i5, i6⟩ := hI
        obtain ⟨m1, m2⟩ := runsL_mem (List.mem_of_getElem? hh)
        have HH := Lib.hid hh
        have H6 := Lib.hid i6
        have H1 := Lib.hid i1
        clear hx hh i6 i1 d1 d2 d3 f2 f3 b1 b2 b3 hBl hkb hsz
        obtain ⟨p, q⟩ := h
        obtain ⟨g1, g2⟩ := pair_cells (u := .int .i64 p) (v := .int .i64 q) hB
        have d1 := i2.cell
        have d2 := i3.cell
        have d3 := i4.cell
        have f2 := i3.frozen
        have f3 := i4.frozen
        simp only at m1 m2
        by_cases hp : k ≤ (q : Int) - (p : Int)
        · gi_wp2
          refine ⟨T1, fun b hb => .inl hb, ((Only.refl T1 W).setCell (p := ⟨w.heap.size + 1, 0, none⟩) (.inl ((H1.out _).2 (.inl rfl))) _).setCell (p := ⟨w.heap.size + 1 + 1, 0, none⟩) (.inl ((H1.out _).2 (.inr rfl))) _, ⟨(p, q), rfl, ?_, ?_, ?_, ?_⟩⟩
          · exact firstV_hit HR.out hk H6.out HH.out hp
          · exact (i3.set _).other (by omega) _
          · exact (i4.other (by omega) _).set _
          · exact (i5.setCell (p := ⟨w.heap.size + 1, 0, none⟩) (by simp) _).setCell (p := ⟨w.heap.size + 1 + 1, 0, none⟩) (by simp; omega) _
        · gi_wp2
          exact ⟨T1, fun b hb => .inl hb, Only.refl T1 W, ⟨H1.out, i2, i3, i4, i5, none_step H6.out HH.out (decide_eq_false (by show ¬ k ≤ (q : Int) - (p : Int); omega))⟩⟩
      case done =>
        rintro D T1 W hD ⟨i1, i2, i3, i4, i5, i6⟩ hd
        have HF := Lib.hid (firstV_none HR.out hk (by rw [List.length_map] at i6; exact i6))
        have d2 := i3.cell
        have d3 := i4.cell
        have f2 := i3.frozen
        have f3 := i4.frozen
        clear d1 i6
        gi_wp2
        refine end_mark (B := w.heap.size) (by omega) (mark_set (mark_set hd _ _) _ _) (fun w' hq => ⟨firstV none, ?_, by rw [HF.out], ?_⟩)
        · have e2 := (hq.boxed ((i3.set (.int .i64 0)).other (B' := w.heap.size + 1 + 1) (by omega) (.bool false)) (.inr trivial)).cell
          have e3 := (hq.boxed ((i4.other (B' := w.heap.size + 1) (by omega) (.int .i64 0)).set (.bool false)) (.inr trivial)).cell
          simp [results, Tryz.results28, go_sem, e2, e3, firstV]
        · exact hq.below ((i5.setCell (p := ⟨w.heap.size + 1, 0, none⟩) (by simp) _).setCell (p := ⟨w.heap.size + 1 + 1, 0, none⟩) (by simp; omega) _) (Nat.le_refl _) (Nat.le_refl _)
      case stop =>
        rintro D c j T1 W hD hj ⟨h, rfl, i1, i2, i3, i4⟩ hd
        have HF := Lib.hid i1
        clear i1
        gi_wp2
        refine end_mark (B := w.heap.size) (by omega) hd (fun w' hq => ⟨firstV (some h), ?_, by rw [HF.out], hq.below i4 (Nat.le_refl _) (Nat.le_refl _)⟩)
        have e2 := (hq.boxed i2 (.inr trivial)).cell
        have e3 := (hq.boxed i3 (.inr trivial)).cell
        simp [results, Tryz.results28, go_sem, e2, e3, firstV]
    · have HF := Lib.hid (firstV_low (k := k) hr hk)
      have HB := Lib.hid hbw
      have hk' : k < 1 := by omega
      clear hr hb0 hb1 hbw h1 b1 b2 b3 hk
      gi_wp2
      refine end_plain rfl ⟨firstV none, ?_, by rw [HF.out], (HB.out.setCell (p := ⟨w.heap.size + 1, 0, none⟩) (by simp) _).setCell (p := ⟨w.heap.size + 1 + 1, 0, none⟩) (by simp; omega) _⟩
      simp [results, Tryz.results28, go_sem, d2, d3, firstV]

end Go.Proofs.YtihmgiifphheeaaGreatDoor
