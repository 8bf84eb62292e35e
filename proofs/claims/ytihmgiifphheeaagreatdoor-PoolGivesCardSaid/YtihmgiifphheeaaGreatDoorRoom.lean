/- Contracts of package hole: Room. -/
import Derived.Test.YtihmgiifphheeaaGreatDoorHoles
namespace Go.Sel
/-- How many lines are in holes. -/
def sumH (l : List (Nat × Nat)) : Nat := (l.map fun h => h.2 - h.1).sum
def roomL (t : List Int) : Nat := sumH (holesF t 0)
theorem sumH_runsGo (l : List Int) : ∀ n f : Nat, f ≤ n → sumH (runsGo l n f) = (l.filter fun x => decide (x = 0)).length + (n - f) := by
  induction l with
  | nil => intro n f h; simp only [runsGo]; split <;> simp [sumH] <;> omega
  | cons x r ih =>
    intro n f h
    simp only [runsGo]
    by_cases hx : x = 0
    · rw [if_pos hx, ih _ _ (by omega), List.filter_cons_of_pos (by simpa using hx)]
      simp only [List.length_cons]; omega
    · rw [if_neg hx, List.filter_cons_of_neg (by simpa using hx)]
      by_cases hf : f < n
      · rw [if_pos hf]
        have := ih (n + 1) (n + 1) (Nat.le_refl _)
        simp only [sumH, List.map_cons, List.sum_cons] at this ⊢
        omega
      · rw [if_neg hf, ih _ _ (Nat.le_refl _)]; omega
theorem sumH_take {l : List (Nat × Nat)} {j : Nat} : sumH (l.take j) ≤ sumH l := by
  have : sumH l = sumH (l.take j) + sumH (l.drop j) := by
    have e : l.map (fun h => h.2 - h.1) = (l.take j).map (fun h => h.2 - h.1) ++ (l.drop j).map (fun h => h.2 - h.1) := by rw [← List.map_append, List.take_append_drop]
    unfold sumH; rw [e, List.sum_append]
  omega
theorem roomL_le (t : List Int) : roomL t ≤ 32 := by
  unfold roomL holesF
  split
  · rw [List.drop_zero, sumH_runsGo _ _ _ (Nat.le_refl _)]
    have := List.length_filter_le (fun x => decide (x = 0)) (flagsL t)
    rw [flagsL_len] at this
    omega
  · simp [sumH]
theorem sumH_snoc {l : List (Nat × Nat)} {j : Nat} {h : Nat × Nat} (hh : l[j]? = some h) : sumH (l.take (j + 1)) = sumH (l.take j) + (h.2 - h.1) := by
  rw [take_snoc hh]; simp [sumH]
theorem holesF_mem {t : List Int} {f : Nat} {h : Nat × Nat} (hm : h ∈ holesF t f) : f ≤ h.1 ∧ h.1 < h.2 ∧ h.2 ≤ 32 := by
  unfold holesF at hm
  split at hm
  · have := runsGo_mem _ _ _ _ (Nat.le_refl _) hm
    rw [List.length_drop, flagsL_len] at this
    omega
  · simp at hm
end Go.Sel
namespace Go.Proofs.YtihmgiifphheeaaGreatDoor
open Go.RowKit Go.Sel
attribute [local go_sem] Oper.semAt_some

def RoomI (l : List (Nat × Nat)) (w : World) (j : Nat) (T1 : Nat → Prop) (W : World) : Prop :=
  (∀ b, T1 b ↔ b = w.heap.size) ∧ Boxed W w.heap.size 3 (.int .i64 (sumH (l.take j))) ∧ Below w.heap.size w W

set_option maxHeartbeats 1000000 in
theorem room_any {n : Nat} {v : Value} {t : List Int} {w : World} (h1 : IsInts n w v t) (hn : n ≤ w.heap.size) :
    Calls Tryz.prog 66 #[v] w fun e w' => e = .returned (.int .i64 (roomL t)) ∧ Below w.heap.size w w' := by
  obtain ⟨a1, c1, rfl, hc1⟩ := h1.open
  refine callsIn_wide.1 (callsIn_of_wp_marks (n := 0) Tryz.func66 rfl trivial ?_)
  simp only [Tryz.ntmps66, List.size_toArray, List.length_cons, List.length_nil, Nat.reduceAdd, Nat.reduceSub, Array.replicate_succ, Array.replicate_zero, List.push_toArray, List.append_toArray, List.nil_append, List.cons_append]
  gi_wp2_with fail
  obtain ⟨w1, hw1⟩ : ∃ x, x = w.alloc (Obj.cells #[Value.int IntKind.i64 0] 3) := ⟨_, rfl⟩
  rw [← hw1]
  have b1 : Boxed w1 w.heap.size 3 (.int .i64 0) := by rw [hw1]; exact Boxed.new w _ _
  have k1 : Below w.heap.size w w1 := by rw [hw1]; exact kept_alloc (Below.refl _ _) _
  clear hw1
  have hs1 := b1.lt
  refine (callsIn_wide.2 (open_any (h1.below (k1.mono hn)) (by omega))).mono ?_
  rintro e w2 ⟨B, rfl, hB, hF, k2⟩
  have b2 := box_kept b1 k2
  have hs2 := k2.size
  gi_wp2_with fail
  refine (callsIn_wide.2 (holesMaker_any _ _ _)).mono ?_
  rintro e w3' ⟨rfl, he⟩
  obtain ⟨w3, hw3⟩ : ∃ x, x = w3' := ⟨_, rfl⟩
  rw [← hw3]
  rw [← hw3] at he
  have c1 : Boxed w3 w2.heap.size 105 (.pointer (some ⟨B, 0, none⟩)) := by rw [he]; exact (Boxed.new w2 _ _).alloc _
  have c2 : Boxed w3 (w2.heap.size + 1) 3 (.int .i64 0) := by rw [he]; simpa using Boxed.new (w2.alloc (.cells #[.pointer (some ⟨B, 0, none⟩)] 105)) 3 (.int .i64 0)
  have k3 : Below w2.heap.size w2 w3 := by rw [he]; exact kept_alloc (kept_alloc (Below.refl _ _) _) _
  have hF3 : FinderAt B t n w3 := by
    obtain ⟨a, q1, q2⟩ := hF
    exact ⟨a, (k3.block _ (Array.getElem?_eq_some_iff.1 q1).1).trans q1, q2.below (k3.mono (by omega))⟩
  have b3 := box_kept b2 k3
  have k30 : Below w.heap.size w w3 := kept_trans k1 (kept_trans (k2.mono (Nat.le_refl _)) (k3.mono (Nat.le_refl _)))
  have hs3 := k3.size
  clear hw3 he hF b2 b1 k1 k2 k3
  gi_wp2_with fail
  refine range_box 4 73 rfl (enters_of Tryz.func95 (by kernel_rfl) rfl) (holes_iter 0 hF3 c1 c2 (by omega)) (Below.refl _ _)
    (fun b => b = w.heap.size) (fun b hb => ⟨by omega, fun h => h⟩) (fun b hb => hb.elim)
    (RoomI (holesF t (max 0 0 : Int).toNat) w) (fun _ _ _ _ => False) ?hI (fun _ _ _ _ _ h _ => h) ⟨fun b => Iff.rfl, b3, k30⟩ ?assign ?body ?done (fun _ _ _ _ _ _ _ h => h.elim)
  case hI => exact fun j T1 A B ⟨e1, e2, e3⟩ hq => ⟨e1, hq.boxed e2 (.inr ((e1 _).2 rfl)), hq.below e3 (by omega) (Nat.le_refl _)⟩
  case assign =>
    intro lp j x W K hx hK
    obtain ⟨h, hh, rfl⟩ := map_at hx
    clear hx hh
    simp only [encHole, Value.cells] at hK ⊢
    gi_wp2
    exact hK
  case body =>
    rintro lp j x Bx T1 W hx hB' ⟨i1, i2, i3⟩ ht
    obtain ⟨h, hh, rfl⟩ := map_at hx
    obtain ⟨m0, m1, m2⟩ := holesF_mem (List.mem_of_getElem? hh)
    have hsum := sumH_snoc hh
    have hle := roomL_le t
    have hle2 := sumH_take (l := holesF t (max 0 0 : Int).toNat) (j := j + 1)
    have hle3 : sumH (holesF t (max 0 0 : Int).toNat) ≤ 32 := hle
    clear hx hh m0
    obtain ⟨p, q⟩ := h
    obtain ⟨g1, g2⟩ := pair_cells (u := .int .i64 p) (v := .int .i64 q) hB'
    simp only at m1 m2 hsum
    generalize hs : sumH ((holesF t (max 0 0 : Int).toNat).take j) = s at *
    have d1 := i2.cell
    have f1 := i2.frozen
    have HS := Lib.hid hsum
    have HSS := Lib.hid hs
    have HI1 := Lib.hid i1
    have hq0 : s + (q - p) ≤ 32 := by omega
    clear hsum hs hle hle2 hle3 i1 hB' c1 c2 hF3
    gi_wp2
    refine ⟨T1, fun b hb => .inl hb, (Only.refl T1 W).setCell (p := ⟨w.heap.size, 0, none⟩) (.inl ((HI1.out _).2 rfl)) _, HI1.out, ?_, i3.setCell (p := ⟨w.heap.size, 0, none⟩) (Nat.le_refl _) _⟩
    rw [HS.out]
    have := i2.set (.int .i64 ((s : Int) + ((q : Int) - (p : Int))))
    rwa [show ((s : Int) + ((q : Int) - (p : Int))) = ((s + (q - p) : Nat) : Int) from by omega] at this ⊢
  case done =>
    rintro D T1 W hD ⟨i1, i2, i3⟩ hd
    have d1 := i2.cell
    gi_wp2
    refine end_mark (B := w.heap.size) (by omega) hd (fun w' hq => ⟨_, results_tmp rfl _ _ _, rfl, hq.below i3 (Nat.le_refl _) (Nat.le_refl _)⟩)

end Go.Proofs.YtihmgiifphheeaaGreatDoor
