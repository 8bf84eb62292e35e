/- Plain laws of pools: counts of a turned pool; a large one, taken and dropped; a block, taken, closed and laid anew. -/
import Derived.Test.YtihmgiifphheeaaDoorPlain1
namespace Go.Sel
open Go
theorem takeB_some_iff {s : List Int} {a : Int} : (takeB s [a]).isSome = true ↔ 0 < s.count a := by
  rw [List.count_pos_iff]
  constructor
  · intro h
    obtain ⟨b, hb⟩ := Option.isSome_iff_exists.1 h
    obtain ⟨_, x, hx, hm⟩ := takeB_spec hb
    have : x = a := by simpa using hm
    subst this
    exact List.mem_of_getElem? hx
  · intro h
    obtain ⟨i, hi⟩ := List.getElem?_of_mem h
    have hlt := (List.getElem?_eq_some_iff.1 hi).1
    have hmem : i ∈ blocksL s [a] := by
      unfold blocksL
      rw [List.mem_filter, List.mem_range]
      exact ⟨hlt, by rw [hi]; simp⟩
    unfold takeB
    cases hc : blocksL s [a] with
    | nil => rw [hc] at hmem; cases hmem
    | cons x r => rfl
theorem count_turned {s : List Int} {b : Nat} {x : Int} (hx : s[b]? = some x) (y z : Int) : ((s.set b y).count z : Int) = (s.count z : Int) - (if x = z then 1 else 0) + (if y = z then 1 else 0) := by
  obtain ⟨hlt, rfl⟩ := List.getElem?_eq_some_iff.1 hx
  rw [List.count_set hlt]
  have hp : (if s[b] == z then 1 else 0) ≤ s.count z := by
    split
    · rename_i h
      have h' : s[b] = z := by simpa using h
      rw [← h']
      exact List.count_pos_iff.2 (List.getElem_mem hlt)
    · exact Nat.zero_le _
  have key : ∀ C : Nat, (if s[b] == z then 1 else 0) ≤ C → ((C - (if s[b] == z then 1 else 0) + (if y == z then 1 else 0) : Nat) : Int) = (C : Int) - (if s[b] = z then 1 else 0) + (if y = z then 1 else 0) := by
    intro C hC
    by_cases e1 : s[b] = z <;> by_cases e2 : y = z <;> simp [e1, e2] at hC ⊢ <;> omega
  exact key _ hp
theorem split_row {l : List Int} {f k : Nat} (hz : ∀ i, f ≤ i → i < f + k → l[i]? = some 0) (hf : f + k ≤ l.length) : l = turnL l f k 0 := by
  refine List.ext_getElem? (fun i => ?_)
  unfold turnL
  by_cases h1 : i < f
  · rw [List.append_assoc, List.getElem?_append_left (by simp; omega), List.getElem?_take_of_lt h1]
  · by_cases h2 : i < f + k
    · rw [List.getElem?_append_left (by simp; omega), List.getElem?_append_right (by simp; omega), List.getElem?_replicate, if_pos (by simp; omega)]
      exact hz i (by omega) h2
    · rw [List.getElem?_append_right (by simp; omega), List.getElem?_drop]
      congr 1
      simp; omega
theorem count_turnL (l : List Int) (f k : Nat) (x z : Int) : ((turnL l f k x).count z : Int) = (l.take f).count z + (if x = z then (k : Int) else 0) + (l.drop (f + k)).count z := by
  unfold turnL
  rw [List.count_append, List.count_append, List.count_replicate]
  by_cases e : x = z <;> simp [e]
theorem turnL_at {l : List Int} {f k : Nat} (x : Int) (hf : f + k ≤ l.length) {i : Nat} (h1 : f ≤ i) (h2 : i < f + k) : (turnL l f k x)[i]? = some x := by
  unfold turnL
  rw [List.getElem?_append_left (by simp; omega), List.getElem?_append_right (by simp; omega), List.getElem?_replicate, if_pos (by simp; omega)]
theorem count_put {l : List Int} {f k : Nat} (hk : 1 ≤ k) (hz : ∀ i, f ≤ i → i < f + k → l[i]? = some 0) (hf : f + k ≤ l.length) (z : Int) :
    ((putRow l f k).count z : Int) = (l.count z : Int) - (if z = 0 then (k : Int) else 0) + (if z = 4 then (k : Int) - 1 else 0) + (if z = 3 then 1 else 0) := by
  have h1 : (l.count z : Int) = ((turnL l f k 0).count z : Int) := by rw [← split_row hz hf]
  unfold putRow
  rw [count_turned (turnL_at 4 hf (Nat.le_refl _) (by omega)), count_turnL, h1, count_turnL]
  by_cases e0 : z = 0
  · subst e0; simp; omega
  · by_cases e4 : z = 4
    · subst e4; simp; omega
    · by_cases e3 : z = 3
      · subst e3; simp
      · have a0 : ¬ (0 : Int) = z := fun h => e0 h.symm
        have a3 : ¬ (3 : Int) = z := fun h => e3 h.symm
        have a4 : ¬ (4 : Int) = z := fun h => e4 h.symm
        simp [e0, e3, e4, a0, a3, a4]
theorem count_six {s : List Int} (h : ∀ x ∈ s, 0 ≤ x ∧ x ≤ 5) : s.count 0 + s.count 1 + s.count 2 + s.count 3 + s.count 4 + s.count 5 = s.length := by
  induction s with
  | nil => rfl
  | cons a r ih =>
    have hr := ih (fun x hx => h x (List.mem_cons_of_mem _ hx))
    obtain ⟨ha1, ha2⟩ := h a (List.mem_cons_self ..)
    simp only [List.count_cons, List.length_cons, beq_iff_eq]
    rcases (show a = 0 ∨ a = 1 ∨ a = 2 ∨ a = 3 ∨ a = 4 ∨ a = 5 by omega) with e | e | e | e | e | e <;> subst e <;> simp <;> omega
theorem countsP_eq (s : List Int) : countsP s = [(s.count 0 : Int), (s.count 1 : Int), (s.count 2 : Int), (s.count 3 : Int), (s.count 4 : Int), (s.count 5 : Int)] := rfl
/-- What the counts are behind a block that was taken. -/
theorem counts_free {s : List Int} {b : Nat} (h : takeB s [0] = some b) : countsP (s.set b 5) = [(s.count 0 : Int) - 1, (s.count 1 : Int), (s.count 2 : Int), (s.count 3 : Int), (s.count 4 : Int), (s.count 5 : Int) + 1] := by
  obtain ⟨_, x, hx, hm⟩ := takeB_spec h
  have : x = 0 := by simpa using hm
  subst this
  rw [countsP_eq]
  simp only [count_turned hx]
  simp
theorem counts_hole {s : List Int} {b : Nat} (h : takeB s [1] = some b) : countsP (s.set b 5) = [(s.count 0 : Int), (s.count 1 : Int) - 1, (s.count 2 : Int), (s.count 3 : Int), (s.count 4 : Int), (s.count 5 : Int) + 1] := by
  obtain ⟨_, x, hx, hm⟩ := takeB_spec h
  have : x = 1 := by simpa using hm
  subst this
  rw [countsP_eq]
  simp only [count_turned hx]
  simp
end Go.Sel
namespace Go.Proofs.YtihmgiifphheeaaDoor
open Go.Sel
theorem rightP_states {s : List Int} {t : List (List Int)} (h : rightP s t = true) : 1 ≤ s.length ∧ s.length ≤ 32 ∧ ∀ x ∈ s, 0 ≤ x ∧ x ≤ 5 := by
  have hw := rightP_whole h
  unfold wholeL rightS at hw
  simp only [Bool.and_eq_true, decide_eq_true_eq, Bool.not_eq_true', List.any_eq_false] at hw
  refine ⟨hw.2.1.1, hw.2.1.2, fun x hx => ?_⟩
  have := hw.2.2 x hx
  unfold noState at this
  simp at this
  omega
theorem counts_le {s : List Int} {t : List (List Int)} (h : rightP s t = true) (z : Int) : s.count z ≤ 32 := Nat.le_trans List.count_le_length (rightP_states h).2.1
theorem counts_put {s : List Int} {k : Int} {h : Nat × Nat} (hf : firstL s k = some h) : 1 ≤ k ∧ k ≤ s.length ∧ countsP (putRow s h.1 k.toNat) = [(s.count 0 : Int) - k, (s.count 1 : Int), (s.count 2 : Int), (s.count 3 : Int) + 1, (s.count 4 : Int) + k - 1, (s.count 5 : Int)] := by
  obtain ⟨k1, k2, hz⟩ := firstL_zeros hf
  have hk : ((k.toNat : Nat) : Int) = k := by omega
  refine ⟨by omega, by omega, ?_⟩
  rw [countsP_eq]
  simp only [count_put k1 hz k2]
  simp [hk]
  omega
theorem firstL_none_of {s : List Int} (h : takeB s [0] = none) (k : Int) : firstL s k = none := by
  cases hf : firstL s k with
  | none => rfl
  | some p =>
    obtain ⟨k1, k2, hz⟩ := firstL_zeros hf
    have hm : (0 : Int) ∈ s := List.mem_of_getElem? (hz p.1 (Nat.le_refl _) (by omega))
    have := takeB_some_iff.2 (List.count_pos_iff.2 hm)
    rw [h] at this
    cases this
/-- A large one that was put is cut as it was. -/
theorem must_put {s : List Int} {f k : Nat} (hk : 1 ≤ k) (hf : f + k ≤ s.length) : mustL (putRow s f k) (f : Int) 1 isHeadB = true := by
  have hlen := putRow_len hf
  have hat := putRow_at hk hf f
  rw [if_pos rfl] at hat
  unfold mustL
  rw [hlen]
  simp only [Bool.and_eq_true, decide_eq_true_eq]
  refine ⟨⟨by omega, by omega⟩, ?_⟩
  rw [List.all_eq_true]
  intro x hx
  obtain ⟨i, hi⟩ := List.getElem?_of_mem hx
  have hi1 : i < 1 := by
    have := (List.getElem?_eq_some_iff.1 hi).1
    rw [List.length_take] at this; omega
  obtain rfl : i = 0 := by omega
  rw [List.getElem?_take_of_lt (by omega), List.getElem?_drop, Int.toNat_natCast, Nat.add_zero, hat] at hi
  cases hi
  rfl
theorem cut_put {s : List Int} {t : List (List Int)} {k : Int} {h : Nat × Nat} (hr : rightP s t = true) (hf : firstL s k = some h) : cutLen (putRow s h.1 k.toNat) h.1 = k.toNat ∧ turnL (putRow s h.1 k.toNat) h.1 k.toNat 0 = s := by
  obtain ⟨k1, k2, hz⟩ := firstL_zeros hf
  have hat := putRow_at k1 k2
  have hlen := putRow_len k2
  have hw := (wholeGo_iff _ _).1 (by have := rightP_whole hr; unfold wholeL at this; simp only [Bool.and_eq_true] at this; exact this.1)
  constructor
  · unfold cutLen
    have := takeWhile_len (p := fun x : Int => decide (x = 4)) (xs := (putRow s h.1 k.toNat).drop (h.1 + 1)) (m := k.toNat - 1) (by rw [List.length_drop, hlen]; omega)
      (fun j x hj hx => by
        rw [List.getElem?_drop, hat, if_neg (by omega), if_pos (by omega)] at hx
        cases hx; rfl)
      (fun x hx => by
        rw [List.getElem?_drop, hat, if_neg (by omega), if_neg (by omega)] at hx
        rw [decide_eq_false_iff_not]
        intro e
        subst e
        have h4 := hw _ hx
        obtain ⟨i, hi⟩ : ∃ i, h.1 + 1 + (k.toNat - 1) = i + 1 := ⟨h.1 + (k.toNat - 1), by omega⟩
        rw [hi] at h4
        have h0 := hz i (by omega) (by omega)
        have : s[i]?.getD 0 = 3 ∨ s[i]?.getD 0 = 4 := h4
        rw [h0] at this
        simp at this)
    rw [this]
    omega
  · refine List.ext_getElem? (fun i => ?_)
    unfold turnL
    by_cases h1 : i < h.1
    · rw [List.append_assoc, List.getElem?_append_left (by simp; omega), List.getElem?_take_of_lt h1, hat, if_neg (by omega), if_neg (by omega)]
    · by_cases h2 : i < h.1 + k.toNat
      · rw [List.getElem?_append_left (by simp; omega), List.getElem?_append_right (by simp; omega), List.getElem?_replicate, if_pos (by simp; omega), hz i (by omega) h2]
      · rw [List.getElem?_append_right (by simp; omega), List.getElem?_drop]
        have e : h.1 + k.toNat + (i - (List.take h.1 (putRow s h.1 k.toNat) ++ List.replicate k.toNat 0).length) = i := by simp; omega
        rw [e, hat, if_neg (by omega), if_neg (by omega)]
/-- A block that is held may be closed; a table laid in a block of the three states. -/
theorem blockE_yes {s sts : List Int} {t : List (List Int)} {b : Nat} {x : Int} (hr : rightP s t = true) (hx : s[b]? = some x) (hm : x ∈ sts) : blockE s t (b : Int) sts = none := by
  have hlt := (List.getElem?_eq_some_iff.1 hx).1
  unfold blockE
  rw [if_neg (by rw [hr]; decide), if_pos ⟨by omega, by omega, by rw [Int.toNat_natCast, hx]; exact hm⟩]
theorem rightP_full {s : List Int} {t : List (List Int)} {b : Nat} (h : rightP s t = true) (hb : takeB s [0] = some b) : rightP ((s.set b 5).set b 2) t = true := by
  obtain ⟨hlt, x, hx, hm⟩ := takeB_spec hb
  have hxa : x = 0 := by simpa using hm
  subst hxa
  rw [List.set_set]
  refine rightP_mk (wholeL_set (rightP_whole h) hlt (by omega) (by omega) (fun y hy => by rw [hx] at hy; cases hy; omega)) (by rw [List.length_set]; exact rightP_len h) (fun i y z h1 h2 => ?_)
  by_cases e : b = i
  · subst e
    rw [List.getElem?_set_self (by omega)] at h1
    cases h1
    exact ⟨(rightP_at h hx h2).1, by simp [askP]⟩
  · rw [List.getElem?_set_ne e] at h1
    exact rightP_at h h1 h2
theorem state_zero : stateL (List.replicate 32 0) = 0 := by decide +kernel
theorem right_zero : rightT (List.replicate 32 0) = true := by decide +kernel
/-- Taken, closed, laid with an empty table: as it was. -/
theorem back_free {s : List Int} {t : List (List Int)} {b : Nat} (h : rightP s t = true) (hb : takeB s [0] = some b) : ((s.set b 5).set b 2).set b (stateL (List.replicate 32 0)) = s ∧ t.set b (List.replicate 32 0) = t := by
  obtain ⟨hlt, x, hx, hm⟩ := takeB_spec hb
  have hxa : x = 0 := by simpa using hm
  subst hxa
  constructor
  · rw [List.set_set, List.set_set, state_zero]
    refine List.ext_getElem? (fun i => ?_)
    by_cases e : b = i
    · subst e; rw [List.getElem?_set_self hlt, hx]
    · rw [List.getElem?_set_ne e]
  · have htl : b < t.length := by rw [rightP_len h]; exact hlt
    refine List.ext_getElem? (fun i => ?_)
    by_cases e : b = i
    · subst e
      rw [List.getElem?_set_self htl]
      have := (rightP_at h hx (List.getElem?_eq_getElem htl)).2
      unfold askP at this
      rw [if_pos (.inl rfl), decide_eq_true_eq] at this
      rw [List.getElem?_eq_getElem htl, this]
    · rw [List.getElem?_set_ne e]
theorem setE_back {s : List Int} {t : List (List Int)} {b : Nat} (h : rightP s t = true) (hb : takeB s [0] = some b) : setE ((s.set b 5).set b 2) t (b : Int) (List.replicate 32 0) = none := by
  obtain ⟨hlt, _⟩ := takeB_spec hb
  unfold setE
  rw [blockE_yes (x := 2) (rightP_full h hb) (by rw [List.getElem?_set_self (by simpa using hlt)]) (by simp)]
  simp only []
  rw [if_pos right_zero]
theorem close_back {s : List Int} {t : List (List Int)} {b : Nat} (h : rightP s t = true) (hb : takeB s [0] = some b) : blockE (s.set b 5) t (b : Int) [5] = none := by
  obtain ⟨hlt, _⟩ := takeB_spec hb
  exact blockE_yes (x := 5) (rightP_taken h hb (.inl rfl)) (by rw [List.getElem?_set_self hlt]) (by simp)
/-- A table laid anew. -/
theorem stateL_ask (x : List Int) : 0 ≤ stateL x ∧ stateL x ≤ 2 := by
  unfold stateL
  split
  · omega
  · split <;> omega
end Go.Proofs.YtihmgiifphheeaaDoor
