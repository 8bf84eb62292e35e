/- Plain laws of pools: what a turned state leaves right. -/
import Derived.Test.YtihmgiifphheeaaGreatDoorOthers
namespace Go.Sel
open Go
/-- A block that is neither head nor tail, turned to one that is neither: whole stays whole. -/
theorem wholeGo_set : ∀ (l : List Int) (last : Int) (b : Nat) (y : Int), b < l.length → ¬ y = 4 → (∀ x, l[b]? = some x → ¬ x = 3 ∧ ¬ x = 4) → wholeGo last l = true → wholeGo last (l.set b y) = true
  | [], _, _, _, h, _, _, _ => by simp at h
  | s :: r, last, 0, y, _, hy, hx, h => by
    have h3 := hx s rfl
    simp only [wholeGo] at h
    rw [if_neg (fun h' => h3.2 h'.1)] at h
    simp only [List.set_cons_zero, wholeGo]
    rw [if_neg (fun h' => hy h'.1)]
    cases r with
    | nil => rfl
    | cons s2 r2 =>
      simp only [wholeGo] at h ⊢
      split at h
      · cases h
      · rename_i hn
        split
        · rename_i hp
          exact absurd ⟨hp.1, h3.1, h3.2⟩ hn
        · exact h
  | s :: r, last, b + 1, y, hb, hy, hx, h => by
    simp only [wholeGo] at h
    simp only [List.set_cons_succ, wholeGo]
    split at h
    · cases h
    · rename_i hn
      rw [if_neg hn]
      exact wholeGo_set r s b y (by simpa using hb) hy (fun x hx' => hx x (by simpa using hx')) h
theorem rightS_set {l : List Int} {b : Nat} {y : Int} (h : rightS l = true) (hy : 0 ≤ y ∧ y ≤ 5) : rightS (l.set b y) = true := by
  unfold rightS at h ⊢
  simp only [Bool.and_eq_true, decide_eq_true_eq, Bool.not_eq_true', List.any_eq_false, List.length_set] at h ⊢
  refine ⟨h.1, fun x hx => ?_⟩
  rcases List.mem_or_eq_of_mem_set hx with hx | rfl
  · exact h.2 x hx
  · unfold noState
    simp; omega
theorem wholeL_set {l : List Int} {b : Nat} {y : Int} (h : wholeL l = true) (hb : b < l.length) (hy : 0 ≤ y ∧ y ≤ 5) (hy4 : ¬ y = 4) (hx : ∀ x, l[b]? = some x → ¬ x = 3 ∧ ¬ x = 4) : wholeL (l.set b y) = true := by
  unfold wholeL at h ⊢
  simp only [Bool.and_eq_true] at h ⊢
  exact ⟨wholeGo_set l 0 b y hb hy4 hx h.1, rightS_set h.2 hy⟩
theorem takeB_spec {s sts : List Int} {b : Nat} (h : takeB s sts = some b) : b < s.length ∧ ∃ x, s[b]? = some x ∧ x ∈ sts := by
  unfold takeB at h
  have hm := List.mem_of_mem_head? h
  unfold blocksL at hm
  rw [List.mem_filter, List.mem_range] at hm
  refine ⟨hm.1, s[b]'hm.1, List.getElem?_eq_getElem hm.1, ?_⟩
  have := hm.2
  rw [List.getElem?_eq_getElem hm.1] at this
  simpa using this
/-- What stands ahead of a place. -/
def prevL (last : Int) (l : List Int) : Nat → Int
  | 0 => last
  | i + 1 => l[i]?.getD 0
theorem wholeGo_iff : ∀ (l : List Int) (last : Int), wholeGo last l = true ↔ ∀ i, l[i]? = some 4 → prevL last l i = 3 ∨ prevL last l i = 4
  | [], last => by simp [wholeGo]
  | s :: r, last => by
    rw [wholeGo]
    constructor
    · intro h i hi
      split at h
      · cases h
      · rename_i hn
        cases i with
        | zero =>
          have hs : s = 4 := by simpa using hi
          show last = 3 ∨ last = 4
          rcases Classical.em (last = 3) with h3 | h3
          · exact .inl h3
          · rcases Classical.em (last = 4) with h4 | h4
            · exact .inr h4
            · exact absurd ⟨hs, h3, h4⟩ hn
        | succ i =>
          have := (wholeGo_iff r s).1 h i (by simpa using hi)
          cases i with
          | zero => exact this
          | succ i => exact this
    · intro h
      split
      · rename_i hp
        have := h 0 (by rw [hp.1]; rfl)
        rcases this with h3 | h4
        · exact absurd h3 hp.2.1
        · exact absurd h4 hp.2.2
      · refine (wholeGo_iff r s).2 (fun i hi => ?_)
        have := h (i + 1) (by simpa using hi)
        cases i with
        | zero => exact this
        | succ i => exact this
/-- What stands where in a row with a large one. -/
theorem putRow_at {l : List Int} {f k : Nat} (hk : 1 ≤ k) (hf : f + k ≤ l.length) (i : Nat) : (putRow l f k)[i]? = if i = f then some 3 else if f < i ∧ i < f + k then some 4 else l[i]? := by
  have hlen : (turnL l f k 4).length = l.length := length_turnL 4 hf
  unfold putRow
  rw [List.getElem?_set]
  by_cases e : i = f
  · subst e
    rw [if_pos rfl, if_pos rfl, if_pos (by omega)]
  · rw [if_neg (fun h => e h.symm), if_neg e]
    unfold turnL
    by_cases h1 : i < f
    · rw [if_neg (by omega), List.append_assoc, List.getElem?_append_left (by simp; omega), List.getElem?_take_of_lt h1]
    · by_cases h2 : i < f + k
      · rw [if_pos ⟨by omega, h2⟩, List.getElem?_append_left (by simp; omega), List.getElem?_append_right (by simp; omega), List.getElem?_replicate, if_pos (by simp; omega)]
      · rw [if_neg (by omega), List.getElem?_append_right (by simp; omega), List.getElem?_drop]
        congr 1
        simp; omega
end Go.Sel
namespace Go.Proofs.YtihmgiifphheeaaGreatDoor
open Go.Sel
theorem rightP_at {s : List Int} {t : List (List Int)} (h : rightP s t = true) {i : Nat} {x : Int} {y : List Int} (hx : s[i]? = some x) (hy : t[i]? = some y) : rightT y = true ∧ askP x y = true := by
  unfold rightP at h
  simp only [Bool.and_eq_true, List.all_eq_true] at h
  have := h.2 (x, y) (List.mem_of_getElem? (i := i) (by rw [List.getElem?_zip_eq_some]; exact ⟨hx, hy⟩))
  simpa using this
theorem rightP_mk {s : List Int} {t : List (List Int)} (h1 : wholeL s = true) (h2 : t.length = s.length) (h3 : ∀ (i : Nat) (x : Int) (y : List Int), s[i]? = some x → t[i]? = some y → rightT y = true ∧ askP x y = true) : rightP s t = true := by
  unfold rightP
  simp only [Bool.and_eq_true, decide_eq_true_eq, List.all_eq_true]
  refine ⟨⟨h1, h2⟩, fun p hp => ?_⟩
  obtain ⟨i, hi⟩ := List.getElem?_of_mem hp
  rw [List.getElem?_zip_eq_some] at hi
  exact h3 i p.1 p.2 hi.1 hi.2
theorem rightP_len {s : List Int} {t : List (List Int)} (h : rightP s t = true) : t.length = s.length := by
  unfold rightP at h
  simp only [Bool.and_eq_true, decide_eq_true_eq] at h
  exact h.1.2
/-- A block taken leaves a right pool. -/
theorem rightP_taken {s : List Int} {t : List (List Int)} {a : Int} {b : Nat} (h : rightP s t = true) (hb : takeB s [a] = some b) (ha : a = 0 ∨ a = 1) : rightP (s.set b 5) t = true := by
  obtain ⟨hlt, x, hx, hm⟩ := takeB_spec hb
  have hxa : x = a := by simpa using hm
  subst hxa
  refine rightP_mk (wholeL_set (rightP_whole h) hlt (by omega) (by omega) (fun y hy => by rw [hx] at hy; cases hy; omega)) (by rw [List.length_set]; exact rightP_len h) (fun i y z h1 h2 => ?_)
  by_cases e : b = i
  · subst e
    rw [List.getElem?_set_self (by omega)] at h1
    cases h1
    exact ⟨(rightP_at h hx h2).1, by simp [askP]⟩
  · rw [List.getElem?_set_ne e] at h1
    exact rightP_at h h1 h2

theorem firstL_zeros {l : List Int} {k : Int} {h : Nat × Nat} (hf : firstL l k = some h) : 1 ≤ k.toNat ∧ h.1 + k.toNat ≤ l.length ∧ ∀ i, h.1 ≤ i → i < h.1 + k.toNat → l[i]? = some 0 := by
  unfold firstL at hf
  split at hf
  · rename_i hg
    simp only [Bool.and_eq_true, decide_eq_true_eq] at hg
    have hmem := List.mem_of_find?_eq_some hf
    have hk := List.find?_some hf
    simp only [decide_eq_true_eq] at hk
    obtain ⟨m1, m2⟩ := runsL_mem hmem
    exact ⟨by omega, by omega, fun i h1 h2 => runsL_zeros hmem i h1 (by omega)⟩
  · cases hf
theorem putRow_len {l : List Int} {f k : Nat} (hf : f + k ≤ l.length) : (putRow l f k).length = l.length := by
  unfold putRow
  rw [List.length_set]
  exact length_turnL 4 hf
theorem rightP_put {s : List Int} {t : List (List Int)} {k : Int} {h : Nat × Nat} (hr : rightP s t = true) (hf : firstL s k = some h) : rightP (putRow s h.1 k.toNat) t = true := by
  obtain ⟨k1, k2, hz⟩ := firstL_zeros hf
  have hw := rightP_whole hr
  have hat := putRow_at k1 k2
  refine rightP_mk ?_ (by rw [putRow_len k2]; exact rightP_len hr) (fun i x y h1 h2 => ?_)
  · unfold wholeL at hw ⊢
    simp only [Bool.and_eq_true] at hw ⊢
    refine ⟨(wholeGo_iff _ _).2 (fun i hi => ?_), ?_⟩
    · rw [hat] at hi
      split at hi
      · cases hi
      · rename_i e
        split at hi
        · rename_i hin
          obtain ⟨i, rfl⟩ : ∃ j, i = j + 1 := ⟨i - 1, by omega⟩
          show (putRow s h.1 k.toNat)[i]?.getD 0 = 3 ∨ (putRow s h.1 k.toNat)[i]?.getD 0 = 4
          rw [hat]
          by_cases e2 : i = h.1
          · rw [if_pos e2]; exact .inl rfl
          · rw [if_neg e2, if_pos (by omega)]; exact .inr rfl
        · rename_i hout
          have hp := (wholeGo_iff _ _).1 hw.1 i hi
          cases i with
          | zero => exact hp
          | succ i =>
            show (putRow s h.1 k.toNat)[i]?.getD 0 = 3 ∨ (putRow s h.1 k.toNat)[i]?.getD 0 = 4
            rw [hat]
            by_cases e2 : i = h.1
            · rw [if_pos e2]; exact .inl rfl
            · rw [if_neg e2]
              split
              · exact .inr rfl
              · exact hp
    · have hs := hw.2
      unfold rightS at hs ⊢
      simp only [Bool.and_eq_true, decide_eq_true_eq, Bool.not_eq_true', List.any_eq_false] at hs ⊢
      rw [putRow_len k2]
      refine ⟨hs.1, fun x hx => ?_⟩
      rcases putRow_mem hx with hx | rfl | rfl
      · exact hs.2 x hx
      · decide
      · decide
  · rw [hat] at h1
    have hz' : ∀ i, h.1 ≤ i → i < h.1 + k.toNat → t[i]? = some y → rightT y = true ∧ askP 0 y = true := fun i a b c => rightP_at hr (hz i a b) c
    split at h1
    · rename_i e
      cases h1
      have := hz' i (by omega) (by omega) h2
      exact ⟨this.1, by have h3 := this.2; simpa [askP] using h3⟩
    · split at h1
      · rename_i e
        cases h1
        have := hz' i (by omega) (by omega) h2
        exact ⟨this.1, by have h3 := this.2; simpa [askP] using h3⟩
      · exact rightP_at hr h1 h2
theorem othersP_mk {s s' : List Int} {t : List (List Int)} {f n : Nat} (h1 : s'.length = s.length) (h2 : t.length = s.length) (h : ∀ i, ¬ (f ≤ i ∧ i < f + n) → s'[i]? = s[i]?) : othersP s s' t t f n = true := by
  unfold othersP
  simp only [Bool.and_eq_true, decide_eq_true_eq, List.all_eq_true]
  refine ⟨⟨⟨h1.symm, trivial⟩, h2⟩, fun i _ => ?_⟩
  unfold sameAt
  by_cases e : f ≤ i ∧ i < f + n
  · simp [e.1, e.2]
  · rw [h i e]; simp
theorem othersP_taken {s : List Int} {t : List (List Int)} {b : Nat} (h2 : t.length = s.length) : othersP s (s.set b 5) t t b 1 = true :=
  othersP_mk (by simp) h2 (fun i hi => List.getElem?_set_ne (by omega))
theorem othersP_put {s : List Int} {t : List (List Int)} {f k : Nat} (hk : 1 ≤ k) (hf : f + k ≤ s.length) (h2 : t.length = s.length) : othersP s (putRow s f k) t t f k = true :=
  othersP_mk (putRow_len hf) h2 (fun i hi => by rw [putRow_at hk hf, if_neg (by omega), if_neg (by omega)])
end Go.Proofs.YtihmgiifphheeaaGreatDoor

/- Plain laws of pools: counts of a turned pool; a large one, taken and dropped; a block, taken, closed and laid anew. -/
namespace Go.Sel
open Go
theorem takeB_some_iff {s : List Int} {a : Int} : (takeB s [a]).isSome = true ↔ 0 < s.count a := by
  rw [List.count_pos_iff]
  constructor
  · intro h
    obtain ⟨b, hb⟩ := Option.isSome_iff_exists.1 h
    obtain ⟨_, x, hx, hm⟩ := takeB_spec hb
    have : x = a := by simpa using hm
    subst this
    exact List.mem_of_getElem? hx
  · intro h
    obtain ⟨i, hi⟩ := List.getElem?_of_mem h
    have hlt := (List.getElem?_eq_some_iff.1 hi).1
    have hmem : i ∈ blocksL s [a] := by
      unfold blocksL
      rw [List.mem_filter, List.mem_range]
      exact ⟨hlt, by rw [hi]; simp⟩
    unfold takeB
    cases hc : blocksL s [a] with
    | nil => rw [hc] at hmem; cases hmem
    | cons x r => rfl
theorem count_turned {s : List Int} {b : Nat} {x : Int} (hx : s[b]? = some x) (y z : Int) : ((s.set b y).count z : Int) = (s.count z : Int) - (if x = z then 1 else 0) + (if y = z then 1 else 0) := by
  obtain ⟨hlt, rfl⟩ := List.getElem?_eq_some_iff.1 hx
  rw [List.count_set hlt]
  have hp : (if s[b] == z then 1 else 0) ≤ s.count z := by
    split
    · rename_i h
      have h' : s[b] = z := by simpa using h
      rw [← h']
      exact List.count_pos_iff.2 (List.getElem_mem hlt)
    · exact Nat.zero_le _
  have key : ∀ C : Nat, (if s[b] == z then 1 else 0) ≤ C → ((C - (if s[b] == z then 1 else 0) + (if y == z then 1 else 0) : Nat) : Int) = (C : Int) - (if s[b] = z then 1 else 0) + (if y = z then 1 else 0) := by
    intro C hC
    by_cases e1 : s[b] = z <;> by_cases e2 : y = z <;> simp [e1, e2] at hC ⊢ <;> omega
  exact key _ hp
theorem split_row {l : List Int} {f k : Nat} (hz : ∀ i, f ≤ i → i < f + k → l[i]? = some 0) (hf : f + k ≤ l.length) : l = turnL l f k 0 := by
  refine List.ext_getElem? (fun i => ?_)
  unfold turnL
  by_cases h1 : i < f
  · rw [List.append_assoc, List.getElem?_append_left (by simp; omega), List.getElem?_take_of_lt h1]
  · by_cases h2 : i < f + k
    · rw [List.getElem?_append_left (by simp; omega), List.getElem?_append_right (by simp; omega), List.getElem?_replicate, if_pos (by simp; omega)]
      exact hz i (by omega) h2
    · rw [List.getElem?_append_right (by simp; omega), List.getElem?_drop]
      congr 1
      simp; omega
theorem count_turnL (l : List Int) (f k : Nat) (x z : Int) : ((turnL l f k x).count z : Int) = (l.take f).count z + (if x = z then (k : Int) else 0) + (l.drop (f + k)).count z := by
  unfold turnL
  rw [List.count_append, List.count_append, List.count_replicate]
  by_cases e : x = z <;> simp [e]
theorem turnL_at {l : List Int} {f k : Nat} (x : Int) (hf : f + k ≤ l.length) {i : Nat} (h1 : f ≤ i) (h2 : i < f + k) : (turnL l f k x)[i]? = some x := by
  unfold turnL
  rw [List.getElem?_append_left (by simp; omega), List.getElem?_append_right (by simp; omega), List.getElem?_replicate, if_pos (by simp; omega)]
theorem count_put {l : List Int} {f k : Nat} (hk : 1 ≤ k) (hz : ∀ i, f ≤ i → i < f + k → l[i]? = some 0) (hf : f + k ≤ l.length) (z : Int) :
    ((putRow l f k).count z : Int) = (l.count z : Int) - (if z = 0 then (k : Int) else 0) + (if z = 4 then (k : Int) - 1 else 0) + (if z = 3 then 1 else 0) := by
  have h1 : (l.count z : Int) = ((turnL l f k 0).count z : Int) := by rw [← split_row hz hf]
  unfold putRow
  rw [count_turned (turnL_at 4 hf (Nat.le_refl _) (by omega)), count_turnL, h1, count_turnL]
  by_cases e0 : z = 0
  · subst e0; simp; omega
  · by_cases e4 : z = 4
    · subst e4; simp; omega
    · by_cases e3 : z = 3
      · subst e3; simp
      · have a0 : ¬ (0 : Int) = z := fun h => e0 h.symm
        have a3 : ¬ (3 : Int) = z := fun h => e3 h.symm
        have a4 : ¬ (4 : Int) = z := fun h => e4 h.symm
        simp [e0, e3, e4, a0, a3, a4]
theorem count_six {s : List Int} (h : ∀ x ∈ s, 0 ≤ x ∧ x ≤ 5) : s.count 0 + s.count 1 + s.count 2 + s.count 3 + s.count 4 + s.count 5 = s.length := by
  induction s with
  | nil => rfl
  | cons a r ih =>
    have hr := ih (fun x hx => h x (List.mem_cons_of_mem _ hx))
    obtain ⟨ha1, ha2⟩ := h a (List.mem_cons_self ..)
    simp only [List.count_cons, List.length_cons, beq_iff_eq]
    rcases (show a = 0 ∨ a = 1 ∨ a = 2 ∨ a = 3 ∨ a = 4 ∨ a = 5 by omega) with e | e | e | e | e | e <;> subst e <;> simp <;> omega
theorem countsP_eq (s : List Int) : countsP s = [(s.count 0 : Int), (s.count 1 : Int), (s.count 2 : Int), (s.count 3 : Int), (s.count 4 : Int), (s.count 5 : Int)] := rfl
/-- What the counts are behind a block that was taken. -/
theorem counts_free {s : List Int} {b : Nat} (h : takeB s [0] = some b) : countsP (s.set b 5) = [(s.count 0 : Int) - 1, (s.count 1 : Int), (s.count 2 : Int), (s.count 3 : Int), (s.count 4 : Int), (s.count 5 : Int) + 1] := by
  obtain ⟨_, x, hx, hm⟩ := takeB_spec h
  have : x = 0 := by simpa using hm
  subst this
  rw [countsP_eq]
  simp only [count_turned hx]
  simp
theorem counts_hole {s : List Int} {b : Nat} (h : takeB s [1] = some b) : countsP (s.set b 5) = [(s.count 0 : Int), (s.count 1 : Int) - 1, (s.count 2 : Int), (s.count 3 : Int), (s.count 4 : Int), (s.count 5 : Int) + 1] := by
  obtain ⟨_, x, hx, hm⟩ := takeB_spec h
  have : x = 1 := by simpa using hm
  subst this
  rw [countsP_eq]
  simp only [count_turned hx]
  simp
end Go.Sel
namespace Go.Proofs.YtihmgiifphheeaaGreatDoor
open Go.Sel
theorem rightP_states {s : List Int} {t : List (List Int)} (h : rightP s t = true) : 1 ≤ s.length ∧ s.length ≤ 32 ∧ ∀ x ∈ s, 0 ≤ x ∧ x ≤ 5 := by
  have hw := rightP_whole h
  unfold wholeL rightS at hw
  simp only [Bool.and_eq_true, decide_eq_true_eq, Bool.not_eq_true', List.any_eq_false] at hw
  refine ⟨hw.2.1.1, hw.2.1.2, fun x hx => ?_⟩
  have := hw.2.2 x hx
  unfold noState at this
  simp at this
  omega
theorem counts_le {s : List Int} {t : List (List Int)} (h : rightP s t = true) (z : Int) : s.count z ≤ 32 := Nat.le_trans List.count_le_length (rightP_states h).2.1
theorem counts_put {s : List Int} {k : Int} {h : Nat × Nat} (hf : firstL s k = some h) : 1 ≤ k ∧ k ≤ s.length ∧ countsP (putRow s h.1 k.toNat) = [(s.count 0 : Int) - k, (s.count 1 : Int), (s.count 2 : Int), (s.count 3 : Int) + 1, (s.count 4 : Int) + k - 1, (s.count 5 : Int)] := by
  obtain ⟨k1, k2, hz⟩ := firstL_zeros hf
  have hk : ((k.toNat : Nat) : Int) = k := by omega
  refine ⟨by omega, by omega, ?_⟩
  rw [countsP_eq]
  simp only [count_put k1 hz k2]
  simp [hk]
  omega
theorem firstL_none_of {s : List Int} (h : takeB s [0] = none) (k : Int) : firstL s k = none := by
  cases hf : firstL s k with
  | none => rfl
  | some p =>
    obtain ⟨k1, k2, hz⟩ := firstL_zeros hf
    have hm : (0 : Int) ∈ s := List.mem_of_getElem? (hz p.1 (Nat.le_refl _) (by omega))
    have := takeB_some_iff.2 (List.count_pos_iff.2 hm)
    rw [h] at this
    cases this
/-- A large one that was put is cut as it was. -/
theorem must_put {s : List Int} {f k : Nat} (hk : 1 ≤ k) (hf : f + k ≤ s.length) : mustL (putRow s f k) (f : Int) 1 isHeadB = true := by
  have hlen := putRow_len hf
  have hat := putRow_at hk hf f
  rw [if_pos rfl] at hat
  unfold mustL
  rw [hlen]
  simp only [Bool.and_eq_true, decide_eq_true_eq]
  refine ⟨⟨by omega, by omega⟩, ?_⟩
  rw [List.all_eq_true]
  intro x hx
  obtain ⟨i, hi⟩ := List.getElem?_of_mem hx
  have hi1 : i < 1 := by
    have := (List.getElem?_eq_some_iff.1 hi).1
    rw [List.length_take] at this; omega
  obtain rfl : i = 0 := by omega
  rw [List.getElem?_take_of_lt (by omega), List.getElem?_drop, Int.toNat_natCast, Nat.add_zero, hat] at hi
  cases hi
  rfl
theorem cut_put {s : List Int} {t : List (List Int)} {k : Int} {h : Nat × Nat} (hr : rightP s t = true) (hf : firstL s k = some h) : cutLen (putRow s h.1 k.toNat) h.1 = k.toNat ∧ turnL (putRow s h.1 k.toNat) h.1 k.toNat 0 = s := by
  obtain ⟨k1, k2, hz⟩ := firstL_zeros hf
  have hat := putRow_at k1 k2
  have hlen := putRow_len k2
  have hw := (wholeGo_iff _ _).1 (by have := rightP_whole hr; unfold wholeL at this; simp only [Bool.and_eq_true] at this; exact this.1)
  constructor
  · unfold cutLen
    have := takeWhile_len (p := fun x : Int => decide (x = 4)) (xs := (putRow s h.1 k.toNat).drop (h.1 + 1)) (m := k.toNat - 1) (by rw [List.length_drop, hlen]; omega)
      (fun j x hj hx => by
        rw [List.getElem?_drop, hat, if_neg (by omega), if_pos (by omega)] at hx
        cases hx; rfl)
      (fun x hx => by
        rw [List.getElem?_drop, hat, if_neg (by omega), if_neg (by omega)] at hx
        rw [decide_eq_false_iff_not]
        intro e
        subst e
        have h4 := hw _ hx
        obtain ⟨i, hi⟩ : ∃ i, h.1 + 1 + (k.toNat - 1) = i + 1 := ⟨h.1 + (k.toNat - 1), by omega⟩
        rw [hi] at h4
        have h0 := hz i (by omega) (by omega)
        have : s[i]?.getD 0 = 3 ∨ s[i]?.getD 0 = 4 := h4
        rw [h0] at this
        simp at this)
    rw [this]
    omega
  · refine List.ext_getElem? (fun i => ?_)
    unfold turnL
    by_cases h1 : i < h.1
    · rw [List.append_assoc, List.getElem?_append_left (by simp; omega), List.getElem?_take_of_lt h1, hat, if_neg (by omega), if_neg (by omega)]
    · by_cases h2 : i < h.1 + k.toNat
      · rw [List.getElem?_append_left (by simp; omega), List.getElem?_append_right (by simp; omega), List.getElem?_replicate, if_pos (by simp; omega), hz i (by omega) h2]
      · rw [List.getElem?_append_right (by simp; omega), List.getElem?_drop]
        have e : h.1 + k.toNat + (i - (List.take h.1 (putRow s h.1 k.toNat) ++ List.replicate k.toNat 0).length) = i := by simp; omega
        rw [e, hat, if_neg (by omega), if_neg (by omega)]
/-- A block that is held may be closed; a table laid in a block of the three states. -/
theorem blockE_yes {s sts : List Int} {t : List (List Int)} {b : Nat} {x : Int} (hr : rightP s t = true) (hx : s[b]? = some x) (hm : x ∈ sts) : blockE s t (b : Int) sts = none := by
  have hlt := (List.getElem?_eq_some_iff.1 hx).1
  unfold blockE
  rw [if_neg (by rw [hr]; decide), if_pos ⟨by omega, by omega, by rw [Int.toNat_natCast, hx]; exact hm⟩]
theorem rightP_full {s : List Int} {t : List (List Int)} {b : Nat} (h : rightP s t = true) (hb : takeB s [0] = some b) : rightP ((s.set b 5).set b 2) t = true := by
  obtain ⟨hlt, x, hx, hm⟩ := takeB_spec hb
  have hxa : x = 0 := by simpa using hm
  subst hxa
  rw [List.set_set]
  refine rightP_mk (wholeL_set (rightP_whole h) hlt (by omega) (by omega) (fun y hy => by rw [hx] at hy; cases hy; omega)) (by rw [List.length_set]; exact rightP_len h) (fun i y z h1 h2 => ?_)
  by_cases e : b = i
  · subst e
    rw [List.getElem?_set_self (by omega)] at h1
    cases h1
    exact ⟨(rightP_at h hx h2).1, by simp [askP]⟩
  · rw [List.getElem?_set_ne e] at h1
    exact rightP_at h h1 h2
theorem state_zero : stateL (List.replicate 32 0) = 0 := by decide +kernel
theorem right_zero : rightT (List.replicate 32 0) = true := by decide +kernel
/-- Taken, closed, laid with an empty table: as it was. -/
theorem back_free {s : List Int} {t : List (List Int)} {b : Nat} (h : rightP s t = true) (hb : takeB s [0] = some b) : ((s.set b 5).set b 2).set b (stateL (List.replicate 32 0)) = s ∧ t.set b (List.replicate 32 0) = t := by
  obtain ⟨hlt, x, hx, hm⟩ := takeB_spec hb
  have hxa : x = 0 := by simpa using hm
  subst hxa
  constructor
  · rw [List.set_set, List.set_set, state_zero]
    refine List.ext_getElem? (fun i => ?_)
    by_cases e : b = i
    · subst e; rw [List.getElem?_set_self hlt, hx]
    · rw [List.getElem?_set_ne e]
  · have htl : b < t.length := by rw [rightP_len h]; exact hlt
    refine List.ext_getElem? (fun i => ?_)
    by_cases e : b = i
    · subst e
      rw [List.getElem?_set_self htl]
      have := (rightP_at h hx (List.getElem?_eq_getElem htl)).2
      unfold askP at this
      rw [if_pos (.inl rfl), decide_eq_true_eq] at this
      rw [List.getElem?_eq_getElem htl, this]
    · rw [List.getElem?_set_ne e]
theorem setE_back {s : List Int} {t : List (List Int)} {b : Nat} (h : rightP s t = true) (hb : takeB s [0] = some b) : setE ((s.set b 5).set b 2) t (b : Int) (List.replicate 32 0) = none := by
  obtain ⟨hlt, _⟩ := takeB_spec hb
  unfold setE
  rw [blockE_yes (x := 2) (rightP_full h hb) (by rw [List.getElem?_set_self (by simpa using hlt)]) (by simp)]
  simp only []
  rw [if_pos right_zero]
theorem close_back {s : List Int} {t : List (List Int)} {b : Nat} (h : rightP s t = true) (hb : takeB s [0] = some b) : blockE (s.set b 5) t (b : Int) [5] = none := by
  obtain ⟨hlt, _⟩ := takeB_spec hb
  exact blockE_yes (x := 5) (rightP_taken h hb (.inl rfl)) (by rw [List.getElem?_set_self hlt]) (by simp)
/-- A table laid anew. -/
theorem stateL_ask (x : List Int) : 0 ≤ stateL x ∧ stateL x ≤ 2 := by
  unfold stateL
  split
  · omega
  · split <;> omega
end Go.Proofs.YtihmgiifphheeaaGreatDoor

/- The answers of the pool's functions as one form: a pool of two slices, a place, a flag or number; what holds of them stays where nothing old is turned. -/
namespace Go.Proofs.YtihmgiifphheeaaGreatDoor
open Go.RowKit Go.Sel
theorem ErrT.up {w w' : World} (h : ErrT w.heap.size w) (hb : Below w.heap.size w w') : ErrT w'.heap.size w' := ⟨(h.below hb).1, Nat.lt_of_lt_of_le h.2 hb.size⟩
theorem RunErrs.up {a0 a1 : Addr} {w w' : World} (h : RunErrs a0 a1 w.heap.size w) (hb : Below w.heap.size w w') : RunErrs a0 a1 w'.heap.size w' := by
  have := h.below hb
  obtain ⟨⟨g1, g2, g3, g4⟩, ⟨j1, j2, j3, j4⟩, r⟩ := this
  have := hb.size
  exact ⟨⟨g1, by omega, by omega, g4⟩, ⟨j1, by omega, by omega, j4⟩, r⟩
theorem emptyPool (w : World) : IsPool w.heap.size w (.agg #[.slice none 0 0, .slice none 0 0]) [] [] := ⟨_, _, rfl, IsSl.nil, IsSl.nil⟩
theorem rightP_nil : rightP [] [] = false := by decide +kernel
/-- A pool and a flag: N where it is not set; R of the pool where it is. -/
def TV (N : Prop) (R : List Int → List (List Int) → Prop) (ok : Bool) (V : Value) (W : World) : Prop :=
  ∃ s t, IsPool W.heap.size W V s t ∧ ((ok = false ∧ N ∧ s = [] ∧ t = []) ∨ (ok = true ∧ R s t))
theorem TV.up {N : Prop} {R : List Int → List (List Int) → Prop} {ok : Bool} {V : Value} {W W' : World} (h : TV N R ok V W) (hb : Below W.heap.size W W') : TV N R ok V W' := by
  obtain ⟨s, t, h1, h2⟩ := h
  exact ⟨s, t, (h1.below hb).wider hb.size, h2⟩
theorem take_view {s sts : List Int} {t : List (List Int)} {w : World} {e : Ending} {w' : World} (h : TakePost s t sts w e w') :
    Below w.heap.size w w' ∧ ∃ (a1 a2 : Option Addr) (l1 c1 l2 c2 b : Nat) (ok : Bool), e = .returned (.tuple #[.agg #[.slice a1 l1 c1, .slice a2 l2 c2], .int .i64 ((b : Nat) : Int), .bool ok]) ∧
      TV (rightP s t = false ∨ takeB s sts = none) (fun s' t' => rightP s t = true ∧ takeB s sts = some b ∧ s' = s.set b 5 ∧ t' = t) ok (.agg #[.slice a1 l1 c1, .slice a2 l2 c2]) w' := by
  obtain ⟨hb, ⟨hno, rfl⟩ | ⟨b, v, hr, hB, rfl, hP⟩⟩ := h
  · exact ⟨hb, none, none, 0, 0, 0, 0, 0, false, rfl, [], [], emptyPool _, .inl ⟨rfl, hno, rfl, rfl⟩⟩
  · obtain ⟨a1, c1, a2, c2, rfl⟩ := IsPool.open hP.pool
    exact ⟨hb, a1, a2, _, c1, _, c2, b, true, rfl, _, _, hP.pool, .inr ⟨rfl, hr, hB, rfl, rfl⟩⟩
theorem takeRun_view {k : Int} {s : List Int} {t : List (List Int)} {w : World} {e : Ending} {w' : World} (h : TakeRunPost k s t w e w') :
    Below w.heap.size w w' ∧ ∃ (a1 a2 : Option Addr) (l1 c1 l2 c2 b : Nat) (ok : Bool), e = .returned (.tuple #[.agg #[.slice a1 l1 c1, .slice a2 l2 c2], .int .i64 ((b : Nat) : Int), .bool ok]) ∧
      TV (firstL s k = none ∨ rightP s t = false) (fun s' t' => rightP s t = true ∧ (∃ h : Nat × Nat, firstL s k = some h ∧ b = h.1 ∧ s' = putRow s h.1 k.toNat) ∧ t' = t) ok (.agg #[.slice a1 l1 c1, .slice a2 l2 c2]) w' := by
  obtain ⟨hb, ⟨hno, rfl⟩ | ⟨hh, v, hf, hr, rfl, hP⟩⟩ := h
  · exact ⟨hb, none, none, 0, 0, 0, 0, 0, false, rfl, [], [], emptyPool _, .inl ⟨rfl, hno, rfl, rfl⟩⟩
  · obtain ⟨a1, c1, a2, c2, rfl⟩ := IsPool.open hP.pool
    exact ⟨hb, a1, a2, _, c1, _, c2, hh.1, true, rfl, _, _, hP.pool, .inr ⟨rfl, hr, ⟨hh, hf, rfl, rfl⟩, rfl⟩⟩
/-- A pool and a number. -/
def GV (E : Option Int) (s0 : List Int) (t0 : List (List Int)) (x : Int) (V : Value) (W : World) : Prop :=
  ∃ s t, IsPool W.heap.size W V s t ∧ ((E = some x ∧ s = [] ∧ t = []) ∨ (E = none ∧ x = 0 ∧ s = s0 ∧ t = t0))
theorem GV.up {E : Option Int} {s0 : List Int} {t0 : List (List Int)} {x : Int} {V : Value} {W W' : World} (h : GV E s0 t0 x V W) (hb : Below W.heap.size W W') : GV E s0 t0 x V W' := by
  obtain ⟨s, t, h1, h2⟩ := h
  exact ⟨s, t, (h1.below hb).wider hb.size, h2⟩
theorem give_view {E : Option Int} {s : List Int} {t : List (List Int)} {w : World} {e : Ending} {w' : World} (h : GivePost E s t w e w') :
    Below w.heap.size w w' ∧ ∃ (a1 a2 : Option Addr) (l1 c1 l2 c2 : Nat) (x : Int), e = .returned (.tuple #[.agg #[.slice a1 l1 c1, .slice a2 l2 c2], .int .i64 x]) ∧
      GV E s t x (.agg #[.slice a1 l1 c1, .slice a2 l2 c2]) w' := by
  obtain ⟨hb, ⟨x, hE, rfl⟩ | ⟨v, hE, rfl, hP⟩⟩ := h
  · exact ⟨hb, none, none, 0, 0, 0, 0, x, rfl, [], [], emptyPool _, .inl ⟨hE, rfl, rfl⟩⟩
  · obtain ⟨a1, c1, a2, c2, rfl⟩ := IsPool.open hP.pool
    exact ⟨hb, a1, a2, _, c1, _, c2, 0, rfl, _, _, hP.pool, .inr ⟨hE, rfl, rfl, rfl⟩⟩
/-- Counts and a number. -/
def CV (s : List Int) (t : List (List Int)) (a : Option Addr) (l c : Nat) (x : Int) (W : World) : Prop :=
  IsInts W.heap.size W (.slice a l c) (if rightP s t = true then countsP s else []) ∧ ((rightP s t = false ∧ x = 100) ∨ (rightP s t = true ∧ x = 0))
theorem CV.up {s : List Int} {t : List (List Int)} {a : Option Addr} {l c : Nat} {x : Int} {W W' : World} (h : CV s t a l c x W) (hb : Below W.heap.size W W') : CV s t a l c x W' :=
  ⟨(h.1.below hb).wider hb.size, h.2⟩
theorem counts_range {s : List Int} {t : List (List Int)} (hr : rightP s t = true) : ∀ x ∈ countsP s, I64 x := by
  intro x hx
  unfold countsP at hx
  obtain ⟨i, _, rfl⟩ := List.mem_map.1 hx
  have := counts_le hr (i : Int)
  unfold I64
  omega
theorem counts_view {s : List Int} {t : List (List Int)} {w : World} {e : Ending} {w' : World} (h : CountsPost s t w e w') :
    Below w.heap.size w w' ∧ ∃ (a : Option Addr) (l c : Nat) (x : Int), e = .returned (.tuple #[.slice a l c, .int .i64 x]) ∧ CV s t a l c x w' := by
  obtain ⟨hb, ⟨hno, rfl⟩ | ⟨hr, v, rfl, hrow⟩⟩ := h
  · exact ⟨hb, none, 0, 0, 100, rfl, by rw [if_neg (by rw [hno]; decide)]; exact IsSl.nil, .inl ⟨hno, rfl⟩⟩
  · obtain ⟨a, c, rfl, _⟩ := owns_open hrow
    exact ⟨hb, a, _, c, 0, rfl, by rw [if_pos hr]; exact IsInts.of_owns (xs := countsP s) hrow (by simp [countsP, big]) (counts_range hr), .inr ⟨hr, rfl⟩⟩
/-- Counts of a right pool, cell by cell. -/
theorem CV.cells {s : List Int} {t : List (List Int)} {a : Option Addr} {l c : Nat} {x : Int} {W : World} {x0 x1 x2 x3 x4 x5 : Int} (h : CV s t a l c x W) (hr : rightP s t = true) (hc : countsP s = [x0, x1, x2, x3, x4, x5]) :
    x = 0 ∧ l = 6 ∧ ∃ g o, a = some ⟨g, o, none⟩ ∧ 6 ≤ c ∧ W.cell? ⟨g, o, none⟩ = some (.int .i64 x0) ∧ W.cell? ⟨g, o + 1, none⟩ = some (.int .i64 x1) ∧ W.cell? ⟨g, o + 2, none⟩ = some (.int .i64 x2) ∧
      W.cell? ⟨g, o + 3, none⟩ = some (.int .i64 x3) ∧ W.cell? ⟨g, o + 4, none⟩ = some (.int .i64 x4) ∧ W.cell? ⟨g, o + 5, none⟩ = some (.int .i64 x5) := by
  obtain ⟨h1, h2⟩ := h
  rw [if_pos hr, hc] at h1
  obtain ⟨a', c', he, hle⟩ := h1.open
  cases he
  have k := fun (j : Nat) (hj : j < 6) => h1.at (k := j) hj
  obtain ⟨y0, b, o, e0, rfl, _, k0, _⟩ := k 0 (by omega)
  obtain ⟨y1, b1, o1, e1, f1, _, k1, _⟩ := k 1 (by omega)
  obtain ⟨y2, b2, o2, e2, f2, _, k2, _⟩ := k 2 (by omega)
  obtain ⟨y3, b3, o3, e3, f3, _, k3, _⟩ := k 3 (by omega)
  obtain ⟨y4, b4, o4, e4, f4, _, k4, _⟩ := k 4 (by omega)
  obtain ⟨y5, b5, o5, e5, f5, _, k5, _⟩ := k 5 (by omega)
  cases f1; cases f2; cases f3; cases f4; cases f5
  cases e0; cases e1; cases e2; cases e3; cases e4; cases e5
  refine ⟨?_, rfl, b, o, rfl, hle, k0, k1, k2, k3, k4, k5⟩
  rcases h2 with h2 | h2
  · rw [hr] at h2; cases h2.1
  · exact h2.2
theorem right_true {W : World} {v : Value} {s : List Int} {t : List (List Int)} (h : IsPool W.heap.size W v s t) (hr : rightP s t = true) : Calls Tryz.prog 29 #[v] W fun e w' => e = .returned (.bool true) ∧ Below W.heap.size W w' := by
  have := poolRight_any h (Nat.le_refl _); rwa [hr] at this
theorem right_false {W : World} {v : Value} {s : List Int} {t : List (List Int)} (h : IsPool W.heap.size W v s t) (hr : rightP s t = false) : Calls Tryz.prog 29 #[v] W fun e w' => e = .returned (.bool false) ∧ Below W.heap.size W w' := by
  have := poolRight_any h (Nat.le_refl _); rwa [hr] at this
/-- What a block taken leaves. -/
theorem take_keeps {s : List Int} {t : List (List Int)} {a : Int} {b : Nat} {s' : List Int} {t' : List (List Int)} (ha : a = 0 ∨ a = 1) (h : rightP s t = true ∧ takeB s [a] = some b ∧ s' = s.set b 5 ∧ t' = t) :
    rightP s' t' = true ∧ othersP s s' t t' b 1 = true ∧ b ≤ 1048576 := by
  obtain ⟨hr, hb, rfl, rfl⟩ := h
  have := (takeB_spec hb).1
  have := (rightP_states hr).2.1
  exact ⟨rightP_taken hr hb ha, othersP_taken (rightP_len hr), by omega⟩
theorem run_keeps {s : List Int} {t : List (List Int)} {k : Int} {b : Nat} {s' : List Int} {t' : List (List Int)} (h : rightP s t = true ∧ (∃ h : Nat × Nat, firstL s k = some h ∧ b = h.1 ∧ s' = putRow s h.1 k.toNat) ∧ t' = t) :
    rightP s' t' = true ∧ othersP s s' t t' b k.toNat = true ∧ b ≤ 1048576 ∧ 1 ≤ k ∧ k ≤ 32 := by
  obtain ⟨hr, ⟨p, hf, rfl, rfl⟩, rfl⟩ := h
  obtain ⟨k1, k2, _⟩ := firstL_zeros hf
  have := (rightP_states hr).2.1
  exact ⟨rightP_put hr hf, othersP_put k1 k2 (rightP_len hr), by omega, by omega, by omega⟩
end Go.Proofs.YtihmgiifphheeaaGreatDoor
