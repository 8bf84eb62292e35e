/- Plain laws of pools: what a turned state leaves right. -/
import Derived.Test.YtihmgiifphheeaaDoorOthers
namespace Go.Sel
open Go
/-- A block that is neither head nor tail, turned to one that is neither: whole stays whole. -/
theorem wholeGo_set : ∀ (l : List Int) (last : Int) (b : Nat) (y : Int), b < l.length → ¬ y = 4 → (∀ x, l[b]? = some x → ¬ x = 3 ∧ ¬ x = 4) → wholeGo last l = true → wholeGo last (l.set b y) = true
  | [], _, _, _, h, _, _, _ => by simp at h
  | s :: r, last, 0, y, _, hy, hx, h => by
    have h3 := hx s rfl
    simp only [wholeGo] at h
    rw [if_neg (fun h' => h3.2 h'.1)] at h
    simp only [List.set_cons_zero, wholeGo]
    rw [if_neg (fun h' => hy h'.1)]
    cases r with
    | nil => rfl
    | cons s2 r2 =>
      simp only [wholeGo] at h ⊢
      split at h
      · cases h
      · rename_i hn
        split
        · rename_i hp
          exact absurd ⟨hp.1, h3.1, h3.2⟩ hn
        · exact h
  | s :: r, last, b + 1, y, hb, hy, hx, h => by
    simp only [wholeGo] at h
    simp only [List.set_cons_succ, wholeGo]
    split at h
    · cases h
    · rename_i hn
      rw [if_neg hn]
      exact wholeGo_set r s b y (by simpa using hb) hy (fun x hx' => hx x (by simpa using hx')) h
theorem rightS_set {l : List Int} {b : Nat} {y : Int} (h : rightS l = true) (hy : 0 ≤ y ∧ y ≤ 5) : rightS (l.set b y) = true := by
  unfold rightS at h ⊢
  simp only [Bool.and_eq_true, decide_eq_true_eq, Bool.not_eq_true', List.any_eq_false, List.length_set] at h ⊢
  refine ⟨h.1, fun x hx => ?_⟩
  rcases List.mem_or_eq_of_mem_set hx with hx | rfl
  · exact h.2 x hx
  · unfold noState
    simp; omega
theorem wholeL_set {l : List Int} {b : Nat} {y : Int} (h : wholeL l = true) (hb : b < l.length) (hy : 0 ≤ y ∧ y ≤ 5) (hy4 : ¬ y = 4) (hx : ∀ x, l[b]? = some x → ¬ x = 3 ∧ ¬ x = 4) : wholeL (l.set b y) = true := by
  unfold wholeL at h ⊢
  simp only [Bool.and_eq_true] at h ⊢
  exact ⟨wholeGo_set l 0 b y hb hy4 hx h.1, rightS_set h.2 hy⟩
theorem takeB_spec {s sts : List Int} {b : Nat} (h : takeB s sts = some b) : b < s.length ∧ ∃ x, s[b]? = some x ∧ x ∈ sts := by
  unfold takeB at h
  have hm := List.mem_of_mem_head? h
  unfold blocksL at hm
  rw [List.mem_filter, List.mem_range] at hm
  refine ⟨hm.1, s[b]'hm.1, List.getElem?_eq_getElem hm.1, ?_⟩
  have := hm.2
  rw [List.getElem?_eq_getElem hm.1] at this
  simpa using this
/-- What stands ahead of a place. -/
def prevL (last : Int) (l : List Int) : Nat → Int
  | 0 => last
  | i + 1 => l[i]?.getD 0
theorem wholeGo_iff : ∀ (l : List Int) (last : Int), wholeGo last l = true ↔ ∀ i, l[i]? = some 4 → prevL last l i = 3 ∨ prevL last l i = 4
  | [], last => by simp [wholeGo]
  | s :: r, last => by
    rw [wholeGo]
    constructor
    · intro h i hi
      split at h
      · cases h
      · rename_i hn
        cases i with
        | zero =>
          have hs : s = 4 := by simpa using hi
          show last = 3 ∨ last = 4
          rcases Classical.em (last = 3) with h3 | h3
          · exact .inl h3
          · rcases Classical.em (last = 4) with h4 | h4
            · exact .inr h4
            · exact absurd ⟨hs, h3, h4⟩ hn
        | succ i =>
          have := (wholeGo_iff r s).1 h i (by simpa using hi)
          cases i with
          | zero => exact this
          | succ i => exact this
    · intro h
      split
      · rename_i hp
        have := h 0 (by rw [hp.1]; rfl)
        rcases this with h3 | h4
        · exact absurd h3 hp.2.1
        · exact absurd h4 hp.2.2
      · refine (wholeGo_iff r s).2 (fun i hi => ?_)
        have := h (i + 1) (by simpa using hi)
        cases i with
        | zero => exact this
        | succ i => exact this
/-- What stands where in a row with a large one. -/
theorem putRow_at {l : List Int} {f k : Nat} (hk : 1 ≤ k) (hf : f + k ≤ l.length) (i : Nat) : (putRow l f k)[i]? = if i = f then some 3 else if f < i ∧ i < f + k then some 4 else l[i]? := by
  have hlen : (turnL l f k 4).length = l.length := length_turnL 4 hf
  unfold putRow
  rw [List.getElem?_set]
  by_cases e : i = f
  · subst e
    rw [if_pos rfl, if_pos rfl, if_pos (by omega)]
  · rw [if_neg (fun h => e h.symm), if_neg e]
    unfold turnL
    by_cases h1 : i < f
    · rw [if_neg (by omega), List.append_assoc, List.getElem?_append_left (by simp; omega), List.getElem?_take_of_lt h1]
    · by_cases h2 : i < f + k
      · rw [if_pos ⟨by omega, h2⟩, List.getElem?_append_left (by simp; omega), List.getElem?_append_right (by simp; omega), List.getElem?_replicate, if_pos (by simp; omega)]
      · rw [if_neg (by omega), List.getElem?_append_right (by simp; omega), List.getElem?_drop]
        congr 1
        simp; omega
end Go.Sel
namespace Go.Proofs.YtihmgiifphheeaaDoor
open Go.Sel
theorem rightP_at {s : List Int} {t : List (List Int)} (h : rightP s t = true) {i : Nat} {x : Int} {y : List Int} (hx : s[i]? = some x) (hy : t[i]? = some y) : rightT y = true ∧ askP x y = true := by
  unfold rightP at h
  simp only [Bool.and_eq_true, List.all_eq_true] at h
  have := h.2 (x, y) (List.mem_of_getElem? (i := i) (by rw [List.getElem?_zip_eq_some]; exact ⟨hx, hy⟩))
  simpa using this
theorem rightP_mk {s : List Int} {t : List (List Int)} (h1 : wholeL s = true) (h2 : t.length = s.length) (h3 : ∀ (i : Nat) (x : Int) (y : List Int), s[i]? = some x → t[i]? = some y → rightT y = true ∧ askP x y = true) : rightP s t = true := by
  unfold rightP
  simp only [Bool.and_eq_true, decide_eq_true_eq, List.all_eq_true]
  refine ⟨⟨h1, h2⟩, fun p hp => ?_⟩
  obtain ⟨i, hi⟩ := List.getElem?_of_mem hp
  rw [List.getElem?_zip_eq_some] at hi
  exact h3 i p.1 p.2 hi.1 hi.2
theorem rightP_len {s : List Int} {t : List (List Int)} (h : rightP s t = true) : t.length = s.length := by
  unfold rightP at h
  simp only [Bool.and_eq_true, decide_eq_true_eq] at h
  exact h.1.2
/-- A block taken leaves a right pool. -/
theorem rightP_taken {s : List Int} {t : List (List Int)} {a : Int} {b : Nat} (h : rightP s t = true) (hb : takeB s [a] = some b) (ha : a = 0 ∨ a = 1) : rightP (s.set b 5) t = true := by
  obtain ⟨hlt, x, hx, hm⟩ := takeB_spec hb
  have hxa : x = a := by simpa using hm
  subst hxa
  refine rightP_mk (wholeL_set (rightP_whole h) hlt (by omega) (by omega) (fun y hy => by rw [hx] at hy; cases hy; omega)) (by rw [List.length_set]; exact rightP_len h) (fun i y z h1 h2 => ?_)
  by_cases e : b = i
  · subst e
    rw [List.getElem?_set_self (by omega)] at h1
    cases h1
    exact ⟨(rightP_at h hx h2).1, by simp [askP]⟩
  · rw [List.getElem?_set_ne e] at h1
    exact rightP_at h h1 h2

theorem firstL_zeros {l : List Int} {k : Int} {h : Nat × Nat} (hf : firstL l k = some h) : 1 ≤ k.toNat ∧ h.1 + k.toNat ≤ l.length ∧ ∀ i, h.1 ≤ i → i < h.1 + k.toNat → l[i]? = some 0 := by
  unfold firstL at hf
  split at hf
  · rename_i hg
    simp only [Bool.and_eq_true, decide_eq_true_eq] at hg
    have hmem := List.mem_of_find?_eq_some hf
    have hk := List.find?_some hf
    simp only [decide_eq_true_eq] at hk
    obtain ⟨m1, m2⟩ := runsL_mem hmem
    exact ⟨by omega, by omega, fun i h1 h2 => runsL_zeros hmem i h1 (by omega)⟩
  · cases hf
theorem putRow_len {l : List Int} {f k : Nat} (hf : f + k ≤ l.length) : (putRow l f k).length = l.length := by
  unfold putRow
  rw [List.length_set]
  exact length_turnL 4 hf
theorem rightP_put {s : List Int} {t : List (List Int)} {k : Int} {h : Nat × Nat} (hr : rightP s t = true) (hf : firstL s k = some h) : rightP (putRow s h.1 k.toNat) t = true := by
  obtain ⟨k1, k2, hz⟩ := firstL_zeros hf
  have hw := rightP_whole hr
  have hat := putRow_at k1 k2
  refine rightP_mk ?_ (by rw [putRow_len k2]; exact rightP_len hr) (fun i x y h1 h2 => ?_)
  · unfold wholeL at hw ⊢
    simp only [Bool.and_eq_true] at hw ⊢
    refine ⟨(wholeGo_iff _ _).2 (fun i hi => ?_), ?_⟩
    · rw [hat] at hi
      split at hi
      · cases hi
      · rename_i e
        split at hi
        · rename_i hin
          obtain ⟨i, rfl⟩ : ∃ j, i = j + 1 := ⟨i - 1, by omega⟩
          show (putRow s h.1 k.toNat)[i]?.getD 0 = 3 ∨ (putRow s h.1 k.toNat)[i]?.getD 0 = 4
          rw [hat]
          by_cases e2 : i = h.1
          · rw [if_pos e2]; exact .inl rfl
          · rw [if_neg e2, if_pos (by omega)]; exact .inr rfl
        · rename_i hout
          have hp := (wholeGo_iff _ _).1 hw.1 i hi
          cases i with
          | zero => exact hp
          | succ i =>
            show (putRow s h.1 k.toNat)[i]?.getD 0 = 3 ∨ (putRow s h.1 k.toNat)[i]?.getD 0 = 4
            rw [hat]
            by_cases e2 : i = h.1
            · rw [if_pos e2]; exact .inl rfl
            · rw [if_neg e2]
              split
              · exact .inr rfl
              · exact hp
    · have hs := hw.2
      unfold rightS at hs ⊢
      simp only [Bool.and_eq_true, decide_eq_true_eq, Bool.not_eq_true', List.any_eq_false] at hs ⊢
      rw [putRow_len k2]
      refine ⟨hs.1, fun x hx => ?_⟩
      rcases putRow_mem hx with hx | rfl | rfl
      · exact hs.2 x hx
      · decide
      · decide
  · rw [hat] at h1
    have hz' : ∀ i, h.1 ≤ i → i < h.1 + k.toNat → t[i]? = some y → rightT y = true ∧ askP 0 y = true := fun i a b c => rightP_at hr (hz i a b) c
    split at h1
    · rename_i e
      cases h1
      have := hz' i (by omega) (by omega) h2
      exact ⟨this.1, by have h3 := this.2; simpa [askP] using h3⟩
    · split at h1
      · rename_i e
        cases h1
        have := hz' i (by omega) (by omega) h2
        exact ⟨this.1, by have h3 := this.2; simpa [askP] using h3⟩
      · exact rightP_at hr h1 h2
theorem othersP_mk {s s' : List Int} {t : List (List Int)} {f n : Nat} (h1 : s'.length = s.length) (h2 : t.length = s.length) (h : ∀ i, ¬ (f ≤ i ∧ i < f + n) → s'[i]? = s[i]?) : othersP s s' t t f n = true := by
  unfold othersP
  simp only [Bool.and_eq_true, decide_eq_true_eq, List.all_eq_true]
  refine ⟨⟨⟨h1.symm, trivial⟩, h2⟩, fun i _ => ?_⟩
  unfold sameAt
  by_cases e : f ≤ i ∧ i < f + n
  · simp [e.1, e.2]
  · rw [h i e]; simp
theorem othersP_taken {s : List Int} {t : List (List Int)} {b : Nat} (h2 : t.length = s.length) : othersP s (s.set b 5) t t b 1 = true :=
  othersP_mk (by simp) h2 (fun i hi => List.getElem?_set_ne (by omega))
theorem othersP_put {s : List Int} {t : List (List Int)} {f k : Nat} (hk : 1 ≤ k) (hf : f + k ≤ s.length) (h2 : t.length = s.length) : othersP s (putRow s f k) t t f k = true :=
  othersP_mk (putRow_len hf) h2 (fun i hi => by rw [putRow_at hk hf, if_neg (by omega), if_neg (by omega)])
end Go.Proofs.YtihmgiifphheeaaDoor
