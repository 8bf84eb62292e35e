/- Plain lists: the runs of zeros of a list of states. -/
import Derived.Test.YtihmgiifphheeaaGreatDoorData
namespace Go.Sel

/-- The runs of zeros of a list that begins at place n, where f is where the run that is open begins. -/
def runsGo : List Int → Nat → Nat → List (Nat × Nat)
  | [], n, f => if f < n then [(f, n)] else []
  | x :: r, n, f => if x = 0 then runsGo r (n + 1) f else if f < n then (f, n) :: runsGo r (n + 1) (n + 1) else runsGo r (n + 1) (n + 1)
def runsL (l : List Int) : List (Nat × Nat) := runsGo l 0 0

theorem runsGo_zero {l : List Int} {n f : Nat} (h : l[n]? = some 0) : runsGo (l.drop n) n f = runsGo (l.drop (n + 1)) (n + 1) f := by
  obtain ⟨hn, hx⟩ := List.getElem?_eq_some_iff.1 h
  rw [List.drop_eq_getElem_cons hn, hx]; simp [runsGo]
theorem runsGo_hit {l : List Int} {n f : Nat} {x : Int} (h : l[n]? = some x) (hx : ¬ x = 0) (hf : f < n) : runsGo (l.drop n) n f = (f, n) :: runsGo (l.drop (n + 1)) (n + 1) (n + 1) := by
  obtain ⟨hn, hy⟩ := List.getElem?_eq_some_iff.1 h
  rw [List.drop_eq_getElem_cons hn, hy]; simp [runsGo, hx, hf]
theorem runsGo_miss {l : List Int} {n f : Nat} {x : Int} (h : l[n]? = some x) (hx : ¬ x = 0) (hf : ¬ f < n) : runsGo (l.drop n) n f = runsGo (l.drop (n + 1)) (n + 1) (n + 1) := by
  obtain ⟨hn, hy⟩ := List.getElem?_eq_some_iff.1 h
  rw [List.drop_eq_getElem_cons hn, hy]; simp [runsGo, hx, hf]
theorem runsGo_end_hit {l : List Int} {f : Nat} (hf : f < l.length) : runsGo (l.drop l.length) l.length f = [(f, l.length)] := by
  rw [List.drop_length]; simp [runsGo, hf]
theorem runsGo_end_miss {l : List Int} {f : Nat} (hf : ¬ f < l.length) : runsGo (l.drop l.length) l.length f = [] := by
  rw [List.drop_length]; simp [runsGo, hf]

/-- Which numbers are no state. -/
def noState (n : Int) : Bool := decide (n < 0) || decide (5 < n)
/-- Which numbers are no line's. -/
def noLine (n : Int) : Bool := decide (n < 0) || decide (2 < n)
/-- Are numbers states? -/
def rightS (l : List Int) : Bool := decide (1 ≤ l.length) && decide (l.length ≤ 32) && !l.any noState
/-- Are numbers a table? -/
def rightT (t : List Int) : Bool := decide (t.length = 32) && !t.any noLine
/-- The first place of so many free blocks. -/
def firstL (l : List Int) (k : Int) : Option (Nat × Nat) := if rightS l && decide (1 ≤ k) then (runsL l).find? (fun h => decide (k ≤ (h.2 : Int) - (h.1 : Int))) else none

theorem runsGo_mem (l : List Int) : ∀ (n f : Nat) (h : Nat × Nat), f ≤ n → h ∈ runsGo l n f → f ≤ h.1 ∧ h.1 < h.2 ∧ h.2 ≤ n + l.length := by
  induction l with
  | nil =>
    intro n f h hf hm
    simp only [runsGo] at hm
    split at hm
    · simp at hm; subst hm; exact ⟨Nat.le_refl _, by assumption, by simp⟩
    · simp at hm
  | cons x r ih =>
    intro n f h hf hm
    simp only [runsGo] at hm
    split at hm
    · have := ih _ _ _ (by omega) hm
      simp only [List.length_cons]; omega
    · split at hm
      · rcases List.mem_cons.1 hm with rfl | hm
        · simp only [List.length_cons]; exact ⟨Nat.le_refl _, by assumption, by omega⟩
        · have := ih _ _ _ (by omega) hm
          simp only [List.length_cons]; omega
      · have := ih _ _ _ (by omega) hm
        simp only [List.length_cons]; omega
theorem runsL_mem {l : List Int} {h : Nat × Nat} (hm : h ∈ runsL l) : h.1 < h.2 ∧ h.2 ≤ l.length := by
  have := runsGo_mem l 0 0 h (Nat.le_refl _) hm; omega

/-- What is left of a list behind its first k elements. -/
theorem left_cons {α : Type} {xs r : List α} {k : Nat} {x : α} (h : xs.drop k = x :: r) : xs[k]? = some x ∧ xs.drop (k + 1) = r := by
  have h1 : (xs.drop k)[0]? = some x := by rw [h]; rfl
  rw [List.getElem?_drop] at h1
  refine ⟨by simpa using h1, ?_⟩
  have h2 : (xs.drop k).drop 1 = r := by rw [h]; rfl
  rwa [List.drop_drop] at h2
theorem left_nil {α : Type} {xs : List α} {k : Nat} (h : xs.drop k = []) (hk : k ≤ xs.length) : k = xs.length := by
  have := List.drop_eq_nil_iff.1 h; omega

theorem find_hit {α : Type} {p : α → Bool} {xs : List α} {k : Nat} {x : α} (h : ∀ y ∈ xs.take k, p y = false) (hx : xs[k]? = some x) (hp : p x = true) : xs.find? p = some x := by
  obtain ⟨hk, e⟩ := List.getElem?_eq_some_iff.1 hx
  have e2 : xs = xs.take k ++ x :: xs.drop (k + 1) := by
    conv => lhs; rw [← List.take_append_drop k xs]
    rw [List.drop_eq_getElem_cons hk, e]
  rw [e2, List.find?_append, List.find?_eq_none.2 (fun y hy => by rw [h y hy]; exact Bool.false_ne_true)]
  simp [hp]
theorem find_none {α : Type} {p : α → Bool} {xs : List α} (h : ∀ y ∈ xs.take xs.length, p y = false) : xs.find? p = none := by
  rw [List.take_length] at h
  exact List.find?_eq_none.2 (fun y hy => by rw [h y hy]; exact Bool.false_ne_true)

end Go.Sel
