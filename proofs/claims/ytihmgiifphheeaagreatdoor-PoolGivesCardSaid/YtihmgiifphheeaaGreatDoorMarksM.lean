/- Plain lists: kept lines of a table; lists that are filtered as they are gone through. -/
import Derived.Test.YtihmgiifphheeaaGreatDoorRunM
namespace Go.Sel

def keptAt (t : List Int) (i : Nat) : Bool := !(decide (t[i]?.getD 0 = 0)) || (decide (0 < i) && decide (t[i - 1]?.getD 0 = 2))
def keptL (t : List Int) : List Nat := (List.range 32).filter (keptAt t)
def linesL (t : List Int) : List Int := if rightT t then (keptL t).map Int.ofNat else []

/-- How many lines are kept. -/
def countL (t : List Int) : Nat := (linesL t).length

/-- A number as an int of Go's. -/
def encN (n : Nat) : Value := .int .i64 (n : Int)

theorem rightT_len {t : List Int} (h : rightT t = true) : t.length = 32 := by
  unfold rightT at h; simp at h; exact h.1

/-! A list that is filtered, gone through from place n on, k having come. -/
section
variable {α : Type} {xs : List α} {p : α → Bool} {n k : Nat} {x : α}
theorem filt_hit (h : (xs.filter p).drop k = (xs.drop n).filter p) (hx : xs[n]? = some x) (hp : p x = true) :
    (xs.filter p)[k]? = some x ∧ (xs.filter p).drop (k + 1) = (xs.drop (n + 1)).filter p := by
  obtain ⟨hn, e⟩ := List.getElem?_eq_some_iff.1 hx
  rw [List.drop_eq_getElem_cons hn, e, List.filter_cons, if_pos hp] at h
  exact left_cons h
theorem filt_miss (h : (xs.filter p).drop k = (xs.drop n).filter p) (hx : xs[n]? = some x) (hp : p x = false) :
    (xs.filter p).drop k = (xs.drop (n + 1)).filter p := by
  obtain ⟨hn, e⟩ := List.getElem?_eq_some_iff.1 hx
  rw [List.drop_eq_getElem_cons hn, e, List.filter_cons, hp] at h
  simpa using h
theorem filt_end (h : (xs.filter p).drop k = (xs.drop n).filter p) (hn : ¬ n < xs.length) (hk : k ≤ (xs.filter p).length) : k = (xs.filter p).length := by
  rw [List.drop_eq_nil_iff.2 (by omega : xs.length ≤ n)] at h
  exact left_nil h hk
end
theorem range_at {m n : Nat} (h : n < m) : (List.range m)[n]? = some n := by simp [h]

end Go.Sel
