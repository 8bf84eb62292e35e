/- Contract of selionlaw10.others. -/
import Derived.Test.YtihmgiifphheeaaGreatDoorShown
namespace Go.Sel
/-- Is block i of two pools the same, or within the blocks that may differ? -/
def sameAt (s s' : List Int) (t t' : List (List Int)) (f n i : Nat) : Bool := (decide (f ≤ i) && decide (i < f + n)) || (decide (s[i]?.getD 0 = s'[i]?.getD 0) && decide (t[i]? = t'[i]?))
/-- Are two pools the same but for n blocks from f on? -/
def othersP (s s' : List Int) (t t' : List (List Int)) (f n : Nat) : Bool :=
  decide (s.length = s'.length) && decide (t.length = t'.length) && decide (t.length = s.length) && (List.range s.length).all (sameAt s s' t t' f n)
theorem range_all_step {p : Nat → Bool} {k : Nat} (h : (List.range k).all p = true) (hk : p k = true) : (List.range (k + 1)).all p = true := by
  rw [List.range_succ, List.all_append, h]; simp [hk]
theorem range_all_fail {p : Nat → Bool} {k m : Nat} (hm : k < m) (hk : p k = false) : (List.range m).all p = false := by
  rw [List.all_eq_false]
  exact ⟨k, by simp [hm], by simp [hk]⟩
end Go.Sel
namespace Go.Proofs.YtihmgiifphheeaaGreatDoor
open Go.RowKit Go.Sel

end Go.Proofs.YtihmgiifphheeaaGreatDoor
