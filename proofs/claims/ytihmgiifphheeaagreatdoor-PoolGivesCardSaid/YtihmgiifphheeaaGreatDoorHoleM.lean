/- Plain lists: rows of bools, which lines are kept; holes. -/
import Derived.Test.YtihmgiifphheeaaGreatDoorMarksM
import Derived.Test.YtihmgiifphheeaaGreatDoorApp
namespace Go.Sel
open Go Go.RowKit

def boolCells (bs : List Bool) : Array Value := (bs.map Value.bool).toArray
/-- Thirty-three places, on where a number stands in a list. -/
def markBits (ls : List Int) : List Bool := (List.range 33).map fun (i : Nat) => decide ((i : Int) ∈ ls)
theorem markBits_len (ls : List Int) : (markBits ls).length = 33 := by simp [markBits]
theorem markBits_set {ls : List Int} {m : Nat} : (markBits ls).set m true = markBits (ls ++ [(m : Int)]) := by
  apply List.ext_getElem
  · simp [markBits]
  · intro i h1 h2
    have hi : i < 33 := by simpa [markBits] using h2
    rw [List.getElem_set]
    by_cases e : m = i
    · subst e; simp [markBits]
    · rw [if_neg e]
      have : ¬ (i : Int) = (m : Int) := by omega
      simp [markBits, this]
theorem boolCells_size (bs : List Bool) : (boolCells bs).size = bs.length := by simp [boolCells]
theorem boolCells_set (bs : List Bool) (m : Nat) (b : Bool) : (boolCells bs).setIfInBounds m (.bool b) = boolCells (bs.set m b) := by
  simp [boolCells, List.map_set]
theorem boolCells_one (bs : List Bool) : (boolCells bs).all (·.oneCell') = true := by
  simp [boolCells, Value.oneCell']
theorem boolRow_cell {w : World} {B t : Nat} {bs : List Bool} (h : w.heap[B]? = some (.cells (boolCells bs) t (0, 0))) {m : Nat} {b : Bool} (hm : bs[m]? = some b) : w.cell? ⟨B, m, none⟩ = some (.bool b) := by
  simp [World.cell?, h, boolCells, hm]
theorem row_frozen {w : World} {B t : Nat} {c : Array Value} (h : w.heap[B]? = some (.cells c t (0, 0))) (m : Nat) : w.frozen? ⟨B, m, none⟩ = false := by
  simp [World.frozen?, h]
theorem boolRow_set {w : World} {B t : Nat} {bs : List Bool} (h : w.heap[B]? = some (.cells (boolCells bs) t (0, 0))) (m : Nat) (b : Bool) : (w.setCell ⟨B, m, none⟩ (.bool b)).heap[B]? = some (.cells (boolCells (bs.set m b)) t (0, 0)) := by
  rw [← boolCells_set]
  simp [World.setCell, Array.getElem?_modify, h]

theorem zeroRow : (#[Value.bool false, Value.bool false, Value.bool false, Value.bool false, Value.bool false, Value.bool false, Value.bool false, Value.bool false, Value.bool false, Value.bool false, Value.bool false, Value.bool false, Value.bool false, Value.bool false, Value.bool false, Value.bool false, Value.bool false, Value.bool false, Value.bool false, Value.bool false, Value.bool false, Value.bool false, Value.bool false, Value.bool false, Value.bool false, Value.bool false, Value.bool false, Value.bool false, Value.bool false, Value.bool false, Value.bool false, Value.bool false, Value.bool false] : Array Value) = boolCells (markBits []) := by rfl

/-- Which lines are kept, a line behind the last one with them. -/
def keptBits (t : List Int) : List Bool := (markBits (linesL t)).set 32 true
theorem keptBits_len (t : List Int) : (keptBits t).length = 33 := by simp [keptBits, markBits_len]
theorem mem_linesL {t : List Int} {x : Int} (h : x ∈ linesL t) : ∃ m : Nat, x = (m : Int) ∧ m < 32 := by
  unfold linesL at h
  split at h
  · obtain ⟨m, hm, rfl⟩ := List.mem_map.1 h
    exact ⟨m, rfl, by have := (List.mem_filter.1 hm).1; simpa using this⟩
  · simp at h
theorem keptBits_at {t : List Int} (hr : rightT t = true) {i : Nat} (hi : i < 32) : (keptBits t)[i]? = some (keptAt t i) := by
  unfold keptBits
  rw [List.getElem?_set_ne (by omega)]
  have e : ((i : Int) ∈ linesL t) ↔ keptAt t i = true := by
    unfold linesL
    rw [if_pos hr]
    constructor
    · intro h
      obtain ⟨m, hm, he⟩ := List.mem_map.1 h
      have : m = i := by have : (m : Int) = (i : Int) := he; omega
      subst this
      exact (List.mem_filter.1 hm).2
    · intro h
      exact List.mem_map.2 ⟨i, List.mem_filter.2 ⟨by simpa using hi, h⟩, rfl⟩
  have hlt : i < 33 := by omega
  simp [markBits, hlt, e]
theorem keptBits_last {t : List Int} : (keptBits t)[32]? = some true := by
  unfold keptBits
  rw [List.getElem?_set_self (by rw [markBits_len]; omega)]

end Go.Sel
