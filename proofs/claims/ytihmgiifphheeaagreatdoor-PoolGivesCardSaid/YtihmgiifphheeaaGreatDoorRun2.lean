/- Contracts of package run: Right, First; and marks.Right. -/
import Derived.Test.YtihmgiifphheeaaGreatDoorRun
namespace Go.Proofs.YtihmgiifphheeaaGreatDoor
open Go.RowKit Go.Sel
attribute [local go_sem] Oper.semAt_some

set_option maxHeartbeats 400000 in
theorem runRight1_pred (w : World) : PredI Tryz.prog w 70 #[] noState := fun x W hx hb => by
  unfold noState
  by_cases h : x < 0
  · rw [decide_eq_true h]
    go_enter Tryz.func70, Tryz.ntmps70
    go_wp2
    go_ret
    exact ⟨rfl, rfl⟩
  · rw [decide_eq_false h]
    go_enter Tryz.func70, Tryz.ntmps70
    go_wp2
    go_ret
    exact ⟨rfl, rfl⟩

set_option maxHeartbeats 400000 in
theorem marksRight1_pred (w : World) : PredI Tryz.prog w 63 #[] noLine := fun x W hx hb => by
  unfold noLine
  by_cases h : x < 0
  · rw [decide_eq_true h]
    go_enter Tryz.func63, Tryz.ntmps63
    go_wp2
    go_ret
    exact ⟨rfl, rfl⟩
  · rw [decide_eq_false h]
    go_enter Tryz.func63, Tryz.ntmps63
    go_wp2
    go_ret
    exact ⟨rfl, rfl⟩

set_option maxHeartbeats 400000 in
theorem runRight_any {n : Nat} {v : Value} {l : List Int} {w : World} (h1 : IsInts n w v l) :
    Calls Tryz.prog 48 #[v] w fun e w' => e = .returned (.bool (rightS l)) ∧ w' = w := by
  have hc := containsFunc_any h1 (enters_of Tryz.func70 (by kernel_rfl) rfl) (runRight1_pred w)
  obtain ⟨a1, c1, rfl, hc1⟩ := h1.open
  have hl := h1.len
  unfold big at hl
  unfold rightS
  clear h1
  generalize l.any noState = b at hc
  by_cases g1 : 1 ≤ l.length
  · by_cases g2 : l.length ≤ 32
    · rw [decide_eq_true g1, decide_eq_true g2]
      have k1 : (1 : Int) ≤ (l.length : Int) := by omega
      have k2 : (l.length : Int) ≤ 32 := by omega
      go_enter Tryz.func48, Tryz.ntmps48
      go_wp2_with (go_at_call 64; refine hc.mono ?_; rintro e w' ⟨rfl, rfl⟩)
      go_ret
      exact ⟨rfl, rfl⟩
    · rw [decide_eq_true g1, decide_eq_false g2]
      have k1 : (1 : Int) ≤ (l.length : Int) := by omega
      have k2 : ¬ (l.length : Int) ≤ 32 := by omega
      clear hc
      go_enter Tryz.func48, Tryz.ntmps48
      go_wp2
      go_ret
      exact ⟨rfl, rfl⟩
  · rw [decide_eq_false g1]
    have k1 : ¬ (1 : Int) ≤ (l.length : Int) := by omega
    clear hc
    go_enter Tryz.func48, Tryz.ntmps48
    go_wp2
    go_ret
    exact ⟨rfl, rfl⟩

set_option maxHeartbeats 400000 in
theorem marksRight_any {n : Nat} {v : Value} {l : List Int} {w : World} (h1 : IsInts n w v l) :
    Calls Tryz.prog 39 #[v] w fun e w' => e = .returned (.bool (rightT l)) ∧ w' = w := by
  have hc := containsFunc_any h1 (enters_of Tryz.func63 (by kernel_rfl) rfl) (marksRight1_pred w)
  obtain ⟨a1, c1, rfl, hc1⟩ := h1.open
  have hl := h1.len
  unfold big at hl
  unfold rightT
  clear h1
  generalize l.any noLine = b at hc
  by_cases g1 : l.length = 32
  · rw [decide_eq_true g1]
    have k1 : ((l.length : Int) == 32) = true := by rw [beq_iff_eq]; omega
    clear g1
    go_enter Tryz.func39, Tryz.ntmps39
    go_wp2_with (go_at_call 64; refine hc.mono ?_; rintro e w' ⟨rfl, rfl⟩)
    go_ret
    exact ⟨rfl, rfl⟩
  · rw [decide_eq_false g1]
    have k1 : ((l.length : Int) == 32) = false := by rw [beq_eq_false_iff_ne]; omega
    clear hc
    go_enter Tryz.func39, Tryz.ntmps39
    go_wp2
    go_ret
    exact ⟨rfl, rfl⟩

end Go.Proofs.YtihmgiifphheeaaGreatDoor
