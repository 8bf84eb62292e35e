/- Contracts of package run: Right, First; and marks.Right. -/
import Derived.Test.YtihmgiifphheeaaDoorRun
namespace Go.Proofs.YtihmgiifphheeaaDoor
open Go.RowKit Go.Sel
attribute [local go_sem] Oper.semAt_some

set_option maxHeartbeats 400000 in
theorem runRight1_pred (w : World) : PredI Tryd.prog w 71 #[] noState := fun x W hx hb => by
  unfold noState
  by_cases h : x < 0
  · rw [decide_eq_true h]
    go_enter Tryd.func71, Tryd.ntmps71
    go_wp2
    go_ret
    exact ⟨rfl, rfl⟩
  · rw [decide_eq_false h]
    go_enter Tryd.func71, Tryd.ntmps71
    go_wp2
    go_ret
    exact ⟨rfl, rfl⟩

set_option maxHeartbeats 400000 in
theorem marksRight1_pred (w : World) : PredI Tryd.prog w 62 #[] noLine := fun x W hx hb => by
  unfold noLine
  by_cases h : x < 0
  · rw [decide_eq_true h]
    go_enter Tryd.func62, Tryd.ntmps62
    go_wp2
    go_ret
    exact ⟨rfl, rfl⟩
  · rw [decide_eq_false h]
    go_enter Tryd.func62, Tryd.ntmps62
    go_wp2
    go_ret
    exact ⟨rfl, rfl⟩

set_option maxHeartbeats 400000 in
theorem runRight_any {n : Nat} {v : Value} {l : List Int} {w : World} (h1 : IsInts n w v l) :
    Calls Tryd.prog 52 #[v] w fun e w' => e = .returned (.bool (rightS l)) ∧ w' = w := by
  have hc := containsFunc_any h1 (enters_of Tryd.func71 (by kernel_rfl) rfl) (runRight1_pred w)
  obtain ⟨a1, c1, rfl, hc1⟩ := h1.open
  have hl := h1.len
  unfold big at hl
  unfold rightS
  clear h1
  generalize l.any noState = b at hc
  by_cases g1 : 1 ≤ l.length
  · by_cases g2 : l.length ≤ 32
    · rw [decide_eq_true g1, decide_eq_true g2]
      have k1 : (1 : Int) ≤ (l.length : Int) := by omega
      have k2 : (l.length : Int) ≤ 32 := by omega
      go_enter Tryd.func52, Tryd.ntmps52
      go_wp2_with (go_at_call 63; refine hc.mono ?_; rintro e w' ⟨rfl, rfl⟩)
      go_ret
      exact ⟨rfl, rfl⟩
    · rw [decide_eq_true g1, decide_eq_false g2]
      have k1 : (1 : Int) ≤ (l.length : Int) := by omega
      have k2 : ¬ (l.length : Int) ≤ 32 := by omega
      clear hc
      go_enter Tryd.func52, Tryd.ntmps52
      go_wp2
      go_ret
      exact ⟨rfl, rfl⟩
  · rw [decide_eq_false g1]
    have k1 : ¬ (1 : Int) ≤ (l.length : Int) := by omega
    clear hc
    go_enter Tryd.func52, Tryd.ntmps52
    go_wp2
    go_ret
    exact ⟨rfl, rfl⟩

set_option maxHeartbeats 400000 in
theorem marksRight_any {n : Nat} {v : Value} {l : List Int} {w : World} (h1 : IsInts n w v l) :
    Calls Tryd.prog 34 #[v] w fun e w' => e = .returned (.bool (rightT l)) ∧ w' = w := by
  have hc := containsFunc_any h1 (enters_of Tryd.func62 (by kernel_rfl) rfl) (marksRight1_pred w)
  obtain ⟨a1, c1, rfl, hc1⟩ := h1.open
  have hl := h1.len
  unfold big at hl
  unfold rightT
  clear h1
  generalize l.any noLine = b at hc
  by_cases g1 : l.length = 32
  · rw [decide_eq_true g1]
    have k1 : ((l.length : Int) == 32) = true := by rw [beq_iff_eq]; omega
    clear g1
    go_enter Tryd.func34, Tryd.ntmps34
    go_wp2_with (go_at_call 63; refine hc.mono ?_; rintro e w' ⟨rfl, rfl⟩)
    go_ret
    exact ⟨rfl, rfl⟩
  · rw [decide_eq_false g1]
    have k1 : ((l.length : Int) == 32) = false := by rw [beq_eq_false_iff_ne]; omega
    clear hc
    go_enter Tryd.func34, Tryd.ntmps34
    go_wp2
    go_ret
    exact ⟨rfl, rfl⟩

end Go.Proofs.YtihmgiifphheeaaDoor
