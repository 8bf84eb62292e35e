/- Contracts of the laws' helpers: selionref02.Ints, selionlaw09.Few, selionlaw07.Cut. -/
import Derived.Test.YtihmgiifphheeaaGreatDoorNew
namespace Go.Sel
open Go Go.RowKit
/-- A slice of ints of any length, by its first ones (at most thirty-four). -/
def HeadInts (n : Nat) (w : World) (v : Value) (xs : List Int) : Prop :=
  ∃ a l c, v = .slice a l c ∧ l ≤ c ∧ c ≤ maxLen ∧ xs.length = min l 34 ∧ (a = none → c = 0) ∧
    ∀ (j : Nat) (x : Int), xs[j]? = some x → ∃ b o, a = some ⟨b, o, none⟩ ∧ b < n ∧ w.cell? ⟨b, o + j, none⟩ = some (.int .i64 x) ∧ I64 x
theorem HeadInts.below {n : Nat} {w w' : World} {v : Value} {xs : List Int} (h : HeadInts n w v xs) (hb : Below n w w') : HeadInts n w' v xs := by
  obtain ⟨a, l, c, rfl, h1, h2, h3, h4, h6⟩ := h
  refine ⟨a, l, c, rfl, h1, h2, h3, h4, fun j x hx => ?_⟩
  obtain ⟨b, o, rfl, k0, k1, k2⟩ := h6 j x hx
  exact ⟨b, o, rfl, k0, (hb.cell (p := ⟨b, o + j, none⟩) k0).trans k1, k2⟩
end Go.Sel
namespace Go.Proofs.YtihmgiifphheeaaGreatDoor
open Go.RowKit Go.Sel

set_option maxHeartbeats 1000000 in
theorem refInts_any {n : Nat} {v1 v2 : Value} {xs ys : List Int} {w : World} (h1 : IsInts n w v1 xs) (h2 : IsInts n w v2 ys) :
    Calls Tryz.prog 23 #[v1, v2] w fun e w' => e = .returned (.bool (decide (xs = ys))) ∧ ∃ q, w' = w.drewN q := by
  obtain ⟨a1, c1, rfl, hc1⟩ := h1.open
  obtain ⟨a2, c2, rfl, hc2⟩ := h2.open
  have hl1 := h1.len
  have hl2 := h2.len
  unfold big at hl1 hl2
  by_cases hne : xs.length = ys.length
  · rw [← hne] at hc2 h2 ⊢
    have HN := Lib.hid hne
    clear hne hl2
    go_enter Tryz.func23, Tryz.ntmps23
    go_wp2
    go_loopw [5] (fun i wr => ∃ k q : Nat, k ≤ xs.length ∧ i = .int .i64 k ∧ wr = w.drewN q ∧ Hid (xs.take k = ys.take k)) (fun i _ => xs.length - (intOf i).toNat)
    case atStart => exact ⟨0, 0, Nat.zero_le _, rfl, rfl, Lib.hid rfl⟩
    case round =>
      obtain ⟨k, q, hk, rfl, rfl, hpre⟩ := hrel
      by_cases hlt : k < xs.length
      · obtain ⟨x, b1, o1, hx, rfl, _, g1, _⟩ := h1.at hlt
        obtain ⟨y, b2, o2, hy, rfl, _, g2, _⟩ := h2.at (k := k) (by rw [← HN.out]; exact hlt)
        have HX := Lib.hid hx
        have HY := Lib.hid hy
        clear hx hy h1 h2
        by_cases hxy : x = y
        · subst hxy
          go_wp2_with fail
          go_quiet (fail)
          go_wp2
          go_roundw
          case measure => simp [intOf]; omega
          case rel => exact ⟨k + 1, _, by omega, by go_num, rfl, Lib.hid (take_same_step hpre.out HX.out HY.out)⟩
        · go_wp2_with fail
          go_quiet (fail)
          go_wp2
          go_ret
          exact ⟨by rw [decide_eq_false (ne_of_at HX.out HY.out hxy)]; rfl, _, World.drewN_drewN _ _ _⟩
      · clear h1 h2
        go_wp2
        go_ret
        exact ⟨by rw [decide_eq_true (same_of_take hpre.out hlt HN.out)]; rfl, _, rfl⟩
  · have HD := Lib.hid (decide_eq_false (ne_of_len hne))
    have hne' : ((xs.length : Int) != (ys.length : Int)) = true := by rw [bne_iff_ne]; omega
    clear h1 h2 hne
    go_enter Tryz.func23, Tryz.ntmps23
    go_wp2
    go_ret
    exact ⟨by rw [HD.out]; rfl, 0, rfl⟩

set_option maxHeartbeats 1000000 in
theorem few_any {n : Nat} {v : Value} {xs : List Int} {w : World} (h : HeadInts n w v xs) :
    Calls Tryz.prog 24 #[v] w fun e w' => (∃ v', e = .returned v' ∧ IsInts n w v' xs) ∧ w' = w := by
  obtain ⟨a, l, c, rfl, h1, h2, h3, h4, h6⟩ := h
  unfold maxLen at h2
  by_cases hl : l ≤ 34
  · have e1 : min l 34 = l := by omega
    have e2 : min (l : Int) 34 = (l : Int) := by omega
    rw [e1] at h3
    have H3 := Lib.hid h3
    have H6 := Lib.hid h6
    clear e1 h3 h4 h6
    go_enter Tryz.func24, Tryz.ntmps24
    go_wp2
    go_ret
    refine ⟨⟨_, rfl, a, c, by rw [H3.out]; rfl, by rw [H3.out]; exact h1, by rw [H3.out]; unfold big; omega, fun j x hx => ?_⟩, rfl⟩
    obtain ⟨b, o, rfl, k0, k1, k2⟩ := H6.out j x hx
    exact ⟨b, o, rfl, k0, by simpa using k1, k2⟩
  · have e1 : min l 34 = 34 := by omega
    have e2 : min (l : Int) 34 = 34 := by omega
    rw [e1] at h3
    have hc : ¬ c = 0 := by omega
    have hc34 : 34 ≤ c := by omega
    obtain ⟨b, rfl⟩ : ∃ b, a = some b := by
      cases a with
      | none => exact absurd (h4 rfl) hc
      | some b => exact ⟨b, rfl⟩
    have H3 := Lib.hid h3
    have H6 := Lib.hid h6
    clear e1 h3 h4 h6
    go_enter Tryz.func24, Tryz.ntmps24
    go_wp2
    go_ret
    refine ⟨⟨_, rfl, some b, c, by rw [H3.out]; rfl, by rw [H3.out]; omega, by rw [H3.out]; unfold big; omega, fun j x hx => ?_⟩, rfl⟩
    obtain ⟨b', o, he, k0, k1, k2⟩ := H6.out j x hx
    exact ⟨b', o, he, k0, by simpa using k1, k2⟩

set_option maxHeartbeats 1000000 in
theorem cut07_any {n : Nat} {v : Value} {xs : List Int} {w : World} (h : HeadInts n w v xs) :
    Calls Tryz.prog 14 #[v] w fun e w' => (∃ v', e = .returned v' ∧ IsInts n w v' xs) ∧ w' = w := by
  obtain ⟨a, l, c, rfl, h1, h2, h3, h4, h6⟩ := h
  unfold maxLen at h2
  by_cases hl : l ≤ 34
  · have e1 : min l 34 = l := by omega
    have e2 : min (l : Int) 34 = (l : Int) := by omega
    rw [e1] at h3
    have H3 := Lib.hid h3
    have H6 := Lib.hid h6
    clear e1 h3 h4 h6
    go_enter Tryz.func14, Tryz.ntmps14
    go_wp2
    go_ret
    refine ⟨⟨_, rfl, a, c, by rw [H3.out]; rfl, by rw [H3.out]; exact h1, by rw [H3.out]; unfold big; omega, fun j x hx => ?_⟩, rfl⟩
    obtain ⟨b, o, rfl, k0, k1, k2⟩ := H6.out j x hx
    exact ⟨b, o, rfl, k0, by simpa using k1, k2⟩
  · have e1 : min l 34 = 34 := by omega
    have e2 : min (l : Int) 34 = 34 := by omega
    rw [e1] at h3
    have hc : ¬ c = 0 := by omega
    have hc34 : 34 ≤ c := by omega
    obtain ⟨b, rfl⟩ : ∃ b, a = some b := by
      cases a with
      | none => exact absurd (h4 rfl) hc
      | some b => exact ⟨b, rfl⟩
    have H3 := Lib.hid h3
    have H6 := Lib.hid h6
    clear e1 h3 h4 h6
    go_enter Tryz.func14, Tryz.ntmps14
    go_wp2
    go_ret
    refine ⟨⟨_, rfl, some b, c, by rw [H3.out]; rfl, by rw [H3.out]; omega, by rw [H3.out]; unfold big; omega, fun j x hx => ?_⟩, rfl⟩
    obtain ⟨b', o, he, k0, k1, k2⟩ := H6.out j x hx
    exact ⟨b', o, he, k0, by simpa using k1, k2⟩

end Go.Proofs.YtihmgiifphheeaaGreatDoor
