/- Contract of selionref02.Ints. -/
import Derived.Test.YtjhmghcfhgajcaaDoorDesc16
namespace Go.Proofs.YtjhmghcfhgajcaaDoor
open Go.RowKit Go.Sel

set_option maxHeartbeats 1000000 in
theorem refInts_any {n : Nat} {v1 v2 : Value} {xs ys : List Int} {w : World} (h1 : IsInts n w v1 xs) (h2 : IsInts n w v2 ys) :
    Calls Tryd.prog 31 #[v1, v2] w fun e w' => e = .returned (.bool (decide (xs = ys))) ∧ ∃ q, w' = w.drewN q := by
  obtain ⟨a1, c1, rfl, hc1⟩ := h1.open
  obtain ⟨a2, c2, rfl, hc2⟩ := h2.open
  have hl1 := h1.len
  have hl2 := h2.len
  unfold big at hl1 hl2
  by_cases hne : xs.length = ys.length
  · rw [← hne] at hc2 h2 ⊢
    have HN := Lib.hid hne
    clear hne hl2
    go_enter Tryd.func31, Tryd.ntmps31
    go_wp2
    go_loopw [5] (fun i wr => ∃ k q : Nat, k ≤ xs.length ∧ i = .int .i64 k ∧ wr = w.drewN q ∧ Hid (xs.take k = ys.take k)) (fun i _ => xs.length - (intOf i).toNat)
    case atStart => exact ⟨0, 0, Nat.zero_le _, rfl, rfl, Lib.hid rfl⟩
    case round =>
      obtain ⟨k, q, hk, rfl, rfl, hpre⟩ := hrel
      by_cases hlt : k < xs.length
      · obtain ⟨x, b1, o1, hx, rfl, _, g1, _⟩ := h1.at hlt
        obtain ⟨y, b2, o2, hy, rfl, _, g2, _⟩ := h2.at (k := k) (by rw [← HN.out]; exact hlt)
        have HX := Lib.hid hx
        have HY := Lib.hid hy
        clear hx hy h1 h2
        by_cases hxy : x = y
        · subst hxy
          go_wp2_with fail
          go_quiet (fail)
          go_wp2
          go_roundw
          case measure => simp [intOf]; omega
          case rel => exact ⟨k + 1, _, by omega, by go_num, rfl, Lib.hid (take_same_step hpre.out HX.out HY.out)⟩
        · go_wp2_with fail
          go_quiet (fail)
          go_wp2
          go_ret
          exact ⟨by rw [decide_eq_false (ne_of_at HX.out HY.out hxy)]; rfl, _, World.drewN_drewN _ _ _⟩
      · clear h1 h2
        go_wp2
        go_ret
        exact ⟨by rw [decide_eq_true (same_of_take hpre.out hlt HN.out)]; rfl, _, rfl⟩
  · have HD := Lib.hid (decide_eq_false (ne_of_len hne))
    have hne' : ((xs.length : Int) != (ys.length : Int)) = true := by rw [bne_iff_ne]; omega
    clear h1 h2 hne
    go_enter Tryd.func31, Tryd.ntmps31
    go_wp2
    go_ret
    exact ⟨by rw [HD.out]; rfl, 0, rfl⟩
end Go.Proofs.YtjhmghcfhgajcaaDoor
