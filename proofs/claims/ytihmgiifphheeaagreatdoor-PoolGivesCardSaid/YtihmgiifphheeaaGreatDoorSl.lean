/- Contracts of small functions on slices of integers: selionref02.Ints, slices.Equal, Index, Contains. -/
import Derived.Test.YtihmgiifphheeaaGreatDoorRows
import Derived.Test.YtihmgiifphheeaaGreatDoorData
import Derived.WalkKit
import Derived.WalkSpells
import Derived.WalkLawsBesides
import Derived.Deep.LoopGhost
import Derived.Deep.QuietTactic
import Derived.BigQuiet
import Derived.Lib.Hide
import Derived.Outline
import Derived.Shelf.Abstract
namespace Go.Proofs.YtihmgiifphheeaaGreatDoor
open Go.RowKit Go.Sel

set_option maxHeartbeats 400000 in
/-- Do two slices have the same elements? -/
theorem ints_any {n : Nat} {v1 v2 : Value} {xs ys : List Int} {w : World} (h1 : IsInts n w v1 xs) (h2 : IsInts n w v2 ys) :
    Calls Tryz.prog 23 #[v1, v2] w fun e w' => e = .returned (.bool (decide (xs = ys))) ∧ ∃ q, w' = w.drewN q := by
  obtain ⟨a1, c1, rfl, hc1⟩ := h1.open
  obtain ⟨a2, c2, rfl, hc2⟩ := h2.open
  have hl1 := h1.len
  have hl2 := h2.len
  unfold big at hl1 hl2
  by_cases hne : xs.length = ys.length
  · rw [← hne] at hc2 h2 ⊢
    have HN := Lib.hid hne
    clear hne hl2
    go_enter Tryz.func23, Tryz.ntmps23
    go_wp2
    go_loopw [5] (fun i wr => ∃ k q : Nat, k ≤ xs.length ∧ i = .int .i64 k ∧ wr = w.drewN q ∧ Hid (xs.take k = ys.take k)) (fun i _ => xs.length - (intOf i).toNat)
    case atStart => exact ⟨0, 0, Nat.zero_le _, rfl, rfl, Lib.hid rfl⟩
    case round =>
      obtain ⟨k, q, hk, rfl, rfl, hpre⟩ := hrel
      by_cases hlt : k < xs.length
      · obtain ⟨x, b1, o1, hx, rfl, _, g1, _⟩ := h1.at hlt
        obtain ⟨y, b2, o2, hy, rfl, _, g2, _⟩ := h2.at (k := k) (by rw [← HN.out]; exact hlt)
        have HX := Lib.hid hx
        have HY := Lib.hid hy
        clear hx hy h1 h2
        by_cases hxy : x = y
        · subst hxy
          go_wp2_with fail
          go_quiet (fail)
          go_wp2
          go_roundw
          case measure => simp [intOf]; omega
          case rel => exact ⟨k + 1, _, by omega, by go_num, rfl, Lib.hid (take_same_step hpre.out HX.out HY.out)⟩
        · go_wp2_with fail
          go_quiet (fail)
          go_wp2
          go_ret
          exact ⟨by rw [decide_eq_false (ne_of_at HX.out HY.out hxy)]; rfl, _, World.drewN_drewN _ _ _⟩
      · clear h1 h2
        go_wp2
        go_ret
        exact ⟨by rw [decide_eq_true (same_of_take hpre.out hlt HN.out)]; rfl, _, rfl⟩
  · have HD := Lib.hid (decide_eq_false (ne_of_len hne))
    have hne' : ((xs.length : Int) != (ys.length : Int)) = true := by rw [bne_iff_ne]; omega
    clear h1 h2 hne
    go_enter Tryz.func23, Tryz.ntmps23
    go_wp2
    go_ret
    exact ⟨by rw [HD.out]; rfl, 0, rfl⟩

set_option maxHeartbeats 400000 in
/-- Do two slices have the same elements? -/
theorem equal_any {n : Nat} {v1 v2 : Value} {xs ys : List Int} {w : World} (h1 : IsInts n w v1 xs) (h2 : IsInts n w v2 ys) :
    Calls Tryz.prog 73 #[v1, v2] w fun e w' => e = .returned (.bool (decide (xs = ys))) ∧ ∃ q, w' = w.drewN q := by
  obtain ⟨a1, c1, rfl, hc1⟩ := h1.open
  obtain ⟨a2, c2, rfl, hc2⟩ := h2.open
  have hl1 := h1.len
  have hl2 := h2.len
  unfold big at hl1 hl2
  by_cases hne : xs.length = ys.length
  · rw [← hne] at hc2 h2 ⊢
    have HN := Lib.hid hne
    clear hne hl2
    go_enter Tryz.func73, Tryz.ntmps73
    go_wp2
    go_loopw [13] (fun i wr => ∃ k q : Nat, k ≤ xs.length ∧ i = .int .i64 k ∧ wr = w.drewN q ∧ Hid (xs.take k = ys.take k)) (fun i _ => xs.length - (intOf i).toNat)
    case atStart => exact ⟨0, 0, Nat.zero_le _, rfl, rfl, Lib.hid rfl⟩
    case round =>
      obtain ⟨k, q, hk, rfl, rfl, hpre⟩ := hrel
      by_cases hlt : k < xs.length
      · obtain ⟨x, b1, o1, hx, rfl, _, g1, _⟩ := h1.at hlt
        obtain ⟨y, b2, o2, hy, rfl, _, g2, _⟩ := h2.at (k := k) (by rw [← HN.out]; exact hlt)
        have HX := Lib.hid hx
        have HY := Lib.hid hy
        clear hx hy h1 h2
        by_cases hxy : x = y
        · subst hxy
          go_wp2_with fail
          go_quiet (fail)
          go_wp2
          go_roundw
          case measure => simp [intOf]; omega
          case rel => exact ⟨k + 1, _, by omega, by go_num, rfl, Lib.hid (take_same_step hpre.out HX.out HY.out)⟩
        · go_wp2_with fail
          go_quiet (fail)
          go_wp2
          go_ret
          exact ⟨by rw [decide_eq_false (ne_of_at HX.out HY.out hxy)]; rfl, _, World.drewN_drewN _ _ _⟩
      · clear h1 h2
        go_wp2
        go_ret
        exact ⟨by rw [decide_eq_true (same_of_take hpre.out hlt HN.out)]; rfl, _, rfl⟩
  · have HD := Lib.hid (decide_eq_false (ne_of_len hne))
    have hne' : ((xs.length : Int) != (ys.length : Int)) = true := by rw [bne_iff_ne]; omega
    clear h1 h2 hne
    go_enter Tryz.func73, Tryz.ntmps73
    go_wp2
    go_ret
    exact ⟨by rw [HD.out]; rfl, 0, rfl⟩


set_option maxHeartbeats 400000 in
theorem index_any {n : Nat} {v : Value} {xs : List Int} {w : World} (x : Int) (h1 : IsInts n w v xs) :
    Calls Tryz.prog 78 #[v, .int .i64 x] w fun e w' => e = .returned (.int .i64 (idx (fun y => decide (x = y)) xs)) ∧ w' = w := by
  obtain ⟨a1, c1, rfl, hc1⟩ := h1.open
  have hl1 := h1.len
  unfold big at hl1
  go_enter Tryz.func78, Tryz.ntmps78
  go_wp2
  go_loop [5, 8] (fun _ i => ∃ k : Nat, k ≤ xs.length ∧ i = .int .i64 k ∧ Hid (∀ y ∈ xs.take k, (fun y => decide (x = y)) y = false)) (fun _ i => xs.length - (intOf i).toNat)
  case atStart => exact ⟨0, Nat.zero_le _, rfl, fun y hy => by simp at hy⟩
  case round =>
    obtain ⟨k, hk, rfl, hpre⟩ := hrel
    by_cases hlt : k < xs.length
    · obtain ⟨y, b1, o1, hy, rfl, _, g1, _⟩ := h1.at hlt
      have HY := Lib.hid hy
      clear hy h1
      by_cases hxy : x = y
      · subst hxy
        go_wp2
        go_ret
        exact ⟨by rw [idx_hit hpre.out HY.out (decide_eq_true rfl)]; rfl, rfl⟩
      · have HN := Lib.hid (decide_eq_false hxy)
        have hb : (x == y) = false := beq_eq_false_iff_ne.2 hxy
        go_wp2
        go_round
        case measure => simp [intOf]; omega
        case rel => exact ⟨k + 1, by omega, by go_num, none_step hpre.out HY.out HN.out⟩
    · clear h1
      go_wp2
      go_ret
      exact ⟨by rw [idx_none hpre.out hlt]; rfl, rfl⟩

set_option maxHeartbeats 400000 in
theorem contains_any {n : Nat} {v : Value} {xs : List Int} {w : World} (x : Int) (h1 : IsInts n w v xs) :
    Calls Tryz.prog 60 #[v, .int .i64 x] w fun e w' => e = .returned (.bool (decide (x ∈ xs))) ∧ w' = w := by
  have hi := idx_lt (p := fun y => decide (x = y)) (xs := xs)
  have hg := idx_ge (p := fun y => decide (x = y)) (xs := xs)
  rw [any_eq] at hg
  have HG := Lib.hid hg
  have hc := index_any x h1
  generalize idx (fun y => decide (x = y)) xs = i at hi hc HG
  clear hg
  go_enter Tryz.func60, Tryz.ntmps60
  go_wp2_with (go_at_call 78; refine hc.mono ?_; rintro e w' ⟨rfl, rfl⟩)
  go_ret
  refine ⟨ret_bool ?_, rfl⟩
  rw [Bool.eq_iff_iff, ← HG.out]; simp

/-- A function value that tells of an integer whether p holds; it turns nothing. -/
def PredI (P : Program) (w : World) (gf : Nat) (lb : Array Value) (p : Int → Bool) : Prop :=
  ∀ (x : Int) (W : World), I64 x → Below w.heap.size w W → Calls P gf (#[.int .i64 x] ++ lb) W fun e W' => e = .returned (.bool (p x)) ∧ W' = W

set_option maxHeartbeats 400000 in
theorem indexFunc_any {n : Nat} {v : Value} {xs : List Int} {w : World} {gf : Nat} {lb : Array Value} {p : Int → Bool} (h1 : IsInts n w v xs)
    (eg : ∀ args w, (callFunc gf args).run Tryz.prog w = .ok (.enter gf args) w) (hp : PredI Tryz.prog w gf lb p) :
    Calls Tryz.prog 83 #[v, .func (.func gf) #[] lb] w fun e w' => e = .returned (.int .i64 (idx p xs)) ∧ w' = w := by
  obtain ⟨a1, c1, rfl, hc1⟩ := h1.open
  have hl1 := h1.len
  unfold big at hl1
  go_enter Tryz.func83, Tryz.ntmps83
  go_wp2
  go_loop [5, 8] (fun _ i => ∃ k : Nat, k ≤ xs.length ∧ i = .int .i64 k ∧ Hid (∀ y ∈ xs.take k, p y = false)) (fun _ i => xs.length - (intOf i).toNat)
  case atStart => exact ⟨0, Nat.zero_le _, rfl, fun y hy => by simp at hy⟩
  case round =>
    obtain ⟨k, hk, rfl, hpre⟩ := hrel
    by_cases hlt : k < xs.length
    · obtain ⟨y, b1, o1, hy, rfl, hbn, g1, hy64⟩ := h1.at hlt
      have HY := Lib.hid hy
      have hcall := hp y w hy64 (Below.refl _ _)
      clear hy h1 hp
      cases hq : p y with
      | true =>
        rw [hq] at hcall
        go_wp2_with (go_at_fn gf; refine hcall.mono ?_; rintro e w' ⟨rfl, rfl⟩)
        go_ret
        exact ⟨by rw [idx_hit hpre.out HY.out hq]; rfl, rfl⟩
      | false =>
        rw [hq] at hcall
        go_wp2_with (go_at_fn gf; refine hcall.mono ?_; rintro e w' ⟨rfl, rfl⟩)
        go_round
        case measure => simp [intOf]; omega
        case rel => exact ⟨k + 1, by omega, by go_num, none_step hpre.out HY.out hq⟩
    · clear h1 hp
      go_wp2
      go_ret
      exact ⟨by rw [idx_none hpre.out hlt]; rfl, rfl⟩

set_option maxHeartbeats 400000 in
theorem containsFunc_any {n : Nat} {v : Value} {xs : List Int} {w : World} {gf : Nat} {lb : Array Value} {p : Int → Bool} (h1 : IsInts n w v xs)
    (eg : ∀ args w, (callFunc gf args).run Tryz.prog w = .ok (.enter gf args) w) (hp : PredI Tryz.prog w gf lb p) :
    Calls Tryz.prog 64 #[v, .func (.func gf) #[] lb] w fun e w' => e = .returned (.bool (xs.any p)) ∧ w' = w := by
  have hi := idx_lt (p := p) (xs := xs)
  have HG := Lib.hid (idx_ge (p := p) (xs := xs))
  have hc := indexFunc_any h1 eg hp
  generalize idx p xs = i at hi hc HG
  clear hp eg
  go_enter Tryz.func64, Tryz.ntmps64
  go_wp2_with (go_at_call 83; refine hc.mono ?_; rintro e w' ⟨rfl, rfl⟩)
  go_ret
  refine ⟨ret_bool ?_, rfl⟩
  rw [Bool.eq_iff_iff, ← HG.out]; simp

end Go.Proofs.YtihmgiifphheeaaGreatDoor
