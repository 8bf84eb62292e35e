/- Contracts of package run: must, told; slices.Repeat at functions. -/
import Derived.Test.YtihmgiifphheeaaGreatDoorRun3
import Derived.Test.YtihmgiifphheeaaGreatDoorErr
import Derived.Shelf.Bits.Mul64
namespace Go.Sel
open Go Go.RowKit
/-- A function value in a cell. -/
def RFn (gf : Nat) (w : World) (b p : Nat) (_ : Unit) : Prop := w.cell? ⟨b, p, none⟩ = some (.func (.func gf) #[] #[])
/-- A slice of k function values, all one. -/
def IsFns (n : Nat) (w : World) (v : Value) (gf k : Nat) : Prop := IsSl n 1 (RFn gf) w v (List.replicate k ())
theorem IsFns.open {n gf k : Nat} {w : World} {v : Value} (h : IsFns n w v gf k) : ∃ a c, v = .slice a k c ∧ k ≤ c ∧ k ≤ big := by
  obtain ⟨a, c, he, h1, h2, h3⟩ := h
  rw [List.length_replicate] at he h1 h2
  exact ⟨a, c, he, h1, h2⟩
theorem IsFns.at {n gf k l c : Nat} {w : World} {a : Option Addr} (h : IsFns n w (.slice a l c) gf k) {j : Nat} (hj : j < k) : ∃ b o, a = some ⟨b, o, none⟩ ∧ b < n ∧ w.cell? ⟨b, o + j, none⟩ = some (.func (.func gf) #[] #[]) := by
  obtain ⟨a', c', he, h1, h2, h3⟩ := h
  cases he
  obtain ⟨b, o, rfl, h4, h5⟩ := h3 j () (by simp [hj])
  exact ⟨b, o, rfl, h4, by simpa [RFn] using h5⟩
/-- Are k of a list from place f on all so? -/
def mustL (l : List Int) (f : Int) (k : Nat) (p : Int → Bool) : Bool := decide (0 ≤ f) && decide (f ≤ (l.length : Int) - (k : Int)) && ((l.drop f.toNat).take k).all p
theorem all_step {l : List Int} {f j : Nat} {x : Int} {p : Int → Bool} (h : ((l.drop f).take j).all p = true) (hx : l[f + j]? = some x) (hp : p x = true) : ((l.drop f).take (j + 1)).all p = true := by
  rw [take_snoc (by rw [List.getElem?_drop]; exact hx), List.all_append, h]; simp [hp]
theorem all_fail {l : List Int} {f j k : Nat} {x : Int} {p : Int → Bool} (hj : j < k) (hx : l[f + j]? = some x) (hp : p x = false) : ((l.drop f).take k).all p = false := by
  rw [List.all_eq_false]
  refine ⟨x, ?_, by rw [hp]; exact Bool.false_ne_true⟩
  refine List.mem_of_getElem? (i := j) ?_
  rw [List.getElem?_take_of_lt hj, List.getElem?_drop]; exact hx
end Go.Sel
namespace Go.Proofs.YtihmgiifphheeaaGreatDoor
open Go.RowKit Go.Sel

set_option maxHeartbeats 1000000 in
theorem must_any {n m gf k : Nat} {v v2 : Value} {l : List Int} {w : World} {p : Int → Bool} (f : Int) (hf : I64 f) (h1 : IsInts n w v l) (h2 : IsFns m w v2 gf k)
    (eg : ∀ args w, (callFunc gf args).run Tryz.prog w = .ok (.enter gf args) w) (hp : PredI Tryz.prog w gf #[] p) :
    Calls Tryz.prog 53 #[v, .int .i64 f, v2] w fun e w' => e = .returned (.bool (mustL l f k p)) ∧ w' = w := by
  obtain ⟨a1, c1, rfl, hc1⟩ := h1.open
  obtain ⟨a2, c2, rfl, hc2, hk2⟩ := h2.open
  have hl := h1.len
  unfold big at hl hk2
  unfold mustL
  by_cases g1 : 0 ≤ f
  · obtain ⟨f0, rfl⟩ := Int.eq_ofNat_of_zero_le g1
    have g1' : ¬ (f0 : Int) < 0 := by omega
    by_cases g2 : (f0 : Int) ≤ (l.length : Int) - (k : Int)
    · have g2' : ¬ (l.length : Int) - (k : Int) < (f0 : Int) := by omega
      rw [decide_eq_true g1, decide_eq_true g2, Int.toNat_natCast]
      go_enter Tryz.func53, Tryz.ntmps53
      go_wp2
      go_loop [7, 8, 22] (fun _ _ i => ∃ j : Nat, j ≤ k ∧ i = .int .i64 j ∧ Hid (((l.drop f0).take j).all p = true)) (fun _ _ i => k - (intOf i).toNat)
      case atStart => exact ⟨0, Nat.zero_le _, rfl, by simp [Hid]⟩
      case round =>
        obtain ⟨j, hj, rfl, hh⟩ := hrel
        by_cases hlt : j < k
        · obtain ⟨b2, o2, rfl, _, gc⟩ := h2.at hlt
          obtain ⟨x, b1, o1, hx, rfl, _, gx, hx64⟩ := h1.at (k := f0 + j) (by omega)
          have hcall := hp x w hx64 (Below.refl _ _)
          have HX := Lib.hid hx
          have hfj : (f0 : Int) + (j : Int) < (l.length : Int) := by omega
          have hfj0 : (0 : Int) ≤ (f0 : Int) + (j : Int) := by omega
          have hfj1 : ((f0 : Int) + (j : Int)).toNat = f0 + j := by omega
          clear hx h1 h2 hp g2
          cases hq : p x with
          | true =>
            rw [hq] at hcall
            go_wp2_with (go_at_fn gf; refine hcall.mono ?_; rintro e w' ⟨rfl, rfl⟩)
            go_round
            case measure => simp [intOf]; omega
            case rel => exact ⟨j + 1, by omega, by go_num, all_step hh.out HX.out hq⟩
          | false =>
            rw [hq] at hcall
            have HF := Lib.hid (all_fail hlt HX.out hq)
            go_wp2_with (go_at_fn gf; refine hcall.mono ?_; rintro e w' ⟨rfl, rfl⟩)
            go_ret
            exact ⟨by rw [HF.out]; rfl, rfl⟩
        · have he : j = k := by omega
          subst he
          have HH := hh.out
          clear h1 h2 hp hh
          have HF := Lib.hid HH
          clear HH
          go_wp2
          go_ret
          exact ⟨by rw [HF.out]; rfl, rfl⟩
    · have g2' : (l.length : Int) - (k : Int) < (f0 : Int) := by omega
      rw [decide_eq_true g1, decide_eq_false g2]
      clear h1 h2 hp g2
      go_enter Tryz.func53, Tryz.ntmps53
      go_wp2
      go_ret
      exact ⟨rfl, rfl⟩
  · rw [decide_eq_false g1]
    have g1' : f < 0 := by omega
    clear h1 h2 hp
    go_enter Tryz.func53, Tryz.ntmps53
    go_wp2
    go_ret
    exact ⟨rfl, rfl⟩

/-- The package's errors, each another one. -/
def RunErrs (a0 a1 : Addr) (n : Nat) (w : World) : Prop := Senti 0 a0 n w ∧ Senti 1 a1 n w ∧ a0 ≠ a1
theorem RunErrs.below {a0 a1 : Addr} {n : Nat} {w w' : World} (h : RunErrs a0 a1 n w) (hb : Below n w w') : RunErrs a0 a1 n w' := ⟨h.1.below hb, h.2.1.below hb, h.2.2⟩

set_option maxHeartbeats 400000 in
theorem runTold_state {a0 a1 : Addr} {n : Nat} {w : World} (h : RunErrs a0 a1 n w) :
    Calls Tryz.prog 55 #[.iface 145 (.pointer (some a0))] w fun e w' => e = .returned (.int .i64 90) ∧ w' = w := by
  have d0 := h.1.1
  have hc := is_same a0 w
  clear h
  go_enter Tryz.func55, Tryz.ntmps55
  go_wp2_with (go_at_call 76; refine hc.mono ?_; rintro e w' ⟨rfl, rfl⟩)
  go_ret
  exact ⟨rfl, rfl⟩

set_option maxHeartbeats 400000 in
theorem runTold_run {a0 a1 : Addr} {n : Nat} {w : World} (h : RunErrs a0 a1 n w) :
    Calls Tryz.prog 55 #[.iface 145 (.pointer (some a1))] w fun e w' => e = .returned (.int .i64 91) ∧ w' = w := by
  obtain ⟨⟨d0, _, _, c0, t0, r0⟩, ⟨d1, _, _, c1, t1, r1⟩, hne⟩ := h
  have hc := is_same a1 w
  have ho := is_other a1 a0 c1 c0 t1 t0 w (Ne.symm hne) r1 r0
  clear r0 r1 hne
  go_enter Tryz.func55, Tryz.ntmps55
  go_wp2_with fail
  refine ho.mono ?_
  rintro e w' ⟨rfl, he⟩
  obtain rfl := he.symm
  go_wp2_with fail
  refine hc.mono ?_
  rintro e w' ⟨rfl, he⟩
  obtain rfl := he.symm
  go_wp2
  go_ret
  exact ⟨rfl, rfl⟩

end Go.Proofs.YtihmgiifphheeaaGreatDoor
