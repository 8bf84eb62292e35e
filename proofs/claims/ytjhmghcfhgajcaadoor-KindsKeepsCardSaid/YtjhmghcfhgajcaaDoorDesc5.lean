/- Contract of (*desc.shape).pointers: the iterator over an object's pointers. -/
import Derived.Test.YtjhmghcfhgajcaaDoorDesc4
import Derived.Test.YtjhmghcfhgajcaaDoorStop
import Derived.Shelf.RegionOpen
import Derived.OwnWalkIn
import Derived.TacticsInMore
import Derived.LoopNIn
import Derived.LoopIn
namespace Go.Sel
open Go Go.RowKit
theorem ints_only {n : Nat} {w w' : World} {v : Value} {xs : List Int} {S : Nat → Prop} (h : IsInts n w v xs) (hO : Only S w w') (hn : n ≤ w.heap.size) (hS : 0 < xs.length → ∀ b, v.ownBlock = some b → ¬ S b) : IsInts n w' v xs := by
  obtain ⟨a, c, rfl, h1, h2, h3⟩ := h
  refine ⟨a, c, rfl, h1, h2, fun j x hx => ?_⟩
  obtain ⟨b, o, rfl, h4, h5, h6⟩ := h3 j x hx
  exact ⟨b, o, rfl, h4, (World.cell?_of_block (hO.block b (by omega) (hS (by have := (List.getElem?_eq_some_iff.1 hx).1; omega) b rfl))).trans h5, h6⟩
theorem ints_block {n : Nat} {w : World} {v : Value} {xs : List Int} (h : IsInts n w v xs) (hp : 0 < xs.length) (b : Nat) (hb : v.ownBlock = some b) : b < n := by
  obtain ⟨a, c, rfl, h1, h2, h3⟩ := h
  obtain ⟨b', o, rfl, h4, _⟩ := h3 0 xs[0] (List.getElem?_eq_getElem hp)
  cases hb; exact h4
/-- What the rounds of an iterator may have written: T's blocks, and those that they laid. -/
def Grew (T T2 : Nat → Prop) (W W' : World) : Prop := (∀ b, T2 b → T b ∨ (W.heap.size ≤ b ∧ b < W'.heap.size)) ∧ Only T W W'
theorem Grew.refl {T : Nat → Prop} {W : World} : Grew T T W W := ⟨fun _ h => .inl h, Only.refl _ _⟩
theorem Grew.step {T T1 T2 : Nat → Prop} {W W1 W2 : World} (h : Grew T T1 W W1) (h1 : ∀ b, T2 b → T1 b ∨ (W1.heap.size ≤ b ∧ b < W2.heap.size)) (h2 : Only T1 W1 W2) : Grew T T2 W W2 := by
  have hs := h.2.size
  have hs2 := h2.size
  refine ⟨fun b hb => ?_, ?_⟩
  · rcases h1 b hb with hb | hb
    · rcases h.1 b hb with hb | hb
      · exact .inl hb
      · exact .inr ⟨hb.1, by omega⟩
    · exact .inr ⟨by omega, hb.2⟩
  · exact ⟨h2.os.trans h.2.os, h2.tape.trans h.2.tape, h2.output.trans h.2.output, by omega, fun k hk hn => (h2.block k (by omega) (fun hT => by
      rcases h.1 k hT with hT | hT
      · exact hn hT
      · omega)).trans (h.2.block k hk hn)⟩
theorem Grew.lt {T T2 : Nat → Prop} {W W' : World} (h : Grew T T2 W W') (hT : ∀ b, T b → b < W.heap.size) : ∀ b, T2 b → b < W'.heap.size := fun b hb => by
  have hs := h.2.size
  rcases h.1 b hb with hb | hb
  · have := hT b hb; omega
  · exact hb.2
end Go.Sel
namespace Go.Proofs.YtjhmghcfhgajcaaDoor
open Go.RowKit Go.Sel
attribute [local go_sem] Oper.semAt_some

/-- Where a part's places are handed on: what holds behind it. -/
def AllPost (J Jx : Nat → (Nat → Prop) → World → Prop) (T : Nat → Prop) (k0 m : Nat) (W : World) (e : Ending) (W' : World) : Prop :=
  ∃ T2 : Nat → Prop, Grew T T2 W W' ∧ ((e = .returned (.bool true) ∧ J (k0 + m) T2 W') ∨ (e = .returned (.bool false) ∧ ∃ k, k ≤ k0 + m ∧ Jx k T2 W'))

set_option maxHeartbeats 1000000 in
theorem all_in {lp n yb k0 : Nat} {J Jx : Nat → (Nat → Prop) → World → Prop} {ess : List (Array Value)} {T : Nat → Prop} {W : World} {vl : Value} {l : List Int} (fr : Int)
    (hY : ∀ (k : Nat) (T1 : Nat → Prop) (W1 : World) (es : Array Value), ess[k]? = some es → J k T1 W1 → (∀ b, T1 b → b < W1.heap.size) → YieldAt Fence.wide 0 Tryd.prog lp es W1 fun e W' =>
      ∃ T2 : Nat → Prop, (∀ b, T2 b → T1 b ∨ (W1.heap.size ≤ b ∧ b < W'.heap.size)) ∧ Only T1 W1 W' ∧ ((e = .returned (.bool true) ∧ J (k + 1) T2 W') ∨ (e = .returned (.bool false) ∧ Jx (k + 1) T2 W')))
    (hl : IsInts n W vl l) (hn : n ≤ W.heap.size) (hess : ∀ j x, l[j]? = some x → ess[k0 + j]? = some #[.int .i64 (fr + x)]) (hfr : ∀ x ∈ l, I64 (fr + x))
    (hT : ∀ b, T b → b < W.heap.size) (hf : 0 < l.length → ∀ b, vl.ownBlock = some b → ¬ T b) (hyb : Boxed W yb 124 (.func (.yield lp) #[] #[])) (hyT : ¬ T yb) (h0 : J k0 T W) :
    CallsIn Fence.wide 0 Tryd.prog 72 #[.int .i64 fr, vl, .pointer (some ⟨yb, 0, none⟩)] W (AllPost J Jx T k0 l.length W) := by
  have HY := Lib.hid hY
  have HE := Lib.hid hess
  have HF := Lib.hid hf
  have HT := Lib.hid hT
  have HR := Lib.hid hfr
  have hlen := hl.len
  unfold big at hlen
  obtain ⟨a1, c1, rfl, hc1⟩ := hl.open
  have H0 : Hid (∃ T1, Grew T T1 W W ∧ J (k0 + 0) T1 W) := ⟨T, Grew.refl, h0⟩
  clear hY hess hf hT hfr h0
  refine callsIn_of_wp Tryd.func72 rfl trivial ?_ rfl
  simp only [Tryd.ntmps72, List.size_toArray, List.length_cons, List.length_nil, Nat.reduceAdd, Nat.reduceSub, Array.replicate_succ, Array.replicate_zero, List.push_toArray, List.append_toArray, List.nil_append, List.cons_append]
  gi_wp2
  gi_loopw [7, 10] (fun _ i wr => ∃ (m : Nat), i = .int .i64 m ∧ m ≤ l.length ∧ Hid (∃ T1, Grew T T1 W wr ∧ J (k0 + m) T1 wr)) (fun _ i _ => l.length - (intOf i).toNat)
  case atStart => exact ⟨0, rfl, by omega, H0⟩
  case round =>
    obtain ⟨m, rfl, hm, hh⟩ := hrel
    clear H0
    obtain ⟨T1, hG, hJ⟩ := hh.out
    have hl2 : IsInts n wr (.slice a1 l.length c1) l := ints_only hl hG.2 hn HF.out
    have hbox := (box_only hyb hG.2 hyT).cell
    have HG := Lib.hid hG
    have hTl := hG.lt HT.out
    clear hG
    by_cases hlt : m < l.length
    · obtain ⟨x, b1, o1, hx, rfl, _, gx, hx64⟩ := hl2.at hlt
      have hwr : IntKind.i64.wrap (fr + x) = fr + x := by have := HR.out x (List.mem_of_getElem? hx); unfold I64 at this; exact IntWalk.i64_in _ this
      obtain ⟨fn, tmps, assign, body, hy, hR⟩ := HY.out (k0 + m) T1 wr _ (HE.out m x hx) hJ hTl
      clear hh hl2 hx hJ hTl hl hyb
      gi_wp2
      refine hR.mono ?_
      rintro e W' ⟨T2, hT2, hO, (⟨rfl, hJ'⟩ | ⟨rfl, hJx'⟩)⟩
      · have HQ := Lib.hid (show ∃ T1, Grew T T1 W W' ∧ J (k0 + (m + 1)) T1 W' from ⟨T2, HG.out.step hT2 hO, hJ'⟩)
        clear hR hy hT2 hO hJ'
        gi_wp2
        exact ⟨⟨m + 1, by go_num, by omega, HQ⟩, by simp [intOf]; omega⟩
      · have HQ := Lib.hid (show Grew T T2 W W' ∧ Jx (k0 + m + 1) T2 W' from ⟨HG.out.step hT2 hO, hJx'⟩)
        clear hR hy hT2 hO hJx'
        gi_wp2
        go_ret
        exact ⟨T2, HQ.out.1, .inr ⟨rfl, k0 + m + 1, by omega, HQ.out.2⟩⟩
    · have e : m = l.length := by omega
      subst e
      clear hl2 hl hh hbox hyb
      gi_wp2
      go_ret
      exact ⟨T1, HG.out, .inl ⟨rfl, hJ⟩⟩
end Go.Proofs.YtjhmghcfhgajcaaDoor
