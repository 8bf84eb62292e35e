/- Contracts of package run: the iterator over the runs of free blocks. -/
import Derived.Test.YtihmgiifphheeaaGreatDoorRunM
import Derived.Test.YtihmgiifphheeaaGreatDoorClone
import Derived.Shelf.RegionOpen
import Derived.OwnWalkIn
import Derived.TacticsInMore
import Derived.LoopNIn
import Derived.LoopIn
namespace Go.Proofs.YtihmgiifphheeaaGreatDoor
open Go.RowKit Go.Sel
attribute [local go_sem] Oper.semAt_some

/-- A pair of integers as an argument. -/
def encHole (x : Nat × Nat) : Value := .agg #[.int .i64 x.1, .int .i64 x.2]

set_option maxHeartbeats 400000 in
theorem runs_any (a : Option Addr) (l c : Nat) (w : World) : Calls Tryz.prog 49 #[.slice a l c] w fun e w' => e = .returned (.func (.func 71) #[] #[.pointer (some ⟨w.heap.size, 0, none⟩)]) ∧ w' = w.alloc (.cells #[.slice a l c] 22) := by
  go_enter Tryz.func49, Tryz.ntmps49
  go_wp2
  go_ret
  exact ⟨rfl, rfl⟩

/-- What holds between two rounds of the iterator over runs: n: the next block; f0: where the open run begins; k: how many have come. -/
def RunsInv (n0 B : Nat) (v : Value) (l : List Int) (J : Nat → (Nat → Prop) → World → Prop) (s0 f0 n k : Nat) (T1 : Nat → Prop) (wr : World) : Prop :=
  Boxed wr B 22 v ∧ IsInts n0 wr v l ∧ J k T1 wr ∧ (∀ b, T1 b → b < wr.heap.size ∧ ¬ (b < n0 ∨ b = B)) ∧ k ≤ (runsL l).length ∧ n0 ≤ s0 ∧ s0 ≤ wr.heap.size ∧
    (n ≤ l.length → (runsL l).drop k = runsGo (l.drop n) n f0) ∧ (n = l.length + 1 → k = (runsL l).length)

section
variable {n0 B : Nat} {v : Value} {l : List Int} {J Jx : Nat → (Nat → Prop) → World → Prop} {s0 f0 n k : Nat} {T1 : Nat → Prop} {wr : World}
theorem RunsInv.zero (h : RunsInv n0 B v l J s0 f0 n k T1 wr) (hx : l[n]? = some 0) : RunsInv n0 B v l J s0 f0 (n + 1) k T1 wr := by
  obtain ⟨h1, h2, h3, h4, h5, h6, h6', h7, h8⟩ := h
  have hn := (List.getElem?_eq_some_iff.1 hx).1
  exact ⟨h1, h2, h3, h4, h5, h6, h6', fun _ => (h7 (by omega)).trans (runsGo_zero hx), fun e => by omega⟩
theorem RunsInv.miss {x : Int} (h : RunsInv n0 B v l J s0 f0 n k T1 wr) (hx : l[n]? = some x) (hx0 : ¬ x = 0) (hf : ¬ f0 < n) : RunsInv n0 B v l J s0 (n + 1) (n + 1) k T1 wr := by
  obtain ⟨h1, h2, h3, h4, h5, h6, h6', h7, h8⟩ := h
  have hn := (List.getElem?_eq_some_iff.1 hx).1
  exact ⟨h1, h2, h3, h4, h5, h6, h6', fun _ => (h7 (by omega)).trans (runsGo_miss hx hx0 hf), fun e => by omega⟩
theorem RunsInv.last (h : RunsInv n0 B v l J s0 f0 l.length k T1 wr) (hf : ¬ f0 < l.length) : RunsInv n0 B v l J s0 (l.length + 1) (l.length + 1) k T1 wr := by
  obtain ⟨h1, h2, h3, h4, h5, h6, h6', h7, h8⟩ := h
  exact ⟨h1, h2, h3, h4, h5, h6, h6', fun e => by omega, fun _ => left_nil ((h7 (Nat.le_refl _)).trans (runsGo_end_miss hf)) h5⟩
/-- The next element, where a run ends. -/
theorem RunsInv.next (h : RunsInv n0 B v l J s0 f0 n k T1 wr) (hn : n ≤ l.length) (hf : f0 < n) (hx : n < l.length → ∃ x, l[n]? = some x ∧ ¬ x = 0) :
    (runsL l)[k]? = some (f0, n) ∧ (((runsL l).map encHole).map fun x => #[x])[k]? = some #[.agg #[.int .i64 f0, .int .i64 n]] ∧
    ∀ (T2 : Nat → Prop) (W' : World), (∀ b, T2 b → T1 b ∨ (wr.heap.size ≤ b ∧ b < W'.heap.size)) → Only T1 wr W' → J (k + 1) T2 W' → RunsInv n0 B v l J s0 (n + 1) (n + 1) (k + 1) T2 W' := by
  obtain ⟨h1, h2, h3, h4, h5, h6, h6', h7, h8⟩ := h
  obtain ⟨r, hd, hr⟩ : ∃ r, (runsL l).drop k = (f0, n) :: r ∧ (n < l.length → r = runsGo (l.drop (n + 1)) (n + 1) (n + 1)) ∧ (n = l.length → r = []) := by
    by_cases hlt : n < l.length
    · obtain ⟨x, hx, hx0⟩ := hx hlt
      exact ⟨_, (h7 hn).trans (runsGo_hit hx hx0 hf), fun _ => rfl, fun e => by omega⟩
    · have e : n = l.length := by omega
      subst e
      exact ⟨_, (h7 hn).trans (runsGo_end_hit hf), fun e => by omega, fun _ => rfl⟩
  obtain ⟨e1, e2⟩ := left_cons hd
  refine ⟨e1, by rw [List.getElem?_map, List.getElem?_map, e1]; rfl, fun T2 W' hT2 hO hJ => ?_⟩
  have hk := (List.getElem?_eq_some_iff.1 e1).1
  have hs := hO.size
  refine ⟨(hO.block B h1.lt (fun hb => (h4 _ hb).2 (.inr rfl))).trans h1, h2.below (hO.below (by omega) (fun b hb hT => (h4 b hT).2 (.inl hb))), hJ, fun b hb => ?_, by omega, h6, by omega, fun e => ?_, fun e => ?_⟩
  · rcases hT2 b hb with h | h
    · have := h4 b h; exact ⟨by omega, this.2⟩
    · have := h1.lt; exact ⟨h.2, by omega⟩
  · rw [e2]; exact hr.1 (by omega)
  · have := hr.2 (by omega)
    rw [this] at e2
    exact left_nil e2 (by omega)
end

set_option maxHeartbeats 1000000 in
theorem runs_iter {n0 : Nat} {v : Value} {l : List Int} {w : World} {B : Nat} (hl : IsInts n0 w v l) (hB : Boxed w B 22 v) (hn0 : n0 ≤ w.heap.size) :
    Iter Tryz.prog 71 #[.pointer (some ⟨B, 0, none⟩)] (((runsL l).map encHole).map fun x => #[x]) (fun b => b < n0 ∨ b = B) w := by
  intro lp J Jx T W hW hJ hJx hT hY h0
  obtain ⟨a1, c1, rfl, hc1⟩ := hl.open
  have hl1 := hl.len
  unfold big at hl1
  have HY := Lib.hid hY
  have hBw := hB.lt
  have hws := hW.size
  have H0 : Hid (RunsInv n0 B (.slice a1 l.length c1) l J W.heap.size 0 0 0 T W) :=
    ⟨(hW.block B hBw).trans hB, hl.below (hW.mono hn0), h0, hT, by omega, by omega, Nat.le_refl _, fun _ => rfl, fun h => by omega⟩
  clear hJ hJx hY hT hl hB hW h0
  refine callsIn_of_wp Tryz.func71 rfl trivial ?_ rfl
  simp only [Tryz.ntmps71, List.size_toArray, List.length_cons, List.length_nil, Nat.reduceAdd, Nat.reduceSub, Array.replicate_succ, Array.replicate_zero, List.push_toArray, List.append_toArray, List.nil_append, List.cons_append]
  apply wpIn_scope_wide
  gi_wp2
  apply wpIn_label
  gi_wp2
  gi_loopw [3, 4] (fun f i wr => ∃ (f0 n k : Nat) (T1 : Nat → Prop), f = .int .i64 f0 ∧ i = .int .i64 n ∧ n ≤ l.length + 1 ∧ f0 ≤ n ∧ Hid (RunsInv n0 B (.slice a1 l.length c1) l J W.heap.size f0 n k T1 wr))
    (fun _ i _ => l.length + 1 - (intOf i).toNat)
  case atStart => exact ⟨0, 0, 0, T, rfl, rfl, by omega, by omega, H0⟩
  case round =>
    obtain ⟨f0, n, k, T1, rfl, rfl, hn, hfn, hh⟩ := hrel
    clear H0
    have hbox := hh.out.1.cell
    by_cases hlt : n < l.length
    · obtain ⟨x, b1, o1, hx, rfl, hb1, g1, _⟩ := hh.out.2.1.at hlt
      have HX := Lib.hid hx
      clear hx
      by_cases hx0 : x = 0
      · subst hx0
        gi_wp2
        exact ⟨⟨f0, n + 1, k, T1, rfl, by go_num, by omega, by omega, hh.out.zero HX.out⟩, by simp [intOf]; omega⟩
      · by_cases hf : f0 < n
        · obtain ⟨e1, e2, e3⟩ := hh.out.next (by omega) hf (fun _ => ⟨x, HX.out, hx0⟩)
          obtain ⟨fn, tmps, assign, body, hy, hR⟩ := HY.out k T1 wr _ e2 hh.out.2.2.1 (fun b hb => (hh.out.2.2.2.1 b hb).1)
          have hkl := (List.getElem?_eq_some_iff.1 e1).1
          have E3 := Lib.hid e3
          clear e1 e2 e3 HY
          gi_wp2
          refine hR.mono ?_
          rintro e W' ⟨T2, hT2, hO, (⟨rfl, hJ'⟩ | ⟨rfl, hJx'⟩)⟩
          · have hq := E3.out T2 W' hT2 hO hJ'
            have HQ := Lib.hid hq
            clear hq hR hy hT2 hO hJ' E3
            gi_wp2
            exact ⟨⟨n + 1, n + 1, k + 1, T2, by go_num, by go_num, by omega, by omega, HQ⟩, by simp [intOf]; omega⟩
          · clear hR hy hT2 hO E3
            gi_wp2
            rw [Exit.noGoto_normal]
            go_end0
            exact ⟨⟨_, rfl⟩, T2, .inr ⟨k + 1, by rw [List.length_map, List.length_map]; exact hkl, hJx'⟩⟩
        · gi_wp2
          exact ⟨⟨n + 1, n + 1, k, T1, by go_num, by go_num, by omega, by omega, hh.out.miss HX.out hx0 hf⟩, by simp [intOf]; omega⟩
    · by_cases he : n = l.length
      · by_cases hf : f0 < n
        · obtain ⟨e1, e2, e3⟩ := hh.out.next (by omega) hf (fun h => absurd h hlt)
          obtain ⟨fn, tmps, assign, body, hy, hR⟩ := HY.out k T1 wr _ e2 hh.out.2.2.1 (fun b hb => (hh.out.2.2.2.1 b hb).1)
          have hkl := (List.getElem?_eq_some_iff.1 e1).1
          have E3 := Lib.hid e3
          have HE := Lib.hid he
          have hge : l.length ≤ n := by omega
          have hle : n ≤ l.length := by omega
          clear e1 e2 e3 HY he
          gi_wp2
          refine hR.mono ?_
          rintro e W' ⟨T2, hT2, hO, (⟨rfl, hJ'⟩ | ⟨rfl, hJx'⟩)⟩
          · have hq := E3.out T2 W' hT2 hO hJ'
            have HQ := Lib.hid hq
            clear hq hR hy hT2 hO hJ' E3
            gi_wp2
            exact ⟨⟨n + 1, n + 1, k + 1, T2, by go_num, by go_num, by omega, by omega, HQ⟩, by simp [intOf]; omega⟩
          · clear hR hy hT2 hO E3
            gi_wp2
            rw [Exit.noGoto_normal]
            go_end0
            exact ⟨⟨_, rfl⟩, T2, .inr ⟨k + 1, by rw [List.length_map, List.length_map]; exact hkl, hJx'⟩⟩
        · have HE := Lib.hid he
          have hge : l.length ≤ n := by omega
          have hle : n ≤ l.length := by omega
          clear he
          gi_wp2
          exact ⟨⟨n + 1, n + 1, k, T1, by go_num, by go_num, by omega, by omega, by have := hh.out; rw [HE.out] at this hf ⊢; exact this.last hf⟩, by simp [intOf]; omega⟩
      · have hge : l.length < n := by omega
        have hk := hh.out.2.2.2.2.2.2.2.2 (by omega)
        have hJ := hh.out.2.2.1
        have HK := Lib.hid hk
        clear hk hh he HY
        gi_wp2
        rw [Exit.noGoto_normal]
        go_end0
        exact ⟨⟨_, rfl⟩, T1, .inl (by rw [List.length_map, List.length_map, ← HK.out]; exact hJ)⟩

end Go.Proofs.YtihmgiifphheeaaGreatDoor
