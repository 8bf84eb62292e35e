/- Contracts of pool.Same, stateOf, told, block, Counts. -/
import Derived.Test.YtihmgiifphheeaaGreatDoorTakeFree
import Derived.Test.YtihmgiifphheeaaGreatDoorTakeHole
import Derived.Test.YtihmgiifphheeaaGreatDoorAsPool
namespace Go.Sel
open Go Go.RowKit
/-- What state a table asks for. -/
def stateL (t : List Int) : Int := if countL t = 0 then 0 else if 0 < roomL t then 1 else 2
end Go.Sel
namespace Go.Proofs.YtihmgiifphheeaaGreatDoor
open Go.RowKit Go.Sel

/-- What is wrong with a block of a pool, and some states. -/
def blockE (s : List Int) (t : List (List Int)) (b : Int) (sts : List Int) : Option Int :=
  if rightP s t = false then some 100 else if 0 ≤ b ∧ b < (s.length : Int) ∧ s[b.toNat]?.getD 0 ∈ sts then none else some 90
/-- An error of the package's. -/
def errV : Option Int → Value
  | none => .nilIface
  | some x => .iface 62 (.agg #[.int .i64 x])

set_option maxHeartbeats 1000000 in
theorem stateOf_any {n : Nat} {v : Value} {t : List Int} {w : World} (h1 : IsInts n w v t) (hn : n ≤ w.heap.size) :
    Calls Tryz.prog 41 #[v] w fun e w' => e = .returned (.int .i64 (stateL t)) ∧ Below w.heap.size w w' := by
  have hc := count_any h1 hn
  unfold stateL
  by_cases g0 : countL t = 0
  · have g0' : ((countL t : Int) == 0) = true := by simp [g0]
    rw [if_pos g0]
    clear g0 h1
    go_enter Tryz.func41, Tryz.ntmps41
    go_wp2_with fail
    refine hc.mono ?_
    rintro e w' ⟨rfl, hb⟩
    clear hc
    go_wp2
    go_ret
    exact ⟨rfl, hb⟩
  · have g0' : ((countL t : Int) == 0) = false := by simp [g0]
    rw [if_neg g0]
    clear g0
    by_cases g1 : 0 < roomL t
    · have g1' : (0 : Int) < (roomL t : Int) := by omega
      rw [if_pos g1]
      go_enter Tryz.func41, Tryz.ntmps41
      go_wp2_with fail
      refine hc.mono ?_
      rintro e w1 ⟨rfl, hb⟩
      have hr := room_any (h1.below (hb.mono hn)) (Nat.le_trans hn hb.size)
      clear hc h1
      go_wp2_with fail
      refine hr.mono ?_
      rintro e w2 ⟨rfl, hb2⟩
      clear hr
      go_wp2
      go_ret
      exact ⟨rfl, kept_trans hb hb2⟩
    · have g1' : ¬ (0 : Int) < (roomL t : Int) := by omega
      rw [if_neg g1]
      go_enter Tryz.func41, Tryz.ntmps41
      go_wp2_with fail
      refine hc.mono ?_
      rintro e w1 ⟨rfl, hb⟩
      have hr := room_any (h1.below (hb.mono hn)) (Nat.le_trans hn hb.size)
      clear hc h1
      go_wp2_with fail
      refine hr.mono ?_
      rintro e w2 ⟨rfl, hb2⟩
      clear hr
      go_wp2
      go_ret
      exact ⟨rfl, kept_trans hb hb2⟩

/-- The library's own variable that errors.As reads. -/
def ErrT (n : Nat) (w : World) : Prop := w.cell? ⟨2, 0, none⟩ = some (.iface 117 (.agg #[.pointer (some ⟨3, 55, none⟩)])) ∧ 2 < n
theorem ErrT.below {n : Nat} {w w' : World} (h : ErrT n w) (hb : Below n w w') : ErrT n w' := ⟨(hb.cell (p := ⟨2, 0, none⟩) h.2).trans h.1, h.2⟩

set_option maxHeartbeats 1000000 in
theorem poolTold_any {n : Nat} {w : World} (x : Int) (h : ErrT n w) (hn : n ≤ w.heap.size) :
    Calls Tryz.prog 36 #[.iface 62 (.agg #[.int .i64 x])] w fun e w' => e = .returned (.int .i64 x) ∧ Below w.heap.size w w' := by
  obtain ⟨w1, hw1⟩ : ∃ x, x = w.alloc (.cells #[.int .i64 0] 62) := ⟨_, rfl⟩
  have hb1 : Below w.heap.size w w1 := by rw [hw1]; exact kept_alloc (Below.refl _ _) _
  have hx1 : w1.heap[w.heap.size]? = some (.cells #[.int .i64 0] 62 (0, 0)) := by rw [hw1]; exact World.alloc_heap_new w _
  have hs := AsPool.as_any #[.int .i64 x] #[.int .i64 0] w.heap.size 62 w1 rfl rfl (by simp [Value.oneCell']) (h.below (hb1.mono hn)).1 hx1
  clear h
  go_enter Tryz.func36, Tryz.ntmps36
  go_wp2_with fail
  rw [← hw1]
  refine hs.mono ?_
  rintro e w2 ⟨rfl, hx2, hO⟩
  have hb2 : Below w.heap.size w w2 := hb1.trans (hO.below hb1.size (fun k hk e => by omega))
  have hc : w2.cell? ⟨w.heap.size, 0, none⟩ = some (.int .i64 x) := by simp [World.cell?, hx2]
  clear hs hw1 hx1 hO
  go_wp2
  go_ret
  exact ⟨rfl, hb2⟩

set_option maxHeartbeats 2000000 in
theorem block_any {n : Nat} {v vst : Value} {s sts : List Int} {t : List (List Int)} {w : World} (b : Int) (hb : I64 b) (h : IsPool n w v s t) (hst : IsInts n w vst sts) (hn : n ≤ w.heap.size) :
    Calls Tryz.prog 35 #[v, .int .i64 b, vst] w fun e w' => e = .returned (errV (blockE s t b sts)) ∧ Below w.heap.size w w' := by
  have hls := h.ok.ls
  unfold big at hls
  obtain ⟨v1, v2, rfl, h1, h2⟩ := h
  obtain ⟨w1, hw1⟩ : ∃ x, x = w.alloc (Obj.cells #[v1, v2] 25) := ⟨_, rfl⟩
  have hb1 : Below w.heap.size w w1 := by rw [hw1]; exact kept_alloc (Below.refl _ _) _
  have hs1 : w1.heap.size = w.heap.size + 1 := by rw [hw1]; simp
  have hx1 : w1.heap[w.heap.size]? = some (.cells #[v1, v2] 25 (0, 0)) := by rw [hw1]; exact World.alloc_heap_new w _
  have hR := poolRight_any (n := n) (v := .agg #[v1, v2]) (s := s) (t := t) (w := w1) ⟨v1, v2, rfl, h1.below (hb1.mono hn), h2.below (hb1.mono hn)⟩ (by omega)
  obtain ⟨y1, y2⟩ := pair_cells hx1
  rw [hw1] at y1 y2
  obtain ⟨a1, c1, rfl, hc1⟩ := h1.open
  go_enter Tryz.func35, Tryz.ntmps35
  go_wp2_with fail
  rw [← hw1]
  refine hR.mono ?_
  rintro e w2 ⟨rfl, hb2⟩
  have hx2 := (hb2.block _ (by omega)).trans hx1
  obtain ⟨y3, y4⟩ := pair_cells hx2
  have hb02 : Below w.heap.size w w2 := hb1.trans (hb2.mono (by omega))
  have i1 := h1.below (hb02.mono hn)
  have ist := hst.below (hb02.mono hn)
  clear hR hw1 y1 y2 hx1 h1 h2 hst
  cases hr : rightP s t with
  | false =>
    have HE := Lib.hid (show blockE s t b sts = some 100 by unfold blockE; rw [if_pos hr])
    clear hr i1 ist
    go_wp2
    go_ret
    exact ⟨by rw [HE.out]; rfl, hb02⟩
  | true =>
    have hr' : ¬ rightP s t = false := by rw [hr]; decide
    by_cases g0 : b < 0
    · have HE := Lib.hid (show blockE s t b sts = some 90 by unfold blockE; rw [if_neg hr', if_neg (by omega)])
      clear hr hr' i1 ist
      go_wp2
      go_ret
      exact ⟨by rw [HE.out]; rfl, hb02⟩
    · obtain ⟨b0, rfl⟩ := Int.eq_ofNat_of_zero_le (show 0 ≤ b by omega)
      by_cases g1 : b0 < s.length
      · obtain ⟨x, bb, oo, hx, rfl, _, gx, hx64⟩ := i1.at g1
        have hC := contains_any x ist
        have g1' : (b0 : Int) < (s.length : Int) := by omega
        have hget : s[(b0 : Int).toNat]?.getD 0 = x := by rw [Int.toNat_natCast, hx]; rfl
        by_cases gm : x ∈ sts
        · rw [decide_eq_true gm] at hC
          have HE := Lib.hid (show blockE s t b0 sts = none by unfold blockE; rw [if_neg hr', if_pos ⟨by omega, by omega, by rw [hget]; exact gm⟩])
          clear hr hr' i1 ist hx gm hget
          go_wp2_with fail
          refine hC.mono ?_
          rintro e w3 ⟨rfl, he⟩
          obtain rfl := he.symm
          go_wp2
          go_ret
          exact ⟨by rw [HE.out]; rfl, hb02⟩
        · rw [decide_eq_false gm] at hC
          have HE := Lib.hid (show blockE s t b0 sts = some 90 by unfold blockE; rw [if_neg hr', if_neg (by rw [hget]; exact fun h => gm h.2.2)])
          clear hr hr' i1 ist hx gm hget
          go_wp2_with fail
          refine hC.mono ?_
          rintro e w3 ⟨rfl, he⟩
          obtain rfl := he.symm
          go_wp2
          go_ret
          exact ⟨by rw [HE.out]; rfl, hb02⟩
      · have g1' : ¬ (b0 : Int) < (s.length : Int) := by omega
        have HE := Lib.hid (show blockE s t b0 sts = some 90 by unfold blockE; rw [if_neg hr', if_neg (by omega)])
        clear hr hr' i1 ist
        go_wp2
        go_ret
        exact ⟨by rw [HE.out]; rfl, hb02⟩

end Go.Proofs.YtihmgiifphheeaaGreatDoor
