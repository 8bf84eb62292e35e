/- Contracts of package pool: asks, Right. -/
import Derived.Test.YtihmgiifphheeaaGreatDoorRoom
import Derived.Test.YtihmgiifphheeaaGreatDoorPut
import Derived.Test.YtihmgiifphheeaaGreatDoorStop
import Derived.MapKept
namespace Go.Sel
open Go Go.RowKit
variable {P : Program}
/-- A map's write at a new key, an int. -/
theorem mapPut {mty kt et : TypeId} {r clock : Nat} {es : Array MapEntry} {x : Int} {val : Value} {w : World} (hm : P.underlying mty = some (.map kt et)) (hk : P.underlying kt = some (.int .i64)) (hb : w.heap[r]? = some (.map es clock))
    (hf : Instr.findNow (.int .i64) (.int .i64 x) es.toList 0 = some none) :
    (Instr.mapUpdate mty (.map (some r)) (.int .i64 x) val).run P w = .ok () { w with heap := w.heap.setIfInBounds r (.map (es.push { key := .int .i64 x, val := val, born := clock }) (clock + 1)) } := by
  simp [Instr.mapUpdate, run_underlying hm, MapKept.run_getObj_map hb, MapKept.run_checkKey hk (show MapKept.IsKey (.int .i64) (.int .i64 x) from rfl) false 9999, MapKept.run_findKey hk hf, MapKept.run_setObj_map _ hb, Result.andThen]
theorem mapGet {mty kt et : TypeId} {r clock : Nat} {es : Array MapEntry} {x : Int} {i : Nat} {v : Value} {w : World} (hm : P.underlying mty = some (.map kt et)) (hk : P.underlying kt = some (.int .i64)) (hb : w.heap[r]? = some (.map es clock))
    (hf : Instr.findNow (.int .i64) (.int .i64 x) es.toList 0 = some (some (i, v))) :
    (Instr.lookup mty (.map (some r)) (.int .i64 x) true).run P w = .ok (.tuple #[v, .bool true]) w := by
  simp [Instr.lookup, run_underlying hm, MapKept.run_getObj_map hb, MapKept.run_checkKey hk (show MapKept.IsKey (.int .i64) (.int .i64 x) from rfl) _ 9999, MapKept.run_findKey hk hf, Result.andThen]
theorem mapMiss {mty kt et : TypeId} {r clock : Nat} {es : Array MapEntry} {x : Int} {z : Value} {w : World} (hm : P.underlying mty = some (.map kt et)) (hk : P.underlying kt = some (.int .i64)) (hb : w.heap[r]? = some (.map es clock))
    (hf : Instr.findNow (.int .i64) (.int .i64 x) es.toList 0 = some none) (hz : (zeroValue et).run P w = .ok z w) :
    (Instr.lookup mty (.map (some r)) (.int .i64 x) true).run P w = .ok (.tuple #[z, .bool false]) w := by
  simp [Instr.lookup, run_underlying hm, MapKept.run_getObj_map hb, MapKept.run_checkKey hk (show MapKept.IsKey (.int .i64) (.int .i64 x) from rfl) _ 9999, MapKept.run_findKey hk hf, hz, Result.andThen]
theorem mapStep {mty kt et : TypeId} {r clock n : Nat} {es : Array MapEntry} {w0 w : World} (x : Int) (val : Value) (hm : P.underlying mty = some (.map kt et)) (hk : P.underlying kt = some (.int .i64)) (h : w.heap[r]? = some (.map es clock) ∧ Below n w0 w) (hn : n ≤ r)
    (hf : Instr.findNow (.int .i64) (.int .i64 x) es.toList 0 = some none) :
    ∃ w', (Instr.mapUpdate mty (.map (some r)) (.int .i64 x) val).run P w = .ok () w' ∧ w'.heap[r]? = some (.map (es.push { key := .int .i64 x, val := val, born := clock }) (clock + 1)) ∧ Below n w0 w' := by
  have hlt : r < w.heap.size := (Array.getElem?_eq_some_iff.1 h.1).1
  exact ⟨_, mapPut hm hk h.1 hf, by simp [hlt], h.2.trans ⟨rfl, rfl, rfl, by simp, fun k hk => by simp [Array.getElem?_setIfInBounds_ne (show r ≠ k by omega)]⟩⟩
/-- What a state asks of a table. -/
def askP (s : Int) (t : List Int) : Bool :=
  if s = 0 ∨ s = 3 ∨ s = 4 then decide (t = List.replicate 32 0) else if s = 1 then decide (0 < roomL t) && decide (0 < countL t) else true
/-- Is a pool right? -/
def rightP (s : List Int) (t : List (List Int)) : Bool := wholeL s && decide (t.length = s.length) && (s.zip t).all (fun p => rightT p.2 && askP p.1 p.2)
/-- A pool. -/
def IsPool (n : Nat) (w : World) (v : Value) (s : List Int) (t : List (List Int)) : Prop := ∃ v1 v2, v = .agg #[v1, v2] ∧ IsInts n w v1 s ∧ IsTabs n w v2 t
theorem IsPool.below {n : Nat} {w w' : World} {v : Value} {s : List Int} {t : List (List Int)} (h : IsPool n w v s t) (hb : Below n w w') : IsPool n w' v s t := by
  obtain ⟨v1, v2, e, h1, h2⟩ := h
  exact ⟨v1, v2, e, h1.below hb, h2.below hb⟩
theorem IsPool.wider {n n' : Nat} {w : World} {v : Value} {s : List Int} {t : List (List Int)} (h : IsPool n w v s t) (hn : n ≤ n') : IsPool n' w v s t := by
  obtain ⟨v1, v2, e, h1, h2⟩ := h
  exact ⟨v1, v2, e, h1.wider hn, h2.wider hn⟩
end Go.Sel
namespace Go.Proofs.YtihmgiifphheeaaGreatDoor
open Go.RowKit Go.Sel

set_option maxHeartbeats 400000 in
theorem ask1_any {n : Nat} {v : Value} {t : List Int} {w : World} (h1 : IsInts n w v t) (hn : n ≤ w.heap.size) :
    Calls Tryz.prog 72 #[v] w fun e w' => e = .returned (.bool (decide (t = List.replicate 32 0))) ∧ Below w.heap.size w w' := by
  have hm := make_any w
  obtain ⟨a1, c1, rfl, hc1⟩ := h1.open
  go_enter Tryz.func72, Tryz.ntmps72
  go_wp2_with fail
  refine hm.mono ?_
  rintro e w1 ⟨o, rfl, hown, hb1⟩
  have h2 : IsInts w1.heap.size w1 o (List.replicate 32 0) := IsInts.of_owns (xs := List.replicate 32 0) hown (by simp [big]) (by intro x hx; rw [(List.mem_replicate.1 hx).2]; unfold I64; omega)
  have hq := equal_any ((h1.below (hb1.mono hn)).wider (Nat.le_trans hn hb1.size)) h2
  clear hm h1 hown h2
  go_wp2_with fail
  refine hq.mono ?_
  rintro e w2 ⟨rfl, q, rfl⟩
  go_wp2
  go_ret
  exact ⟨rfl, below_drewN hb1 q⟩

set_option maxHeartbeats 400000 in
theorem ask2_any {n : Nat} {v : Value} {t : List Int} {w : World} (h1 : IsInts n w v t) (hn : n ≤ w.heap.size) :
    Calls Tryz.prog 74 #[v] w fun e w' => e = .returned (.bool (decide (0 < roomL t) && decide (0 < countL t))) ∧ Below w.heap.size w w' := by
  have hm := room_any h1 hn
  by_cases g1 : 0 < roomL t
  · have g1' : (0 : Int) < (roomL t : Int) := by omega
    go_enter Tryz.func74, Tryz.ntmps74
    go_wp2_with fail
    refine hm.mono ?_
    rintro e w1 ⟨rfl, hb1⟩
    have hc := count_any (h1.below (hb1.mono hn)) (Nat.le_trans hn hb1.size)
    clear hm h1
    go_wp2_with fail
    refine hc.mono ?_
    rintro e w2 ⟨rfl, hb2⟩
    clear hc
    go_wp2
    go_ret
    exact ⟨by rw [decide_eq_true g1, Bool.true_and]; simp, kept_trans hb1 hb2⟩
  · have g1' : ¬ (0 : Int) < (roomL t : Int) := by omega
    go_enter Tryz.func74, Tryz.ntmps74
    go_wp2_with fail
    refine hm.mono ?_
    rintro e w1 ⟨rfl, hb1⟩
    clear hm h1
    go_wp2
    go_ret
    exact ⟨by rw [decide_eq_false g1]; rfl, hb1⟩

/-- The map of pool.asks. -/
def asksMap : Array MapEntry := #[{ key := .int .i64 0, val := fnV 72, born := 0 }, { key := .int .i64 3, val := fnV 72, born := 1 },
  { key := .int .i64 4, val := fnV 72, born := 2 }, { key := .int .i64 1, val := fnV 74, born := 3 }]

set_option maxHeartbeats 1000000 in
theorem asks_any (w : World) :
    Calls Tryz.prog 50 #[] w fun e w' => e = .returned (.map (some w.heap.size)) ∧ w'.heap[w.heap.size]? = some (.map asksMap 4) ∧ Below w.heap.size w w' := by
  have hmm := @run_makeMap Tryz.prog
  obtain ⟨w1, hw1⟩ : ∃ w1, w1 = w.alloc (.map #[] 0) := ⟨_, rfl⟩
  have b1 : w1.heap[w.heap.size]? = some (.map #[] 0) ∧ Below w.heap.size w w1 := ⟨by rw [hw1]; exact World.alloc_heap_new _ _, by rw [hw1]; exact (Below.refl _ w).alloc (Nat.le_refl _) _⟩
  obtain ⟨w2, p2, b2⟩ := mapStep (P := Tryz.prog) 0 (.func (.func 72) #[] #[]) Tryz.underlying74 Tryz.underlying3 b1 (Nat.le_refl _) rfl
  obtain ⟨w3, p3, b3⟩ := mapStep (P := Tryz.prog) 3 (.func (.func 72) #[] #[]) Tryz.underlying74 Tryz.underlying3 b2 (Nat.le_refl _) rfl
  obtain ⟨w4, p4, b4⟩ := mapStep (P := Tryz.prog) 4 (.func (.func 72) #[] #[]) Tryz.underlying74 Tryz.underlying3 b3 (Nat.le_refl _) rfl
  obtain ⟨w5, p5, b5⟩ := mapStep (P := Tryz.prog) 1 (.func (.func 74) #[] #[]) Tryz.underlying74 Tryz.underlying3 b4 (Nat.le_refl _) rfl
  have B5 := Lib.hid b5
  have hm1 := hmm 74 w
  rw [← hw1] at hm1
  clear hmm b1 b2 b3 b4 b5 hw1
  go_enter Tryz.func50, Tryz.ntmps50
  go_wp2
  go_ret
  exact ⟨rfl, B5.out.1, B5.out.2⟩

end Go.Proofs.YtihmgiifphheeaaGreatDoor
