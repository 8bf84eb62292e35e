/- A region that draws its order: two operations that may come up. -/
import Derived.Test.YtjhmghcfhgajcaaDoorDraw
namespace Go.Sel
open Go Go.RowKit
variable {P : Program} {ops : Array Oper} {Q : Exit → Act → World → Prop} {md : Region.Mode} {C : World → Prop}
/-- The two operations that may come up. -/
theorem wpAnyC_two (i j : Nat) {z : Nat} {oi oj : Oper} {fuel : Nat} {listed : Array Bool} {a : Act} {w : World} (hi : ops[i]? = some oi) (hj : ops[j]? = some oj)
    (hr : Region.ready md ops listed = [i, j]) (hgi : oi.guard = none) (hgj : oj.guard = none)
    (h1 : oi.wp P a w (fun a' w' => (i ≠ z → C w') ∧ wpAnyC P md ops C z Q fuel (listed.setIfInBounds i true) a' w') Q)
    (h2 : oj.wp P a w (fun a' w' => (j ≠ z → C w') ∧ wpAnyC P md ops C z Q fuel (listed.setIfInBounds j true) a' w') Q) : wpAnyC P md ops C z Q (fuel + 1) listed a w := by
  refine ⟨fun h0 => (by rw [h0] at hr; cases hr), fun m hm => ?_⟩
  rw [hr] at hm
  have hm' : m = i ∨ m = j := by simpa using hm
  unfold wpOp
  rcases hm' with rfl | rfl
  · rw [hi]
    simp only []
    rw [if_pos (by simp [Region.wanted, hgi])]
    exact .inl h1
  · rw [hj]
    simp only []
    rw [if_pos (by simp [Region.wanted, hgj])]
    exact .inl h2
end Go.Sel
namespace Go.Sel
open Go Go.RowKit
/-- A block of cells, as a class of worlds. -/
def HasBlk (b : Nat) (c : Array Value) (t : TypeId) (W : World) : Prop := W.heap[b]? = some (.cells c t (0, 0))
theorem HasBlk.out {b : Nat} {c : Array Value} {t : TypeId} {W : World} (h : HasBlk b c t W) : W.heap[b]? = some (.cells c t (0, 0)) := h
theorem HasBlk.below {n b : Nat} {c : Array Value} {t : TypeId} {W W' : World} (h : HasBlk b c t W) (hb : Below n W W') (hn : b < n) : HasBlk b c t W' := (hb.block _ hn).trans h
theorem HasBlk.drew {b : Nat} {c : Array Value} {t : TypeId} {W : World} (h : HasBlk b c t W) : HasBlk b c t W.drew := h
theorem HasBlk.new (W : World) (c : Array Value) (t : TypeId) : HasBlk W.heap.size c t (W.alloc (.cells c t)) := World.alloc_heap_new _ _
/-- Thirty-two zeros. -/
def zeros32 : Array Value := ((List.replicate 32 (0 : Int)).map (Value.int .i64)).toArray
end Go.Sel
namespace Go.Sel
open Go Go.RowKit
variable {P : Program} {ops : Array Oper} {Q : Exit → Act → World → Prop} {md : Region.Mode} {C : World → Prop}
/-- A read whose guard lets it, taken first. -/
theorem wpAnyC_takeG (i : Nat) {z : Nat} {oi : Oper} (v : Value) {fuel : Nat} {listed : Array Bool} {a : Act} {w : World} (hi : ops[i]? = some oi)
    (hs : (Region.noSelect ops && Region.free md ops listed i && (Region.ready md ops listed).contains i && waits md ops z i && !(i == z)) = true) (hg : Region.wanted oi (yielded ops a.tmps) = true)
    (hQ : ∀ c a w, Q (.panic c) (a.put oi.dst v) w → Q (.panic c) a w) (hC : C w) (hy : ∀ w, C w → (execOp a.eval oi).run P w = .ok (.value v) w)
    (h : wpAnyC P md ops C z Q fuel (listed.setIfInBounds i true) (a.put oi.dst v) w) : wpAnyC P md ops C z Q (fuel + 1) listed a w := by
  simp only [Bool.and_eq_true, Bool.not_eq_true', beq_eq_false_iff_ne] at hs
  obtain ⟨⟨⟨⟨hs, hf⟩, hr⟩, hwt⟩, hz⟩ := hs
  exact wpAnyC_first hi (Region.noSelect_spec hs) hQ (waits_spec hwt) hz fuel listed a w hC (Region.free_spec hi hf) (by simpa using hr) (.inl ⟨hg, hy⟩) h
/-- The one operation that may come up, its guard lets it. -/
theorem wpAnyC_actG (i : Nat) {z : Nat} {oi : Oper} {fuel : Nat} {listed : Array Bool} {a : Act} {w : World} (hi : ops[i]? = some oi)
    (hr : Region.ready md ops listed = [i]) (hg : Region.wanted oi (yielded ops a.tmps) = true)
    (h : oi.wp P a w (fun a' w' => (i ≠ z → C w') ∧ wpAnyC P md ops C z Q fuel (listed.setIfInBounds i true) a' w') Q) : wpAnyC P md ops C z Q (fuel + 1) listed a w := by
  refine ⟨fun h0 => (by rw [h0] at hr; cases hr), fun j hj => ?_⟩
  rw [hr] at hj
  obtain rfl := List.mem_singleton.1 hj
  unfold wpOp
  rw [hi]
  simp only []
  rw [if_pos hg]
  exact .inl h
end Go.Sel
