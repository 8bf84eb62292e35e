/- Contracts of desc.told, desc.Bytes. -/
import Derived.Test.YtjhmghcfhgajcaaDoorDesc3
import Derived.Test.YtjhmghcfhgajcaaDoorAsDesc
namespace Go.Sel
open Go Go.RowKit
theorem IsDesc.up {w w' : World} {v : Value} {d : DescL} (h : IsDesc w.heap.size w v d) (hb : Below w.heap.size w w') : IsDesc w'.heap.size w' v d := (h.below hb).wider hb.size
end Go.Sel
namespace Go.Proofs.YtjhmghcfhgajcaaDoor
open Go.RowKit Go.Sel

/-- The library's own variable that errors.As reads. -/
def ErrT (n : Nat) (w : World) : Prop := w.cell? ⟨3, 0, none⟩ = some (.iface 145 (.agg #[.pointer (some ⟨10, 60, none⟩)])) ∧ 3 < n
theorem ErrT.below {n : Nat} {w w' : World} (h : ErrT n w) (hb : Below n w w') : ErrT n w' := ⟨(hb.cell (p := ⟨3, 0, none⟩) h.2).trans h.1, h.2⟩
theorem ErrT.wider {n n' : Nat} {w : World} (h : ErrT n w) (hn : n ≤ n') : ErrT n' w := ⟨h.1, Nat.lt_of_lt_of_le h.2 hn⟩
theorem ErrT.up {w w' : World} (h : ErrT w.heap.size w) (hb : Below w.heap.size w w') : ErrT w'.heap.size w' := (h.below hb).wider hb.size
theorem Senti.wider {g n n' : Nat} {a : Addr} {w : World} (h : Senti g a n w) (hn : n ≤ n') : Senti g a n' w := ⟨h.1, Nat.lt_of_lt_of_le h.2.1 hn, Nat.lt_of_lt_of_le h.2.2.1 hn, h.2.2.2⟩
theorem AddrErrs.up {a0 a1 a2 : Addr} {w w' : World} (h : AddrErrs a0 a1 a2 w.heap.size w) (hb : Below w.heap.size w w') : AddrErrs a0 a1 a2 w'.heap.size w' :=
  ⟨(h.1.below hb).wider hb.size, (h.2.1.below hb).wider hb.size, (h.2.2.1.below hb).wider hb.size, h.2.2.2⟩

set_option maxHeartbeats 1000000 in
theorem descTold_any {n : Nat} {w : World} (x : Int) (h : ErrT n w) (hn : n ≤ w.heap.size) :
    Calls Tryd.prog 33 #[.iface 103 (.agg #[.int .i64 x])] w fun e w' => e = .returned (.int .i64 x) ∧ Below w.heap.size w w' := by
  obtain ⟨w1, hw1⟩ : ∃ x, x = w.alloc (.cells #[.int .i64 0] 103) := ⟨_, rfl⟩
  have hb1 : Below w.heap.size w w1 := by rw [hw1]; exact kept_alloc (Below.refl _ _) _
  have hx1 : w1.heap[w.heap.size]? = some (.cells #[.int .i64 0] 103 (0, 0)) := by rw [hw1]; exact World.alloc_heap_new w _
  have hs := AsDesc.as_any #[.int .i64 x] #[.int .i64 0] w.heap.size 103 w1 rfl rfl (by simp [Value.oneCell']) (h.below (hb1.mono hn)).1 hx1
  clear h
  go_enter Tryd.func33, Tryd.ntmps33
  go_wp2_with fail
  rw [← hw1]
  refine hs.mono ?_
  rintro e w2 ⟨rfl, hx2, hO⟩
  have hb2 : Below w.heap.size w w2 := hb1.trans (hO.below hb1.size (fun k hk e => by omega))
  have hc : w2.cell? ⟨w.heap.size, 0, none⟩ = some (.int .i64 x) := by simp [World.cell?, hx2]
  clear hs hw1 hx1 hO
  go_wp2
  go_ret
  exact ⟨rfl, hb2⟩

/-- The number that is told of a descriptor and a length; 0: nothing is wrong. -/
def errD (d : DescL) (n : Int) : Int := match shapeE d n with | none => 0 | some x => x
def numD (d : DescL) (n : Int) (x : Int) : Int := match shapeE d n with | none => x | some _ => 0
theorem errD_none {d : DescL} {n : Int} (h : shapeE d n = none) : errD d n = 0 := by unfold errD; rw [h]
theorem errD_some {d : DescL} {n x : Int} (h : shapeE d n = some x) : errD d n = x := by unfold errD; rw [h]
theorem numD_none {d : DescL} {n y : Int} (h : shapeE d n = none) : numD d n y = y := by unfold numD; rw [h]
theorem numD_some {d : DescL} {n x y : Int} (h : shapeE d n = some x) : numD d n y = 0 := by unfold numD; rw [h]

set_option maxHeartbeats 2000000 in
theorem bytes_any {a0 a1 a2 : Addr} {v : Value} {d : DescL} {w : World} (n : Int) (hn : I64 n) (h : IsDesc w.heap.size w v d) (hE : AddrErrs a0 a1 a2 w.heap.size w) (hT : ErrT w.heap.size w) :
    Calls Tryd.prog 12 #[v, .int .i64 n] w fun e w' => e = .returned (.tuple #[.int .i64 (numD d n (bytesD d n)), .int .i64 (errD d n)]) ∧ Below w.heap.size w w' := by
  have hd0 := h
  obtain ⟨v1, v2, rfl, i1, i2, h1, h2⟩ := h
  obtain ⟨q1, c1, rfl, hc1⟩ := h1.open
  obtain ⟨q2, c2, rfl, hc2⟩ := h2.open
  clear h1 h2 i1 i2 hc1 hc2
  obtain ⟨w1, hw1⟩ : ∃ y, y = w.alloc (Obj.cells #[.int .i64 d.size, .slice q1 d.ptrs.length c1, .int .i64 d.elem, .slice q2 d.eptrs.length c2] 24) := ⟨_, rfl⟩
  have hb1 : Below w.heap.size w w1 := by rw [hw1]; exact kept_alloc (Below.refl _ _) _
  have hx1 : w1.heap[w.heap.size]? = some (.cells #[.int .i64 d.size, .slice q1 d.ptrs.length c1, .int .i64 d.elem, .slice q2 d.eptrs.length c2] 24 (0, 0)) := by rw [hw1]; exact World.alloc_heap_new w _
  have hS := shapeOf_any n hn (hd0.up hb1) (hE.up hb1)
  obtain ⟨z0, z1, z2, z3⟩ := four_cells hx1
  rw [hw1] at z0 z1 z2 z3
  clear hd0 hE hx1
  go_enter Tryd.func12, Tryd.ntmps12
  go_wp2_with fail
  rw [← hw1]
  clear hw1 z0 z1 z2 z3
  refine hS.mono ?_
  clear hS
  rintro e w2 ⟨hb, ⟨x, hs, rfl⟩ | ⟨hs, g, rfl, hg, hx⟩⟩
  · have hb2 := kept_trans hb1 hb
    have hto := descTold_any x (hT.up hb2) (Nat.le_refl _)
    have HN := Lib.hid (numD_some (y := bytesD d n) hs)
    have HX := Lib.hid (errD_some hs)
    clear hT hs
    go_wp2_with fail
    refine hto.mono ?_
    clear hto
    rintro e w3 ⟨rfl, hb3⟩
    go_wp2
    refine bodyPost_ret (v := .tuple #[.int .i64 0, .int .i64 x]) ?_ rfl ⟨by rw [HN.out, HX.out], kept_trans hb2 hb3⟩
    simp [results, Tryd.results12, go_sem]
  · have hb2 := kept_trans hb1 hb
    have HN := Lib.hid (numD_none (y := bytesD d n) hs)
    have HX := Lib.hid (errD_none hs)
    have z5 : w2.cell? ⟨g, 5, none⟩ = some (.int .i64 (bytesD d n)) := by simp [World.cell?, hx, shapeCells]
    clear hs hx hT
    go_wp2
    refine bodyPost_ret (v := .tuple #[.int .i64 (bytesD d n), .int .i64 0]) ?_ rfl ⟨by rw [HN.out, HX.out], hb2⟩
    simp [results, Tryd.results12, go_sem]
end Go.Proofs.YtjhmghcfhgajcaaDoor
