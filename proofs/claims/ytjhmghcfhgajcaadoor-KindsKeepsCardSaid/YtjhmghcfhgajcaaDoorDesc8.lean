/- Contract of desc.Kind. -/
import Derived.Test.YtjhmghcfhgajcaaDoorDesc7
namespace Go.Proofs.YtjhmghcfhgajcaaDoor
open Go.RowKit Go.Sel

set_option maxHeartbeats 2000000 in
theorem kind_any {a0 a1 a2 : Addr} {v : Value} {d : DescL} {w : World} (n at' : Int) (hn : I64 n) (hat : I64 at') (h : IsDesc w.heap.size w v d) (hE : AddrErrs a0 a1 a2 w.heap.size w) (hT : ErrT w.heap.size w) :
    Calls Tryd.prog 13 #[v, .int .i64 n, .int .i64 at'] w fun e w' => e = .returned (.tuple #[.int .i64 (numD d n (kindP d n.toNat at')), .int .i64 (errD d n)]) ∧ Below w.heap.size w w' := by
  have hd0 := h
  obtain ⟨v1, v2, rfl, i1, i2, h1, h2⟩ := h
  obtain ⟨q1, c1, rfl, hc1⟩ := h1.open
  obtain ⟨q2, c2, rfl, hc2⟩ := h2.open
  clear i1 i2 hc1 hc2
  obtain ⟨w1, hw1⟩ : ∃ y, y = w.alloc (Obj.cells #[.int .i64 d.size, .slice q1 d.ptrs.length c1, .int .i64 d.elem, .slice q2 d.eptrs.length c2] 24) := ⟨_, rfl⟩
  have hb1 : Below w.heap.size w w1 := by rw [hw1]; exact kept_alloc (Below.refl _ _) _
  have hx1 : w1.heap[w.heap.size]? = some (.cells #[.int .i64 d.size, .slice q1 d.ptrs.length c1, .int .i64 d.elem, .slice q2 d.eptrs.length c2] 24 (0, 0)) := by rw [hw1]; exact World.alloc_heap_new w _
  have hS := shapeOf_any n hn (hd0.up hb1) (hE.up hb1)
  obtain ⟨z0, z1, z2, z3⟩ := four_cells hx1
  rw [hw1] at z0 z1 z2 z3
  clear hd0 hE hx1
  go_enter Tryd.func13, Tryd.ntmps13
  go_wp2_with fail
  rw [← hw1]
  clear hw1 z0 z1 z2 z3
  refine hS.mono ?_
  clear hS
  rintro e w2 ⟨hb, ⟨x, hs, rfl⟩ | ⟨hs, g, rfl, hg, hx⟩⟩
  · have hb2 := kept_trans hb1 hb
    have hto := descTold_any x (hT.up hb2) (Nat.le_refl _)
    have HN := Lib.hid (numD_some (y := kindP d n.toNat at') hs)
    have HX := Lib.hid (errD_some hs)
    clear hT hs h1 h2
    go_wp2_with fail
    refine hto.mono ?_
    clear hto
    rintro e w3 ⟨rfl, hb3⟩
    go_wp2
    refine bodyPost_ret (v := .tuple #[.int .i64 0, .int .i64 x]) ?_ rfl ⟨by rw [HN.out, HX.out], kept_trans hb2 hb3⟩
    simp [results, Tryd.results13, go_sem]
  · have hb2 := kept_trans hb1 hb
    obtain ⟨k, rfl⟩ := Int.eq_ofNat_of_zero_le (shapeE_none hs).2.1
    have HN := Lib.hid (numD_none (y := kindP d k at') hs)
    have HX := Lib.hid (errD_none hs)
    have hK := kindOf_any (n0 := w.heap.size) at' hat hs hx (h1.below hb2) (h2.below hb2) hb2.size
    clear hs hx hT h1 h2
    go_wp2_with fail
    refine hK.mono ?_
    clear hK
    rintro e w3 ⟨rfl, hb3⟩
    go_wp2
    refine bodyPost_ret (v := .tuple #[.int .i64 (kindP d k at'), .int .i64 0]) ?_ rfl ⟨by rw [Int.toNat_natCast, HN.out, HX.out], kept_trans hb2 hb3⟩
    simp [results, Tryd.results13, go_sem]
end Go.Proofs.YtjhmghcfhgajcaaDoor
