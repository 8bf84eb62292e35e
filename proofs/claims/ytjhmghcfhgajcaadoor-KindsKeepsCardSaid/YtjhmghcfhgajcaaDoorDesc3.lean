/- Contract of desc.shapeOf. -/
import Derived.Test.YtjhmghcfhgajcaaDoorDesc2
namespace Go.Proofs.YtjhmghcfhgajcaaDoor
open Go.RowKit Go.Sel

/-- A wrong of the package's. -/
def dWrong (x : Int) : Value := .iface 103 (.agg #[.int .i64 x])
/-- The cells of a shape. -/
def shapeCells (d : DescL) (v1 v2 : Value) (n : Int) : Array Value := #[.int .i64 d.size, v1, .int .i64 d.elem, v2, .int .i64 n, .int .i64 (bytesD d n)]
def ShapePost (d : DescL) (v1 v2 : Value) (n : Int) (w : World) (e : Ending) (w' : World) : Prop :=
  Below w.heap.size w w' ∧ ((∃ x, shapeE d n = some x ∧ e = .returned (.tuple #[.pointer none, .iface 103 (.agg #[.int .i64 x])])) ∨
    (shapeE d n = none ∧ ∃ g, e = .returned (.tuple #[.pointer (some ⟨g, 0, none⟩), .nilIface]) ∧ w.heap.size ≤ g ∧ w'.heap[g]? = some (.cells (shapeCells d v1 v2 n) 65 (0, 0))))
theorem shapeE_wrong {d : DescL} (n : Int) (h : rightD d = false) : shapeE d n = some 40 := by unfold shapeE; rw [if_neg (by rw [h]; decide)]
theorem shapeE_len {d : DescL} {n : Int} (h : rightD d = true) (h2 : n < 0 ∨ 131072 < n ∨ (0 < n ∧ d.elem = 0)) : shapeE d n = some 41 := by unfold shapeE; rw [if_pos h, if_pos h2]
theorem shapeE_big {d : DescL} {n : Int} (h : rightD d = true) (h2 : ¬ (n < 0 ∨ 131072 < n ∨ (0 < n ∧ d.elem = 0))) (h3 : 131072 < 8 + d.size + n * d.elem) : shapeE d n = some 41 := by unfold shapeE; rw [if_pos h, if_neg h2, if_pos h3]
theorem shapeE_fine {d : DescL} {n : Int} (h : rightD d = true) (h2 : ¬ (n < 0 ∨ 131072 < n ∨ (0 < n ∧ d.elem = 0))) (h3 : ¬ 131072 < 8 + d.size + n * d.elem) : shapeE d n = none := by unfold shapeE; rw [if_pos h, if_neg h2, if_neg h3]

theorem four_cells {W : World} {b : Nat} {x0 x1 x2 x3 : Value} {t : TypeId} (h : W.heap[b]? = some (.cells #[x0, x1, x2, x3] t (0, 0))) :
    W.cell? ⟨b, 0, none⟩ = some x0 ∧ W.cell? ⟨b, 1, none⟩ = some x1 ∧ W.cell? ⟨b, 2, none⟩ = some x2 ∧ W.cell? ⟨b, 3, none⟩ = some x3 := by simp [World.cell?, h]

set_option maxHeartbeats 4000000 in
theorem shapeOf_any {a0 a1 a2 : Addr} {v1 v2 : Value} {d : DescL} {w : World} (n : Int) (hn : I64 n) (h : IsDesc w.heap.size w (.agg #[.int .i64 d.size, v1, .int .i64 d.elem, v2]) d) (hE : AddrErrs a0 a1 a2 w.heap.size w) :
    Calls Tryd.prog 32 #[.agg #[.int .i64 d.size, v1, .int .i64 d.elem, v2], .int .i64 n] w (ShapePost d v1 v2 n w) := by
  have hd0 := h
  unfold I64 at hn
  obtain ⟨v1', v2', he, i1, i2, h1, h2⟩ := h
  cases he
  obtain ⟨q1, c1, rfl, hc1⟩ := h1.open
  obtain ⟨q2, c2, rfl, hc2⟩ := h2.open
  have hd : IsDesc w.heap.size w (.agg #[.int .i64 d.size, .slice q1 d.ptrs.length c1, .int .i64 d.elem, .slice q2 d.eptrs.length c2]) d := hd0
  clear hd0 h1 h2 i1 i2 hc1 hc2
  obtain ⟨w1, hw1⟩ : ∃ y, y = w.alloc (Obj.cells #[.int .i64 d.size, .slice q1 d.ptrs.length c1, .int .i64 d.elem, .slice q2 d.eptrs.length c2] 24) := ⟨_, rfl⟩
  have hb1 : Below w.heap.size w w1 := by rw [hw1]; exact kept_alloc (Below.refl _ _) _
  have hx1 : w1.heap[w.heap.size]? = some (.cells #[.int .i64 d.size, .slice q1 d.ptrs.length c1, .int .i64 d.elem, .slice q2 d.eptrs.length c2] 24 (0, 0)) := by rw [hw1]; exact World.alloc_heap_new w _
  have hR := right_any (hd.below hb1) hb1.size
  obtain ⟨z0, z1, z2, z3⟩ := four_cells hx1
  rw [hw1] at z0 z1 z2 z3
  go_enter Tryd.func32, Tryd.ntmps32
  go_wp2_with fail
  refine wp_scope_fwd 0 rfl ?_
  go_wp2_with fail
  rw [← hw1]
  clear hw1 z0 z1 z2 z3
  refine hR.mono ?_
  clear hR
  rintro e w2 ⟨rfl, hb⟩
  have hb2 := kept_trans hb1 hb
  obtain ⟨z0, z1, z2, z3⟩ := four_cells (blk_kept hx1 hb)
  have hE2 := hE.below hb2
  have hE3 : AddrErrs a0 a1 a2 w2.heap.size w2 := ⟨⟨hE2.1.1, by have := hE2.1.2.1; have := hb2.size; omega, by have := hE2.1.2.2.1; have := hb2.size; omega, hE2.1.2.2.2⟩, ⟨hE2.2.1.1, by have := hE2.2.1.2.1; have := hb2.size; omega, by have := hE2.2.1.2.2.1; have := hb2.size; omega, hE2.2.1.2.2.2⟩, ⟨hE2.2.2.1.1, by have := hE2.2.2.1.2.1; have := hb2.size; omega, by have := hE2.2.2.1.2.2.1; have := hb2.size; omega, hE2.2.2.1.2.2.2⟩, hE2.2.2.2⟩
  have HE3 := Lib.hid hE3
  clear hE hE2 hE3 hx1 hb hb1 hd
  cases hr : rightD d with
  | false =>
    have HF := Lib.hid (shapeE_wrong n hr)
    clear hr
    go_wp2_with fail
    apply wp_goto
    refine ⟨rfl, ?_⟩
    go_wp2_with fail
    rw [Exit.noGoto_ret]
    refine bodyPost_ret (v := .tuple #[.pointer none, .iface 103 (.agg #[.int .i64 40])]) ?_ rfl ⟨hb2, .inl ⟨_, HF.out, rfl⟩⟩
    simp [results, Tryd.results32, go_sem]
  | true =>
    obtain ⟨⟨s1, s2, -⟩, ⟨e1, e2, -⟩, -, -⟩ := rightD_parts hr
    have HR := Lib.hid hr
    clear hr
    by_cases n1 : n < 0
    · have HF := Lib.hid (shapeE_len HR.out (.inl n1))
      go_wp2_with fail
      apply wp_goto
      refine ⟨rfl, ?_⟩
      go_wp2_with fail
      rw [Exit.noGoto_ret]
      refine bodyPost_ret (v := .tuple #[.pointer none, .iface 103 (.agg #[.int .i64 41])]) ?_ rfl ⟨hb2, .inl ⟨_, HF.out, rfl⟩⟩
      simp [results, Tryd.results32, go_sem]
    · by_cases n2 : 131072 < n
      · have HF := Lib.hid (shapeE_len HR.out (.inr (.inl n2)))
        go_wp2_with fail
        apply wp_goto
        refine ⟨rfl, ?_⟩
        go_wp2_with fail
        rw [Exit.noGoto_ret]
        refine bodyPost_ret (v := .tuple #[.pointer none, .iface 103 (.agg #[.int .i64 41])]) ?_ rfl ⟨hb2, .inl ⟨_, HF.out, rfl⟩⟩
        simp [results, Tryd.results32, go_sem]
      · by_cases n3 : 0 < n ∧ d.elem = 0
        · have HF := Lib.hid (shapeE_len HR.out (.inr (.inr n3)))
          obtain ⟨n3, n4⟩ := n3
          rw [n4] at z2
          clear n4
          go_wp2_with fail
          apply wp_goto
          refine ⟨rfl, ?_⟩
          go_wp2_with fail
          rw [Exit.noGoto_ret]
          refine bodyPost_ret (v := .tuple #[.pointer none, .iface 103 (.agg #[.int .i64 41])]) ?_ rfl ⟨hb2, .inl ⟨_, HF.out, rfl⟩⟩
          simp [results, Tryd.results32, go_sem]
        · have HN := Lib.hid (show ¬ (n < 0 ∨ 131072 < n ∨ (0 < n ∧ d.elem = 0)) by omega)
          have m1 : 0 ≤ n * d.elem := Int.mul_nonneg (by omega) e1
          have m2 : n * d.elem ≤ 131072 * 256 := Int.mul_le_mul (by omega) e2 e1 (by omega)
          have r1 : IntKind.i64.wrap (8 + d.size) = 8 + d.size := IntWalk.i64_in _ (by omega)
          have r2 : IntKind.i64.wrap (n * d.elem) = n * d.elem := IntWalk.i64_in _ (by omega)
          have r3 : IntKind.i64.wrap (8 + d.size + n * d.elem) = 8 + d.size + n * d.elem := IntWalk.i64_in _ (by omega)
          by_cases n5 : 0 < n
          · have n6 : (d.elem == 0) = false := by rw [beq_eq_false_iff_ne]; exact fun q => n3 ⟨n5, q⟩
            clear n3
            by_cases n7 : 131072 < 8 + d.size + n * d.elem
            · have HF := Lib.hid (shapeE_big HR.out HN.out n7)
              have hRo := round_no (n := 8 + d.size + n * d.elem) (by unfold I64; omega) (by unfold roundOk; omega) HE3.out
              clear n7 m1 m2
              go_wp2_with fail
              refine hRo.mono ?_
              clear hRo r1 r2 r3
              rintro e w3 ⟨rfl, hb3⟩
              have hbz := kept_trans hb2 hb3
              go_wp2_with fail
              apply wp_goto
              refine ⟨rfl, ?_⟩
              go_wp2_with fail
              rw [Exit.noGoto_ret]
              refine bodyPost_ret (v := .tuple #[.pointer none, .iface 103 (.agg #[.int .i64 41])]) ?_ rfl ⟨hbz, .inl ⟨_, HF.out, rfl⟩⟩
              simp [results, Tryd.results32, go_sem]
            · have HF := Lib.hid (shapeE_fine HR.out HN.out n7)
              have hRo := round_yes (n := 8 + d.size + n * d.elem) (by unfold roundOk; omega) HE3.out
              clear n7 m1 m2
              go_wp2_with fail
              refine hRo.mono ?_
              clear hRo r1 r2 r3
              rintro e w3 ⟨rfl, hb3⟩
              have hbz := kept_trans hb2 hb3
              have hlt0 : w.heap.size < w2.heap.size := World.block_lt_of_cell? _ _ z0
              have y0 := (hb3.cell (p := ⟨w.heap.size, 0, none⟩) hlt0).trans z0
              have y1 := (hb3.cell (p := ⟨w.heap.size, 1, none⟩) hlt0).trans z1
              have y2 := (hb3.cell (p := ⟨w.heap.size, 2, none⟩) hlt0).trans z2
              have y3 := (hb3.cell (p := ⟨w.heap.size, 3, none⟩) hlt0).trans z3
              go_wp2_with fail
              try rw [Exit.noGoto_ret]
              refine bodyPost_ret (v := .tuple #[.pointer (some ⟨w3.heap.size, 0, none⟩), .nilIface]) ?_ rfl ⟨kept_alloc hbz _, .inr ⟨HF.out, _, rfl, hbz.size, World.alloc_heap_new _ _⟩⟩
              simp [results, Tryd.results32, go_sem]
          · clear n3
            by_cases n7 : 131072 < 8 + d.size + n * d.elem
            · have HF := Lib.hid (shapeE_big HR.out HN.out n7)
              have hRo := round_no (n := 8 + d.size + n * d.elem) (by unfold I64; omega) (by unfold roundOk; omega) HE3.out
              clear n7 m1 m2
              go_wp2_with fail
              refine hRo.mono ?_
              clear hRo r1 r2 r3
              rintro e w3 ⟨rfl, hb3⟩
              have hbz := kept_trans hb2 hb3
              go_wp2_with fail
              apply wp_goto
              refine ⟨rfl, ?_⟩
              go_wp2_with fail
              rw [Exit.noGoto_ret]
              refine bodyPost_ret (v := .tuple #[.pointer none, .iface 103 (.agg #[.int .i64 41])]) ?_ rfl ⟨hbz, .inl ⟨_, HF.out, rfl⟩⟩
              simp [results, Tryd.results32, go_sem]
            · have HF := Lib.hid (shapeE_fine HR.out HN.out n7)
              have hRo := round_yes (n := 8 + d.size + n * d.elem) (by unfold roundOk; omega) HE3.out
              clear n7 m1 m2
              go_wp2_with fail
              refine hRo.mono ?_
              clear hRo r1 r2 r3
              rintro e w3 ⟨rfl, hb3⟩
              have hbz := kept_trans hb2 hb3
              have hlt0 : w.heap.size < w2.heap.size := World.block_lt_of_cell? _ _ z0
              have y0 := (hb3.cell (p := ⟨w.heap.size, 0, none⟩) hlt0).trans z0
              have y1 := (hb3.cell (p := ⟨w.heap.size, 1, none⟩) hlt0).trans z1
              have y2 := (hb3.cell (p := ⟨w.heap.size, 2, none⟩) hlt0).trans z2
              have y3 := (hb3.cell (p := ⟨w.heap.size, 3, none⟩) hlt0).trans z3
              go_wp2_with fail
              try rw [Exit.noGoto_ret]
              refine bodyPost_ret (v := .tuple #[.pointer (some ⟨w3.heap.size, 0, none⟩), .nilIface]) ?_ rfl ⟨kept_alloc hbz _, .inr ⟨HF.out, _, rfl, hbz.size, World.alloc_heap_new _ _⟩⟩
              simp [results, Tryd.results32, go_sem]
end Go.Proofs.YtjhmghcfhgajcaaDoor
