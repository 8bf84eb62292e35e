/- Contract of selionlaw04.Cut. -/
import Derived.Test.YtjhmghcfhgajcaaDoorDesc13
import Derived.Test.YtjhmghcfhgajcaaDoorHead
namespace Go.Sel
open Go Go.RowKit
theorem write4 {W : World} {B t : Nat} {a b c d : Value} (h : W.heap[B]? = some (.cells #[a, b, c, d] t (0, 0))) (a' b' c' d' : Value) : ((((W.setCell ⟨B, 0, none⟩ a').setCell ⟨B, 1, none⟩ b').setCell ⟨B, 2, none⟩ c').setCell ⟨B, 3, none⟩ d').heap[B]? = some (.cells #[a', b', c', d'] t (0, 0)) := by simp [World.setCell, Array.getElem?_modify, h]
theorem row_frozen4 {w : World} {B t : Nat} {c : Array Value} (h : w.heap[B]? = some (.cells c t (0, 0))) (m : Nat) : w.frozen? ⟨B, m, none⟩ = false := by simp [World.frozen?, h]
end Go.Sel
namespace Go.Proofs.YtjhmghcfhgajcaaDoor
open Go.RowKit Go.Sel

set_option maxRecDepth 100000 in
set_option maxHeartbeats 4000000 in
theorem descCut_any {n : Nat} {v1 v2 : Value} {xs ys : List Int} {w : World} (size elem : Int) (i1 : I64 size) (i2 : I64 elem) (h1 : Head20 n w v1 xs) (h2 : Head20 n w v2 ys) (hn : n ≤ w.heap.size) :
    Calls Tryd.prog 11 #[.agg #[.int .i64 size, v1, .int .i64 elem, v2]] w fun e w' => (∃ v', e = .returned v' ∧ IsDesc n w' v' ⟨size, xs, elem, ys⟩) ∧ Below w.heap.size w w' := by
  obtain ⟨a1, l1, c1, rfl, k1, k2, k3, k4, k5⟩ := h1
  obtain ⟨a2, l2, c2, rfl, m1, m2, m3, m4, m5⟩ := h2
  unfold maxLen at k2 m2
  obtain ⟨w1, hw1⟩ : ∃ y, y = (w.alloc (Obj.cells #[.int .i64 size, .slice a1 l1 c1, .int .i64 elem, .slice a2 l2 c2] 24)).alloc (Obj.cells #[.int .i64 0, .slice none 0 0, .int .i64 0, .slice none 0 0] 24) := ⟨_, rfl⟩
  have hb1 : Below w.heap.size w w1 := by rw [hw1]; exact kept_alloc (kept_alloc (Below.refl _ _) _) _
  have hx1 : w1.heap[w.heap.size]? = some (.cells #[.int .i64 size, .slice a1 l1 c1, .int .i64 elem, .slice a2 l2 c2] 24 (0, 0)) := by
    rw [hw1, Below.heap_alloc _ _ _ (by simp)]; exact World.alloc_heap_new _ _
  have hx2 : w1.heap[w.heap.size + 1]? = some (.cells #[.int .i64 0, .slice none 0 0, .int .i64 0, .slice none 0 0] 24 (0, 0)) := by
    rw [hw1]; simpa using World.alloc_heap_new (w.alloc (Obj.cells #[.int .i64 size, .slice a1 l1 c1, .int .i64 elem, .slice a2 l2 c2] 24)) (Obj.cells #[.int .i64 0, .slice none 0 0, .int .i64 0, .slice none 0 0] 24)
  have K3 := Lib.hid k3
  have M3 := Lib.hid m3
  have K5 := Lib.hid k5
  have M5 := Lib.hid m5
  clear k3 m3 k5 m5
  go_enter Tryd.func11, Tryd.ntmps11
  go_wp2_with fail
  rw [← hw1]
  clear hw1
  obtain ⟨wd, hwd⟩ : ∃ y, y = w1.drew := ⟨_, rfl⟩
  have hbd : Below w1.heap.size w1 wd := by rw [hwd]; exact (Below.refl _ _).drew
  replace hb1 := kept_trans hb1 hbd
  replace hx1 := blk_kept hx1 hbd
  replace hx2 := blk_kept hx2 hbd
  clear hbd
  obtain ⟨t1, ht1⟩ : ∃ t, t = xs.length := ⟨_, rfl⟩
  obtain ⟨t2, ht2⟩ : ∃ t, t = ys.length := ⟨_, rfl⟩
  have K6 := K3.out
  have M6 := M3.out
  have e1 : min (l1 : Int) 20 = (t1 : Int) := by omega
  have e2 : min (l2 : Int) 20 = (t2 : Int) := by omega
  have g1 : (t1 : Int) ≤ (c1 : Int) := by omega
  have g2 : (t2 : Int) ≤ (c2 : Int) := by omega
  clear K6 M6
  have H1 := Lib.hid ht1
  have H2 := Lib.hid ht2
  clear ht1 ht2
  have K4 := Lib.hid k4
  have M4 := Lib.hid m4
  clear k4 m4
  · skip
    have hC0 : HasBlk w.heap.size #[.int .i64 size, .slice a1 l1 c1, .int .i64 elem, .slice a2 l2 c2] 24 wd := hx1
    refine wp_region_class (fun W => HasBlk w.heap.size #[.int .i64 size, .slice a1 l1 c1, .int .i64 elem, .slice a2 l2 c2] 24 W) 19 (by kernel_rfl) ?_
    rw [← hwd]
    clear hwd
    refine wpAnyC_take 0 (.pointer (some ⟨w.heap.size, 0, none⟩)) rfl (by kernel_rfl) rfl (fun _ _ _ h => h) hC0 (fun W hW => by obtain ⟨g1, g2, g3, g4⟩ := four_cells hW.out; go_simp) ?_
    go_simp
    refine wpAnyC_take 1 (.int .i64 size) rfl (by kernel_rfl) rfl (fun _ _ _ h => h) hC0 (fun W hW => by obtain ⟨g1, g2, g3, g4⟩ := four_cells hW.out; go_simp) ?_
    go_simp
    refine wpAnyC_take 2 (.pointer (some ⟨w.heap.size, 1, none⟩)) rfl (by kernel_rfl) rfl (fun _ _ _ h => h) hC0 (fun W hW => by obtain ⟨g1, g2, g3, g4⟩ := four_cells hW.out; go_simp) ?_
    go_simp
    refine wpAnyC_take 3 (.slice a1 l1 c1) rfl (by kernel_rfl) rfl (fun _ _ _ h => h) hC0 (fun W hW => by obtain ⟨g1, g2, g3, g4⟩ := four_cells hW.out; go_simp) ?_
    go_simp
    refine wpAnyC_take 4 (.pointer (some ⟨w.heap.size, 1, none⟩)) rfl (by kernel_rfl) rfl (fun _ _ _ h => h) hC0 (fun W hW => by obtain ⟨g1, g2, g3, g4⟩ := four_cells hW.out; go_simp) ?_
    go_simp
    refine wpAnyC_take 5 (.slice a1 l1 c1) rfl (by kernel_rfl) rfl (fun _ _ _ h => h) hC0 (fun W hW => by obtain ⟨g1, g2, g3, g4⟩ := four_cells hW.out; go_simp) ?_
    go_simp
    refine wpAnyC_take 6 (.int .i64 (l1 : Nat)) rfl (by kernel_rfl) rfl (fun _ _ _ h => h) hC0 (fun W hW => by obtain ⟨g1, g2, g3, g4⟩ := four_cells hW.out; go_simp) ?_
    go_simp
    refine wpAnyC_take 7 (.int .i64 (t1 : Nat)) rfl (by kernel_rfl) rfl (fun _ _ _ h => h) hC0 (fun W hW => by obtain ⟨g1, g2, g3, g4⟩ := four_cells hW.out; go_simp) ?_
    go_simp
    refine wpAnyC_take 8 (.slice a1 t1 c1) rfl (by kernel_rfl) rfl (fun _ _ _ h => h) hC0 (fun W hW => by
      cases a1 with
      | none =>
        obtain rfl : c1 = 0 := K4.out rfl
        obtain rfl : l1 = 0 := by omega
        obtain rfl : t1 = 0 := by omega
        go_simp
      | some b => go_simp) ?_
    go_simp
    refine wpAnyC_take 9 (.pointer (some ⟨w.heap.size, 2, none⟩)) rfl (by kernel_rfl) rfl (fun _ _ _ h => h) hC0 (fun W hW => by obtain ⟨g1, g2, g3, g4⟩ := four_cells hW.out; go_simp) ?_
    go_simp
    refine wpAnyC_take 10 (.int .i64 elem) rfl (by kernel_rfl) rfl (fun _ _ _ h => h) hC0 (fun W hW => by obtain ⟨g1, g2, g3, g4⟩ := four_cells hW.out; go_simp) ?_
    go_simp
    refine wpAnyC_take 11 (.pointer (some ⟨w.heap.size, 3, none⟩)) rfl (by kernel_rfl) rfl (fun _ _ _ h => h) hC0 (fun W hW => by obtain ⟨g1, g2, g3, g4⟩ := four_cells hW.out; go_simp) ?_
    go_simp
    refine wpAnyC_take 12 (.slice a2 l2 c2) rfl (by kernel_rfl) rfl (fun _ _ _ h => h) hC0 (fun W hW => by obtain ⟨g1, g2, g3, g4⟩ := four_cells hW.out; go_simp) ?_
    go_simp
    refine wpAnyC_take 13 (.pointer (some ⟨w.heap.size, 3, none⟩)) rfl (by kernel_rfl) rfl (fun _ _ _ h => h) hC0 (fun W hW => by obtain ⟨g1, g2, g3, g4⟩ := four_cells hW.out; go_simp) ?_
    go_simp
    refine wpAnyC_take 14 (.slice a2 l2 c2) rfl (by kernel_rfl) rfl (fun _ _ _ h => h) hC0 (fun W hW => by obtain ⟨g1, g2, g3, g4⟩ := four_cells hW.out; go_simp) ?_
    go_simp
    refine wpAnyC_take 15 (.int .i64 (l2 : Nat)) rfl (by kernel_rfl) rfl (fun _ _ _ h => h) hC0 (fun W hW => by obtain ⟨g1, g2, g3, g4⟩ := four_cells hW.out; go_simp) ?_
    go_simp
    refine wpAnyC_take 16 (.int .i64 (t2 : Nat)) rfl (by kernel_rfl) rfl (fun _ _ _ h => h) hC0 (fun W hW => by obtain ⟨g1, g2, g3, g4⟩ := four_cells hW.out; go_simp) ?_
    go_simp
    refine wpAnyC_take 17 (.slice a2 t2 c2) rfl (by kernel_rfl) rfl (fun _ _ _ h => h) hC0 (fun W hW => by
      cases a2 with
      | none =>
        obtain rfl : c2 = 0 := M4.out rfl
        obtain rfl : l2 = 0 := by omega
        obtain rfl : t2 = 0 := by omega
        go_simp
      | some b => go_simp) ?_
    go_simp
    refine wpAnyC_take 18 (.agg #[.int .i64 size, .slice a1 t1 c1, .int .i64 elem, .slice a2 t2 c2]) rfl (by kernel_rfl) rfl (fun _ _ _ h => h) hC0 (fun W hW => by obtain ⟨g1, g2, g3, g4⟩ := four_cells hW.out; go_simp) ?_
    go_simp
    obtain ⟨z0, z1, z2, z3⟩ := four_cells hx2
    have f0 := row_frozen4 hx2 0
    have f1 := row_frozen4 hx2 1
    have f2 := row_frozen4 hx2 2
    have f3 := row_frozen4 hx2 3
    refine wpAnyC_act 19 rfl (by kernel_rfl) rfl ?_
    go_simp
    refine wpAnyC_done (by kernel_rfl) ?_
    have HY := Lib.hid (write4 hx2 (.int .i64 size) (.slice a1 t1 c1) (.int .i64 elem) (.slice a2 t2 c2))
    have HB := Lib.hid (show Below w.heap.size w ((((wd.setCell ⟨w.heap.size + 1, 0, none⟩ (.int .i64 size)).setCell ⟨w.heap.size + 1, 1, none⟩ (.slice a1 t1 c1)).setCell ⟨w.heap.size + 1, 2, none⟩ (.int .i64 elem)).setCell ⟨w.heap.size + 1, 3, none⟩ (.slice a2 t2 c2)) from (((hb1.setCell (p := ⟨w.heap.size + 1, 0, none⟩) (by simp) _).setCell (p := ⟨w.heap.size + 1, 1, none⟩) (by simp) _).setCell (p := ⟨w.heap.size + 1, 2, none⟩) (by simp) _).setCell (p := ⟨w.heap.size + 1, 3, none⟩) (by simp) _)
    clear hx1 hx2 hC0
    go_wp2
    obtain ⟨r0, r1, r2, r3⟩ := four_cells HY.out
    refine bodyPost_ret (v := .agg #[.int .i64 size, .slice a1 t1 c1, .int .i64 elem, .slice a2 t2 c2]) ?_ rfl ⟨⟨_, rfl, _, _, rfl, i1, i2, ?_, ?_⟩, HB.out⟩
    · clear z0 z1 z2 z3
      simp [results, Tryd.results11, go_sem, r0, r1, r2, r3]
    · have q := Head20.ints K3.out k1 (HB.out.mono hn) K5.out
      rw [← H1.out] at q
      exact q
    · have q := Head20.ints M3.out m1 (HB.out.mono hn) M5.out
      rw [← H2.out] at q
      exact q
end Go.Proofs.YtjhmghcfhgajcaaDoor
