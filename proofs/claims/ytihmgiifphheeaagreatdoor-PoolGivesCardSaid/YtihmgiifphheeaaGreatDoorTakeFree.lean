/- Contracts of pool.TakeFree, TakeHole. -/
import Derived.Test.YtihmgiifphheeaaGreatDoorTake
namespace Go.Proofs.YtihmgiifphheeaaGreatDoor
open Go.RowKit Go.Sel

set_option maxHeartbeats 1000000 in
theorem takeFree_any {n : Nat} {v : Value} {s : List Int} {t : List (List Int)} {w : World} (h : IsPool n w v s t) (hn : n ≤ w.heap.size) :
    Calls Tryz.prog 7 #[v] w (TakePost s t [0] w) := by
  obtain ⟨a1, c1, a2, c2, rfl⟩ := IsPool.open h
  obtain ⟨w1, hw1⟩ : ∃ x, x = ((w.alloc (Obj.cells #[.slice a1 s.length c1, .slice a2 t.length c2] 25)).alloc (Obj.cells #[.slice none 0 0, .slice none 0 0] 25)).alloc (Obj.cells #[Value.int IntKind.i64 0] 3) := ⟨_, rfl⟩
  have hb1 : Below w.heap.size w w1 := by rw [hw1]; exact kept_alloc (kept_alloc (kept_alloc (Below.refl _ _) _) _) _
  have hs1 : w1.heap.size = w.heap.size + 3 := by rw [hw1]; simp
  have hx2 : w1.heap[w.heap.size + 1]? = some (.cells #[.slice none 0 0, .slice none 0 0] 25 (0, 0)) := by
    rw [hw1]; exact heap_alloc_at (by have := World.alloc_heap_new (w.alloc (Obj.cells #[.slice a1 s.length c1, .slice a2 t.length c2] 25)) (Obj.cells #[.slice none 0 0, .slice none 0 0] 25); rwa [World.size_alloc] at this) _
  have hx3 : w1.heap[w.heap.size + 1 + 1]? = some (.cells #[.int .i64 0] 3 (0, 0)) := by
    rw [hw1]; have := World.alloc_heap_new ((w.alloc (Obj.cells #[.slice a1 s.length c1, .slice a2 t.length c2] 25)).alloc (Obj.cells #[.slice none 0 0, .slice none 0 0] 25)) (Obj.cells #[.int .i64 0] 3); rwa [World.size_alloc, World.size_alloc] at this
  have hT := take_any (n := w1.heap.size) ((h.below (hb1.mono hn)).wider (by omega)) (ints_one hx3 (by unfold I64; omega)) (Nat.le_refl _)
  go_enter Tryz.func7, Tryz.ntmps7
  go_wp2_with fail
  rw [← hw1]
  refine hT.mono ?_
  clear hT
  rintro e w2 ⟨hb2, hA⟩
  have hs2 := hb2.size
  have hy2 := (hb2.block _ (by omega)).trans hx2
  obtain ⟨e1, e2⟩ := pair_cells hy2
  have e3 := row_frozen hy2 0
  have e4 := row_frozen hy2 1
  have hb02 : Below w.heap.size w w2 := hb1.trans (hb2.mono (by omega))
  clear hw1 hx2 hx3 hb1
  rcases hA with ⟨hno, rfl⟩ | ⟨b, v, hr, hb, rfl, hP⟩
  · have hy4 := write2 hy2 (.slice none 0 0) (.slice none 0 0)
    have HY := Lib.hid hy4
    have HN := Lib.hid hno
    clear hy4 hno
    go_wp2
    obtain ⟨r1, r2⟩ := pair_cells HY.out
    refine bodyPost_ret (v := .tuple #[.agg #[.slice none 0 0, .slice none 0 0], .int .i64 0, .bool false]) ?_ rfl ⟨(hb02.setCell (p := ⟨w.heap.size + 1, 0, none⟩) (by simp) _).setCell (p := ⟨w.heap.size + 1, 1, none⟩) (by simp) _, .inl ⟨HN.out, rfl⟩⟩
    clear e1 e2 e3 e4
    simp [results, Tryz.results7, go_sem, r1, r2]
  · obtain ⟨b1, d1, b2, d2, rfl⟩ := IsPool.open hP.pool
    have hl : (s.set b 5).length = s.length := by simp
    rw [hl] at hP ⊢
    have hy4 := write2 hy2 (.slice b1 s.length d1) (.slice b2 t.length d2)
    have hP4 := (hP.agree (AgreeIn.of_only (write2_only (B1 := w.heap.size + 1) (.slice b1 s.length d1) (.slice b2 t.length d2)) (fun k h1 h2 => by omega))).mono (lo' := w.heap.size) (hi' := ((w2.setCell ⟨w.heap.size + 1, 0, none⟩ (.slice b1 s.length d1)).setCell ⟨w.heap.size + 1, 1, none⟩ (.slice b2 t.length d2)).heap.size) (by omega) (by simp [World.setCell])
    have HY := Lib.hid hy4
    have HP := Lib.hid hP4
    have HR := Lib.hid hr
    have HB := Lib.hid hb
    clear hy4 hP hP4 hr hb hl
    go_wp2
    obtain ⟨r1, r2⟩ := pair_cells HY.out
    refine bodyPost_ret (v := .tuple #[.agg #[.slice b1 s.length d1, .slice b2 t.length d2], .int .i64 (b : Nat), .bool true]) ?_ rfl ⟨(hb02.setCell (p := ⟨w.heap.size + 1, 0, none⟩) (by simp) _).setCell (p := ⟨w.heap.size + 1, 1, none⟩) (by simp) _, .inr ⟨b, _, HR.out, HB.out, rfl, HP.out⟩⟩
    clear e1 e2 e3 e4
    simp [results, Tryz.results7, go_sem, r1, r2]

end Go.Proofs.YtihmgiifphheeaaGreatDoor
