/- Contract of pool.Close. -/
import Derived.Test.YtihmgiifphheeaaGreatDoorPool3
namespace Go.Proofs.YtihmgiifphheeaaGreatDoor
open Go.RowKit Go.Sel

/-- An answer of a pool and a number. -/
def GivePost (E : Option Int) (s : List Int) (t : List (List Int)) (w : World) (e : Ending) (w' : World) : Prop :=
  Below w.heap.size w w' ∧ (
    (∃ x, E = some x ∧ e = .returned (.tuple #[.agg #[.slice none 0 0, .slice none 0 0], .int .i64 x])) ∨
    (∃ v, E = none ∧ e = .returned (.tuple #[v, .int .i64 0]) ∧ PoolIn w.heap.size w'.heap.size w' v s t))

set_option maxHeartbeats 2000000 in
theorem close_any {n : Nat} {v : Value} {s : List Int} {t : List (List Int)} {w : World} (b : Int) (hb : I64 b) (h : IsPool n w v s t) (hE : ErrT n w) (hn : n ≤ w.heap.size) :
    Calls Tryz.prog 15 #[v, .int .i64 b] w (GivePost (blockE s t b [5]) (s.set b.toNat 2) t w) := by
  have hok := h.ok
  have hls := hok.ls
  unfold big at hls
  obtain ⟨a1, c1, a2, c2, rfl⟩ := IsPool.open h
  obtain ⟨w1, hw1⟩ : ∃ x, x = ((w.alloc (Obj.cells #[.slice a1 s.length c1, .slice a2 t.length c2] 25)).alloc (Obj.cells #[.slice none 0 0, .slice none 0 0] 25)).alloc (Obj.cells #[Value.int IntKind.i64 5] 3) := ⟨_, rfl⟩
  have hb1 : Below w.heap.size w w1 := by rw [hw1]; exact kept_alloc (kept_alloc (kept_alloc (Below.refl _ _) _) _) _
  have hs1 : w1.heap.size = w.heap.size + 3 := by rw [hw1]; simp
  have hx1 : w1.heap[w.heap.size]? = some (.cells #[.slice a1 s.length c1, .slice a2 t.length c2] 25 (0, 0)) := by rw [hw1]; exact heap_alloc_at (heap_alloc_at (World.alloc_heap_new w _) _) _
  have hx2 : w1.heap[w.heap.size + 1]? = some (.cells #[.slice none 0 0, .slice none 0 0] 25 (0, 0)) := by
    rw [hw1]; exact heap_alloc_at (by have := World.alloc_heap_new (w.alloc (Obj.cells #[.slice a1 s.length c1, .slice a2 t.length c2] 25)) (Obj.cells #[.slice none 0 0, .slice none 0 0] 25); rwa [World.size_alloc] at this) _
  have hx3 : w1.heap[w.heap.size + 1 + 1]? = some (.cells #[.int .i64 5] 3 (0, 0)) := by
    rw [hw1]; have := World.alloc_heap_new ((w.alloc (Obj.cells #[.slice a1 s.length c1, .slice a2 t.length c2] 25)).alloc (Obj.cells #[.slice none 0 0, .slice none 0 0] 25)) (Obj.cells #[.int .i64 5] 3); rwa [World.size_alloc, World.size_alloc] at this
  have hK := block_any (n := w1.heap.size) b hb ((h.below (hb1.mono hn)).wider (by omega)) (ints_one hx3 (by unfold I64; omega)) (Nat.le_refl _)
  have h1 := h.below (hb1.mono hn)
  have hE1 := hE.below (hb1.mono hn)
  go_enter Tryz.func15, Tryz.ntmps15
  go_wp2_with fail
  rw [← hw1]
  refine hK.mono ?_
  clear hK
  rintro e w2 ⟨rfl, hb2⟩
  have hs2 := hb2.size
  have hy1 := (hb2.block _ (by omega)).trans hx1
  have hy2 := (hb2.block _ (by omega)).trans hx2
  have h2 := h1.below (hb2.mono (by omega))
  have hE2 := hE1.below (hb2.mono (by omega))
  have hb02 : Below w.heap.size w w2 := hb1.trans (hb2.mono (by omega))
  clear hw1 hx1 hx2 hx3 hb1 h h1 hE hE1
  cases hk : blockE s t b [5] with
  | some x =>
    have hT := poolTold_any x hE2 (by omega)
    have HK := Lib.hid hk
    clear hk h2
    unfold errV
    go_wp2_with fail
    refine hT.mono ?_
    rintro e w3 ⟨rfl, hb3⟩
    have hy3 := (hb3.block _ (by omega)).trans hy2
    obtain ⟨e1, e2⟩ := pair_cells hy3
    have e3 := row_frozen hy3 0
    have e4 := row_frozen hy3 1
    have HY := Lib.hid (write2 hy3 (.slice none 0 0) (.slice none 0 0))
    have hb03 : Below w.heap.size w w3 := kept_trans hb02 hb3
    clear hT hy3 hy1 hy2 hE2
    go_wp2
    obtain ⟨r1, r2⟩ := pair_cells HY.out
    refine bodyPost_ret (v := .tuple #[.agg #[.slice none 0 0, .slice none 0 0], .int .i64 x]) ?_ rfl ⟨(hb03.setCell (p := ⟨w.heap.size + 1, 0, none⟩) (by simp) _).setCell (p := ⟨w.heap.size + 1, 1, none⟩) (by simp) _, .inl ⟨x, HK.out, rfl⟩⟩
    clear e1 e2 e3 e4
    simp [results, Tryz.results15, go_sem, r1, r2]
  | none =>
    obtain ⟨hb0, hbl⟩ : 0 ≤ b ∧ b < (s.length : Int) := by
      unfold blockE at hk
      split at hk
      · cases hk
      · split at hk
        · rename_i h3; exact ⟨h3.1, h3.2.1⟩
        · cases hk
    obtain ⟨b0, rfl⟩ := Int.eq_ofNat_of_zero_le hb0
    have hlt : b0 < s.length := by omega
    have hO := own_any h2 (by omega)
    have HK := Lib.hid hk
    obtain ⟨y1, y2⟩ := pair_cells hy1
    clear hk h2 hE2
    unfold errV
    go_wp2_with fail
    refine hO.mono ?_
    rintro e w3 ⟨g, rfl, ⟨vs, hOwn⟩, hb3⟩
    replace hOwn : OwnI2 w2.heap.size g w3 vs s t := hOwn
    have hy3 := (hb3.block _ (by omega)).trans hy2
    have hs3 := hb3.size
    obtain ⟨gs, cap, u, rfl, hgB, hgs, hgl, hc0, hf0, hO2⟩ := hOwn.set hlt 2
    obtain ⟨vt, hg2, hP2⟩ := hO2.poolIn (hok.set b0 (x := 2) (by unfold I64; omega))
    obtain ⟨vt', hg3, hP3⟩ := hOwn.poolIn hok
    have hvt : vt = vt' := by
      rw [Below.heap_setCell _ _ _ _ (show g ≠ gs by omega)] at hg2
      rw [hg2] at hg3
      simpa using hg3
    subst hvt
    obtain ⟨b1, d1, b2, d2, hV⟩ := IsPool.open hP3.pool
    cases hV
    obtain ⟨p1, p2⟩ := pair_cells hg3
    obtain ⟨e1, e2⟩ := pair_cells hy3
    have e3 := row_frozen hy3 0
    have e4 := row_frozen hy3 1
    have n1 : ¬ g = gs := by omega
    have n2 : ¬ w.heap.size + 1 = gs := by omega
    have n3 : ¬ gs = w.heap.size + 1 := by omega
    have hy4 : (w3.setCell ⟨gs, b0, none⟩ (.int .i64 2)).heap[w.heap.size + 1]? = some (.cells #[.slice none 0 0, .slice none 0 0] 25 (0, 0)) := (Below.heap_setCell _ _ _ _ (by show w.heap.size + 1 ≠ gs; omega)).trans hy3
    obtain ⟨f1, f2⟩ := pair_cells hy4
    have f3 := row_frozen hy4 0
    have f4 := row_frozen hy4 1
    have HY := Lib.hid (write2 hy4 (.slice (some ⟨gs, 0, none⟩) s.length cap) (.slice b2 t.length d2))
    have hb03 : Below w.heap.size w (w3.setCell ⟨gs, b0, none⟩ (.int .i64 2)) := (kept_trans hb02 hb3).setCell (p := ⟨gs, b0, none⟩) (by show w.heap.size ≤ gs; omega) _
    have hszF : (((w3.setCell ⟨gs, b0, none⟩ (.int .i64 2)).setCell ⟨w.heap.size + 1, 0, none⟩ (.slice (some ⟨gs, 0, none⟩) s.length cap)).setCell ⟨w.heap.size + 1, 1, none⟩ (.slice b2 t.length d2)).heap.size = (w3.setCell ⟨gs, b0, none⟩ (.int .i64 2)).heap.size := by simp [World.setCell]
    have HP := Lib.hid ((hP2.agree (AgreeIn.of_only (write2_only (B1 := w.heap.size + 1) (.slice (some ⟨gs, 0, none⟩) s.length cap) (.slice b2 t.length d2)) (fun k h1 h2 => by omega))).mono (lo' := w.heap.size) (hi' := (((w3.setCell ⟨gs, b0, none⟩ (.int .i64 2)).setCell ⟨w.heap.size + 1, 0, none⟩ (.slice (some ⟨gs, 0, none⟩) s.length cap)).setCell ⟨w.heap.size + 1, 1, none⟩ (.slice b2 t.length d2)).heap.size) (by omega) (by rw [hszF]; exact Nat.le_refl _))
    clear hO hy1 hy2 hy3 hy4 hOwn hO2 hP2 hP3 hg2 hg3 hszF
    go_wp2
    obtain ⟨r1, r2⟩ := pair_cells HY.out
    refine bodyPost_ret (v := .tuple #[.agg #[.slice (some ⟨gs, 0, none⟩) s.length cap, .slice b2 t.length d2], .int .i64 0]) ?_ rfl ⟨(hb03.setCell (p := ⟨w.heap.size + 1, 0, none⟩) (by simp) _).setCell (p := ⟨w.heap.size + 1, 1, none⟩) (by simp) _, .inr ⟨_, HK.out, rfl, HP.out⟩⟩
    clear e1 e2 e3 e4 f1 f2 f3 f4
    simp [results, Tryz.results15, go_sem, r1, r2]

end Go.Proofs.YtihmgiifphheeaaGreatDoor
