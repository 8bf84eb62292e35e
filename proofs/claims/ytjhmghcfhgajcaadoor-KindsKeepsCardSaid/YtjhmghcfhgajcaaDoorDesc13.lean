/- Contract of desc.Same. -/
import Derived.Test.YtjhmghcfhgajcaaDoorDesc12
import Derived.Test.YtjhmghcfhgajcaaDoorSl
namespace Go.Proofs.YtjhmghcfhgajcaaDoor
open Go.RowKit Go.Sel

def sameD (a b : DescL) : Bool := decide (a.size = b.size) && decide (a.elem = b.elem) && decide (a.ptrs = b.ptrs) && decide (a.eptrs = b.eptrs)
set_option maxHeartbeats 2000000 in
theorem descSame_any {n : Nat} {v v' : Value} {a b : DescL} {w : World} (h : IsDesc n w v a) (h' : IsDesc n w v' b) (hn : n ≤ w.heap.size) :
    Calls Tryd.prog 18 #[v, v'] w fun e w' => e = .returned (.bool (sameD a b)) ∧ Below w.heap.size w w' := by
  obtain ⟨v1, v2, rfl, i1, i2, h1, h2⟩ := h
  obtain ⟨v3, v4, rfl, i3, i4, h3, h4⟩ := h'
  obtain ⟨sa, pa, ea, qa⟩ := a
  obtain ⟨sb, pb, eb, qb⟩ := b
  simp only at h1 h2 h3 h4 i1 i2 i3 i4 ⊢
  obtain ⟨q1, c1, rfl, _⟩ := h1.open
  obtain ⟨q2, c2, rfl, _⟩ := h2.open
  obtain ⟨q3, c3, rfl, _⟩ := h3.open
  obtain ⟨q4, c4, rfl, _⟩ := h4.open
  obtain ⟨w1, hw1⟩ : ∃ y, y = (w.alloc (Obj.cells #[.int .i64 sa, .slice q1 pa.length c1, .int .i64 ea, .slice q2 qa.length c2] 24)).alloc (Obj.cells #[.int .i64 sb, .slice q3 pb.length c3, .int .i64 eb, .slice q4 qb.length c4] 24) := ⟨_, rfl⟩
  have hb1 : Below w.heap.size w w1 := by rw [hw1]; exact kept_alloc (kept_alloc (Below.refl _ _) _) _
  have hx1 : w1.heap[w.heap.size]? = some (.cells #[.int .i64 sa, .slice q1 pa.length c1, .int .i64 ea, .slice q2 qa.length c2] 24 (0, 0)) := by
    rw [hw1, Below.heap_alloc _ _ _ (by simp)]; exact World.alloc_heap_new _ _
  have hx2 : w1.heap[w.heap.size + 1]? = some (.cells #[.int .i64 sb, .slice q3 pb.length c3, .int .i64 eb, .slice q4 qb.length c4] 24 (0, 0)) := by
    rw [hw1]; simpa using World.alloc_heap_new (w.alloc (Obj.cells #[.int .i64 sa, .slice q1 pa.length c1, .int .i64 ea, .slice q2 qa.length c2] 24)) (Obj.cells #[.int .i64 sb, .slice q3 pb.length c3, .int .i64 eb, .slice q4 qb.length c4] 24)
  have k1 := equal_any (h1.below (hb1.mono hn)) (h3.below (hb1.mono hn))
  have k2 := fun q => equal_any (h2.below ((below_drewN hb1 q).mono hn)) (h4.below ((below_drewN hb1 q).mono hn))
  have K2 := Lib.hid k2
  obtain ⟨y0, y1, y2, y3⟩ := four_cells hx1
  obtain ⟨z0, z1, z2, z3⟩ := four_cells hx2
  obtain ⟨m0, m1, m2, m3⟩ := four_cells hx1
  obtain ⟨n0, n1, n2, n3⟩ := four_cells hx2
  rw [hw1] at m0 m1 m2 m3 n0 n1 n2 n3
  clear k2 h1 h2 h3 h4 hx1 hx2 hn i1 i2 i3 i4
  by_cases s1 : sa = sb
  · subst s1
    by_cases s2 : ea = eb
    · subst s2
      go_enter Tryd.func18, Tryd.ntmps18
      go_wp2_with fail
      rw [← hw1]
      clear hw1 m0 m1 m2 m3 n0 n1 n2 n3
      refine k1.mono ?_
      rintro e w' ⟨rfl, q, rfl⟩
      clear k1
      by_cases s3 : pa = pb
      · have k2 := K2.out q
        rw [decide_eq_true s3]
        go_wp2_with fail
        refine k2.mono ?_
        rintro e w' ⟨rfl, q', rfl⟩
        clear k2
        go_wp2
        go_ret
        exact ⟨ret_bool (by unfold sameD; simp [s3]), below_drewN hb1 (q + q')⟩
      · rw [decide_eq_false s3]
        go_wp2
        go_ret
        exact ⟨ret_bool (by unfold sameD; simp [s3]), below_drewN hb1 q⟩
    · have s2' : (ea == eb) = false := by rw [beq_eq_false_iff_ne]; exact s2
      clear k1
      go_enter Tryd.func18, Tryd.ntmps18
      go_wp2_with fail
      go_ret
      exact ⟨ret_bool (by unfold sameD; simp [s2]), by rw [← hw1]; exact hb1⟩
  · have s1' : (sa == sb) = false := by rw [beq_eq_false_iff_ne]; exact s1
    clear k1
    go_enter Tryd.func18, Tryd.ntmps18
    go_wp2_with fail
    go_ret
    exact ⟨ret_bool (by unfold sameD; simp [s1]), by rw [← hw1]; exact hb1⟩
end Go.Proofs.YtjhmghcfhgajcaaDoor
