/- A slice of descriptors that a row was given, as its first ones: over any program. -/
import Derived.Test.YtjhmghcfhgajcaaDoorKindsD
import Derived.Test.YtjhmghcfhgajcaaDoorRowG2
import Derived.Lib.SmallJoins
namespace Go.Sel
open Go Go.RowKit Go.ChangeShapes Go.WideShapes Go.Joins Go.Deep
variable {H : Type} {enc : TypeId × Value → H} {P : Program} {w : World}
theorem descs_of_trod {t e q : TypeId} {f0 f1 f2 f3 : Field} {base fuel : Nat} {held : Bool} {v : Value} {x : DataW H × List MemPlace} (ht : P.underlying t = some (.slice e)) (he : P.underlying e = some (.struct #[f0, f1, f2, f3])) (hone : oneCellFields P #[f0, f1, f2, f3] = true) (hC : P.cellsOf e = 4)
    (h0 : P.underlying f0.type = some (.int .i64)) (h1 : P.underlying f1.type = some (.slice q)) (h2 : P.underlying f2.type = some (.int .i64)) (h3 : P.underlying f3.type = some (.slice q)) (hq : P.underlying q = some (.int .i64)) (cq : P.cellsOf q = 1)
    (h : DataW.trod enc P w base (fun _ => true) held fuel t [v] = some x) : ∃ ds, HeadDescs w.heap.size w v ds := by
  rcases Go.Deep.open_slice ht h with ⟨g1, _⟩ | ⟨a, len, cap, m, n, D, Pl, g1, _, hl, hm, hmm, _, hx⟩
  · simp only [List.cons.injEq, and_true] at g1
    subst g1
    exact ⟨[], none, 0, 0, rfl, Nat.le_refl _, Nat.zero_le _, by simp, fun j x hx => by simp at hx⟩
  · simp only [List.cons.injEq, and_true] at g1
    subst g1
    rw [if_pos rfl] at hmm
    subst hmm
    haveI : Inhabited DescL := ⟨⟨0, [], 0, []⟩⟩
    obtain ⟨f, hf⟩ := Go.Deep.choose_lt (α := DescL) (n := len) (p := fun i (d : DescL) => ∃ b o v1 v2, a = ⟨b, o, none⟩ ∧ b < w.heap.size ∧ w.cell? ⟨b, o + i * 4, none⟩ = some (.int .i64 d.size) ∧ w.cell? ⟨b, o + i * 4 + 1, none⟩ = some v1 ∧ w.cell? ⟨b, o + i * 4 + 2, none⟩ = some (.int .i64 d.elem) ∧ w.cell? ⟨b, o + i * 4 + 3, none⟩ = some v2 ∧ I64 d.size ∧ I64 d.elem ∧ Head20 w.heap.size w v1 d.ptrs ∧ Head20 w.heap.size w v2 d.eptrs) (fun i hi => by
      obtain ⟨cs, hc, hd⟩ := hx i (by omega)
      rw [hC] at hc
      obtain ⟨_, hlen, hcell⟩ := World.cells?_some hc
      obtain ⟨c0, c1, c2, c3, rfl⟩ : ∃ c0 c1 c2 c3, cs = [c0, c1, c2, c3] := by
        match cs, hlen with
        | [c0, c1, c2, c3], _ => exact ⟨c0, c1, c2, c3, rfl⟩
      obtain ⟨y0, y1, y2, y3, k, _, _, r0, r1, r2, r3⟩ := trod_struct4 he hd
      obtain ⟨o0, k0⟩ := hone_of hone 0 f0 rfl
      obtain ⟨o1, k1⟩ := hone_of hone 1 f1 rfl
      obtain ⟨o2, k2⟩ := hone_of hone 2 f2 rfl
      obtain ⟨o3, k3⟩ := hone_of hone 3 f3 rfl
      replace r0 : DataW.trod enc P w base (fun _ => true) held k f0.type [c0] = some y0 := by simpa [o0, k0] using r0
      replace r1 : DataW.trod enc P w base (fun _ => true) held k f1.type [c1] = some y1 := by simpa [o1, k1] using r1
      replace r2 : DataW.trod enc P w base (fun _ => true) held k f2.type [c2] = some y2 := by simpa [o2, k2] using r2
      replace r3 : DataW.trod enc P w base (fun _ => true) held k f3.type [c3] = some y3 := by simpa [o3, k3] using r3
      obtain ⟨z0, e0, -, w0⟩ := DataW.trod_int h0 r0
      obtain rfl : c0 = _ := (List.cons.inj e0).1
      obtain ⟨z2, e2, -, w2⟩ := DataW.trod_int h2 r2
      obtain rfl : c2 = _ := (List.cons.inj e2).1
      obtain ⟨xs, hxs⟩ := head_of_trod h1 hq cq r1
      obtain ⟨ys, hys⟩ := head_of_trod h3 hq cq r3
      have q0 := hcell 0 (by omega)
      have q1 := hcell 1 (by omega)
      have q2 := hcell 2 (by omega)
      have q3 := hcell 3 (by omega)
      rw [Go.Deep.add_add] at q0 q1 q2 q3
      obtain ⟨b, o, rfl⟩ : ∃ b o, a = ⟨b, o, none⟩ := by
        obtain ⟨b, o, spot⟩ := a
        obtain ⟨cs0, hc0, _⟩ := hx 0 (by omega)
        rw [hC] at hc0
        obtain ⟨_, l0, p0⟩ := World.cells?_some hc0
        obtain ⟨u, hu⟩ : ∃ u, cs0[0]? = some u := ⟨_, List.getElem?_eq_getElem (by omega)⟩
        have hs := World.cell?_spot ((p0 0 (by omega)).trans hu)
        have : spot = none := by simpa [Addr.add] using hs
        subst this
        exact ⟨b, o, rfl⟩
      rw [Go.WideShapes.add_plain] at q0 q1 q2 q3
      exact ⟨⟨z0, xs.take 20, z2, ys.take 20⟩, b, o, c1, c3, rfl, cell_lt q0, q0, by rw [Nat.add_assoc]; exact q1, by rw [Nat.add_assoc]; exact q2, by rw [Nat.add_assoc]; exact q3, wf_I64 w0, wf_I64 w2, hxs.to20, hys.to20⟩)
    refine ⟨(List.range (min len 62)).map f, some a, len, m, rfl, hl, hm, by simp, fun j d hj => ?_⟩
    have hlt : j < min len 62 := by have := (List.getElem?_eq_some_iff.1 hj).1; simpa using this
    rw [List.getElem?_map, List.getElem?_range hlt] at hj
    obtain rfl : f j = d := by simpa using hj
    obtain ⟨b, o, v1, v2, rfl, hz⟩ := hf j (by omega)
    exact ⟨b, o, v1, v2, rfl, hz⟩
end Go.Sel
