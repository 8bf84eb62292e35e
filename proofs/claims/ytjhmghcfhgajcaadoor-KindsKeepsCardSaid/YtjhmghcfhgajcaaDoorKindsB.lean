/- Contract of kinds.clone. -/
import Derived.Test.YtjhmghcfhgajcaaDoorClone2
import Derived.Test.YtjhmghcfhgajcaaDoorDrawZ
import Derived.Test.YtjhmghcfhgajcaaDoorDesc14
import Derived.Test.YtjhmghcfhgajcaaDoorDesc15
import Derived.Test.YtjhmghcfhgajcaaDoorDesc16
namespace Go.Sel
open Go Go.RowKit
theorem write13 {W : World} {B t : Nat} {a b c d : Value} (h : W.heap[B]? = some (.cells #[a, b, c, d] t (0, 0))) (b' d' : Value) : ((W.setCell ⟨B, 1, none⟩ b').setCell ⟨B, 3, none⟩ d').heap[B]? = some (.cells #[a, b', c, d'] t (0, 0)) := by simp [World.setCell, Array.getElem?_modify, h]
theorem blk_other {W : World} {B : Nat} {x : Obj} {p : Addr} {v : Value} (h : W.heap[B]? = some x) (hp : p.block ≠ B) : (W.setCell p v).heap[B]? = some x := (Below.heap_setCell _ _ _ _ (fun e => hp e.symm)).trans h
end Go.Sel
namespace Go.Proofs.YtjhmghcfhgajcaaDoor
open Go.RowKit Go.Sel
/-- A descriptor's parts, in memory of the call's own. -/
def OwnD (B : Nat) (d : DescL) (s1 s2 : Value) (w : World) : Prop := I64 d.size ∧ I64 d.elem ∧ d.ptrs.length ≤ big ∧ d.eptrs.length ≤ big ∧ (∀ x ∈ d.ptrs, I64 x) ∧ (∀ x ∈ d.eptrs, I64 x) ∧ w.ownsRow B 3 1 s1 d.ptrs.length (d.ptrs.map (Value.int .i64)) ∧ w.ownsRow B 3 1 s2 d.eptrs.length (d.eptrs.map (Value.int .i64))
theorem OwnD.is {B : Nat} {d : DescL} {s1 s2 : Value} {w : World} (h : OwnD B d s1 s2 w) : IsDesc w.heap.size w (.agg #[.int .i64 d.size, s1, .int .i64 d.elem, s2]) d :=
  ⟨_, _, rfl, h.1, h.2.1, IsInts.of_owns h.2.2.2.2.2.2.1 h.2.2.1 h.2.2.2.2.1, IsInts.of_owns h.2.2.2.2.2.2.2 h.2.2.2.1 h.2.2.2.2.2.1⟩
theorem OwnD.only {B : Nat} {d : DescL} {s1 s2 : Value} {w w' : World} {S : Nat → Prop} (h : OwnD B d s1 s2 w) (hO : Only S w w') (h1 : ∀ g, S g → s1.ownBlock ≠ some g) (h2 : ∀ g, S g → s2.ownBlock ≠ some g) : OwnD B d s1 s2 w' :=
  ⟨h.1, h.2.1, h.2.2.1, h.2.2.2.1, h.2.2.2.2.1, h.2.2.2.2.2.1, owns_only h.2.2.2.2.2.2.1 hO h1, owns_only h.2.2.2.2.2.2.2 hO h2⟩
def CloneD (d : DescL) (w : World) (e : Ending) (w' : World) : Prop := ∃ s1 s2, e = .returned (.agg #[.int .i64 d.size, s1, .int .i64 d.elem, s2]) ∧ OwnD w.heap.size d s1 s2 w' ∧ Below w.heap.size w w'
set_option maxRecDepth 100000 in
set_option maxHeartbeats 2000000 in
theorem cloneD_any {n : Nat} {v : Value} {d : DescL} {w : World} (h : IsDesc n w v d) (hn : n ≤ w.heap.size) :
    Calls Tryd.prog 44 #[v] w (CloneD d w) := by
  obtain ⟨u1, u2, rfl, i1, i2, h1, h2⟩ := h
  obtain ⟨q1, c1, rfl, hc1⟩ := h1.open
  obtain ⟨q2, c2, rfl, hc2⟩ := h2.open
  clear hc1 hc2
  obtain ⟨w1, hw1⟩ : ∃ y, y = (w.alloc (Obj.cells #[.int .i64 d.size, .slice q1 d.ptrs.length c1, .int .i64 d.elem, .slice q2 d.eptrs.length c2] 24)).alloc (Obj.cells #[.int .i64 0, .slice none 0 0, .int .i64 0, .slice none 0 0] 24) := ⟨_, rfl⟩
  have hb1 : Below w.heap.size w w1 := by rw [hw1]; exact kept_alloc (kept_alloc (Below.refl _ _) _) _
  have hx : HasBlk w.heap.size #[.int .i64 d.size, .slice q1 d.ptrs.length c1, .int .i64 d.elem, .slice q2 d.eptrs.length c2] 24 w1 := by
    rw [hw1]; exact (Below.heap_alloc _ _ _ (by simp)).trans (World.alloc_heap_new _ _)
  have hy : HasBlk (w.heap.size + 1) #[.int .i64 0, .slice none 0 0, .int .i64 0, .slice none 0 0] 24 w1 := by
    rw [hw1]; simpa using HasBlk.new (w.alloc (Obj.cells #[.int .i64 d.size, .slice q1 d.ptrs.length c1, .int .i64 d.elem, .slice q2 d.eptrs.length c2] 24)) #[.int .i64 0, .slice none 0 0, .int .i64 0, .slice none 0 0] 24
  have hsz : w1.heap.size = w.heap.size + 2 := by rw [hw1]; simp
  have HS := Lib.hid hsz
  clear hsz
  go_enter Tryd.func44, Tryd.ntmps44
  go_wp2_with fail
  rw [← hw1]
  clear hw1
  refine wp_regionZ (fun W => HasBlk w.heap.size #[.int .i64 d.size, .slice q1 d.ptrs.length c1, .int .i64 d.elem, .slice q2 d.eptrs.length c2] 24 W) (fun j => decide (6 < j)) (by kernel_rfl) ?_
  have hC0 := hx.drew
  refine wpAnyZ_take 0 (.pointer (some ⟨w.heap.size, 1, none⟩)) rfl (by kernel_rfl) (by kernel_rfl) (fun _ _ _ h => h) hC0 (fun W hW => by go_simp) ?_
  go_simp
  refine wpAnyZ_take 1 (.slice q1 d.ptrs.length c1) rfl (by kernel_rfl) (by kernel_rfl) (fun _ _ _ h => h) hC0 (fun W hW => by obtain ⟨g1, g2, g3, g4⟩ := four_cells hW.out; go_simp) ?_
  go_simp
  refine wpAnyZ_take 3 (.pointer (some ⟨w.heap.size, 3, none⟩)) rfl (by kernel_rfl) (by kernel_rfl) (fun _ _ _ h => h) hC0 (fun W hW => by go_simp) ?_
  go_simp
  refine wpAnyZ_take 4 (.slice q2 d.eptrs.length c2) rfl (by kernel_rfl) (by kernel_rfl) (fun _ _ _ h => h) hC0 (fun W hW => by obtain ⟨g1, g2, g3, g4⟩ := four_cells hW.out; go_simp) ?_
  go_simp
  have hs1 := HS.out
  have hC1 := clone_any (w := w1.drew) (h1.below (hb1.drew.mono hn))
  refine wpAnyZ_act 2 rfl (by kernel_rfl) (by kernel_rfl) ?_
  go_simp
  refine hC1.mono ?_
  clear hC1
  rintro e wA ⟨va, rfl, hra, hbA⟩
  have hsA : w.heap.size + 2 ≤ wA.heap.size := by have := hbA.size; rw [← hs1]; exact this
  replace hC0 := hC0.below hbA (by show w.heap.size < w1.heap.size; omega)
  have hyA := hy.drew.below hbA (by show w.heap.size + 1 < w1.heap.size; omega)
  have hBA := kept_trans hb1.drew hbA
  refine ⟨hC0, ?_⟩
  go_simp
  refine wpAnyZ_take 6 (.pointer (some ⟨w.heap.size, 1, none⟩)) rfl (by kernel_rfl) (by kernel_rfl) (fun _ _ _ h => h) hC0 (fun W hW => by go_simp) ?_
  go_simp
  have hC2 := clone_any (w := wA) (h2.below (hBA.mono hn))
  refine wpAnyZ_act 5 rfl (by kernel_rfl) (by kernel_rfl) ?_
  go_simp
  refine hC2.mono ?_
  clear hC2
  rintro e wB ⟨vb, rfl, hrb, hbB⟩
  have hsB := hbB.size
  replace hC0 := hC0.below hbB (by omega)
  have hyB := hyA.below hbB (by omega)
  have hBB := kept_trans hBA hbB
  replace hra := owns_kept hra hbB
  refine ⟨hC0, ?_⟩
  have hBw : w.heap.size ≤ w1.drew.heap.size := hb1.size
  clear hbA hbB hBA hb1 hy hyA hx
  obtain ⟨aa, ca, rfl, hca⟩ := owns_open hra
  obtain ⟨ab, cb, rfl, hcb⟩ := owns_open hrb
  obtain ⟨x0, x1, x2, x3⟩ := four_cells hC0.out
  have f0 := row_frozen4 hC0.out 0
  have f1 := row_frozen4 hC0.out 1
  have f2 := row_frozen4 hC0.out 2
  have f3 := row_frozen4 hC0.out 3
  have HRA := Lib.hid hra
  have HRB := Lib.hid hrb
  clear hra hrb
  go_simp
  refine wpAnyZ_act 7 rfl (by kernel_rfl) (by kernel_rfl) ?_
  go_simp
  refine wpAnyZ_act 8 rfl (by kernel_rfl) (by kernel_rfl) ?_
  go_simp
  refine wpAnyZ_act 9 rfl (by kernel_rfl) (by kernel_rfl) ?_
  go_simp
  refine wpAnyZ_done (by kernel_rfl) ?_
  have hz := write13 hC0.out (.slice aa d.ptrs.length ca) (.slice ab d.eptrs.length cb)
  obtain ⟨wC, hwC⟩ : ∃ y, y = (wB.setCell ⟨w.heap.size, 1, none⟩ (.slice aa d.ptrs.length ca)).setCell ⟨w.heap.size, 3, none⟩ (.slice ab d.eptrs.length cb) := ⟨_, rfl⟩
  have hOC : Only (fun b => b = w.heap.size ∨ b = w.heap.size + 1) wB wC := by rw [hwC]; exact ((Only.refl _ _).setCell (p := ⟨w.heap.size, 1, none⟩) (.inl (.inl rfl)) _).setCell (p := ⟨w.heap.size, 3, none⟩) (.inl (.inl rfl)) _
  have hyC : HasBlk (w.heap.size + 1) #[.int .i64 0, .slice none 0 0, .int .i64 0, .slice none 0 0] 24 wC := by
    rw [hwC]; exact blk_other (blk_other hyB.out (by simp)) (by simp)
  rw [← hwC] at hz ⊢
  clear x0 x1 x2 x3 f0 f1 f2 f3 hwC hC0 hyB
  obtain ⟨x0, x1, x2, x3⟩ := four_cells hz
  obtain ⟨y0, y1, y2, y3⟩ := four_cells hyC.out
  have f0 := row_frozen4 hyC.out 0
  have f1 := row_frozen4 hyC.out 1
  have f2 := row_frozen4 hyC.out 2
  have f3 := row_frozen4 hyC.out 3
  have HY := Lib.hid (write4 hyC.out (.int .i64 d.size) (.slice aa d.ptrs.length ca) (.int .i64 d.elem) (.slice ab d.eptrs.length cb))
  have hOD := ((((hOC.setCell (p := ⟨w.heap.size + 1, 0, none⟩) (.inl (.inr rfl)) (.int .i64 d.size)).setCell (p := ⟨w.heap.size + 1, 1, none⟩) (.inl (.inr rfl)) (.slice aa d.ptrs.length ca)).setCell (p := ⟨w.heap.size + 1, 2, none⟩) (.inl (.inr rfl)) (.int .i64 d.elem)).setCell (p := ⟨w.heap.size + 1, 3, none⟩) (.inl (.inr rfl)) (.slice ab d.eptrs.length cb))
  have HR := Lib.hid (h1.len)
  have HR2 := Lib.hid (h2.len)
  have HX := Lib.hid (fun x (hx : x ∈ d.ptrs) => h1.range hx)
  have HX2 := Lib.hid (fun x (hx : x ∈ d.eptrs) => h2.range hx)
  clear hz hyC h1 h2
  go_wp2
  obtain ⟨r0, r1, r2, r3⟩ := four_cells HY.out
  refine bodyPost_ret (v := .agg #[.int .i64 d.size, .slice aa d.ptrs.length ca, .int .i64 d.elem, .slice ab d.eptrs.length cb]) ?_ rfl ⟨_, _, rfl, ⟨i1, i2, HR.out, HR2.out, HX.out, HX2.out, ?_, ?_⟩, ?_⟩
  · clear x0 x1 x2 x3 y0 y1 y2 y3
    simp [results, Tryd.results44, go_sem, r0, r1, r2, r3]
  · refine base_owns (owns_only HRA.out hOD (fun b hb h => ?_)) hBw
    have h1 := (HRA.out.lt b h).1
    have h2 : w1.drew.heap.size = w1.heap.size := rfl
    have h3 := HS.out
    have hb' : b = w.heap.size ∨ b = w.heap.size + 1 := hb
    omega
  · refine base_owns (owns_only HRB.out hOD (fun b hb h => ?_)) (by omega)
    have h1 := (HRB.out.lt b h).1
    have hb' : b = w.heap.size ∨ b = w.heap.size + 1 := hb
    omega
  · exact hBB.trans (hOD.below hBB.size (fun k hk hS => by omega))
end Go.Proofs.YtjhmghcfhgajcaaDoor

/- Contracts of kinds.own, Of, Add. -/
namespace Go.Sel
open Go Go.RowKit
theorem rows_apart {w : World} {B B' e e' s s' : Nat} {v v' : Value} {n n' : Nat} {xs ys : List Value} (h : w.ownsRow B e s v n xs) (h' : w.ownsRow B' e' s' v' n' ys) (he : e ≠ e') (g : Nat) (hg : v.ownBlock = some g) : v'.ownBlock ≠ some g := fun hg' => by
  rcases h.2 with ⟨rfl, _⟩ | ⟨g1, c1, cur, rfl, _, h1, _⟩
  · cases hg
  · cases hg
    rcases h'.2 with ⟨rfl, _⟩ | ⟨g2, c2, cur2, rfl, _, h2, _⟩
    · cases hg'
    · cases hg'
      rw [h1] at h2
      cases h2
      exact he rfl
theorem cells_new_add (w : World) {cs : Array Value} {t : Nat} (j : Nat) (u : Value) (h : cs.toList[j]? = some u) : (w.alloc (.cells cs t)).cell? ((⟨w.heap.size, 0, none⟩ : Addr).add j) = some u := by
  have := cell_new_cells w (cs := cs) (t := t) (j := j) (u := u) (by rw [← h]; simp)
  rcases Nat.eq_zero_or_pos j with rfl | hp
  · simpa [Addr.add] using this
  · have hj' : ¬ j = 0 := by omega
    simpa [Addr.add, hj'] using this
end Go.Sel
namespace Go.Proofs.YtjhmghcfhgajcaaDoor
open Go.RowKit Go.Sel
theorem infoDesc : (Tryd.prog.info? 24).map (fun i => (i.zero, i.size, i.bytes)) = some (some (.agg #[.int .i64 0, .slice none 0 0, .int .i64 0, .slice none 0 0]), 4, 64) := by kernel_rfl
/-- Descriptors, in memory of the call's own. -/
def OwnDs (B : Nat) (ov : Value) (ds : List DescL) (w : World) : Prop :=
  ∃ cells, w.ownsRow B 24 4 ov ds.length cells ∧ ∀ (j : Nat) (d : DescL), ds[j]? = some d → ∃ s1 s2, cells[j * 4]? = some (.int .i64 d.size) ∧ cells[j * 4 + 1]? = some s1 ∧ cells[j * 4 + 2]? = some (.int .i64 d.elem) ∧ cells[j * 4 + 3]? = some s2 ∧ OwnD B d s1 s2 w
theorem OwnDs.nil (B : Nat) (w : World) : OwnDs B (.slice none 0 0) [] w := ⟨[], World.ownsRow_nil _ _ _ _, fun j d h => by cases h⟩
theorem OwnDs.is {B : Nat} {ov : Value} {ds : List DescL} {w : World} (h : OwnDs B ov ds w) (hl : ds.length ≤ big) : IsDescs w.heap.size w ov ds := by
  obtain ⟨cells, hr, he⟩ := h
  obtain ⟨a, c, rfl, hc⟩ := owns_open hr
  refine ⟨a, c, rfl, hc, hl, fun j d hj => ?_⟩
  have hp : 0 < ds.length := by have := (List.getElem?_eq_some_iff.1 hj).1; omega
  obtain ⟨g, c', e1, _, _, hg⟩ := owns_some hr hp
  cases e1
  have hcell := hr.cells (g := g) rfl
  have hc' : ∀ (i : Nat) (u : Value), cells[i]? = some u → w.cell? ⟨g, 0 + i, none⟩ = some u := fun i u hi => by
    have := hcell i u hi
    rcases Nat.eq_zero_or_pos i with rfl | hp
    · simpa [Addr.add] using this
    · have hj' : ¬ i = 0 := by omega
      simpa [Addr.add, hj'] using this
  obtain ⟨s1, s2, k0, k1, k2, k3, ho⟩ := he j d hj
  obtain ⟨v1, v2, e2, i1, i2, h1, h2⟩ := ho.is
  simp only [Value.agg.injEq] at e2
  cases e2
  exact ⟨g, 0, rfl, hg, s1, s2, hc' _ _ k0, by rw [Nat.add_assoc]; exact hc' _ _ k1, by rw [Nat.add_assoc]; exact hc' _ _ k2, by rw [Nat.add_assoc]; exact hc' _ _ k3, i1, i2, h1, h2⟩
theorem OwnDs.kept {B : Nat} {ov : Value} {ds : List DescL} {w w' : World} (h : OwnDs B ov ds w) (hb : Below w.heap.size w w') : OwnDs B ov ds w' := by
  obtain ⟨cells, hr, he⟩ := h
  refine ⟨cells, owns_kept hr hb, fun j d hj => ?_⟩
  obtain ⟨s1, s2, k0, k1, k2, k3, ho⟩ := he j d hj
  exact ⟨s1, s2, k0, k1, k2, k3, ho.only (Only.of_below (S := fun _ => False) hb) (fun _ h => h.elim) (fun _ h => h.elim)⟩
theorem OwnD.base {B B' : Nat} {d : DescL} {s1 s2 : Value} {w : World} (h : OwnD B' d s1 s2 w) (hb : B ≤ B') : OwnD B d s1 s2 w :=
  ⟨h.1, h.2.1, h.2.2.1, h.2.2.2.1, h.2.2.2.2.1, h.2.2.2.2.2.1, base_owns h.2.2.2.2.2.2.1 hb, base_owns h.2.2.2.2.2.2.2 hb⟩
/-- One more, behind an append. -/
theorem OwnDs.push {B : Nat} {ov ov' s1 s2 : Value} {ds : List DescL} {d : DescL} {w w' : World} {cells : List Value} (hr : w.ownsRow B 24 4 ov ds.length cells)
    (he : ∀ (j : Nat) (d : DescL), ds[j]? = some d → ∃ s1 s2, cells[j * 4]? = some (.int .i64 d.size) ∧ cells[j * 4 + 1]? = some s1 ∧ cells[j * 4 + 2]? = some (.int .i64 d.elem) ∧ cells[j * 4 + 3]? = some s2 ∧ OwnD B d s1 s2 w)
    (hd : OwnD B d s1 s2 w) (hown : w'.ownsRow B 24 4 ov' (ds.length + 1) (cells ++ [.int .i64 d.size, s1, .int .i64 d.elem, s2])) (hgrow : w.grownBy w' ov.ownBlock) : OwnDs B ov' (ds ++ [d]) w' := by
  have hl : cells.length = ds.length * 4 := hr.1
  have hO : Only (fun b => ov.ownBlock = some b) w w' := (Only.refl _ w).grown hgrow (fun k hk => .inl hk)
  have up : ∀ (d : DescL) (s1 s2 : Value), OwnD B d s1 s2 w → OwnD B d s1 s2 w' := fun d s1 s2 h =>
    h.only hO (fun g hg => rows_apart hr h.2.2.2.2.2.2.1 (by decide) g hg) (fun g hg => rows_apart hr h.2.2.2.2.2.2.2 (by decide) g hg)
  refine ⟨_, by rw [List.length_append]; exact hown, fun j x hj => ?_⟩
  rcases Nat.lt_or_ge j ds.length with hlt | hge
  · rw [List.getElem?_append_left hlt] at hj
    obtain ⟨t1, t2, k0, k1, k2, k3, ho⟩ := he j x hj
    exact ⟨t1, t2, by rw [List.getElem?_append_left (by omega)]; exact k0, by rw [List.getElem?_append_left (by omega)]; exact k1, by rw [List.getElem?_append_left (by omega)]; exact k2, by rw [List.getElem?_append_left (by omega)]; exact k3, up _ _ _ ho⟩
  · rw [List.getElem?_append_right hge] at hj
    have hj0 : j - ds.length = 0 := by have := (List.getElem?_eq_some_iff.1 hj).1; simp at this; omega
    rw [hj0] at hj
    cases hj
    obtain rfl : j = ds.length := by omega
    refine ⟨s1, s2, ?_, ?_, ?_, ?_, up _ _ _ hd⟩
    · rw [List.getElem?_append_right (by omega), hl, Nat.sub_self]; rfl
    · rw [List.getElem?_append_right (by omega), hl, show ds.length * 4 + 1 - ds.length * 4 = 1 by omega]; rfl
    · rw [List.getElem?_append_right (by omega), hl, show ds.length * 4 + 2 - ds.length * 4 = 2 by omega]; rfl
    · rw [List.getElem?_append_right (by omega), hl, show ds.length * 4 + 3 - ds.length * 4 = 3 by omega]; rfl
/-- own's answer. -/
def OwnKPost (ds : List DescL) (w : World) (e : Ending) (w' : World) : Prop := ∃ v, e = .returned v ∧ OwnDs w.heap.size v ds w' ∧ Below w.heap.size w w'
set_option maxRecDepth 100000 in
set_option maxHeartbeats 2000000 in
theorem ownK_any {n : Nat} {ds : List DescL} {v : Value} {w : World} (h : IsDescs n w v ds) (hn : n ≤ w.heap.size) (hl : ds.length ≤ 100) :
    Calls Tryd.prog 46 #[v] w (OwnKPost ds w) := by
  obtain ⟨a, c, rfl, hc⟩ := h.open
  obtain ⟨i0, hi, hz0, hz1, hz2⟩ := parts_info infoDesc
  go_enter Tryd.func46, Tryd.ntmps46
  go_wp2
  go_loopw [3, 5, 8] (fun ov _ i wr => ∃ k : Nat, k ≤ ds.length ∧ i = .int .i64 k ∧ OwnDs w.heap.size ov (ds.take k) wr ∧ Below w.heap.size w wr) (fun _ _ i _ => ds.length - (intOf i).toNat)
  case atStart => exact ⟨0, Nat.zero_le _, rfl, OwnDs.nil _ _, Below.refl _ _⟩
  case round =>
    obtain ⟨k, hk, rfl, hown, hb⟩ := hrel
    by_cases hlt : k < ds.length
    · obtain ⟨x, b, o, g1, k1, g2, k2, hx, rfl, hbn, z0, z1, z2, z3, hxd⟩ := (h.below (hb.mono hn)).atS hlt
      obtain ⟨w1, hw1⟩ : ∃ y, y = wr.alloc (Obj.cells #[.int .i64 x.size, .slice g1 x.ptrs.length k1, .int .i64 x.elem, .slice g2 x.eptrs.length k2] 24) := ⟨_, rfl⟩
      have hb1 : Below wr.heap.size wr w1 := by rw [hw1]; exact kept_alloc (Below.refl _ _) _
      have hC0 : HasBlk wr.heap.size #[.int .i64 x.size, .slice g1 x.ptrs.length k1, .int .i64 x.elem, .slice g2 x.eptrs.length k2] 24 w1 := by rw [hw1]; exact HasBlk.new wr _ _
      have hbw := kept_trans hb hb1
      have hCl := cloneD_any (w := w1) (hxd.below (hb1.mono (Nat.le_trans hn hb.size))) (Nat.le_trans hn hbw.size)
      have HX := Lib.hid (take_snoc hx)
      have hlk : (ds.take k).length = k := by rw [List.length_take]; omega
      have HK := Lib.hid hlk
      obtain ⟨cells, hr, he⟩ := hown.kept hb1
      obtain ⟨oa, oc, rfl, hoc⟩ := owns_open hr
      rw [hlk] at hoc ⊢
      have HR := Lib.hid hr
      have HE := Lib.hid he
      obtain ⟨y0, y1, y2, y3⟩ := four_cells hC0.out
      rw [hw1] at y0 y1 y2 y3
      clear hx hxd h hown hlk he hr
      go_wp2_with fail
      rw [← hw1]
      clear hw1 y0 y1 y2 y3 z0 z1 z2 z3
      refine hCl.mono ?_
      clear hCl
      rintro e w2 ⟨s1, s2, rfl, hod, hb2⟩
      obtain ⟨oa1, oc1, rfl, -⟩ := owns_open hod.2.2.2.2.2.2.1
      obtain ⟨oa2, oc2, rfl, -⟩ := owns_open hod.2.2.2.2.2.2.2
      have hod' := hod.base hbw.size
      have hbw2 := kept_trans hbw hb2
      have hba : Below w2.heap.size w2 (w2.alloc (Obj.cells #[.int .i64 x.size, .slice oa1 x.ptrs.length oc1, .int .i64 x.elem, .slice oa2 x.eptrs.length oc2] 24)) := kept_alloc (Below.refl _ _) _
      have hrow : (w2.alloc (Obj.cells #[.int .i64 x.size, .slice oa1 x.ptrs.length oc1, .int .i64 x.elem, .slice oa2 x.eptrs.length oc2] 24)).ownsRow w.heap.size 24 4 (.slice oa k oc) k cells := by have := owns_kept HR.out (kept_trans hb2 hba); rw [HK.out] at this; exact this
      have HA := Lib.hid (show ∀ (j : Nat) (d : DescL), (ds.take k)[j]? = some d → ∃ s1 s2, cells[j * 4]? = some (.int .i64 d.size) ∧ cells[j * 4 + 1]? = some s1 ∧ cells[j * 4 + 2]? = some (.int .i64 d.elem) ∧ cells[j * 4 + 3]? = some s2 ∧ OwnD w.heap.size d s1 s2 (w2.alloc (Obj.cells #[.int .i64 x.size, .slice oa1 x.ptrs.length oc1, .int .i64 x.elem, .slice oa2 x.eptrs.length oc2] 24)) from fun j d hj => by
        obtain ⟨t1, t2, k0, k1, k2, k3, ho⟩ := HE.out j d hj
        exact ⟨t1, t2, k0, k1, k2, k3, ho.only (Only.of_below (S := fun _ => False) (kept_trans hb2 hba)) (fun _ h => h.elim) (fun _ h => h.elim)⟩)
      have HO := Lib.hid (hod'.only (Only.of_below (S := fun _ => False) hba) (fun _ h => h.elim) (fun _ h => h.elim))
      have hsz2 := hbw2.size
      clear HR HE hod hod'
      go_wp2_with (at_builtin; refine wpList_append_own _ rfl _ _ 41 rfl w.heap.size 24 i0 (.agg #[.int .i64 0, .slice none 0 0, .int .i64 0, .slice none 0 0]) 4 64 Tryd.underlying41 hi hz0 hz1 hz2 rfl (by decide) _ _ _ rfl hrow ⟨w2.heap.size, 0, none⟩ 1 1 [.int .i64 x.size, .slice oa1 x.ptrs.length oc1, .int .i64 x.elem, .slice oa2 x.eptrs.length oc2] rfl rfl (cells_new_add _) (by simp [Value.oneCell']) (by unfold maxLen; omega) (by omega) (by simp; omega) ?_; intro v' w4 hown4 hgrow4 hnil4)
      have hP : OwnDs w.heap.size v' (ds.take (k + 1)) w4 := by
        rw [HX.out]
        exact OwnDs.push (by rw [HK.out]; exact hrow) HA.out HO.out (by rw [HK.out]; exact hown4) hgrow4
      go_roundw
      case rel => exact ⟨k + 1, by omega, by go_num, hP, (kept_alloc hbw2 _).grown hgrow4 (by simp; omega) (fun j hj => (hrow.lt j hj).1)⟩
      case measure => simp [intOf]; omega
    · rw [List.take_of_length_le (by omega)] at hown
      obtain ⟨cells, hr, he⟩ := id hown
      obtain ⟨oa, oc, rfl, hoc⟩ := owns_open hr
      clear h hr he
      go_wp2
      go_ret
      exact ⟨_, rfl, hown, hb⟩
end Go.Proofs.YtjhmghcfhgajcaaDoor

/- Contract of kinds.Of. -/
namespace Go.Proofs.YtjhmghcfhgajcaaDoor
open Go.RowKit Go.Sel
def OfPost (l : List DescL) (k : Int) (w : World) (e : Ending) (w' : World) : Prop :=
  ∃ v, e = .returned (.tuple #[v, .int .i64 (ofK l k).2]) ∧ IsDesc w'.heap.size w' v ((ofK l k).1.getD zeroDesc) ∧ Below w.heap.size w w'
set_option maxRecDepth 100000 in
set_option maxHeartbeats 2000000 in
theorem ofK_any {n : Nat} {ds : List DescL} {v : Value} {w : World} (k : Int) (hk64 : I64 k) (h : IsDescs n w v ds) (hn : n ≤ w.heap.size) :
    Calls Tryd.prog 22 #[v, .int .i64 k] w (OfPost ds k w) := by
  obtain ⟨a, c, rfl, hc⟩ := h.open
  have hl := h.len
  unfold big at hl
  unfold I64 at hk64
  obtain ⟨w1, hw1⟩ : ∃ y, y = w.alloc (Obj.cells #[.int .i64 0, .slice none 0 0, .int .i64 0, .slice none 0 0] 24) := ⟨_, rfl⟩
  have hb1 : Below w.heap.size w w1 := by rw [hw1]; exact kept_alloc (Below.refl _ _) _
  have hC0 : HasBlk w.heap.size #[.int .i64 0, .slice none 0 0, .int .i64 0, .slice none 0 0] 24 w1 := by rw [hw1]; exact HasBlk.new w _ _
  have hR := rightK_any (h.below (hb1.mono hn)) (Nat.le_trans hn hb1.size)
  have h1 := h.below (hb1.mono hn)
  clear h
  go_enter Tryd.func22, Tryd.ntmps22
  go_wp2_with fail
  rw [← hw1]
  clear hw1
  refine hR.mono ?_
  clear hR
  rintro e w2 ⟨rfl, hb2⟩
  replace hC0 := hC0.below hb2 (Array.getElem?_eq_some_iff.1 hC0.out).1
  have hB := kept_trans hb1 hb2
  replace h1 := h1.below (hb2.mono (Nat.le_trans hn hb1.size))
  clear hb1 hb2
  have hsB := hB.size
  obtain ⟨x0, x1, x2, x3⟩ := four_cells hC0.out
  have f0 := row_frozen4 hC0.out 0
  have f1 := row_frozen4 hC0.out 1
  have f2 := row_frozen4 hC0.out 2
  have f3 := row_frozen4 hC0.out 3
  cases hr : rightK ds with
  | false =>
    have HE := Lib.hid (show ofK ds k = (none, 50) by unfold ofK; rw [if_neg (by rw [hr]; decide)])
    have HY := Lib.hid (write4 hC0.out (.int .i64 0) (.slice none 0 0) (.int .i64 0) (.slice none 0 0))
    clear hC0 hr h1
    go_wp2
    obtain ⟨r0, r1, r2, r3⟩ := four_cells HY.out
    refine bodyPost_ret (v := .tuple #[.agg #[.int .i64 0, .slice none 0 0, .int .i64 0, .slice none 0 0], .int .i64 50]) ?_ rfl ⟨_, by rw [HE.out], ?_, ?_⟩
    · clear x0 x1 x2 x3
      simp [results, Tryd.results22, go_sem, r0, r1, r2, r3]
    · rw [HE.out]; exact ⟨_, _, rfl, i64_zero, i64_zero, IsSl.nil, IsSl.nil⟩
    · exact (((hB.setCell (p := ⟨w.heap.size, 0, none⟩) (Nat.le_refl _) _).setCell (p := ⟨w.heap.size, 1, none⟩) (Nat.le_refl _) _).setCell (p := ⟨w.heap.size, 2, none⟩) (Nat.le_refl _) _).setCell (p := ⟨w.heap.size, 3, none⟩) (Nat.le_refl _) _
  | true =>
    by_cases hbad : k < 1 ∨ (ds.length : Int) < k
    · have HE := Lib.hid (show ofK ds k = (none, 51) by unfold ofK; rw [if_pos hr, if_pos hbad])
      have HY := Lib.hid (write4 hC0.out (.int .i64 0) (.slice none 0 0) (.int .i64 0) (.slice none 0 0))
      clear hC0 hr h1
      by_cases hk1 : k < 1
      all_goals
        try have hk2 : (ds.length : Int) < k := by omega
        clear hbad
        go_wp2
        obtain ⟨r0, r1, r2, r3⟩ := four_cells HY.out
        refine bodyPost_ret (v := .tuple #[.agg #[.int .i64 0, .slice none 0 0, .int .i64 0, .slice none 0 0], .int .i64 51]) ?_ rfl ⟨_, by rw [HE.out], ?_, ?_⟩
        · clear x0 x1 x2 x3
          simp [results, Tryd.results22, go_sem, r0, r1, r2, r3]
        · rw [HE.out]; exact ⟨_, _, rfl, i64_zero, i64_zero, IsSl.nil, IsSl.nil⟩
        · exact (((hB.setCell (p := ⟨w.heap.size, 0, none⟩) (Nat.le_refl _) _).setCell (p := ⟨w.heap.size, 1, none⟩) (Nat.le_refl _) _).setCell (p := ⟨w.heap.size, 2, none⟩) (Nat.le_refl _) _).setCell (p := ⟨w.heap.size, 3, none⟩) (Nat.le_refl _) _
    · obtain ⟨j, rfl⟩ : ∃ j : Nat, k = (j : Int) + 1 := ⟨(k - 1).toNat, by omega⟩
      have hj : j < ds.length := by omega
      obtain ⟨x, b, o, g1, k1, g2, k2, hx, rfl, hbn, z0, z1, z2, z3, hxd⟩ := h1.atS hj
      have HE := Lib.hid (show ofK ds ((j : Int) + 1) = (some x, 0) by
        unfold ofK
        rw [if_pos hr, if_neg hbad, show ((j : Int) + 1 - 1).toNat = j by omega, hx])
      have hCl := cloneD_any hxd (Nat.le_trans hn hsB)
      have q1 : ¬ (j : Int) + 1 < 1 := by omega
      have q2 : ¬ (ds.length : Int) < (j : Int) + 1 := by omega
      have q3 : IntKind.i64.wrap ((j : Int) + 1 - 1) = (j : Int) := by rw [IntWalk.i64_in _ (by omega)]; omega
      have hwr : w.heap.size < w2.heap.size := (Array.getElem?_eq_some_iff.1 hC0.out).1
      clear hx hxd h1 hr hbad x0 x1 x2 x3 f0 f1 f2 f3
      go_wp2_with fail
      refine hCl.mono ?_
      clear hCl
      rintro e w3 ⟨s1, s2, rfl, hod, hb3⟩
      obtain ⟨oa1, oc1, rfl, -⟩ := owns_open hod.2.2.2.2.2.2.1
      obtain ⟨oa2, oc2, rfl, -⟩ := owns_open hod.2.2.2.2.2.2.2
      replace hC0 := hC0.below hb3 hwr
      have hB3 := kept_trans hB hb3
      obtain ⟨x0, x1, x2, x3⟩ := four_cells hC0.out
      have f0 := row_frozen4 hC0.out 0
      have f1 := row_frozen4 hC0.out 1
      have f2 := row_frozen4 hC0.out 2
      have f3 := row_frozen4 hC0.out 3
      have HY := Lib.hid (write4 hC0.out (.int .i64 x.size) (.slice oa1 x.ptrs.length oc1) (.int .i64 x.elem) (.slice oa2 x.eptrs.length oc2))
      have HO := Lib.hid hod
      clear hC0 hod z0 z1 z2 z3 hb3
      go_wp2
      obtain ⟨r0, r1, r2, r3⟩ := four_cells HY.out
      refine bodyPost_ret (v := .tuple #[.agg #[.int .i64 x.size, .slice oa1 x.ptrs.length oc1, .int .i64 x.elem, .slice oa2 x.eptrs.length oc2], .int .i64 0]) ?_ rfl ⟨_, by rw [HE.out], ?_, ?_⟩
      · clear x0 x1 x2 x3
        simp [results, Tryd.results22, go_sem, r0, r1, r2, r3]
      · rw [HE.out]
        have hO : Only (fun b => b = w.heap.size) w3 ((((w3.setCell ⟨w.heap.size, 0, none⟩ (.int .i64 x.size)).setCell ⟨w.heap.size, 1, none⟩ (.slice oa1 x.ptrs.length oc1)).setCell ⟨w.heap.size, 2, none⟩ (.int .i64 x.elem)).setCell ⟨w.heap.size, 3, none⟩ (.slice oa2 x.eptrs.length oc2)) :=
          ((((Only.refl (fun b => b = w.heap.size) _).setCell (p := ⟨w.heap.size, 0, none⟩) (.inl rfl) _).setCell (p := ⟨w.heap.size, 1, none⟩) (.inl rfl) _).setCell (p := ⟨w.heap.size, 2, none⟩) (.inl rfl) _).setCell (p := ⟨w.heap.size, 3, none⟩) (.inl rfl) _
        exact (HO.out.only hO (fun g hg e => by have h1 := (HO.out.2.2.2.2.2.2.1.lt g e).1; have hg' : g = w.heap.size := hg; omega) (fun g hg e => by have h1 := (HO.out.2.2.2.2.2.2.2.lt g e).1; have hg' : g = w.heap.size := hg; omega)).is
      · exact (((hB3.setCell (p := ⟨w.heap.size, 0, none⟩) (Nat.le_refl _) _).setCell (p := ⟨w.heap.size, 1, none⟩) (Nat.le_refl _) _).setCell (p := ⟨w.heap.size, 2, none⟩) (Nat.le_refl _) _).setCell (p := ⟨w.heap.size, 3, none⟩) (Nat.le_refl _) _
end Go.Proofs.YtjhmghcfhgajcaaDoor

/- Contract of kinds.Add. -/
namespace Go.Sel
open Go Go.RowKit
theorem olds_of {n b o c : Nat} {w : World} {ds : List DescL} (h : IsDescs n w (.slice (some ⟨b, o, none⟩) ds.length c) ds) :
    ∃ olds : List Value, olds.length = ds.length * 4 ∧ ∀ (j : Nat) (v : Value), olds[j]? = some v → w.cell? ⟨b, o + j, none⟩ = some v := by
  have hs : ∀ j, j < ds.length * 4 → ∃ v, w.cell? ⟨b, o + j, none⟩ = some v := fun j hj => by
    obtain ⟨d, b', o', v1, v2, _, e, _, z0, z1, z2, z3, _⟩ := h.at (k := j / 4) (by omega)
    cases e
    have hj4 : j = j / 4 * 4 + j % 4 := by omega
    have h4 : j % 4 < 4 := Nat.mod_lt _ (by decide)
    generalize j / 4 = q at *
    generalize j % 4 = r at *
    subst hj4
    rcases r with _ | _ | _ | _ | r
    · exact ⟨_, z0⟩
    · exact ⟨_, z1⟩
    · exact ⟨_, z2⟩
    · exact ⟨_, z3⟩
    · omega
  refine ⟨(List.range (ds.length * 4)).map fun j => (w.cell? ⟨b, o + j, none⟩).getD undef, by simp, fun j v hj => ?_⟩
  have hlt : j < ds.length * 4 := by have := (List.getElem?_eq_some_iff.1 hj).1; simpa using this
  obtain ⟨u, hu⟩ := hs j hlt
  rw [List.getElem?_map, List.getElem?_range hlt] at hj
  simp only [Option.map_some, Option.some.injEq] at hj
  rw [← hj, hu]
  rfl
theorem add_plain (b o j : Nat) : (⟨b, o, none⟩ : Addr).add j = ⟨b, o + j, none⟩ := by
  rcases Nat.eq_zero_or_pos j with rfl | hp
  · simp [Addr.add]
  · have hj' : ¬ j = 0 := by omega
    simp [Addr.add, hj']
/-- A row of descriptors and one more, in a new block. -/
theorem descs_new {n b o c cap : Nat} {w w' : World} {t : TypeId} {ds : List DescL} {d : DescL} {v1 v2 : Value} {olds : List Value} {rest : Array Value} (h : 0 < ds.length → IsDescs n w (.slice (some ⟨b, o, none⟩) ds.length c) ds) (hl : ds.length < 100)
    (h1 : olds.length = ds.length * 4) (h2 : ∀ (j : Nat) (v : Value), olds[j]? = some v → w.cell? ⟨b, o + j, none⟩ = some v) (hd : IsDesc n w (.agg #[.int .i64 d.size, v1, .int .i64 d.elem, v2]) d) (hn : n ≤ w.heap.size) (hcap : ds.length + 1 ≤ cap)
    (hw' : w' = w.drew.alloc (.cells (olds.toArray ++ #[.int .i64 d.size, v1, .int .i64 d.elem, v2] ++ rest) t)) : IsDescs w'.heap.size w' (.slice (some ⟨w.heap.size, 0, none⟩) (ds.length + 1) cap) (ds ++ [d]) := by
  have hb : Below w.heap.size w w' := by rw [hw']; exact kept_alloc (Below.refl _ _).drew _
  have hs : w'.heap.size = w.heap.size + 1 := by rw [hw']; simp
  have hc : ∀ (i : Nat) (u : Value), (olds.toArray ++ #[.int .i64 d.size, v1, .int .i64 d.elem, v2] ++ rest)[i]? = some u → w'.cell? ⟨w.heap.size, 0 + i, none⟩ = some u := fun i u hi => by
    rw [hw', Nat.zero_add]
    exact cell_new_cells w.drew hi
  refine ⟨some ⟨w.heap.size, 0, none⟩, cap, by rw [List.length_append, List.length_singleton], by rw [List.length_append, List.length_singleton]; exact hcap, by rw [List.length_append, List.length_singleton]; unfold big; omega, fun j x hj => ⟨w.heap.size, 0, rfl, by omega, ?_⟩⟩
  rcases Nat.lt_or_ge j ds.length with hlt | hge
  · rw [List.getElem?_append_left hlt] at hj
    obtain ⟨y, b', o', u1, u2, hy, e, _, z0, z1, z2, z3, hD⟩ := (h (by omega)).at hlt
    cases e
    rw [hj] at hy
    cases hy
    obtain ⟨_, _, e, i1, i2, g1, g2⟩ := (hD.below (hb.mono hn)).wider (Nat.le_trans hn (by omega : w.heap.size ≤ w'.heap.size))
    simp only [Value.agg.injEq] at e
    cases e
    have hg : ∀ i u, i < ds.length * 4 → w.cell? ⟨b, o + i, none⟩ = some u → w'.cell? ⟨w.heap.size, 0 + i, none⟩ = some u := fun i u hi hu => hc i u (by
      have : i < olds.length := by omega
      have h3 := h2 i olds[i] (List.getElem?_eq_getElem this)
      rw [hu] at h3
      rw [Array.getElem?_append_left (by simp; omega), Array.getElem?_append_left (by simpa using this)]
      simp [this, Option.some.inj h3])
    exact ⟨u1, u2, hg (j * 4) _ (by omega) z0, by rw [Nat.add_assoc]; exact hg (j * 4 + 1) _ (by omega) z1, by rw [Nat.add_assoc]; exact hg (j * 4 + 2) _ (by omega) z2, by rw [Nat.add_assoc]; exact hg (j * 4 + 3) _ (by omega) z3, i1, i2, g1, g2⟩
  · rw [List.getElem?_append_right hge] at hj
    have hj0 : j - ds.length = 0 := by have := (List.getElem?_eq_some_iff.1 hj).1; simp at this; omega
    rw [hj0] at hj
    cases hj
    obtain rfl : j = ds.length := by omega
    obtain ⟨_, _, e, i1, i2, g1, g2⟩ := (hd.below (hb.mono hn)).wider (Nat.le_trans hn (by omega : w.heap.size ≤ w'.heap.size))
    simp only [Value.agg.injEq] at e
    cases e
    have hg : ∀ i u, (#[.int .i64 d.size, v1, .int .i64 d.elem, v2] : Array Value)[i]? = some u → w'.cell? ⟨w.heap.size, 0 + (ds.length * 4 + i), none⟩ = some u := fun i u hi => hc _ u (by
      have hi4 : i < 4 := by have := (Array.getElem?_eq_some_iff.1 hi).1; simpa using this
      rw [Array.getElem?_append_left (by simp; omega), Array.getElem?_append_right (by simp; omega)]
      rw [← hi]
      congr 1
      simp; omega)
    exact ⟨v1, v2, hg 0 _ rfl, by rw [Nat.add_assoc]; exact hg 1 _ rfl, by rw [Nat.add_assoc]; exact hg 2 _ rfl, by rw [Nat.add_assoc]; exact hg 3 _ rfl, i1, i2, g1, g2⟩
end Go.Sel
namespace Go.Sel
open Go Go.RowKit
theorem wp_append_run {P : Program} {o : Oper} {a : Act} {w w' : World} {v' : Value} {K : Act → World → Prop} {Q : Exit → Act → World → Prop} (s x : Operand) (t : TypeId) (ho : o.op = .call { callee := .builtin .append, args := #[s, x], argTypes := #[t, t] })
    (vs vx : Value) (hs : a.eval s = vs) (hx : a.eval x = vx) (hr : (Builtin.append_ #[t, t] o.type #[vs, vx]).run P w = .ok v' w') (h : K (a.put o.dst v') w') : o.wp P a w K Q := by
  unfold Oper.wp execOp
  simp only [ho, resolve, invoke, builtin, Sem.run_bind, Sem.run_pure, Result.andThen_ok, List.map_toArray, List.map_cons, List.map_nil, hs, hx, hr]
  exact h
end Go.Sel
namespace Go.Proofs.YtjhmghcfhgajcaaDoor
open Go.RowKit Go.Sel
/-- One more descriptor behind a slice that has no room. -/
theorem append_descs {n B : Nat} {w : World} {a : Option Addr} {c : Nat} {ds : List DescL} {d : DescL} {v1 v2 : Value} (ty : TypeId) (h : IsDescs n w (.slice a ds.length c) ds) (hn : n ≤ w.heap.size) (hl : ds.length < 100) (h0 : a = none → ds.length = 0)
    (hB : HasBlk B #[.int .i64 d.size, v1, .int .i64 d.elem, v2] 24 w) (hd : IsDesc n w (.agg #[.int .i64 d.size, v1, .int .i64 d.elem, v2]) d) :
    ∃ cap w', (Builtin.append_ #[41, 41] ty #[.slice a ds.length ds.length, .slice (some ⟨B, 0, none⟩) 1 1]).run Tryd.prog w = .ok (.slice (some ⟨w.heap.size, 0, none⟩) (ds.length + 1) cap) w' ∧ IsDescs w'.heap.size w' (.slice (some ⟨w.heap.size, 0, none⟩) (ds.length + 1) cap) (ds ++ [d]) ∧ Below w.heap.size w w' := by
  obtain ⟨i0, hi, hz0, hz1, hz2⟩ := parts_info infoDesc
  have hnews : ∀ (j : Nat) (v : Value), [Value.int .i64 d.size, v1, .int .i64 d.elem, v2][j]? = some v → w.cell? ((⟨B, 0, none⟩ : Addr).add j) = some v := fun j v hj => by
    rw [add_plain, Nat.zero_add]
    unfold World.cell?
    rw [hB.out]
    simpa using hj
  rcases Nat.eq_zero_or_pos ds.length with hz | hp
  · cases a with
    | none =>
      refine ⟨_, _, by rw [hz]; exact run_append_nil (P := Tryd.prog) w 41 ty 24 i0 _ Tryd.underlying41 hi hz0 ⟨B, 0, none⟩ 1 1 [.int .i64 d.size, v1, .int .i64 d.elem, v2] (by rw [hz1]; rfl) hnews (by decide) (by decide) (by rw [hz2]; decide), ?_, kept_alloc (Below.refl _ _).drew _⟩
      have := descs_new (n := n) (b := 0) (o := 0) (c := 0) (t := 24) (cap := grownCap w 1 0 24) (olds := []) (ds := ds) (rest := Builtin.zeroCells (Value.agg #[.int .i64 0, .slice none 0 0, .int .i64 0, .slice none 0 0]).cells (grownCap w 1 0 24 - 1)) (fun h => by omega) hl (by rw [hz]; rfl) (fun j v hj => by cases hj) hd hn (by rw [hz]; exact grownCap_ge _ _ _ _) rfl
      rw [hz] at this ⊢
      simpa using this
    | some ad =>
      refine ⟨_, _, run_append_grow (P := Tryd.prog) w 41 ty 24 i0 _ Tryd.underlying41 hi hz0 ad ds.length ds.length [] (by rw [hz, Nat.zero_mul]; rfl) (fun j v hj => by cases hj) ⟨B, 0, none⟩ 1 1 [.int .i64 d.size, v1, .int .i64 d.elem, v2] (by rw [hz1]; rfl) hnews (by omega) (by omega) (growslice_fits (by omega) (by rw [hz2]; omega)), ?_, kept_alloc (Below.refl _ _).drew _⟩
      exact descs_new (n := n) (b := 0) (o := 0) (c := 0) (olds := []) (fun h => by omega) hl (by rw [hz]; rfl) (fun j v hj => by cases hj) hd hn (grownCap_ge _ _ _ _) rfl
  · obtain ⟨_, b, o, _, _, _, rfl, _⟩ := h.at (k := 0) hp
    obtain ⟨olds, o1, o2⟩ := olds_of h
    refine ⟨_, _, run_append_grow (P := Tryd.prog) w 41 ty 24 i0 _ Tryd.underlying41 hi hz0 ⟨b, o, none⟩ ds.length ds.length olds (by rw [hz1, o1]) (fun j v hj => by rw [add_plain]; exact o2 j v hj) ⟨B, 0, none⟩ 1 1 [.int .i64 d.size, v1, .int .i64 d.elem, v2] (by rw [hz1]; rfl) hnews (by omega) (by omega) (growslice_fits (by omega) (by rw [hz2]; omega)), ?_, kept_alloc (Below.refl _ _).drew _⟩
    exact descs_new (fun _ => h) hl o1 o2 hd hn (grownCap_ge _ _ _ _) rfl
end Go.Proofs.YtjhmghcfhgajcaaDoor

/- Contract of kinds.Add. -/
namespace Go.Proofs.YtjhmghcfhgajcaaDoor
open Go.RowKit Go.Sel
def AddPost (l : List DescL) (d : DescL) (w : World) (e : Ending) (w' : World) : Prop :=
  ∃ v, e = .returned (.tuple #[v, .int .i64 (addK l d).2.1, .int .i64 (addK l d).2.2]) ∧ IsDescs w'.heap.size w' v (addK l d).1 ∧ Below w.heap.size w w'
set_option maxRecDepth 100000 in
set_option maxHeartbeats 4000000 in
theorem addK_any {n : Nat} {ds : List DescL} {d : DescL} {v vd : Value} {w : World} (h : IsDescs n w v ds) (hd : IsDesc n w vd d) (hn : n ≤ w.heap.size) :
    Calls Tryd.prog 25 #[v, vd] w (AddPost ds d w) := by
  obtain ⟨a, c, rfl, hc⟩ := h.open
  have hl := h.len
  unfold big at hl
  have hd0 := hd
  obtain ⟨u1, u2, rfl, i1, i2, h1, h2⟩ := hd
  obtain ⟨q1, c1, rfl, hc1⟩ := h1.open
  obtain ⟨q2, c2, rfl, hc2⟩ := h2.open
  clear h1 h2 hc1 hc2 i1 i2
  obtain ⟨w1, hw1⟩ : ∃ y, y = w.alloc (Obj.cells #[.int .i64 d.size, .slice q1 d.ptrs.length c1, .int .i64 d.elem, .slice q2 d.eptrs.length c2] 24) := ⟨_, rfl⟩
  have hb1 : Below w.heap.size w w1 := by rw [hw1]; exact kept_alloc (Below.refl _ _) _
  have hC0 : HasBlk w.heap.size #[.int .i64 d.size, .slice q1 d.ptrs.length c1, .int .i64 d.elem, .slice q2 d.eptrs.length c2] 24 w1 := by rw [hw1]; exact HasBlk.new w _ _
  have hR := rightK_any (h.below (hb1.mono hn)) (Nat.le_trans hn hb1.size)
  have h1 := h.below (hb1.mono hn)
  have g1 := hd0.below (hb1.mono hn)
  clear h hd0
  go_enter Tryd.func25, Tryd.ntmps25
  go_wp2_with fail
  rw [← hw1]
  clear hw1
  refine hR.mono ?_
  clear hR
  rintro e w2 ⟨rfl, hb2⟩
  replace hC0 := hC0.below hb2 (Array.getElem?_eq_some_iff.1 hC0.out).1
  have hB := kept_trans hb1 hb2
  replace h1 := h1.below (hb2.mono (Nat.le_trans hn hb1.size))
  replace g1 := g1.below (hb2.mono (Nat.le_trans hn hb1.size))
  clear hb1 hb2
  have hsB := hB.size
  cases hr : rightK ds with
  | false =>
    have HE := Lib.hid (show addK ds d = ([], 0, 50) by unfold addK; rw [if_neg (by rw [hr]; decide)])
    clear hC0 hr h1 g1
    go_wp2
    go_ret3
    exact ⟨_, by rw [HE.out]; rfl, by rw [HE.out]; exact IsSl.nil, hB⟩
  | true =>
    have hRd := right_any (w := w2) g1 (Nat.le_trans hn hsB)
    obtain ⟨x0, x1, x2, x3⟩ := four_cells hC0.out
    have HR := Lib.hid hr
    clear hr
    go_wp2_with fail
    clear x0 x1 x2 x3
    refine hRd.mono ?_
    clear hRd
    rintro e w3 ⟨rfl, hb3⟩
    replace hC0 := hC0.below hb3 (Array.getElem?_eq_some_iff.1 hC0.out).1
    replace hB := kept_trans hB hb3
    replace h1 := h1.below (hb3.mono (Nat.le_trans hn hsB))
    replace g1 := g1.below (hb3.mono (Nat.le_trans hn hsB))
    clear hb3 hsB
    have hsB := hB.size
    cases hrd : rightD d with
    | false =>
      have HE := Lib.hid (show addK ds d = ([], 0, 40) by unfold addK; rw [if_pos HR.out, if_neg (by rw [hrd]; decide)])
      clear hC0 hrd h1 g1
      go_wp2
      go_ret3
      exact ⟨_, by rw [HE.out]; rfl, by rw [HE.out]; exact IsSl.nil, hB⟩
    | true =>
      have hF := findK_any (w := w3) h1 g1 (Nat.le_trans hn hsB)
      obtain ⟨x0, x1, x2, x3⟩ := four_cells hC0.out
      have HD := Lib.hid hrd
      clear hrd
      go_wp2_with fail
      clear x0 x1 x2 x3
      refine hF.mono ?_
      clear hF
      rintro e w4 ⟨rfl, hb4⟩
      replace hC0 := hC0.below hb4 (Array.getElem?_eq_some_iff.1 hC0.out).1
      replace hB := kept_trans hB hb4
      replace h1 := h1.below (hb4.mono (Nat.le_trans hn hsB))
      replace g1 := g1.below (hb4.mono (Nat.le_trans hn hsB))
      clear hb4 hsB
      have hsB := hB.size
      have hl60 : ds.length ≤ 60 := (rightK_iff.1 HR.out).2.2
      cases hh : hasK ds d with
      | true =>
        have HE := Lib.hid (show addK ds d = (ds, idxK ds d + 1, 0) by unfold addK idxK; rw [if_pos HR.out, if_pos HD.out, if_pos hh, if_pos hh])
        have hO := ownK_any (w := w4) h1 (Nat.le_trans hn hsB) (by omega)
        clear hC0 hh h1 g1
        go_wp2_with fail
        refine hO.mono ?_
        clear hO
        rintro e w5 ⟨vo, rfl, ho, hb5⟩
        have HI := Lib.hid (ho.is (by unfold big; omega))
        clear ho
        go_wp2
        go_ret3
        exact ⟨vo, by rw [HE.out]; rfl, by rw [HE.out]; exact HI.out, kept_trans hB hb5⟩
      | false =>
        by_cases h6 : ds.length = 60
        · have HE := Lib.hid (show addK ds d = ([], 0, 53) by unfold addK; rw [if_pos HR.out, if_pos HD.out, if_neg (by rw [hh]; decide), if_pos h6])
          have h6' : (ds.length : Int) = 60 := by omega
          clear hC0 hh h1 g1 h6
          go_wp2
          go_ret3
          exact ⟨_, by rw [HE.out]; rfl, by rw [HE.out]; exact IsSl.nil, hB⟩
        · have HE := Lib.hid (show addK ds d = (ds ++ [d], (ds.length : Int) + 1, 0) by unfold addK; rw [if_pos HR.out, if_pos HD.out, if_neg (by rw [hh]; decide), if_neg h6])
          have h6' : ((ds.length : Int) == 60) = false := by rw [beq_eq_false_iff_ne]; omega
          have hl59 : ds.length ≤ 59 := by omega
          clear hh h6
          go_wp2_with fail
          refine wp_regionZ (fun W => HasBlk w.heap.size #[.int .i64 d.size, .slice q1 d.ptrs.length c1, .int .i64 d.elem, .slice q2 d.eptrs.length c2] 24 W) (fun j => false) (by kernel_rfl) ?_
          replace hC0 := hC0.drew
          have wl : IntKind.i64.wrap ((ds.length : Int) + 1) = (ds.length : Int) + 1 := IntWalk.i64_in _ (by omega)
          have hnl : ¬ c < ds.length := by omega
          have h0n : a = none → ds.length = 0 := fun e => by
            rcases Nat.eq_zero_or_pos ds.length with h | h
            · exact h
            · obtain ⟨_, _, _, _, _, _, e2, _⟩ := h1.at (k := 0) h
              rw [e] at e2
              cases e2
          have H0 := Lib.hid h0n
          clear h0n
          refine wpAnyZ_take 0 (.slice a ds.length c) rfl (by kernel_rfl) (by kernel_rfl) (fun _ _ _ h => h) hC0 (fun W hW => by go_simp) ?_
          go_simp
          refine wpAnyZ_take 1 (.slice a ds.length c) rfl (by kernel_rfl) (by kernel_rfl) (fun _ _ _ h => h) hC0 (fun W hW => by go_simp) ?_
          go_simp
          refine wpAnyZ_take 2 (.int .i64 ds.length) rfl (by kernel_rfl) (by kernel_rfl) (fun _ _ _ h => h) hC0 (fun W hW => by go_simp) ?_
          go_simp
          refine wpAnyZ_take 3 (.slice a ds.length c) rfl (by kernel_rfl) (by kernel_rfl) (fun _ _ _ h => h) hC0 (fun W hW => by go_simp) ?_
          go_simp
          refine wpAnyZ_take 4 (.int .i64 ds.length) rfl (by kernel_rfl) (by kernel_rfl) (fun _ _ _ h => h) hC0 (fun W hW => by go_simp) ?_
          go_simp
          refine wpAnyZ_take 5 (.slice a ds.length ds.length) rfl (by kernel_rfl) (by kernel_rfl) (fun _ _ _ h => h) hC0 (fun W hW => by
            cases a with
            | none =>
              have e0 := H0.out rfl
              rw [e0]
              go_simp
            | some b => go_simp) ?_
          go_simp
          refine wpAnyZ_take 6 (.agg #[.int .i64 d.size, .slice q1 d.ptrs.length c1, .int .i64 d.elem, .slice q2 d.eptrs.length c2]) rfl (by kernel_rfl) (by kernel_rfl) (fun _ _ _ h => h) hC0 (fun W hW => by obtain ⟨g1, g2, g3, g4⟩ := four_cells hW.out; go_simp) ?_
          go_simp
          refine wpAnyZ_take 10 (.slice a ds.length c) rfl (by kernel_rfl) (by kernel_rfl) (fun _ _ _ h => h) hC0 (fun W hW => by go_simp) ?_
          go_simp
          refine wpAnyZ_take 11 (.int .i64 ds.length) rfl (by kernel_rfl) (by kernel_rfl) (fun _ _ _ h => h) hC0 (fun W hW => by go_simp) ?_
          go_simp
          refine wpAnyZ_take 12 (.int .i64 ((ds.length : Int) + 1)) rfl (by kernel_rfl) (by kernel_rfl) (fun _ _ _ h => h) hC0 (fun W hW => by go_simp) ?_
          go_simp
          refine wpAnyZ_act 7 rfl (by kernel_rfl) (by kernel_rfl) ?_
          go_simp
          obtain ⟨w5, hw5⟩ : ∃ y, y = (w4.alloc (Obj.cells #[.int .i64 d.size, .slice q1 d.ptrs.length c1, .int .i64 d.elem, .slice q2 d.eptrs.length c2] 24)).drew := ⟨_, rfl⟩
          have hb5 : Below w4.heap.size w4 w5 := by rw [hw5]; exact (kept_alloc (Below.refl _ _) _).drew
          rw [← hw5]
          have hBB : HasBlk w4.heap.size #[.int .i64 d.size, .slice q1 d.ptrs.length c1, .int .i64 d.elem, .slice q2 d.eptrs.length c2] 24 w5 := by rw [hw5]; exact (HasBlk.new w4 _ _).drew
          have hC5 : HasBlk w.heap.size #[.int .i64 d.size, .slice q1 d.ptrs.length c1, .int .i64 d.elem, .slice q2 d.eptrs.length c2] 24 w5 := (show HasBlk w.heap.size #[.int .i64 d.size, .slice q1 d.ptrs.length c1, .int .i64 d.elem, .slice q2 d.eptrs.length c2] 24 w4 from hC0).below hb5 (Array.getElem?_eq_some_iff.1 hC0.out).1
          refine ⟨hC5, ?_⟩
          have hsz4 := Nat.le_trans hn hsB
          obtain ⟨cap, w6, hrun, hI6, hb6⟩ := append_descs 41 (h1.below (hb5.mono hsz4)) (Nat.le_trans hsz4 hb5.size) (by omega) H0.out hBB (g1.below (hb5.mono hsz4))
          have hC6 := hC5.below hb6 (Array.getElem?_eq_some_iff.1 hC5.out).1
          have hB6 := kept_trans hB (kept_trans hb5 hb6)
          refine wpAnyZ_act 8 rfl (by kernel_rfl) (by kernel_rfl) ?_
          refine wp_append_run (.tmp 35) (.tmp 37) 41 rfl (.slice a ds.length ds.length) (.slice (some ⟨w4.heap.size, 0, none⟩) 1 1) rfl rfl hrun ?_
          refine ⟨fun _ => hC6, ?_⟩
          have hO := ownK_any (w := w6) hI6 (Nat.le_refl _) (by rw [List.length_append, List.length_singleton]; omega)
          clear hrun hI6 hb6 hb5 hw5 hBB hC5 h1 g1
          go_simp
          refine wpAnyZ_act 9 rfl (by kernel_rfl) (by kernel_rfl) ?_
          go_simp
          refine hO.mono ?_
          clear hO
          rintro e w7 ⟨vo, rfl, ho, hb7⟩
          have hC7 := hC6.below hb7 (Array.getElem?_eq_some_iff.1 hC6.out).1
          refine ⟨hC7, ?_⟩
          go_simp
          refine wpAnyZ_act 13 rfl (by kernel_rfl) (by kernel_rfl) ?_
          go_simp
          refine wpAnyZ_act 14 rfl (by kernel_rfl) (by kernel_rfl) ?_
          go_simp
          refine wpAnyZ_act 15 rfl (by kernel_rfl) (by kernel_rfl) ?_
          go_simp
          refine wpAnyZ_done (by kernel_rfl) ?_
          have HI := Lib.hid (ho.is (by rw [List.length_append, List.length_singleton]; unfold big; omega))
          clear ho hC7 hC6 hC0
          go_wp2
          go_ret3
          exact ⟨vo, by rw [HE.out]; rfl, by rw [HE.out]; exact HI.out, kept_trans hB6 hb7⟩
end Go.Proofs.YtjhmghcfhgajcaaDoor

/- Contract of kinds.Same. -/
namespace Go.Sel
open Go Go.RowKit
def sameK : List DescL → List DescL → Bool
  | [], [] => true
  | x :: a, y :: b => eqD x y && sameK a b
  | _, _ => false
theorem sameK_iff : ∀ {a b : List DescL}, sameK a b = true ↔ a = b
  | [], [] => by simp [sameK]
  | x :: a, y :: b => by simp [sameK, sameK_iff (a := a) (b := b), eqD_iff]
  | [], _ :: _ => by simp [sameK]
  | _ :: _, [] => by simp [sameK]
theorem sameK_ne {a b : List DescL} (h : ¬ a = b) : sameK a b = false := by
  cases hs : sameK a b with
  | false => rfl
  | true => exact absurd (sameK_iff.1 hs) h
end Go.Sel
namespace Go.Proofs.YtjhmghcfhgajcaaDoor
open Go.RowKit Go.Sel
set_option maxRecDepth 100000 in
set_option maxHeartbeats 2000000 in
theorem equalD_any {n : Nat} {a b : List DescL} {va vb : Value} {w : World} (h1 : IsDescs n w va a) (h2 : IsDescs n w vb b) (hn : n ≤ w.heap.size) :
    Calls Tryd.prog 47 #[va, vb, .func (.func 18) #[] #[]] w fun e w' => e = .returned (.bool (sameK a b)) ∧ Below w.heap.size w w' := by
  obtain ⟨a1, c1, rfl, hc1⟩ := h1.open
  obtain ⟨a2, c2, rfl, hc2⟩ := h2.open
  have hl1 := h1.len
  have hl2 := h2.len
  unfold big at hl1 hl2
  by_cases hne : a.length = b.length
  · rw [← hne] at hc2 h2 ⊢
    have HN := Lib.hid hne
    clear hne hl2
    go_enter Tryd.func47, Tryd.ntmps47
    go_wp2
    go_loopw [7, 8, 9, 17] (fun _ _ _ i wr => ∃ k : Nat, k ≤ a.length ∧ i = .int .i64 k ∧ Hid (a.take k = b.take k) ∧ Below w.heap.size w wr) (fun _ _ _ i _ => a.length - (intOf i).toNat)
    case atStart => exact ⟨0, Nat.zero_le _, rfl, Lib.hid rfl, Below.refl _ _⟩
    case round =>
      obtain ⟨k, hk, rfl, hpre, hb⟩ := hrel
      by_cases hlt : k < a.length
      · obtain ⟨x, b1, o1, g1, k1, g2, k2, hx, rfl, hbn1, z0, z1, z2, z3, hxd⟩ := (h1.below (hb.mono hn)).atS hlt
        obtain ⟨y, b2, o2, g3, k3, g4, k4, hy, rfl, hbn2, y0, y1, y2, y3, hyd⟩ := (h2.below (hb.mono hn)).atS (k := k) (by rw [← HN.out]; exact hlt)
        obtain ⟨w1, hw1⟩ : ∃ q, q = (wr.alloc (Obj.cells #[.int .i64 x.size, .slice g1 x.ptrs.length k1, .int .i64 x.elem, .slice g2 x.eptrs.length k2] 24)).alloc (Obj.cells #[.int .i64 y.size, .slice g3 y.ptrs.length k3, .int .i64 y.elem, .slice g4 y.eptrs.length k4] 24) := ⟨_, rfl⟩
        have hbx : Below wr.heap.size wr (wr.alloc (Obj.cells #[.int .i64 x.size, .slice g1 x.ptrs.length k1, .int .i64 x.elem, .slice g2 x.eptrs.length k2] 24)) := kept_alloc (Below.refl _ _) _
        have hb1 : Below wr.heap.size wr w1 := by rw [hw1]; exact kept_alloc hbx _
        have hbw := kept_trans hb hb1
        have hnr := Nat.le_trans hn hb.size
        have hS := descSame_any (hxd.below (hb1.mono hnr)) (hyd.below (hb1.mono hnr)) (Nat.le_trans hn hbw.size)
        rw [sameD_eqD] at hS
        have q0 := (hbx.cell (p := ⟨b2, o2 + k * 4, none⟩) (by show b2 < _; omega)).trans y0
        have q1 := (hbx.cell (p := ⟨b2, o2 + k * 4 + 1, none⟩) (by show b2 < _; omega)).trans y1
        have q2 := (hbx.cell (p := ⟨b2, o2 + k * 4 + 2, none⟩) (by show b2 < _; omega)).trans y2
        have q3 := (hbx.cell (p := ⟨b2, o2 + k * 4 + 3, none⟩) (by show b2 < _; omega)).trans y3
        have hcx : HasBlk wr.heap.size #[.int .i64 x.size, .slice g1 x.ptrs.length k1, .int .i64 x.elem, .slice g2 x.eptrs.length k2] 24 w1 := by rw [hw1]; exact (HasBlk.new wr _ _).below (kept_alloc (Below.refl _ _) _) (by simp)
        have hcy : HasBlk (wr.heap.size + 1) #[.int .i64 y.size, .slice g3 y.ptrs.length k3, .int .i64 y.elem, .slice g4 y.eptrs.length k4] 24 w1 := by rw [hw1]; simpa using HasBlk.new (wr.alloc (Obj.cells #[.int .i64 x.size, .slice g1 x.ptrs.length k1, .int .i64 x.elem, .slice g2 x.eptrs.length k2] 24)) #[.int .i64 y.size, .slice g3 y.ptrs.length k3, .int .i64 y.elem, .slice g4 y.eptrs.length k4] 24
        obtain ⟨r0, r1, r2, r3⟩ := four_cells hcx.out
        obtain ⟨s0, s1, s2, s3⟩ := four_cells hcy.out
        rw [hw1] at r0 r1 r2 r3 s0 s1 s2 s3
        have hlen : k < b.length := by rw [← HN.out]; exact hlt
        have HX := Lib.hid hx
        have HY := Lib.hid hy
        clear hx hy hxd hyd h1 h2 y0 y1 y2 y3 hcx hcy hbx
        cases he : eqD x y with
        | true =>
          rw [he] at hS
          have hxy := eqD_iff.1 he
          have HJ := Lib.hid (take_same_step hpre.out HX.out (by rw [HY.out, hxy]))
          clear he hxy
          go_wp2_with fail
          rw [← hw1]
          clear hw1 q0 q1 q2 q3 r0 r1 r2 r3 s0 s1 s2 s3 z0 z1 z2 z3
          refine hS.mono ?_
          clear hS
          rintro e w2 ⟨rfl, hb2⟩
          go_wp2
          go_roundw
          case rel => exact ⟨k + 1, by omega, by go_num, HJ, kept_trans hbw hb2⟩
          case measure => simp [intOf]; omega
        | false =>
          rw [he] at hS
          have hxy : ¬ x = y := fun e => by rw [eqD_iff.2 e] at he; cases he
          have HJ := Lib.hid (sameK_ne (ne_of_at HX.out HY.out hxy))
          clear he hxy
          go_wp2_with fail
          rw [← hw1]
          clear hw1 q0 q1 q2 q3 r0 r1 r2 r3 s0 s1 s2 s3 z0 z1 z2 z3
          refine hS.mono ?_
          clear hS
          rintro e w2 ⟨rfl, hb2⟩
          go_wp2
          go_ret
          exact ⟨by rw [HJ.out]; rfl, kept_trans hbw hb2⟩
      · have HJ := Lib.hid (sameK_iff.2 (same_of_take hpre.out hlt HN.out))
        clear h1 h2
        go_wp2
        go_ret
        exact ⟨by rw [HJ.out]; rfl, hb⟩
  · have HJ := Lib.hid (sameK_ne (ne_of_len hne))
    have hne' : ((a.length : Int) != (b.length : Int)) = true := by rw [bne_iff_ne]; omega
    clear h1 h2 hne
    go_enter Tryd.func47, Tryd.ntmps47
    go_wp2
    go_ret
    exact ⟨by rw [HJ.out]; rfl, Below.refl _ _⟩
theorem sameK_any {n : Nat} {a b : List DescL} {va vb : Value} {w : World} (h1 : IsDescs n w va a) (h2 : IsDescs n w vb b) (hn : n ≤ w.heap.size) :
    Calls Tryd.prog 26 #[va, vb] w fun e w' => e = .returned (.bool (sameK a b)) ∧ Below w.heap.size w w' := by
  have hE := equalD_any h1 h2 hn
  clear h1 h2
  go_enter Tryd.func26, Tryd.ntmps26
  go_wp2_with fail
  refine hE.mono ?_
  clear hE
  rintro e w2 ⟨rfl, hb2⟩
  go_wp2
  go_ret
  exact ⟨rfl, hb2⟩
end Go.Proofs.YtjhmghcfhgajcaaDoor
