/- Slices of descriptors in memory; contracts of kinds.place, Find, Right. -/
import Derived.Test.YtjhmghcfhgajcaaDoorKindsM
import Derived.Test.YtjhmghcfhgajcaaDoorDesc13
namespace Go.Sel
open Go Go.RowKit
/-- A descriptor in four cells. -/
def RDesc (n : Nat) (w : World) (b p : Nat) (d : DescL) : Prop :=
  ∃ v1 v2, w.cell? ⟨b, p, none⟩ = some (.int .i64 d.size) ∧ w.cell? ⟨b, p + 1, none⟩ = some v1 ∧ w.cell? ⟨b, p + 2, none⟩ = some (.int .i64 d.elem) ∧ w.cell? ⟨b, p + 3, none⟩ = some v2 ∧ I64 d.size ∧ I64 d.elem ∧ IsInts n w v1 d.ptrs ∧ IsInts n w v2 d.eptrs
theorem RDesc.stable (n : Nat) : Stable n (RDesc n) := fun w w' b p _ hb hk ⟨v1, v2, h1, h2, h3, h4, i1, i2, h5, h6⟩ =>
  ⟨v1, v2, (World.cell?_of_block (w := w) (w' := w') (a := ⟨b, p, none⟩) (hk b hb)).trans h1, (World.cell?_of_block (w := w) (w' := w') (a := ⟨b, p + 1, none⟩) (hk b hb)).trans h2, (World.cell?_of_block (w := w) (w' := w') (a := ⟨b, p + 2, none⟩) (hk b hb)).trans h3, (World.cell?_of_block (w := w) (w' := w') (a := ⟨b, p + 3, none⟩) (hk b hb)).trans h4, i1, i2, IsSl.same h5 (RInt.stable n) hk, IsSl.same h6 (RInt.stable n) hk⟩
/-- A slice of descriptors. -/
def IsDescs (n : Nat) (w : World) (v : Value) (ds : List DescL) : Prop := IsSl n 4 (RDesc n) w v ds
theorem IsDescs.below {n : Nat} {w w' : World} {v : Value} {ds : List DescL} (h : IsDescs n w v ds) (hb : Below n w w') : IsDescs n w' v ds := IsSl.same h (RDesc.stable n) hb.block
theorem IsDescs.wider {n n' : Nat} {w : World} {v : Value} {ds : List DescL} (h : IsDescs n w v ds) (hn : n ≤ n') : IsDescs n' w v ds :=
  IsSl.wider h hn (fun _ _ _ ⟨v1, v2, h1, h2, h3, h4, i1, i2, h5, h6⟩ => ⟨v1, v2, h1, h2, h3, h4, i1, i2, h5.wider hn, h6.wider hn⟩)
theorem IsDescs.up {w w' : World} {v : Value} {ds : List DescL} (h : IsDescs w.heap.size w v ds) (hb : Below w.heap.size w w') : IsDescs w'.heap.size w' v ds := (h.below hb).wider hb.size
theorem IsDescs.len {n : Nat} {w : World} {v : Value} {ds : List DescL} (h : IsDescs n w v ds) : ds.length ≤ big := IsSl.len h
theorem IsDescs.at {n : Nat} {w : World} {a : Option Addr} {l c : Nat} {ds : List DescL} (h : IsDescs n w (.slice a l c) ds) {k : Nat} (hk : k < ds.length) :
    ∃ d b o v1 v2, ds[k]? = some d ∧ a = some ⟨b, o, none⟩ ∧ b < n ∧ w.cell? ⟨b, o + k * 4, none⟩ = some (.int .i64 d.size) ∧ w.cell? ⟨b, o + k * 4 + 1, none⟩ = some v1 ∧ w.cell? ⟨b, o + k * 4 + 2, none⟩ = some (.int .i64 d.elem) ∧ w.cell? ⟨b, o + k * 4 + 3, none⟩ = some v2 ∧ IsDesc n w (.agg #[.int .i64 d.size, v1, .int .i64 d.elem, v2]) d := by
  obtain ⟨a', c', he, h1, h2, h3⟩ := h
  cases he
  obtain ⟨b, o, rfl, h4, v1, v2, g1, g2, g3, g4, i1, i2, g5, g6⟩ := h3 k ds[k] (List.getElem?_eq_getElem hk)
  exact ⟨ds[k], b, o, v1, v2, List.getElem?_eq_getElem hk, rfl, h4, g1, g2, g3, g4, _, _, rfl, i1, i2, g5, g6⟩
theorem IsDescs.atS {n : Nat} {w : World} {a : Option Addr} {l c : Nat} {ds : List DescL} (h : IsDescs n w (.slice a l c) ds) {k : Nat} (hk : k < ds.length) :
    ∃ d b o g1 k1 g2 k2, ds[k]? = some d ∧ a = some ⟨b, o, none⟩ ∧ b < n ∧ w.cell? ⟨b, o + k * 4, none⟩ = some (.int .i64 d.size) ∧ w.cell? ⟨b, o + k * 4 + 1, none⟩ = some (.slice g1 d.ptrs.length k1) ∧ w.cell? ⟨b, o + k * 4 + 2, none⟩ = some (.int .i64 d.elem) ∧ w.cell? ⟨b, o + k * 4 + 3, none⟩ = some (.slice g2 d.eptrs.length k2) ∧ IsDesc n w (.agg #[.int .i64 d.size, .slice g1 d.ptrs.length k1, .int .i64 d.elem, .slice g2 d.eptrs.length k2]) d := by
  obtain ⟨a', c', he, h1, h2, h3⟩ := h
  cases he
  obtain ⟨b, o, rfl, h4, v1, v2, e1, e2, e3, e4, i1, i2, e5, e6⟩ := h3 k ds[k] (List.getElem?_eq_getElem hk)
  obtain ⟨g1, k1, rfl, _⟩ := e5.open
  obtain ⟨g2, k2, rfl, _⟩ := e6.open
  exact ⟨ds[k], b, o, g1, k1, g2, k2, List.getElem?_eq_getElem hk, rfl, h4, e1, e2, e3, e4, _, _, rfl, i1, i2, e5, e6⟩
theorem IsDescs.open {n : Nat} {w : World} {v : Value} {ds : List DescL} (h : IsDescs n w v ds) : ∃ a c, v = .slice a ds.length c ∧ ds.length ≤ c := by
  obtain ⟨a', c', he, h1, h2, h3⟩ := h
  exact ⟨a', c', he, h1⟩
/-- Its first ones. -/
theorem IsDescs.take {n : Nat} {w : World} {a : Option Addr} {l c c' : Nat} {ds : List DescL} (h : IsDescs n w (.slice a l c) ds) {k : Nat} (hk : k ≤ ds.length) (hc : k ≤ c') : IsDescs n w (.slice a k c') (ds.take k) := by
  obtain ⟨a', c', he, h1, h2, h3⟩ := h
  cases he
  refine ⟨a, c', by rw [List.length_take, Nat.min_eq_left hk], by rw [List.length_take]; omega, by rw [List.length_take]; omega, fun j x hx => ?_⟩
  have hj : j < k := by have := (List.getElem?_eq_some_iff.1 hx).1; rw [List.length_take] at this; omega
  rw [List.getElem?_take_of_lt hj] at hx
  exact h3 j x hx
def idxK (ds : List DescL) (d : DescL) : Int := if hasK ds d = true then (placeN d ds : Int) else -1
theorem hasK_take_succ {ds : List DescL} {k : Nat} {x d : DescL} (hx : ds[k]? = some x) : hasK (ds.take (k + 1)) d = (hasK (ds.take k) d || eqD x d) := by
  unfold hasK; rw [take_snoc hx, List.any_append]; simp
theorem placeN_hit : ∀ {ds : List DescL} {k : Nat} {x d : DescL}, hasK (ds.take k) d = false → ds[k]? = some x → eqD x d = true → placeN d ds = k
  | [], k, x, d, _, hx, _ => by simp at hx
  | y :: r, 0, x, d, _, hx, he => by cases hx; unfold placeN; rw [if_pos he]
  | y :: r, k + 1, x, d, h, hx, he => by
    rw [List.take_succ_cons] at h
    unfold hasK at h
    rw [List.any_cons, Bool.or_eq_false_iff] at h
    rw [List.getElem?_cons_succ] at hx
    unfold placeN
    rw [if_neg (by rw [h.1]; decide), placeN_hit h.2 hx he]
theorem idxK_hit {ds : List DescL} {k : Nat} {x d : DescL} (h : hasK (ds.take k) d = false) (hx : ds[k]? = some x) (he : eqD x d = true) : idxK ds d = (k : Int) := by
  unfold idxK
  rw [if_pos (hasK_iff.2 (by rw [eqD_iff] at he; subst he; exact List.mem_of_getElem? hx)), placeN_hit h hx he]
theorem idxK_none {ds : List DescL} {k : Nat} {d : DescL} (h : hasK (ds.take k) d = false) (hk : ¬ k < ds.length) : idxK ds d = -1 := by
  rw [List.take_of_length_le (by omega)] at h
  unfold idxK
  rw [if_neg (by rw [h]; decide)]
theorem idxK_range (ds : List DescL) (d : DescL) : -1 ≤ idxK ds d ∧ idxK ds d < (ds.length : Int) := by
  unfold idxK
  split
  · rename_i h; have := placeN_lt.2 (hasK_iff.1 h); omega
  · omega
theorem idxK_ge {ds : List DescL} {d : DescL} : 0 ≤ idxK ds d ↔ hasK ds d = true := by
  unfold idxK
  split
  · rename_i h; exact ⟨fun _ => h, fun _ => Int.natCast_nonneg _⟩
  · rename_i h; exact ⟨fun e => absurd e (by decide), fun e => absurd e h⟩
end Go.Sel
namespace Go.Proofs.YtjhmghcfhgajcaaDoor
open Go.RowKit Go.Sel
theorem sameD_eqD (a b : DescL) : sameD a b = eqD a b := rfl
/-- The call of the function that compares with the descriptor in a box. -/
theorem same1_any {n B k1 k2 : Nat} {x d : DescL} {v : Value} {g1 g2 : Option Addr} {w : World} (hx : IsDesc n w v x) (hB : HasBlk B #[.int .i64 d.size, .slice g1 d.ptrs.length k1, .int .i64 d.elem, .slice g2 d.eptrs.length k2] 24 w) (hd : IsDesc n w (.agg #[.int .i64 d.size, .slice g1 d.ptrs.length k1, .int .i64 d.elem, .slice g2 d.eptrs.length k2]) d) (hn : n ≤ w.heap.size) :
    Calls Tryd.prog 64 #[v, .pointer (some ⟨B, 0, none⟩)] w fun e w' => e = .returned (.bool (eqD x d)) ∧ Below w.heap.size w w' := by
  have hx0 := hx
  obtain ⟨u1, u2, rfl, i1, i2, h1, h2⟩ := hx
  obtain ⟨q1, c1, rfl, hc1⟩ := h1.open
  obtain ⟨q2, c2, rfl, hc2⟩ := h2.open
  clear i1 i2 h1 h2 hc1 hc2
  obtain ⟨w1, hw1⟩ : ∃ y, y = w.alloc (Obj.cells #[.int .i64 x.size, .slice q1 x.ptrs.length c1, .int .i64 x.elem, .slice q2 x.eptrs.length c2] 24) := ⟨_, rfl⟩
  have hb1 : Below w.heap.size w w1 := by rw [hw1]; exact kept_alloc (Below.refl _ _) _
  have hB1 := hB.below hb1 (Array.getElem?_eq_some_iff.1 hB.out).1
  have hS := descSame_any ((hx0.below (hb1.mono hn))) (hd.below (hb1.mono hn)) (Nat.le_trans hn hb1.size)
  rw [sameD_eqD] at hS
  obtain ⟨y0, y1, y2, y3⟩ := four_cells hB1.out
  rw [hw1] at y0 y1 y2 y3
  clear hB hd hx0 hB1
  go_enter Tryd.func64, Tryd.ntmps64
  go_wp2_with fail
  rw [← hw1]
  clear hw1 y0 y1 y2 y3
  refine hS.mono ?_
  clear hS
  rintro e w2 ⟨rfl, hb2⟩
  go_wp2
  go_ret
  exact ⟨rfl, kept_trans hb1 hb2⟩

set_option maxHeartbeats 1000000 in
theorem indexD_any {n B k1 k2 : Nat} {ds : List DescL} {d : DescL} {v : Value} {g1 g2 : Option Addr} {w : World} (h : IsDescs n w v ds) (hB : HasBlk B #[.int .i64 d.size, .slice g1 d.ptrs.length k1, .int .i64 d.elem, .slice g2 d.eptrs.length k2] 24 w) (hd : IsDesc n w (.agg #[.int .i64 d.size, .slice g1 d.ptrs.length k1, .int .i64 d.elem, .slice g2 d.eptrs.length k2]) d) (hn : n ≤ w.heap.size) :
    Calls Tryd.prog 63 #[v, .func (.func 64) #[] #[.pointer (some ⟨B, 0, none⟩)]] w fun e w' => e = .returned (.int .i64 (idxK ds d)) ∧ Below w.heap.size w w' := by
  obtain ⟨a, c, rfl, hc⟩ := h.open
  have hl := h.len
  unfold big at hl
  have hBs := (Array.getElem?_eq_some_iff.1 hB.out).1
  go_enter Tryd.func63, Tryd.ntmps63
  go_wp2
  go_loopw [5, 8] (fun _ i wr => ∃ k : Nat, k ≤ ds.length ∧ i = .int .i64 k ∧ Hid (hasK (ds.take k) d = false) ∧ Below w.heap.size w wr) (fun _ i _ => ds.length - (intOf i).toNat)
  case atStart => exact ⟨0, Nat.zero_le _, rfl, Lib.hid rfl, Below.refl _ _⟩
  case round =>
    obtain ⟨k, hk, rfl, hpre, hb⟩ := hrel
    by_cases hlt : k < ds.length
    · obtain ⟨x, b, o, v1, v2, hx, rfl, hbn, z0, z1, z2, z3, hxd⟩ := (h.below (hb.mono hn)).at hlt
      have hS := same1_any hxd (hB.below hb hBs) (hd.below (hb.mono hn)) (Nat.le_trans hn hb.size)
      have HT := Lib.hid (hasK_take_succ (d := d) hx)
      have HI := Lib.hid (fun he => idxK_hit hpre.out hx he)
      clear hx hxd h hB hd
      go_wp2_with fail
      cases he : eqD x d with
      | true =>
        rw [he] at hS
        have HJ := Lib.hid (HI.out he)
        clear HI he HT
        refine hS.mono ?_
        clear hS
        rintro e w2 ⟨rfl, hb2⟩
        go_wp2
        go_ret
        exact ⟨by rw [HJ.out]; rfl, kept_trans hb hb2⟩
      | false =>
        rw [he] at hS
        have HJ := Lib.hid (show hasK (ds.take (k + 1)) d = false by rw [HT.out, hpre.out, he]; rfl)
        clear HI he HT
        refine hS.mono ?_
        clear hS
        rintro e w2 ⟨rfl, hb2⟩
        go_wp2
        go_roundw
        case rel => exact ⟨k + 1, by omega, by go_num, HJ, kept_trans hb hb2⟩
        case measure => simp [intOf]; omega
    · have HJ := Lib.hid (idxK_none hpre.out hlt)
      clear h hB hd hpre
      go_wp2
      go_ret
      exact ⟨by rw [HJ.out]; rfl, hb⟩

set_option maxHeartbeats 1000000 in
theorem place_any {n : Nat} {ds : List DescL} {d : DescL} {v vd : Value} {w : World} (h : IsDescs n w v ds) (hd : IsDesc n w vd d) (hn : n ≤ w.heap.size) :
    Calls Tryd.prog 45 #[vd, v] w fun e w' => e = .returned (.int .i64 (idxK ds d)) ∧ Below w.heap.size w w' := by
  have hd0 := hd
  obtain ⟨u1, u2, rfl, i1, i2, h1, h2⟩ := hd
  obtain ⟨q1, c1, rfl, hc1⟩ := h1.open
  obtain ⟨q2, c2, rfl, hc2⟩ := h2.open
  clear i1 i2 h1 h2 hc1 hc2
  obtain ⟨w1, hw1⟩ : ∃ y, y = w.alloc (Obj.cells #[.int .i64 d.size, .slice q1 d.ptrs.length c1, .int .i64 d.elem, .slice q2 d.eptrs.length c2] 24) := ⟨_, rfl⟩
  have hb1 : Below w.heap.size w w1 := by rw [hw1]; exact kept_alloc (Below.refl _ _) _
  have hB : HasBlk w.heap.size #[.int .i64 d.size, .slice q1 d.ptrs.length c1, .int .i64 d.elem, .slice q2 d.eptrs.length c2] 24 w1 := by rw [hw1]; exact HasBlk.new w _ _
  have hI := indexD_any (h.below (hb1.mono hn)) hB (hd0.below (hb1.mono hn)) (Nat.le_trans hn hb1.size)
  clear hB hd0 h
  go_enter Tryd.func45, Tryd.ntmps45
  go_wp2_with fail
  rw [← hw1]
  clear hw1
  refine hI.mono ?_
  clear hI
  rintro e w2 ⟨rfl, hb2⟩
  go_wp2
  go_ret
  exact ⟨rfl, kept_trans hb1 hb2⟩

theorem findK_any {n : Nat} {ds : List DescL} {d : DescL} {v vd : Value} {w : World} (h : IsDescs n w v ds) (hd : IsDesc n w vd d) (hn : n ≤ w.heap.size) :
    Calls Tryd.prog 24 #[v, vd] w fun e w' => e = .returned (.tuple #[.int .i64 (idxK ds d + 1), .bool (hasK ds d)]) ∧ Below w.heap.size w w' := by
  have hd0 := hd
  obtain ⟨u1, u2, rfl, i1, i2, h1, h2⟩ := hd
  obtain ⟨q1, c1, rfl, hc1⟩ := h1.open
  obtain ⟨q2, c2, rfl, hc2⟩ := h2.open
  clear i1 i2 h1 h2 hc1 hc2
  have hl := h.len
  unfold big at hl
  obtain ⟨w1, hw1⟩ : ∃ y, y = w.alloc (Obj.cells #[.int .i64 d.size, .slice q1 d.ptrs.length c1, .int .i64 d.elem, .slice q2 d.eptrs.length c2] 24) := ⟨_, rfl⟩
  have hb1 : Below w.heap.size w w1 := by rw [hw1]; exact kept_alloc (Below.refl _ _) _
  have hB : HasBlk w.heap.size #[.int .i64 d.size, .slice q1 d.ptrs.length c1, .int .i64 d.elem, .slice q2 d.eptrs.length c2] 24 w1 := by rw [hw1]; exact HasBlk.new w _ _
  have hI := place_any (h.below (hb1.mono hn)) (hd0.below (hb1.mono hn)) (Nat.le_trans hn hb1.size)
  obtain ⟨y0, y1, y2, y3⟩ := four_cells hB.out
  rw [hw1] at y0 y1 y2 y3
  have hr := idxK_range ds d
  have hg := idxK_ge (ds := ds) (d := d)
  obtain ⟨i, hi⟩ : ∃ i, i = idxK ds d := ⟨_, rfl⟩
  rw [← hi] at hI hr hg ⊢
  obtain ⟨r1, r2⟩ := hr
  have HG := Lib.hid hg
  have w0 : IntKind.i64.wrap (i + 1) = i + 1 := IntWalk.i64_in _ (by omega)
  clear hB hd0 h hi hg
  cases hh : hasK ds d with
  | true =>
    have r3 : 0 ≤ i := HG.out.2 hh
    have r4 : 0 < i + 1 := by omega
    clear HG hh
    go_enter Tryd.func24, Tryd.ntmps24
    go_wp2_with fail
    rw [← hw1]
    clear hw1 y0 y1 y2 y3
    refine hI.mono ?_
    clear hI
    rintro e w2 ⟨rfl, hb2⟩
    go_wp2
    go_ret2
    exact ⟨rfl, kept_trans hb1 hb2⟩
  | false =>
    have r3 : i = -1 := by
      have : ¬ 0 ≤ i := fun h => by have := HG.out.1 h; rw [hh] at this; cases this
      omega
    subst r3
    clear HG hh
    go_enter Tryd.func24, Tryd.ntmps24
    go_wp2_with fail
    rw [← hw1]
    clear hw1 y0 y1 y2 y3
    refine hI.mono ?_
    clear hI
    rintro e w2 ⟨rfl, hb2⟩
    go_wp2
    go_ret2
    exact ⟨rfl, kept_trans hb1 hb2⟩
end Go.Proofs.YtjhmghcfhgajcaaDoor
