/- Contracts of package desc: isSize, areIn, Right. -/
import Derived.Test.YtjhmghcfhgajcaaDoorData
import Derived.Test.YtjhmghcfhgajcaaDoorDescM
import Derived.Test.YtjhmghcfhgajcaaDoorChecked
import Derived.Lib.Walk
import Derived.IntWalk
namespace Go.Sel
open Go Go.RowKit
/-- A descriptor. -/
def IsDesc (n : Nat) (w : World) (v : Value) (d : DescL) : Prop := ∃ v1 v2, v = .agg #[.int .i64 d.size, v1, .int .i64 d.elem, v2] ∧ I64 d.size ∧ I64 d.elem ∧ IsInts n w v1 d.ptrs ∧ IsInts n w v2 d.eptrs
theorem IsDesc.below {n : Nat} {w w' : World} {v : Value} {d : DescL} (h : IsDesc n w v d) (hb : Below n w w') : IsDesc n w' v d := by
  obtain ⟨v1, v2, e, i1, i2, h1, h2⟩ := h
  exact ⟨v1, v2, e, i1, i2, h1.below hb, h2.below hb⟩
theorem IsDesc.wider {n n' : Nat} {w : World} {v : Value} {d : DescL} (h : IsDesc n w v d) (hn : n ≤ n') : IsDesc n' w v d := by
  obtain ⟨v1, v2, e, i1, i2, h1, h2⟩ := h
  exact ⟨v1, v2, e, i1, i2, h1.wider hn, h2.wider hn⟩
theorem blk_kept {W W' : World} {D : Nat} {x : Obj} (h : W.heap[D]? = some x) (hb : Below W.heap.size W W') : W'.heap[D]? = some x := (hb.block _ (Array.getElem?_eq_some_iff.1 h).1).trans h
theorem rem4 {n : Int} (h : 0 ≤ n) : n.tmod 4 = n % 4 := Int.tmod_eq_emod_of_nonneg h
end Go.Sel
namespace Go.Proofs.YtjhmghcfhgajcaaDoor
open Go.RowKit Go.Sel

theorem isSize_any (n m : Int) (hn : I64 n) (_hm : I64 m) (w : World) : Calls Tryd.prog 38 #[.int .i64 n, .int .i64 m] w fun e w' => e = .returned (.bool (isSizeP n m)) ∧ w' = w := by
  unfold I64 at hn _hm
  by_cases h1 : 0 ≤ n
  · by_cases h2 : n ≤ m
    · have h4 := rem4 h1
      have hw : IntKind.i64.wrap (n.tmod 4) = n.tmod 4 := IntWalk.i64_in _ (by omega)
      go_enter Tryd.func38, Tryd.ntmps38
      go_wp2
      go_ret
      exact ⟨ret_bool (by unfold isSizeP; rw [decide_eq_true h1, decide_eq_true h2]; rfl), rfl⟩
    · go_enter Tryd.func38, Tryd.ntmps38
      go_wp2
      go_ret
      exact ⟨ret_bool (by unfold isSizeP; rw [decide_eq_false (show ¬ n ≤ m by omega)]; simp), rfl⟩
  · go_enter Tryd.func38, Tryd.ntmps38
    go_wp2
    go_ret
    exact ⟨ret_bool (by unfold isSizeP; rw [decide_eq_false (show ¬ 0 ≤ n by omega)]; rfl), rfl⟩

theorem areFrom_cons {l : List Int} {k : Nat} {x last size : Int} (h : l[k]? = some x) : areFrom last size (l.drop k) = (!decide (x ≤ last) && isSizeP x (size - 4) && areFrom x size (l.drop (k + 1))) := by
  obtain ⟨hlt, rfl⟩ := List.getElem?_eq_some_iff.1 h
  rw [List.drop_eq_getElem_cons hlt]
  rfl

set_option maxHeartbeats 400000 in
theorem areIn_any {n : Nat} {v : Value} {l : List Int} {w : World} (size : Int) (hs : I64 size) (h0 : 0 ≤ size) (hl : IsInts n w v l) :
    Calls Tryd.prog 39 #[.int .i64 size, v] w fun e w' => e = .returned (.bool (areFrom (-1) size l)) ∧ w' = w := by
  unfold I64 at hs
  have hz := isSize_any
  obtain ⟨a1, c1, rfl, hc1⟩ := hl.open
  have hlen := hl.len
  unfold big at hlen
  have hwr : IntKind.i64.wrap (size - 4) = size - 4 := IntWalk.i64_in _ (by omega)
  go_enter Tryd.func39, Tryd.ntmps39
  go_wp2
  go_loop [5, 7, 10] (fun p _ i => ∃ (k : Nat) (last : Int), k ≤ l.length ∧ i = .int .i64 k ∧ p = .int .i64 last ∧ Hid (areFrom (-1) size l = areFrom last size (l.drop k))) (fun _ _ i => l.length - (intOf i).toNat)
  case atStart => exact ⟨0, -1, Nat.zero_le _, rfl, rfl, Lib.hid rfl⟩
  case round =>
    obtain ⟨k, last, hk, rfl, rfl, hh⟩ := hrel
    by_cases hlt : k < l.length
    · obtain ⟨x, b1, o1, hx, rfl, _, g1, hx64⟩ := hl.at hlt
      have hstep := areFrom_cons (last := last) (size := size) hx
      clear hl hx
      by_cases hle : x ≤ last
      · have HF := Lib.hid (show areFrom (-1) size l = false by rw [hh.out, hstep, decide_eq_true hle]; rfl)
        clear hstep hh hz
        go_wp2
        go_ret
        exact ⟨ret_bool HF.out.symm, rfl⟩
      · have hcall := hz x (size - 4) hx64 (by unfold I64; omega) w
        cases hp : isSizeP x (size - 4) with
        | false =>
          have HF := Lib.hid (show areFrom (-1) size l = false by rw [hh.out, hstep, hp, Bool.and_false]; rfl)
          rw [hp] at hcall
          clear hstep hh hz hp
          go_wp2_with fail
          refine hcall.mono ?_
          rintro e w' ⟨rfl, rfl⟩
          go_wp2
          go_ret
          exact ⟨ret_bool HF.out.symm, rfl⟩
        | true =>
          have HF := Lib.hid (show areFrom (-1) size l = areFrom x size (l.drop (k + 1)) by rw [hh.out, hstep, hp, decide_eq_false hle]; rfl)
          rw [hp] at hcall
          clear hstep hh hz hp
          go_wp2_with fail
          refine hcall.mono ?_
          rintro e w' ⟨rfl, rfl⟩
          go_wp2
          go_round
          case measure => simp [intOf]; omega
          case rel => exact ⟨k + 1, x, by omega, by go_num, rfl, HF⟩
    · have HF := Lib.hid (show areFrom (-1) size l = true by rw [hh.out, List.drop_eq_nil_of_le (by omega)]; rfl)
      clear hl hh hz
      go_wp2
      go_ret
      exact ⟨ret_bool HF.out.symm, rfl⟩

set_option maxHeartbeats 400000 in
theorem right_any {n : Nat} {v : Value} {d : DescL} {w : World} (h : IsDesc n w v d) (hn : n ≤ w.heap.size) :
    Calls Tryd.prog 15 #[v] w fun e w' => e = .returned (.bool (rightD d)) ∧ Below w.heap.size w w' := by
  obtain ⟨v1, v2, rfl, i1, i2, h1, h2⟩ := h
  obtain ⟨size, ptrs, elem, eptrs⟩ := d
  simp only at i1 i2 h1 h2 ⊢
  obtain ⟨a1, c1, rfl, hc1⟩ := h1.open
  obtain ⟨a2, c2, rfl, hc2⟩ := h2.open
  obtain ⟨w1, hw1⟩ : ∃ y, y = w.alloc (Obj.cells #[.int .i64 size, .slice a1 ptrs.length c1, .int .i64 elem, .slice a2 eptrs.length c2] 24) := ⟨_, rfl⟩
  have hb1 : Below w.heap.size w w1 := by rw [hw1]; exact kept_alloc (Below.refl _ _) _
  have hx1 : w1.heap[w.heap.size]? = some (.cells #[.int .i64 size, .slice a1 ptrs.length c1, .int .i64 elem, .slice a2 eptrs.length c2] 24 (0, 0)) := by rw [hw1]; exact World.alloc_heap_new w _
  have z0 : w1.cell? ⟨w.heap.size, 0, none⟩ = some (.int .i64 size) := by simp [World.cell?, hx1]
  have z1 : w1.cell? ⟨w.heap.size, 1, none⟩ = some (.slice a1 ptrs.length c1) := by simp [World.cell?, hx1]
  have z2 : w1.cell? ⟨w.heap.size, 2, none⟩ = some (.int .i64 elem) := by simp [World.cell?, hx1]
  have z3 : w1.cell? ⟨w.heap.size, 3, none⟩ = some (.slice a2 eptrs.length c2) := by simp [World.cell?, hx1]
  have y0 := z0
  rw [hw1] at y0
  have k1 := isSize_any size 1024 i1 (by unfold I64; omega) w1
  have k2 := isSize_any elem 256 i2 (by unfold I64; omega) w1
  have k3 := fun h => areIn_any size i1 h (h1.below (hb1.mono hn))
  have k4 := fun h => areIn_any elem i2 h (h2.below (hb1.mono hn))
  clear h1 h2 hx1 hn
  cases p1 : isSizeP size 1024 with
  | false =>
    rw [p1] at k1
    have HF := Lib.hid (show rightD ⟨size, ptrs, elem, eptrs⟩ = false by unfold rightD; rw [p1]; rfl)
    clear p1 k2 k3 k4
    go_enter Tryd.func15, Tryd.ntmps15
    go_wp2_with fail
    rw [← hw1]
    clear hw1 y0
    refine k1.mono ?_
    rintro e w' ⟨rfl, he⟩
    obtain rfl := he.symm
    clear k1
    go_wp2
    go_ret
    exact ⟨ret_bool HF.out.symm, hb1⟩
  | true =>
    rw [p1] at k1
    have q1 := (isSizeP_iff.1 p1).1
    cases p2 : isSizeP elem 256 with
    | false =>
      rw [p2] at k2
      have HF := Lib.hid (show rightD ⟨size, ptrs, elem, eptrs⟩ = false by unfold rightD; rw [p1, p2]; rfl)
      clear p1 p2 k3 k4
      go_enter Tryd.func15, Tryd.ntmps15
      go_wp2_with fail
      rw [← hw1]
      clear hw1 y0
      refine k1.mono ?_
      rintro e w' ⟨rfl, he⟩
      obtain rfl := he.symm
      clear k1
      go_wp2_with fail
      refine k2.mono ?_
      rintro e w' ⟨rfl, he⟩
      obtain rfl := he.symm
      clear k2
      go_wp2
      go_ret
      exact ⟨ret_bool HF.out.symm, hb1⟩
    | true =>
      rw [p2] at k2
      have q2 := (isSizeP_iff.1 p2).1
      have k3' := k3 q1
      have k4' := k4 q2
      clear k3 k4
      have HF := Lib.hid (show rightD ⟨size, ptrs, elem, eptrs⟩ = (areFrom (-1) size ptrs && areFrom (-1) elem eptrs) by unfold rightD; rw [p1, p2]; rfl)
      clear p1 p2
      go_enter Tryd.func15, Tryd.ntmps15
      go_wp2_with fail
      rw [← hw1]
      clear hw1 y0
      refine k1.mono ?_
      rintro e w' ⟨rfl, he⟩
      obtain rfl := he.symm
      clear k1
      go_wp2_with fail
      refine k2.mono ?_
      rintro e w' ⟨rfl, he⟩
      obtain rfl := he.symm
      clear k2
      go_wp2_with fail
      refine k3'.mono ?_
      clear k3'
      rintro e w' ⟨rfl, he⟩
      obtain rfl := he.symm
      cases p3 : areFrom (-1) size ptrs with
      | false =>
        have HF2 := Lib.hid (show rightD ⟨size, ptrs, elem, eptrs⟩ = false by rw [HF.out, p3]; rfl)
        clear p3 k4'
        go_wp2
        go_ret
        exact ⟨ret_bool HF2.out.symm, hb1⟩
      | true =>
        have HF2 := Lib.hid (show rightD ⟨size, ptrs, elem, eptrs⟩ = areFrom (-1) elem eptrs by rw [HF.out, p3]; rfl)
        clear p3
        go_wp2_with fail
        refine k4'.mono ?_
        clear k4'
        rintro e w' ⟨rfl, he⟩
        obtain rfl := he.symm
        go_wp2
        go_ret
        exact ⟨ret_bool HF2.out.symm, hb1⟩
end Go.Proofs.YtjhmghcfhgajcaaDoor
