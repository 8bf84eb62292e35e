/- Contract of (*desc.shape).pointers: the iterator over an object's pointers. -/
import Derived.Test.YtjhmghcfhgajcaaDoorDesc5
import Derived.Test.YtjhmghcfhgajcaaDoorDraw2
namespace Go.Sel
open Go Go.RowKit
theorem flat_at {q : Nat} {f : Nat → List Int} (hf : ∀ i, (f i).length = q) : ∀ {n m j : Nat}, m < n → j < q → ((List.range n).flatMap f)[m * q + j]? = (f m)[j]? := by
  have hlen : ∀ n, ((List.range n).flatMap f).length = n * q := fun n => by
    induction n with
    | zero => simp
    | succ n ih => rw [List.range_succ, List.flatMap_append, List.length_append, ih]; simp [hf, Nat.succ_mul]
  intro n
  induction n with
  | zero => intro m j h _; omega
  | succ n ih =>
    intro m j hm hj
    rw [List.range_succ, List.flatMap_append]
    by_cases h : m < n
    · have hb : m * q + j < n * q := by
        have : (m + 1) * q ≤ n * q := Nat.mul_le_mul_right q (by omega)
        rw [Nat.succ_mul] at this; omega
      rw [List.getElem?_append_left (by rw [hlen]; exact hb)]
      exact ih h hj
    · obtain rfl : m = n := by omega
      rw [List.getElem?_append_right (by rw [hlen]; omega), hlen, Nat.add_sub_cancel_left]
      simp
theorem pointersL_len (d : DescL) (n : Nat) : (pointersL d n).length = d.ptrs.length + n * d.eptrs.length := by
  unfold pointersL
  rw [List.length_append]
  congr 1
  induction n with
  | zero => simp
  | succ n ih => rw [List.range_succ, List.flatMap_append, List.length_append, ih]; simp [Nat.succ_mul]
theorem pointersL_head {d : DescL} {n j : Nat} {x : Int} (h : d.ptrs[j]? = some x) : (pointersL d n)[j]? = some x := by
  unfold pointersL
  rw [List.getElem?_append_left (List.getElem?_eq_some_iff.1 h).1]; exact h
theorem pointersL_at {d : DescL} {n m j : Nat} {x : Int} (hm : m < n) (h : d.eptrs[j]? = some x) : (pointersL d n)[d.ptrs.length + m * d.eptrs.length + j]? = some (d.size + (m : Int) * d.elem + x) := by
  have hj := (List.getElem?_eq_some_iff.1 h).1
  unfold pointersL
  rw [Nat.add_assoc, List.getElem?_append_right (by omega), Nat.add_sub_cancel_left, flat_at (q := d.eptrs.length) (fun i => by simp) hm hj, List.getElem?_map, h]
  rfl
end Go.Sel
namespace Go.Proofs.YtjhmghcfhgajcaaDoor
open Go.RowKit Go.Sel
attribute [local go_sem] Oper.semAt_some

def PtrFoot (sb g : Nat) (d : DescL) (v1 v2 : Value) (b : Nat) : Prop := b = sb ∨ b = g ∨ (0 < d.ptrs.length ∧ v1.ownBlock = some b) ∨ (0 < d.eptrs.length ∧ v2.ownBlock = some b)
/-- A box of a pointer to a shape; the shape. -/
structure ShapeAt (sb g n0 : Nat) (d : DescL) (v1 v2 : Value) (n : Nat) (w : World) : Prop where
  box : Boxed w sb 58 (.pointer (some ⟨g, 0, none⟩))
  shape : w.heap[g]? = some (.cells (shapeCells d v1 v2 (n : Int)) 65 (0, 0))
  fst : IsInts n0 w v1 d.ptrs
  snd : IsInts n0 w v2 d.eptrs
theorem ShapeAt.below {sb g n0 : Nat} {d : DescL} {v1 v2 : Value} {n : Nat} {w w' : World} (h : ShapeAt sb g n0 d v1 v2 n w) (hb : Below w.heap.size w w') (hn : n0 ≤ w.heap.size) : ShapeAt sb g n0 d v1 v2 n w' :=
  ⟨box_kept h.box hb, blk_kept h.shape hb, h.fst.below (hb.mono hn), h.snd.below (hb.mono hn)⟩
theorem ShapeAt.only {sb g n0 : Nat} {d : DescL} {v1 v2 : Value} {n : Nat} {w w' : World} {S : Nat → Prop} (h : ShapeAt sb g n0 d v1 v2 n w) (hO : Only S w w') (hn : n0 ≤ w.heap.size) (hS : ∀ b, PtrFoot sb g d v1 v2 b → ¬ S b) : ShapeAt sb g n0 d v1 v2 n w' :=
  ⟨box_only h.box hO (hS _ (.inl rfl)), (hO.block _ (Array.getElem?_eq_some_iff.1 h.shape).1 (hS _ (.inr (.inl rfl)))).trans h.shape, ints_only h.fst hO hn (fun hp b e => hS b (.inr (.inr (.inl ⟨hp, e⟩)))), ints_only h.snd hO hn (fun hp b e => hS b (.inr (.inr (.inr ⟨hp, e⟩))))⟩
theorem six_cells {W : World} {b : Nat} {x0 x1 x2 x3 x4 x5 : Value} {t : TypeId} (h : W.heap[b]? = some (.cells #[x0, x1, x2, x3, x4, x5] t (0, 0))) :
    W.cell? ⟨b, 0, none⟩ = some x0 ∧ W.cell? ⟨b, 1, none⟩ = some x1 ∧ W.cell? ⟨b, 2, none⟩ = some x2 ∧ W.cell? ⟨b, 3, none⟩ = some x3 ∧ W.cell? ⟨b, 4, none⟩ = some x4 ∧ W.cell? ⟨b, 5, none⟩ = some x5 := by simp [World.cell?, h]
/-- The elements. -/
def ptrVals (d : DescL) (n : Nat) : List Value := (pointersL d n).map (Value.int .i64)
theorem ptrVals_at {d : DescL} {n j : Nat} {x : Int} (h : (pointersL d n)[j]? = some x) : ((ptrVals d n).map fun x => #[x])[j]? = some #[.int .i64 x] := by
  unfold ptrVals; rw [List.getElem?_map, List.getElem?_map, h]; rfl
/-- Between two parts. -/
def PtrInv (J Jx : Nat → (Nat → Prop) → World → Prop) (T : Nat → Prop) (d : DescL) (n m : Nat) (b : Bool) (W wr : World) : Prop :=
  ∃ T1, Grew T T1 W wr ∧ ((b = true ∧ J (d.ptrs.length + m * d.eptrs.length) T1 wr) ∨ (b = false ∧ ∃ k, k ≤ (pointersL d n).length ∧ Jx k T1 wr))

theorem ptrInv_first {J Jx : Nat → (Nat → Prop) → World → Prop} {T T2 : Nat → Prop} {d : DescL} {n : Nat} {W W2 : World} {e : Ending} (hl : (pointersL d n).length = d.ptrs.length + n * d.eptrs.length) (hG : Grew T T2 W W2)
    (hd : (e = .returned (.bool true) ∧ J (0 + d.ptrs.length) T2 W2) ∨ (e = .returned (.bool false) ∧ ∃ k, k ≤ 0 + d.ptrs.length ∧ Jx k T2 W2)) : ∃ bo, e = .returned (.bool bo) ∧ PtrInv J Jx T d n 0 bo W W2 := by
  rcases hd with ⟨rfl, h⟩ | ⟨rfl, k, hk, h⟩
  · exact ⟨true, rfl, T2, hG, .inl ⟨rfl, by rw [Nat.zero_mul, Nat.add_zero]; rwa [Nat.zero_add] at h⟩⟩
  · exact ⟨false, rfl, T2, hG, .inr ⟨rfl, k, by rw [hl]; omega, h⟩⟩
theorem ptrMaker_any (g : Nat) (w : World) :
    Calls Tryd.prog 54 #[.pointer (some ⟨g, 0, none⟩)] w fun e w' => e = .returned (.func (.func 71) #[] #[.pointer (some ⟨w.heap.size, 0, none⟩)]) ∧ w' = w.alloc (.cells #[.pointer (some ⟨g, 0, none⟩)] 58) := by
  go_enter Tryd.func54, Tryd.ntmps54
  go_wp2
  go_ret
  exact ⟨rfl, rfl⟩

set_option maxRecDepth 100000 in
set_option maxHeartbeats 4000000 in
theorem pointers_iter {sb g n0 : Nat} {d : DescL} {v1 v2 : Value} {n : Nat} {w : World} (hs : shapeE d (n : Int) = none) (hA : ShapeAt sb g n0 d v1 v2 n w) (hn0 : n0 ≤ w.heap.size) :
    Iter Tryd.prog 71 #[.pointer (some ⟨sb, 0, none⟩)] ((ptrVals d n).map fun x => #[x]) (PtrFoot sb g d v1 v2) w := by
  intro lp J Jx T W hW hJ hJx hT hY h0
  obtain ⟨hr, _, hn1, _, hsz⟩ := shapeE_none hs
  obtain ⟨⟨s1, s2, -⟩, ⟨e1, e2, -⟩, r1, r2⟩ := rightD_parts hr
  have hAW := hA.below hW hn0
  have hnW : n0 ≤ W.heap.size := Nat.le_trans hn0 hW.size
  clear hA hn0 hW
  obtain ⟨W1, hW1⟩ : ∃ y, y = W.alloc (.cells #[.func (.yield lp) #[] #[]] 124) := ⟨_, rfl⟩
  have hb1 : Below W.heap.size W W1 := by rw [hW1]; exact kept_alloc (Below.refl _ _) _
  have hyb : Boxed W1 W.heap.size 124 (.func (.yield lp) #[] #[]) := by rw [hW1]; exact Boxed.new _ _ _
  have hA1 := hAW.below hb1 hnW
  have hT1 : ∀ b, T b → b < W1.heap.size := fun b hb => by have := (hT b hb).1; have := hb1.size; omega
  have hTy : ¬ T W.heap.size := fun h => by have := (hT _ h).1; omega
  have hTf : ∀ b, PtrFoot sb g d v1 v2 b → ¬ T b := fun b hf h => (hT b h).2 hf
  have hJ1 : J 0 T W1 := hJ _ _ _ _ h0 (Only.of_below hb1)
  have hn1W : n0 ≤ W1.heap.size := Nat.le_trans hnW hb1.size
  have hfirst := all_in (lp := lp) (k0 := 0) (J := J) (Jx := Jx) 0 hY hA1.fst hn1W (fun j x hx => by rw [Nat.zero_add, Int.zero_add]; exact ptrVals_at (pointersL_head hx)) (fun x hx => by have := r1 x hx; unfold I64; omega) hT1 (fun hp b e => hTf b (.inr (.inr (.inl ⟨hp, e⟩)))) hyb hTy hJ1
  have HALL := Lib.hid (fun (m : Nat) (hm : m < n) (wr : World) (T1 : Nat → Prop) (hG : Grew T T1 W1 wr) (hJm : J (d.ptrs.length + m * d.eptrs.length) T1 wr) =>
    all_in (lp := lp) (k0 := d.ptrs.length + m * d.eptrs.length) (J := J) (Jx := Jx) (d.size + (m : Int) * d.elem) hY (hA1.only hG.2 hn1W hTf).snd (Nat.le_trans hn1W hG.2.size) (fun j x hx => ptrVals_at (pointersL_at hm hx))
      (fun x hx => by
        have h3 := r2 x hx
        have h4 : 0 ≤ (m : Int) * d.elem := Int.mul_nonneg (by omega) e1
        have h5 : (m : Int) * d.elem ≤ 131072 * 256 := Int.mul_le_mul (by omega) e2 e1 (by omega)
        unfold I64; omega)
      (hG.lt hT1) (fun hp b e h => by
        rcases hG.1 b h with h | h
        · exact hTf b (.inr (.inr (.inr ⟨hp, e⟩))) h
        · have := ints_block hA1.snd hp b e; omega) (box_only hyb hG.2 hTy) (fun h => by
        rcases hG.1 _ h with h | h
        · exact hTy h
        · have := hyb.lt; omega) hJm)
  have hA2 := hA1
  have HA := Lib.hid (fun (wr : World) (T1 : Nat → Prop) (hG : Grew T T1 W1 wr) => hA1.only hG.2 hn1W hTf)
  have HT1 := Lib.hid hT1
  have HTf := Lib.hid hTf
  obtain ⟨c1, c2, c3, c4, c5, c6⟩ := six_cells hA1.shape
  have cb := hA1.box.cell
  obtain ⟨q1, k1, rfl, hk1⟩ := hA1.fst.open
  obtain ⟨q2, k2, rfl, hk2⟩ := hA1.snd.open
  have HL := Lib.hid (pointersL_len d n)
  have HJx := Lib.hid hJx
  have HJ := Lib.hid hJ
  rw [hW1] at c1 c2 c3 c4 c5 c6 cb
  clear hY hJ hJx hT hA1 hA2 hAW hT1 hTf h0 hJ1 hs hk1 hk2 hr r1 r2 hsz hyb hTy hnW
  refine callsIn_wide.2 (show Calls Tryd.prog 71 #[.func (.yield lp) #[] #[], .pointer (some ⟨sb, 0, none⟩)] W _ from ?_)
  go_enter Tryd.func71, Tryd.ntmps71
  go_wp2_with fail
  apply wp_scope_straight
  go_wp2_with (go_at_call 72; rw [← hW1]; refine (callsIn_wide.1 hfirst).mono ?_; clear hfirst hW1 c1 c2 c3 c4 c5 c6 cb; rintro e W2 ⟨T2, hG2, hd⟩; obtain ⟨bo, he, hI⟩ := ptrInv_first HL.out hG2 hd; subst he; have HI := Lib.hid hI; obtain ⟨c1, c2, c3, c4, c5, c6⟩ := six_cells (HA.out W2 T2 hG2).shape; have cb := (HA.out W2 T2 hG2).box.cell; clear hd hI hG2)
  apply wp_label
  go_wp2
  clear c1 c2 c3 c4 c6 cb
  go_loopw [4, 5, 18] (fun mo _ i wr => ∃ (m : Nat) (b : Bool), i = .int .i64 m ∧ m ≤ n ∧ mo = .bool b ∧ Hid (PtrInv J Jx T d n m b W1 wr)) (fun _ _ i _ => n - (intOf i).toNat)
  case atStart => exact ⟨0, bo, rfl, Nat.zero_le _, rfl, HI⟩
  case round =>
    obtain ⟨m, b, rfl, hm, rfl, hh⟩ := hrel
    clear HI c5
    obtain ⟨T1, hG, hd⟩ := hh.out
    have HG := Lib.hid hG
    have hAr := HA.out wr T1 hG
    have hC : HasBlk sb #[.pointer (some ⟨g, 0, none⟩)] 58 wr ∧ HasBlk g (shapeCells d (.slice q1 d.ptrs.length k1) (.slice q2 d.eptrs.length k2) (n : Int)) 65 wr := ⟨hAr.box, hAr.shape⟩
    clear hG hh hAr
    by_cases hlt : m < n
    · rcases hd with ⟨rfl, hJm⟩ | ⟨rfl, k, hk, hJk⟩
      · have l1 : 0 ≤ (m : Int) * d.elem := Int.mul_nonneg (by omega) e1
        have l2 : (m : Int) * d.elem ≤ 131072 * 256 := Int.mul_le_mul (by omega) e2 e1 (by omega)
        have w1 : IntKind.i64.wrap ((m : Int) * d.elem) = (m : Int) * d.elem := IntWalk.i64_in _ (by omega)
        have w2 : IntKind.i64.wrap (d.size + (m : Int) * d.elem) = d.size + (m : Int) * d.elem := IntWalk.i64_in _ (by omega)
        have hC0 : HasBlk sb #[.pointer (some ⟨g, 0, none⟩)] 58 wr.drew ∧ HasBlk g (shapeCells d (.slice q1 d.ptrs.length k1) (.slice q2 d.eptrs.length k2) (n : Int)) 65 wr.drew := hC
        have hGd : Grew T T1 W1 wr.drew := HG.out.step (fun _ h => .inl h) (Only.of_below (Below.refl _ _).drew)
        have hcall := callsIn_wide.1 (HALL.out m hlt wr.drew T1 hGd (HJ.out _ _ _ _ hJm (Only.of_below (Below.refl _ _).drew)))
        have HGD := Lib.hid hGd
        clear l1 l2 hC hJm hGd
        go_wp2_with fail
        refine wp_region_class (fun W => HasBlk sb #[.pointer (some ⟨g, 0, none⟩)] 58 W ∧ HasBlk g (shapeCells d (.slice q1 d.ptrs.length k1) (.slice q2 d.eptrs.length k2) (n : Int)) 65 W) 20 (by kernel_rfl) ?_
        refine wpAnyC_take 0 (.func (.func 72) #[] #[.pointer (some ⟨W.heap.size, 0, none⟩)]) rfl (by kernel_rfl) rfl (fun _ _ _ h => h) hC0 (fun W hW => by obtain ⟨u1, u2⟩ := hW; have u3 := Boxed.cell u1.out; obtain ⟨g1, g2, g3, g4, g5, g6⟩ := six_cells u2.out; go_simp) ?_
        go_simp
        refine wpAnyC_take 1 (.pointer (some ⟨g, 0, none⟩)) rfl (by kernel_rfl) rfl (fun _ _ _ h => h) hC0 (fun W hW => by obtain ⟨u1, u2⟩ := hW; have u3 := Boxed.cell u1.out; obtain ⟨g1, g2, g3, g4, g5, g6⟩ := six_cells u2.out; go_simp) ?_
        go_simp
        refine wpAnyC_take 2 (.pointer (some ⟨g, 0, none⟩)) rfl (by kernel_rfl) rfl (fun _ _ _ h => h) hC0 (fun W hW => by obtain ⟨u1, u2⟩ := hW; have u3 := Boxed.cell u1.out; obtain ⟨g1, g2, g3, g4, g5, g6⟩ := six_cells u2.out; go_simp) ?_
        go_simp
        refine wpAnyC_take 3 (.pointer (some ⟨g, 0, none⟩)) rfl (by kernel_rfl) rfl (fun _ _ _ h => h) hC0 (fun W hW => by obtain ⟨u1, u2⟩ := hW; have u3 := Boxed.cell u1.out; obtain ⟨g1, g2, g3, g4, g5, g6⟩ := six_cells u2.out; go_simp) ?_
        go_simp
        refine wpAnyC_take 4 (.pointer (some ⟨g, 0, none⟩)) rfl (by kernel_rfl) rfl (fun _ _ _ h => h) hC0 (fun W hW => by obtain ⟨u1, u2⟩ := hW; have u3 := Boxed.cell u1.out; obtain ⟨g1, g2, g3, g4, g5, g6⟩ := six_cells u2.out; go_simp) ?_
        go_simp
        refine wpAnyC_take 5 (.int .i64 d.size) rfl (by kernel_rfl) rfl (fun _ _ _ h => h) hC0 (fun W hW => by obtain ⟨u1, u2⟩ := hW; have u3 := Boxed.cell u1.out; obtain ⟨g1, g2, g3, g4, g5, g6⟩ := six_cells u2.out; go_simp) ?_
        go_simp
        refine wpAnyC_take 6 (.int .i64 (m : Int)) rfl (by kernel_rfl) rfl (fun _ _ _ h => h) hC0 (fun W hW => by obtain ⟨u1, u2⟩ := hW; have u3 := Boxed.cell u1.out; obtain ⟨g1, g2, g3, g4, g5, g6⟩ := six_cells u2.out; go_simp) ?_
        go_simp
        refine wpAnyC_take 7 (.pointer (some ⟨g, 0, none⟩)) rfl (by kernel_rfl) rfl (fun _ _ _ h => h) hC0 (fun W hW => by obtain ⟨u1, u2⟩ := hW; have u3 := Boxed.cell u1.out; obtain ⟨g1, g2, g3, g4, g5, g6⟩ := six_cells u2.out; go_simp) ?_
        go_simp
        refine wpAnyC_take 8 (.pointer (some ⟨g, 0, none⟩)) rfl (by kernel_rfl) rfl (fun _ _ _ h => h) hC0 (fun W hW => by obtain ⟨u1, u2⟩ := hW; have u3 := Boxed.cell u1.out; obtain ⟨g1, g2, g3, g4, g5, g6⟩ := six_cells u2.out; go_simp) ?_
        go_simp
        refine wpAnyC_take 9 (.pointer (some ⟨g, 0, none⟩)) rfl (by kernel_rfl) rfl (fun _ _ _ h => h) hC0 (fun W hW => by obtain ⟨u1, u2⟩ := hW; have u3 := Boxed.cell u1.out; obtain ⟨g1, g2, g3, g4, g5, g6⟩ := six_cells u2.out; go_simp) ?_
        go_simp
        refine wpAnyC_take 10 (.pointer (some ⟨g, 2, none⟩)) rfl (by kernel_rfl) rfl (fun _ _ _ h => h) hC0 (fun W hW => by obtain ⟨u1, u2⟩ := hW; have u3 := Boxed.cell u1.out; obtain ⟨g1, g2, g3, g4, g5, g6⟩ := six_cells u2.out; go_simp) ?_
        go_simp
        refine wpAnyC_take 11 (.int .i64 d.elem) rfl (by kernel_rfl) rfl (fun _ _ _ h => h) hC0 (fun W hW => by obtain ⟨u1, u2⟩ := hW; have u3 := Boxed.cell u1.out; obtain ⟨g1, g2, g3, g4, g5, g6⟩ := six_cells u2.out; go_simp) ?_
        go_simp
        refine wpAnyC_take 12 (.int .i64 ((m : Int) * d.elem)) rfl (by kernel_rfl) rfl (fun _ _ _ h => h) hC0 (fun W hW => by obtain ⟨u1, u2⟩ := hW; have u3 := Boxed.cell u1.out; obtain ⟨g1, g2, g3, g4, g5, g6⟩ := six_cells u2.out; go_simp) ?_
        go_simp
        refine wpAnyC_take 13 (.int .i64 (d.size + (m : Int) * d.elem)) rfl (by kernel_rfl) rfl (fun _ _ _ h => h) hC0 (fun W hW => by obtain ⟨u1, u2⟩ := hW; have u3 := Boxed.cell u1.out; obtain ⟨g1, g2, g3, g4, g5, g6⟩ := six_cells u2.out; go_simp) ?_
        go_simp
        refine wpAnyC_take 14 (.pointer (some ⟨g, 0, none⟩)) rfl (by kernel_rfl) rfl (fun _ _ _ h => h) hC0 (fun W hW => by obtain ⟨u1, u2⟩ := hW; have u3 := Boxed.cell u1.out; obtain ⟨g1, g2, g3, g4, g5, g6⟩ := six_cells u2.out; go_simp) ?_
        go_simp
        refine wpAnyC_take 15 (.pointer (some ⟨g, 0, none⟩)) rfl (by kernel_rfl) rfl (fun _ _ _ h => h) hC0 (fun W hW => by obtain ⟨u1, u2⟩ := hW; have u3 := Boxed.cell u1.out; obtain ⟨g1, g2, g3, g4, g5, g6⟩ := six_cells u2.out; go_simp) ?_
        go_simp
        refine wpAnyC_take 16 (.pointer (some ⟨g, 0, none⟩)) rfl (by kernel_rfl) rfl (fun _ _ _ h => h) hC0 (fun W hW => by obtain ⟨u1, u2⟩ := hW; have u3 := Boxed.cell u1.out; obtain ⟨g1, g2, g3, g4, g5, g6⟩ := six_cells u2.out; go_simp) ?_
        go_simp
        refine wpAnyC_take 17 (.pointer (some ⟨g, 3, none⟩)) rfl (by kernel_rfl) rfl (fun _ _ _ h => h) hC0 (fun W hW => by obtain ⟨u1, u2⟩ := hW; have u3 := Boxed.cell u1.out; obtain ⟨g1, g2, g3, g4, g5, g6⟩ := six_cells u2.out; go_simp) ?_
        go_simp
        refine wpAnyC_take 18 (.slice q2 d.eptrs.length k2) rfl (by kernel_rfl) rfl (fun _ _ _ h => h) hC0 (fun W hW => by obtain ⟨u1, u2⟩ := hW; have u3 := Boxed.cell u1.out; obtain ⟨g1, g2, g3, g4, g5, g6⟩ := six_cells u2.out; go_simp) ?_
        go_simp
        refine wpAnyC_act 19 rfl (by kernel_rfl) rfl ?_
        go_simp
        refine hcall.mono ?_
        clear hcall hC0 w1 w2
        rintro e W' ⟨T2, hG2, hd⟩
        have hG3 := HGD.out.step hG2.1 hG2.2
        have hAr := HA.out W' T2 hG3
        obtain ⟨bn, he, hI⟩ : ∃ bn, e = .returned (.bool bn) ∧ PtrInv J Jx T d n (m + 1) bn W1 W' := by
          rcases hd with ⟨rfl, h⟩ | ⟨rfl, k, hk, h⟩
          · exact ⟨true, rfl, T2, hG3, .inl ⟨rfl, by rw [Nat.succ_mul, ← Nat.add_assoc]; exact h⟩⟩
          · refine ⟨false, rfl, T2, hG3, .inr ⟨rfl, k, ?_, h⟩⟩
            have : (m + 1) * d.eptrs.length ≤ n * d.eptrs.length := Nat.mul_le_mul_right _ (by omega)
            rw [Nat.succ_mul] at this
            rw [HL.out]; omega
        subst he
        have HI := Lib.hid hI
        clear hd hI hG2 hG3
        refine ⟨⟨hAr.box, hAr.shape⟩, ?_⟩
        clear hAr
        refine wpAnyC_act 20 rfl (by kernel_rfl) rfl ?_
        go_simp
        refine wpAnyC_done (by kernel_rfl) ?_
        go_wp2
        go_roundw
        case rel => exact ⟨m + 1, bn, by go_num, by omega, rfl, HI⟩
        case measure => simp [intOf]; omega
      · have hJK := Lib.hid (show k ≤ ((ptrVals d n).map fun x => #[x]).length from by simpa [ptrVals] using hk)
        clear hk
        go_wp2
        try rw [Exit.noGoto_normal]
        go_end0
        exact ⟨⟨_, rfl⟩, T1, .inr ⟨k, hJK.out, hJk⟩⟩
    · obtain rfl : m = n := by omega
      have HD := Lib.hid hd
      clear hd
      go_wp2
      try rw [Exit.noGoto_normal]
      go_end0
      refine ⟨⟨_, rfl⟩, T1, ?_⟩
      rcases HD.out with ⟨_, h⟩ | ⟨_, k, hk, h⟩
      · exact .inl (by rw [show ((ptrVals d m).map fun x => #[x]).length = (pointersL d m).length by simp [ptrVals], HL.out]; exact h)
      · exact .inr ⟨k, by simpa [ptrVals] using hk, h⟩
end Go.Proofs.YtjhmghcfhgajcaaDoor
