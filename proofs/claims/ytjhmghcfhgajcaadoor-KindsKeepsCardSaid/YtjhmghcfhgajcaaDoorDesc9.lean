/- Contracts of slices.Collect of integers, desc.Slots. -/
import Derived.Test.YtjhmghcfhgajcaaDoorDesc8
import Derived.Test.YtjhmghcfhgajcaaDoorApp
namespace Go.Proofs.YtjhmghcfhgajcaaDoor
open Go.RowKit Go.Sel
attribute [local go_sem] Oper.semAt_some

theorem infoInt : (Tryd.prog.info? 3).map (fun i => (i.zero, i.size, i.bytes)) = some (some (.int .i64 0), 1, 8) := by kernel_rfl
theorem parts_info {P : Program} {t : TypeId} {z : Option Value} {s b : Nat} (h : (P.info? t).map (fun i => (i.zero, i.size, i.bytes)) = some (z, s, b)) : ∃ i, P.info? t = some i ∧ i.zero = z ∧ i.size = s ∧ i.bytes = b := by
  obtain ⟨i, h1, h2⟩ := Option.map_eq_some_iff.1 h
  cases h2
  exact ⟨i, h1, rfl, rfl, rfl⟩
/-- The result is a slice of integers in memory of the call's own, in a row from block B on; what lay below w's end lies as it lay. -/
def OwnI (B : Nat) (xs : List Int) (w : World) (e : Ending) (w' : World) : Prop :=
  ∃ v, e = .returned v ∧ w'.ownsRow B 3 1 v xs.length (xs.map (Value.int .i64)) ∧ Below w.heap.size w w'

set_option maxRecDepth 100000 in
set_option maxHeartbeats 2000000 in
theorem appendSeq_any {gf : Nat} {lb : Array Value} {l : List Int} {foot : Nat → Prop} {w : World} (eg : ∀ args w, (callFunc gf args).run Tryd.prog w = .ok (.enter gf args) w)
    (hit : Iter Tryd.prog gf lb ((l.map (Value.int .i64)).map fun x => #[x]) foot w) (hlen : l.length ≤ big) (hfoot : ∀ b, foot b → b < w.heap.size) :
    Calls Tryd.prog 70 #[.slice none 0 0, .func (.func gf) #[] lb] w (OwnI w.heap.size l w) := by
  unfold big at hlen
  obtain ⟨i0, hi, hz0, hz1, hz2⟩ := parts_info infoInt
  refine callsIn_wide.1 (callsIn_of_wp_marks (n := 0) Tryd.func70 rfl trivial ?_)
  simp only [Tryd.ntmps70, List.size_toArray, List.length_cons, List.length_nil, Nat.reduceAdd, Nat.reduceSub, Array.replicate_succ, Array.replicate_zero, List.push_toArray, List.append_toArray, List.nil_append, List.cons_append]
  gi_wp2_with fail
  obtain ⟨w3, hw3⟩ : ∃ x, x = w.alloc (Obj.cells #[Value.slice none 0 0] 22) := ⟨_, rfl⟩
  rw [← hw3]
  have hs3 : w3.heap.size = w.heap.size + 1 := by rw [hw3]; simp
  have b1 : Boxed w3 w.heap.size 22 (.slice none 0 0) := by rw [hw3]; exact Boxed.new w _ _
  have hb3 : Below w.heap.size w w3 := by rw [hw3]; exact kept_alloc (Below.refl _ _) _
  clear hw3
  refine range_one 5 rfl eg hit hb3
    (fun b => b = w.heap.size) (fun b hb => ⟨by omega, fun hf => by have := hfoot b hf; omega⟩) (fun b hb => by have := hfoot b hb; omega)
    (fun j T1 W => CollectI w w.heap.size 22 3 1 (l.map (Value.int .i64)) j T1 W) (fun _ _ _ _ => False)
    (fun j T1 A B h hq => h.quiet hq (by omega)) (fun _ _ _ _ _ h _ => h)
    ⟨_, b1, World.ownsRow_nil _ _ _ _, rfl, fun g hg => by simp [Value.ownBlock] at hg, fun b hb => by omega, hb3⟩
    ?assign ?body ?done (fun _ _ _ _ _ _ _ h => h.elim)
  case assign =>
    intro lp j x W K hx hK
    clear hx
    gi_wp2
    exact hK
  case body =>
    rintro lp j x T1 W hx ⟨v, hv, hrow, hTB, hTv, hTw, hbw⟩ ht
    obtain ⟨m, hm, rfl⟩ := map_at hx
    have hj : j < 1048577 := by have h := (List.getElem?_eq_some_iff.1 hm).1; omega
    have hws := hbw.size
    have HT := Lib.hid (show (l.map (Value.int .i64)).take ((j + 1) * 1) = (l.map (Value.int .i64)).take (j * 1) ++ [.int .i64 m] by rw [Nat.mul_one, Nat.mul_one]; exact take_snoc hx)
    have hvc := hv.cell
    clear hx hm b1 hb3 hs3 hit hfoot eg
    gi_wp2_with (gi_at_builtin; refine wpListIn_append_new _ rfl _ _ 22 rfl w.heap.size 3 i0 (.int .i64 0) 1 8 Tryd.underlying22 hi hz0 hz1 hz2 rfl (by decide) _ _ _ rfl (hrow.alloc _) ⟨W.heap.size, 0, none⟩ 1 1 [.int .i64 m] rfl rfl (cell_one_new _ _ _) (by simp [Value.oneCell']) (by unfold maxLen; omega) (by omega) (by simp; omega) ?_; intro v' w1 hown' hgrow hf; obtain ⟨g', cap', rfl⟩ := ownsRow_succ hown'; obtain ⟨hv1, T2, h2, h3, h4⟩ := CollectI.step hv hrow hTB hTv hTw hbw (by decide) hown' hgrow hf HT.out; have hc1 := hv1.cell; have hf1 := hv1.frozen)
    exact ⟨T2, h2, h3, h4⟩
  case done =>
    rintro D T1 W hD ⟨v, hv, hrow, _, _, _, hbw⟩ hd
    have hvc := hv.cell
    clear hit hfoot eg
    gi_wp2
    refine end_mark (B := w.heap.size) (by omega) hd (fun w' hq => ⟨_, results_tmp rfl _ _ _, v, rfl, ?_, hq.below hbw (Nat.le_refl _) (Nat.le_refl _)⟩)
    have := hq.ownsRow hrow (fun _ _ => .inr trivial)
    rw [Nat.mul_one, List.take_of_length_le (by simp)] at this
    simpa using this
theorem collect_any {gf : Nat} {lb : Array Value} {l : List Int} {foot : Nat → Prop} {w : World} (eg : ∀ args w, (callFunc gf args).run Tryd.prog w = .ok (.enter gf args) w)
    (hit : Iter Tryd.prog gf lb ((l.map (Value.int .i64)).map fun x => #[x]) foot w) (hlen : l.length ≤ big) (hfoot : ∀ b, foot b → b < w.heap.size) :
    Calls Tryd.prog 53 #[.func (.func gf) #[] lb] w (OwnI w.heap.size l w) := by
  have hA := appendSeq_any eg hit hlen hfoot
  clear hit hfoot eg
  go_enter Tryd.func53, Tryd.ntmps53
  go_wp2_with fail
  refine hA.mono ?_
  clear hA
  rintro e w' ⟨v, rfl, ho, hb⟩
  go_wp2
  go_ret
  exact ⟨_, rfl, ho, hb⟩

theorem base_owns {w : World} {base base' : Nat} {e : TypeId} {size : Nat} {v : Value} {k : Nat} {xs : List Value} (h : w.ownsRow base e size v k xs) (hb : base' ≤ base) : w.ownsRow base' e size v k xs := by
  obtain ⟨h1, h2⟩ := h
  refine ⟨h1, ?_⟩
  rcases h2 with h2 | ⟨g, cap, cur, rfl, hg, r⟩
  · exact .inl h2
  · exact .inr ⟨g, cap, cur, rfl, Nat.le_trans hb hg, r⟩
/-- The slots. -/
def slotsD (d : DescL) (n : Int) : List Int := match shapeE d n with | none => pointersL d n.toNat | some _ => []
/-- Slots' answer: no more than a million of them. -/
def SlotsPost (d : DescL) (n : Int) (w : World) (e : Ending) (w' : World) : Prop :=
  ∃ v, e = .returned (.tuple #[v, .int .i64 (errD d n)]) ∧ w'.ownsRow w.heap.size 3 1 v (slotsD d n).length ((slotsD d n).map (Value.int .i64)) ∧ Below w.heap.size w w'
set_option maxHeartbeats 2000000 in
theorem slots_any {a0 a1 a2 : Addr} {v : Value} {d : DescL} {w : World} (n : Int) (hn : I64 n) (h : IsDesc w.heap.size w v d) (hE : AddrErrs a0 a1 a2 w.heap.size w) (hT : ErrT w.heap.size w) (hlen : (slotsD d n).length ≤ big) :
    Calls Tryd.prog 30 #[v, .int .i64 n] w (SlotsPost d n w) := by
  have hd0 := h
  obtain ⟨v1, v2, rfl, i1, i2, h1, h2⟩ := h
  obtain ⟨q1, c1, rfl, hc1⟩ := h1.open
  obtain ⟨q2, c2, rfl, hc2⟩ := h2.open
  clear i1 i2 hc1 hc2
  obtain ⟨w1, hw1⟩ : ∃ y, y = w.alloc (Obj.cells #[.int .i64 d.size, .slice q1 d.ptrs.length c1, .int .i64 d.elem, .slice q2 d.eptrs.length c2] 24) := ⟨_, rfl⟩
  have hb1 : Below w.heap.size w w1 := by rw [hw1]; exact kept_alloc (Below.refl _ _) _
  have hx1 : w1.heap[w.heap.size]? = some (.cells #[.int .i64 d.size, .slice q1 d.ptrs.length c1, .int .i64 d.elem, .slice q2 d.eptrs.length c2] 24 (0, 0)) := by rw [hw1]; exact World.alloc_heap_new w _
  have hS := shapeOf_any n hn (hd0.up hb1) (hE.up hb1)
  obtain ⟨z0, z1, z2, z3⟩ := four_cells hx1
  rw [hw1] at z0 z1 z2 z3
  clear hd0 hE hx1
  go_enter Tryd.func30, Tryd.ntmps30
  go_wp2_with fail
  rw [← hw1]
  clear hw1 z0 z1 z2 z3
  refine hS.mono ?_
  clear hS
  rintro e w2 ⟨hb, ⟨x, hs, rfl⟩ | ⟨hs, g, rfl, hg, hx⟩⟩
  · have hb2 := kept_trans hb1 hb
    have hto := descTold_any x (hT.up hb2) (Nat.le_refl _)
    have HN := Lib.hid (show slotsD d n = [] by unfold slotsD; rw [hs])
    have HX := Lib.hid (errD_some hs)
    clear hT hs h1 h2 hlen
    go_wp2_with fail
    refine hto.mono ?_
    clear hto
    rintro e w3 ⟨rfl, hb3⟩
    go_wp2
    refine bodyPost_ret (v := .tuple #[.slice none 0 0, .int .i64 x]) ?_ rfl ⟨.slice none 0 0, by rw [HX.out], by rw [HN.out]; exact World.ownsRow_nil _ _ _ _, kept_trans hb2 hb3⟩
    simp [results, Tryd.results30, go_sem]
  · have hb2 := kept_trans hb1 hb
    obtain ⟨k, rfl⟩ := Int.eq_ofNat_of_zero_le (shapeE_none hs).2.1
    have hsl : slotsD d (k : Int) = pointersL d k := by unfold slotsD; rw [hs]; rfl
    rw [hsl] at hlen
    have HN := Lib.hid hsl
    have HX := Lib.hid (errD_none hs)
    have hM := ptrMaker_any g w2
    obtain ⟨w3, hw3⟩ : ∃ y, y = w2.alloc (.cells #[.pointer (some ⟨g, 0, none⟩)] 58) := ⟨_, rfl⟩
    have hkb : Below w2.heap.size w2 w3 := by rw [hw3]; exact kept_alloc (Below.refl _ _) _
    have hgl := (Array.getElem?_eq_some_iff.1 hx).1
    have hs2 := hb2.size
    have hs3 : w3.heap.size = w2.heap.size + 1 := by rw [hw3]; simp
    have hbox : Boxed w3 w2.heap.size 58 (.pointer (some ⟨g, 0, none⟩)) := by rw [hw3]; exact Boxed.new _ _ _
    have hC := collect_any (w := w3) (enters_of Tryd.func71 (by kernel_rfl) rfl) (pointers_iter (sb := w2.heap.size) (n0 := w.heap.size) hs ⟨hbox, blk_kept hx hkb, h1.below (kept_trans hb2 hkb), h2.below (kept_trans hb2 hkb)⟩ (by omega)) hlen (fun b hb => by
      rcases hb with rfl | rfl | ⟨hp, e⟩ | ⟨hp, e⟩
      · omega
      · omega
      · have := ints_block h1 hp b e; omega
      · have := ints_block h2 hp b e; omega)
    have hb3 := kept_trans hb2 hkb
    clear hs hx hT h1 h2 hlen hsl hbox
    go_wp2_with fail
    refine hM.mono ?_
    clear hM
    rintro e w' ⟨rfl, he⟩
    rw [← hw3] at he
    subst he
    clear hw3
    go_wp2_with fail
    refine hC.mono ?_
    clear hC
    rintro e w4 ⟨v, rfl, ho, hb4⟩
    obtain ⟨oa, oc, rfl, hoc⟩ := owns_open ho
    have HO := Lib.hid ho
    clear ho
    go_wp2
    refine bodyPost_ret (v := .tuple #[.slice oa (pointersL d k).length oc, .int .i64 0]) ?_ rfl ⟨.slice oa (pointersL d k).length oc, by rw [HX.out], ?_, kept_trans hb3 hb4⟩
    · simp [results, Tryd.results30, go_sem]
    · rw [HN.out]; exact base_owns HO.out (by omega)
end Go.Proofs.YtjhmghcfhgajcaaDoor
