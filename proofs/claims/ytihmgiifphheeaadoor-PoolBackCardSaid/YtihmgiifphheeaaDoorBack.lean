/- The walk of PoolBack. (Printed by laws10.py.) -/
import Derived.Test.YtihmgiifphheeaaDoorViews2
namespace Go.Proofs.YtihmgiifphheeaaDoor
open Go.RowKit Go.Sel

set_option maxRecDepth 100000 in
set_option maxHeartbeats 8000000 in
theorem back_any {n : Nat} {a0 a1' : Addr} {v1 v2 : Value} {s : List Int} {t : List (List Int)} {w : World} (k : Int) (hk : I64 k) (hs : HeadInts n w v1 s) (ht : HeadTabs n w v2 t) (hn : n ≤ w.heap.size) (hE : ErrT w.heap.size w) (hR : RunErrs a0 a1' w.heap.size w) :
    Calls Tryd.prog 7 #[.agg #[v1, v2], .int .i64 k] w fun e w' => e = .returned (.bool true) ∧ Below w.heap.size w w' := by
  obtain ⟨w1, hw1⟩ : ∃ y, y = w.alloc (Obj.cells #[v1, v2] 25) := ⟨_, rfl⟩
  have hB : Below w.heap.size w w1 := by rw [hw1]; exact kept_alloc (Below.refl _ _) _
  have hx : w1.heap[w.heap.size]? = some (.cells #[v1, v2] 25 (0, 0)) := by rw [hw1]; exact World.alloc_heap_new w _
  have hS := shown_any (hE.up hB) (hR.up hB)
  go_enter Tryd.func7, Tryd.ntmps7
  go_wp2_with fail
  rw [← hw1]
  clear hw1
  refine hS.mono ?_
  clear hS
  rintro e w2 ⟨rfl, hb⟩
  replace hx := mark_any hx hb
  replace hB := kept_trans hB hb
  clear hb
  have hC := lawCut_any (hs.below (hB.mono hn)) (ht.below (hB.mono hn)) (Nat.le_trans hn hB.size)
  obtain ⟨y1, y2⟩ := pair_cells hx
  go_wp2_with fail
  refine hC.mono ?_
  clear hC y1 y2
  rintro e w3 ⟨v, rfl, hPA, hb3⟩
  obtain ⟨p1, c1, p2, c2, rfl⟩ := IsPool.open (hPA w3 (fun _ _ _ _ h => h))
  have hsz2 : w.heap.size < w2.heap.size := (Array.getElem?_eq_some_iff.1 hx).1
  replace hx := mark_any hx hb3
  have hB3 := kept_trans hB hb3
  clear hB hb3
  have hs3 := hB3.size
  obtain ⟨y1, y2⟩ := pair_cells hx
  have y3 := row_frozen hx 0
  have y4 := row_frozen hx 1
  have hO4 := write2_only (W := w3) (B1 := w.heap.size) (.slice p1 s.length c1) (.slice p2 t.length c2)
  have hP := hPA _ (fun k o hk ho h => (hO4.block k (Array.getElem?_eq_some_iff.1 h).1 (by omega)).trans h)
  have hx4 := write2 hx (.slice p1 s.length c1) (.slice p2 t.length c2)
  have hB : Below w.heap.size w ((w3.setCell ⟨w.heap.size, 0, none⟩ (.slice p1 s.length c1)).setCell ⟨w.heap.size, 1, none⟩ (.slice p2 t.length c2)) := hB3.trans (hO4.below hB3.size (fun k hk e => by omega))
  obtain ⟨w4, hw4⟩ : ∃ y, y = (w3.setCell ⟨w.heap.size, 0, none⟩ (.slice p1 s.length c1)).setCell ⟨w.heap.size, 1, none⟩ (.slice p2 t.length c2) := ⟨_, rfl⟩
  have hsz4 : w3.heap.size ≤ w4.heap.size := by rw [hw4]; exact hO4.size
  rw [← hw4] at hP hx4 hB
  replace hP : IsPool w4.heap.size w4 (.agg #[.slice p1 s.length c1, .slice p2 t.length c2]) s t := IsPool.wider hP hsz4
  clear hPA hx hO4 hB3 hsz2 hs3 hsz4
  replace hx := hx4
  clear hx4
  have hC := takeRun_any k hk hP (hR.up hB) (Nat.le_refl _)
  obtain ⟨z0a, z0b⟩ := pair_cells hx
  rw [hw4] at z0a z0b
  go_wp2_with fail
  rw [← hw4]
  clear z0a z0b
  clear hw4
  refine hC.mono ?_
  clear hC
  rintro e w5 hA
  obtain ⟨hb, a9, b9, l9, c9, m9, d9, f9, ok9, rfl, hT9⟩ := takeRun_view hA
  clear hA
  replace hx := mark_any hx hb
  replace hP := (hP.below hb).wider hb.size
  replace hB := kept_trans hB hb
  clear hb
  clear y1 y2 y3 y4
  obtain ⟨w6, hw6⟩ : ∃ y, y = w5.alloc (Obj.cells #[.slice a9 l9 c9, .slice b9 m9 d9] 25) := ⟨_, rfl⟩
  have hk6 : Below w5.heap.size w5 w6 := by rw [hw6]; exact kept_alloc (Below.refl _ _) _
  replace hx := mark_any hx hk6
  replace hP := (hP.below hk6).wider hk6.size
  replace hT9 := hT9.up hk6
  replace hB := kept_trans hB hk6
  have h9 : w6.heap[w5.heap.size]? = some (.cells #[.slice a9 l9 c9, .slice b9 m9 d9] 25 (0, 0)) := by rw [hw6]; exact World.alloc_heap_new _ _
  clear hk6
  obtain ⟨s9, t9, hQ9, hA9⟩ := hT9
  have HA9 := Lib.hid hA9
  clear hA9
  cases ok9 with
  | false =>
    have hC := takeFree_any hP (Nat.le_refl _)
    obtain ⟨z0a, z0b⟩ := pair_cells hx
    rw [hw6] at z0a z0b
    go_wp2_with fail
    rw [← hw6]
    clear z0a z0b
    clear hw6
    refine hC.mono ?_
    clear hC
    rintro e w7 hA
    obtain ⟨hb, a5, b5, l5, c5, m5, d5, f5, ok5, rfl, hT5⟩ := take_view hA
    clear hA
    replace hx := mark_any hx hb
    replace hP := (hP.below hb).wider hb.size
    replace h9 := mark_any h9 hb
    replace hQ9 := (hQ9.below hb).wider hb.size
    replace hB := kept_trans hB hb
    clear hb
    obtain ⟨w8, hw8⟩ : ∃ y, y = w7.alloc (Obj.cells #[.slice a5 l5 c5, .slice b5 m5 d5] 25) := ⟨_, rfl⟩
    have hk8 : Below w7.heap.size w7 w8 := by rw [hw8]; exact kept_alloc (Below.refl _ _) _
    replace hx := mark_any hx hk8
    replace hP := (hP.below hk8).wider hk8.size
    replace h9 := mark_any h9 hk8
    replace hQ9 := (hQ9.below hk8).wider hk8.size
    replace hT5 := hT5.up hk8
    replace hB := kept_trans hB hk8
    have h5 : w8.heap[w7.heap.size]? = some (.cells #[.slice a5 l5 c5, .slice b5 m5 d5] 25 (0, 0)) := by rw [hw8]; exact World.alloc_heap_new _ _
    clear hk8
    obtain ⟨s5, t5, hQ5, hA5⟩ := hT5
    have HA5 := Lib.hid hA5
    clear hA5
    cases ok5 with
    | false =>
      go_wp2
      rw [← hw8]
      go_ret
      exact ⟨rfl, hB⟩
    | true =>
      have hA5 : rightP s t = true ∧ takeB s [0] = some f5 ∧ s5 = s.set f5 5 ∧ t5 = t := by
        rcases HA5.out with ⟨h, _⟩ | ⟨_, h⟩
        · cases h
        · exact h
      obtain ⟨hr, hb0, rfl, rfl⟩ := hA5
      have hf5 : f5 ≤ 1048576 := by have := (takeB_spec hb0).1; have := (rightP_states hr).2.1; omega
      have HR := Lib.hid hr
      have HT := Lib.hid hb0
      clear hr hb0 HA5
      have hC := close_ok hQ5 (hE.up hB) hf5 (close_back HR.out HT.out)
      obtain ⟨z0a, z0b⟩ := pair_cells h5
      rw [hw8] at z0a z0b
      go_wp2_with fail
      rw [← hw8]
      clear z0a z0b
      clear hw8
      refine hC.mono ?_
      clear hC
      rintro e w9 ⟨hb, ac, bc, lc, cc, mc, dc, rfl, hIc⟩
      have hPc := hIc.pool
      replace hx := mark_any hx hb
      replace hP := (hP.below hb).wider hb.size
      replace h9 := mark_any h9 hb
      replace hQ9 := (hQ9.below hb).wider hb.size
      replace h5 := mark_any h5 hb
      replace hQ5 := (hQ5.below hb).wider hb.size
      replace hB := kept_trans hB hb
      clear hb
      obtain ⟨w10, hw10⟩ : ∃ y, y = w9.alloc (Obj.cells #[.slice ac lc cc, .slice bc mc dc] 25) := ⟨_, rfl⟩
      have hk10 : Below w9.heap.size w9 w10 := by rw [hw10]; exact kept_alloc (Below.refl _ _) _
      replace hx := mark_any hx hk10
      replace hP := (hP.below hk10).wider hk10.size
      replace h9 := mark_any h9 hk10
      replace hQ9 := (hQ9.below hk10).wider hk10.size
      replace h5 := mark_any h5 hk10
      replace hQ5 := (hQ5.below hk10).wider hk10.size
      replace hPc := (hPc.below hk10).wider hk10.size
      replace hB := kept_trans hB hk10
      have hc : w10.heap[w9.heap.size]? = some (.cells #[.slice ac lc cc, .slice bc mc dc] 25 (0, 0)) := by rw [hw10]; exact World.alloc_heap_new _ _
      clear hk10
      go_wp2_with fail
      rw [← hw10]
      clear hw10
      have hC0 : HasBlk w9.heap.size #[.slice ac lc cc, .slice bc mc dc] 25 w10.drew := hc
      have hmk : ∀ w, (Instr.makeSlice 22 (.int .i64 32) (.int .i64 32)).run Tryd.prog w = .ok (.slice (some ⟨w.heap.size, 0, none⟩) 32 32) (w.alloc (.cells zeros32 3)) := fun _ => by kernel_rfl
      refine wp_region_class (HasBlk w9.heap.size #[.slice ac lc cc, .slice bc mc dc] 25) 9 (by kernel_rfl) ?_
      refine wpAnyC_take 0 (.agg #[.slice ac lc cc, .slice bc mc dc]) rfl (by kernel_rfl) rfl (fun _ _ _ h => h) hC0 (fun W hW => by obtain ⟨g1, g2⟩ := pair_cells hW.out; go_simp) ?_
      go_simp
      refine wpAnyC_take 1 (.int .i64 ((f5 : Nat) : Int)) rfl (by kernel_rfl) rfl (fun _ _ _ h => h) hC0 (fun W hW => by obtain ⟨g1, g2⟩ := pair_cells hW.out; go_simp) ?_
      go_simp
      refine wpAnyC_two 2 7 rfl rfl (by kernel_rfl) rfl rfl ?_ ?_
      · go_simp
        refine ⟨hC0.below (kept_alloc (Below.refl _ _) _) (Array.getElem?_eq_some_iff.1 hc).1, ?_⟩
        refine wpAnyC_two 3 7 rfl rfl (by kernel_rfl) rfl rfl ?_ ?_
        · go_simp
          obtain ⟨wm, hwm⟩ : ∃ y, y = (w10.alloc (Obj.cells zeros32 3)).drew := ⟨_, rfl⟩
          have hkm : Below w10.heap.size w10 wm := by rw [hwm]; exact (kept_alloc (Below.refl _ _) _).drew
          have hz : IsInts wm.heap.size wm (.slice (some ⟨w10.heap.size, 0, none⟩) 32 32) (List.replicate 32 0) := zeros_new (show wm.heap[w10.heap.size]? = some (.cells zeros32 3 (0, 0)) by rw [hwm]; first | exact World.alloc_heap_new _ _ | exact heap_alloc_at (World.alloc_heap_new _ _) _ | (have := World.alloc_heap_new (w10.alloc (Obj.cells #[.slice none 0 0, .slice none 0 0] 25)) (Obj.cells zeros32 3); rwa [World.size_alloc] at this))
          have hC := set_ok ((hPc.below hkm).wider hkm.size) hz (hE.up (kept_trans hB hkm)) hf5 (setE_back HR.out HT.out)
          rw [← hwm]
          clear hwm
          refine hC.mono ?_
          clear hC
          rintro e W1 ⟨hb, ae, be, le, ce, me, de, rfl, hIe⟩
          have hc1 : HasBlk w9.heap.size #[.slice ac lc cc, .slice bc mc dc] 25 W1 := mark_any (mark_any hc hkm) hb
          refine ⟨hc1, ?_⟩
          refine wpAnyC_take 4 (.tuple #[.agg #[.slice ae le ce, .slice be me de], .int .i64 0]) rfl (by kernel_rfl) rfl (fun _ _ _ h => h) hc1 (fun W hW => by go_simp) ?_
          go_simp
          refine wpAnyC_take 5 (.agg #[.slice ae le ce, .slice be me de]) rfl (by kernel_rfl) rfl (fun _ _ _ h => h) hc1 (fun W hW => by go_simp) ?_
          go_simp
          refine wpAnyC_take 6 (.int .i64 0) rfl (by kernel_rfl) rfl (fun _ _ _ h => h) hc1 (fun W hW => by go_simp) ?_
          go_simp
          refine wpAnyC_act 7 rfl (by kernel_rfl) rfl ?_
          go_simp
          refine ⟨hc1.below (kept_alloc (Below.refl _ _) _) (Array.getElem?_eq_some_iff.1 hc1.out).1, ?_⟩
          refine wpAnyC_act 8 rfl (by kernel_rfl) rfl ?_
          go_simp
          refine ⟨hc1.below (kept_alloc (Below.refl _ _) _) (Array.getElem?_eq_some_iff.1 hc1.out).1, ?_⟩
          obtain ⟨wf, hwf⟩ : ∃ y, y = W1.alloc (Obj.cells #[.slice ae le ce, .slice be me de] 25) := ⟨_, rfl⟩
          have hkf : Below W1.heap.size W1 wf := by rw [hwf]; exact kept_alloc (Below.refl _ _) _
          have hBF : Below w.heap.size w wf := kept_trans (kept_trans (kept_trans hB hkm) hb) hkf
          have hPF : IsPool wf.heap.size wf (.agg #[.slice p1 s.length c1, .slice p2 t5.length c2]) s t5 := (((((hP.below hkm).wider hkm.size).below hb).wider hb.size).below hkf).wider hkf.size
          have hxF := mark_any (mark_any (mark_any hx hkm) hb) hkf
          have hEF : IsPool wf.heap.size wf (.agg #[.slice ae le ce, .slice be me de]) _ _ := (hIe.pool.below hkf).wider hkf.size
          have hyF : wf.heap[W1.heap.size]? = some (.cells #[.slice ae le ce, .slice be me de] 25 (0, 0)) := by rw [hwf]; exact World.alloc_heap_new _ _
          refine wpAnyC_act 9 rfl (by kernel_rfl) rfl ?_
          go_simp
          refine wpAnyC_done (by kernel_rfl) ?_
          have hC := same_true hEF hPF (back_free HR.out HT.out)
          obtain ⟨q1, q2⟩ := pair_cells hxF
          obtain ⟨q3, q4⟩ := pair_cells hyF
          rw [hwf] at q1 q2 q3 q4
          go_wp2_with fail
          rw [← hwf]
          clear q1 q2 q3 q4 hwf
          refine hC.mono ?_
          clear hC
          rintro e wz ⟨rfl, hbz⟩
          go_wp2
          go_ret
          exact ⟨rfl, kept_trans hBF hbz⟩
        · go_simp
          refine ⟨(hC0.below (kept_alloc (Below.refl _ _) _) (Array.getElem?_eq_some_iff.1 hc).1).below (kept_alloc (Below.refl _ _) _) (by simp; have := (Array.getElem?_eq_some_iff.1 hc).1; omega), ?_⟩
          refine wpAnyC_act 3 rfl (by kernel_rfl) rfl ?_
          go_simp
          have hl17 : w10.heap.size + 1 < ((w10.alloc (Obj.cells zeros32 3)).alloc (Obj.cells #[.slice none 0 0, .slice none 0 0] 25)).drew.heap.size := by simp
          obtain ⟨wm, hwm⟩ : ∃ y, y = ((w10.alloc (Obj.cells zeros32 3)).alloc (Obj.cells #[.slice none 0 0, .slice none 0 0] 25)).drew := ⟨_, rfl⟩
          have hkm : Below w10.heap.size w10 wm := by rw [hwm]; exact (kept_alloc (kept_alloc (Below.refl _ _) _) _).drew
          have hz : IsInts wm.heap.size wm (.slice (some ⟨w10.heap.size, 0, none⟩) 32 32) (List.replicate 32 0) := zeros_new (show wm.heap[w10.heap.size]? = some (.cells zeros32 3 (0, 0)) by rw [hwm]; first | exact World.alloc_heap_new _ _ | exact heap_alloc_at (World.alloc_heap_new _ _) _ | (have := World.alloc_heap_new (w10.alloc (Obj.cells #[.slice none 0 0, .slice none 0 0] 25)) (Obj.cells zeros32 3); rwa [World.size_alloc] at this))
          have h17 : wm.heap[w10.heap.size + 1]? = some (.cells #[.slice none 0 0, .slice none 0 0] 25 (0, 0)) := by rw [hwm]; first | exact heap_alloc_at (World.alloc_heap_new _ _) _ | (have := World.alloc_heap_new (w10.alloc (Obj.cells zeros32 3)) (Obj.cells #[.slice none 0 0, .slice none 0 0] 25); rwa [World.size_alloc] at this)
          have hC := set_ok ((hPc.below hkm).wider hkm.size) hz (hE.up (kept_trans hB hkm)) hf5 (setE_back HR.out HT.out)
          rw [← hwm]
          rw [← hwm] at hl17
          clear hwm
          refine hC.mono ?_
          clear hC
          rintro e W1 ⟨hb, ae, be, le, ce, me, de, rfl, hIe⟩
          have hc1 : HasBlk w9.heap.size #[.slice ac lc cc, .slice bc mc dc] 25 W1 := mark_any (mark_any hc hkm) hb
          replace h17 := mark_any h17 hb
          have hC17 : HasBlk (w10.heap.size + 1) #[.slice none 0 0, .slice none 0 0] 25 W1 := h17
          refine ⟨hc1, ?_⟩
          refine wpAnyC_take 4 (.tuple #[.agg #[.slice ae le ce, .slice be me de], .int .i64 0]) rfl (by kernel_rfl) rfl (fun _ _ _ h => h) hc1 (fun W hW => by go_simp) ?_
          go_simp
          refine wpAnyC_take 5 (.agg #[.slice ae le ce, .slice be me de]) rfl (by kernel_rfl) rfl (fun _ _ _ h => h) hc1 (fun W hW => by go_simp) ?_
          go_simp
          refine wpAnyC_take 6 (.int .i64 0) rfl (by kernel_rfl) rfl (fun _ _ _ h => h) hc1 (fun W hW => by go_simp) ?_
          go_simp
          obtain ⟨u1, u2⟩ := pair_cells h17
          have u3 := row_frozen h17 0
          have u4 := row_frozen h17 1
          refine wpAnyC_act 8 rfl (by kernel_rfl) rfl ?_
          go_simp
          have hO := write2_only (W := W1) (B1 := w10.heap.size + 1) (.slice ae le ce) (.slice be me de)
          have hyF := write2 h17 (.slice ae le ce) (.slice be me de)
          have hlt17 : w10.heap.size + 1 < wm.heap.size := hl17
          have hge17 : w10.heap.size ≤ w10.heap.size + 1 := Nat.le_succ _
          have hBF0 : Below w10.heap.size w10 ((W1.setCell ⟨w10.heap.size + 1, 0, none⟩ (.slice ae le ce)).setCell ⟨w10.heap.size + 1, 1, none⟩ (.slice be me de)) := (kept_trans hkm hb).trans (hO.below (kept_trans hkm hb).size (fun j hj e => by omega))
          have hcF : HasBlk w9.heap.size #[.slice ac lc cc, .slice bc mc dc] 25 ((W1.setCell ⟨w10.heap.size + 1, 0, none⟩ (.slice ae le ce)).setCell ⟨w10.heap.size + 1, 1, none⟩ (.slice be me de)) := mark_any hc hBF0
          refine ⟨hcF, ?_⟩
          have hEF0 := (hIe.agree (AgreeIn.of_only hO (fun j h1 h2 e => by omega))).pool
          obtain ⟨wf, hwf⟩ : ∃ y, y = (W1.setCell ⟨w10.heap.size + 1, 0, none⟩ (.slice ae le ce)).setCell ⟨w10.heap.size + 1, 1, none⟩ (.slice be me de) := ⟨_, rfl⟩
          have hsF : W1.heap.size ≤ wf.heap.size := by rw [hwf]; exact hO.size
          rw [← hwf] at hBF0 hyF hEF0 hcF
          have hBF : Below w.heap.size w wf := kept_trans hB hBF0
          have hPF : IsPool wf.heap.size wf (.agg #[.slice p1 s.length c1, .slice p2 t5.length c2]) s t5 := (hP.below hBF0).wider hBF0.size
          have hxF := mark_any hx hBF0
          have hEF : IsPool wf.heap.size wf (.agg #[.slice ae le ce, .slice be me de]) _ _ := hEF0.wider hsF
          clear u1 u2 u3 u4 h17 hO
          refine wpAnyC_act 9 rfl (by kernel_rfl) rfl ?_
          go_simp
          refine wpAnyC_done (by kernel_rfl) ?_
          have hC := same_true hEF hPF (back_free HR.out HT.out)
          obtain ⟨q1, q2⟩ := pair_cells hxF
          obtain ⟨q3, q4⟩ := pair_cells hyF
          rw [hwf] at q1 q2 q3 q4
          go_wp2_with fail
          rw [← hwf]
          clear q1 q2 q3 q4 hwf
          refine hC.mono ?_
          clear hC
          rintro e wz ⟨rfl, hbz⟩
          go_wp2
          go_ret
          exact ⟨rfl, kept_trans hBF hbz⟩
      · go_simp
        refine ⟨hC0.below (kept_alloc (Below.refl _ _) _) (Array.getElem?_eq_some_iff.1 hc).1, ?_⟩
        refine wpAnyC_act 2 rfl (by kernel_rfl) rfl ?_
        go_simp
        refine ⟨(hC0.below (kept_alloc (Below.refl _ _) _) (Array.getElem?_eq_some_iff.1 hc).1).below (kept_alloc (Below.refl _ _) _) (by simp; have := (Array.getElem?_eq_some_iff.1 hc).1; omega), ?_⟩
        refine wpAnyC_act 3 rfl (by kernel_rfl) rfl ?_
        go_simp
        have hl17 : w10.heap.size < ((w10.alloc (Obj.cells #[.slice none 0 0, .slice none 0 0] 25)).alloc (Obj.cells zeros32 3)).drew.heap.size := by simp; omega
        obtain ⟨wm, hwm⟩ : ∃ y, y = ((w10.alloc (Obj.cells #[.slice none 0 0, .slice none 0 0] 25)).alloc (Obj.cells zeros32 3)).drew := ⟨_, rfl⟩
        have hkm : Below w10.heap.size w10 wm := by rw [hwm]; exact (kept_alloc (kept_alloc (Below.refl _ _) _) _).drew
        have hz : IsInts wm.heap.size wm (.slice (some ⟨w10.heap.size + 1, 0, none⟩) 32 32) (List.replicate 32 0) := zeros_new (show wm.heap[w10.heap.size + 1]? = some (.cells zeros32 3 (0, 0)) by rw [hwm]; first | exact World.alloc_heap_new _ _ | exact heap_alloc_at (World.alloc_heap_new _ _) _ | (have := World.alloc_heap_new (w10.alloc (Obj.cells #[.slice none 0 0, .slice none 0 0] 25)) (Obj.cells zeros32 3); rwa [World.size_alloc] at this))
        have h17 : wm.heap[w10.heap.size]? = some (.cells #[.slice none 0 0, .slice none 0 0] 25 (0, 0)) := by rw [hwm]; first | exact heap_alloc_at (World.alloc_heap_new _ _) _ | (have := World.alloc_heap_new (w10.alloc (Obj.cells zeros32 3)) (Obj.cells #[.slice none 0 0, .slice none 0 0] 25); rwa [World.size_alloc] at this)
        have hC := set_ok ((hPc.below hkm).wider hkm.size) hz (hE.up (kept_trans hB hkm)) hf5 (setE_back HR.out HT.out)
        rw [← hwm]
        rw [← hwm] at hl17
        clear hwm
        refine hC.mono ?_
        clear hC
        rintro e W1 ⟨hb, ae, be, le, ce, me, de, rfl, hIe⟩
        have hc1 : HasBlk w9.heap.size #[.slice ac lc cc, .slice bc mc dc] 25 W1 := mark_any (mark_any hc hkm) hb
        replace h17 := mark_any h17 hb
        have hC17 : HasBlk (w10.heap.size) #[.slice none 0 0, .slice none 0 0] 25 W1 := h17
        refine ⟨hc1, ?_⟩
        refine wpAnyC_take 4 (.tuple #[.agg #[.slice ae le ce, .slice be me de], .int .i64 0]) rfl (by kernel_rfl) rfl (fun _ _ _ h => h) hc1 (fun W hW => by go_simp) ?_
        go_simp
        refine wpAnyC_take 5 (.agg #[.slice ae le ce, .slice be me de]) rfl (by kernel_rfl) rfl (fun _ _ _ h => h) hc1 (fun W hW => by go_simp) ?_
        go_simp
        refine wpAnyC_take 6 (.int .i64 0) rfl (by kernel_rfl) rfl (fun _ _ _ h => h) hc1 (fun W hW => by go_simp) ?_
        go_simp
        obtain ⟨u1, u2⟩ := pair_cells h17
        have u3 := row_frozen h17 0
        have u4 := row_frozen h17 1
        refine wpAnyC_act 8 rfl (by kernel_rfl) rfl ?_
        go_simp
        have hO := write2_only (W := W1) (B1 := w10.heap.size) (.slice ae le ce) (.slice be me de)
        have hyF := write2 h17 (.slice ae le ce) (.slice be me de)
        have hlt17 : w10.heap.size < wm.heap.size := hl17
        have hge17 : w10.heap.size ≤ w10.heap.size := Nat.le_refl _
        have hBF0 : Below w10.heap.size w10 ((W1.setCell ⟨w10.heap.size, 0, none⟩ (.slice ae le ce)).setCell ⟨w10.heap.size, 1, none⟩ (.slice be me de)) := (kept_trans hkm hb).trans (hO.below (kept_trans hkm hb).size (fun j hj e => by omega))
        have hcF : HasBlk w9.heap.size #[.slice ac lc cc, .slice bc mc dc] 25 ((W1.setCell ⟨w10.heap.size, 0, none⟩ (.slice ae le ce)).setCell ⟨w10.heap.size, 1, none⟩ (.slice be me de)) := mark_any hc hBF0
        refine ⟨hcF, ?_⟩
        have hEF0 := (hIe.agree (AgreeIn.of_only hO (fun j h1 h2 e => by omega))).pool
        obtain ⟨wf, hwf⟩ : ∃ y, y = (W1.setCell ⟨w10.heap.size, 0, none⟩ (.slice ae le ce)).setCell ⟨w10.heap.size, 1, none⟩ (.slice be me de) := ⟨_, rfl⟩
        have hsF : W1.heap.size ≤ wf.heap.size := by rw [hwf]; exact hO.size
        rw [← hwf] at hBF0 hyF hEF0 hcF
        have hBF : Below w.heap.size w wf := kept_trans hB hBF0
        have hPF : IsPool wf.heap.size wf (.agg #[.slice p1 s.length c1, .slice p2 t5.length c2]) s t5 := (hP.below hBF0).wider hBF0.size
        have hxF := mark_any hx hBF0
        have hEF : IsPool wf.heap.size wf (.agg #[.slice ae le ce, .slice be me de]) _ _ := hEF0.wider hsF
        clear u1 u2 u3 u4 h17 hO
        refine wpAnyC_act 9 rfl (by kernel_rfl) rfl ?_
        go_simp
        refine wpAnyC_done (by kernel_rfl) ?_
        have hC := same_true hEF hPF (back_free HR.out HT.out)
        obtain ⟨q1, q2⟩ := pair_cells hxF
        obtain ⟨q3, q4⟩ := pair_cells hyF
        rw [hwf] at q1 q2 q3 q4
        go_wp2_with fail
        rw [← hwf]
        clear q1 q2 q3 q4 hwf
        refine hC.mono ?_
        clear hC
        rintro e wz ⟨rfl, hbz⟩
        go_wp2
        go_ret
        exact ⟨rfl, kept_trans hBF hbz⟩
  | true =>
    have hA9 : rightP s t = true ∧ (∃ h : Nat × Nat, firstL s k = some h ∧ f9 = h.1 ∧ s9 = putRow s h.1 k.toNat) ∧ t9 = t := by
      rcases HA9.out with ⟨h, _⟩ | ⟨_, h⟩
      · cases h
      · exact h
    have HA := Lib.hid hA9
    clear hA9
    have hC := drop_back hQ9 (hR.up hB) HA.out
    obtain ⟨z0a, z0b⟩ := pair_cells h9
    rw [hw6] at z0a z0b
    go_wp2_with fail
    rw [← hw6]
    clear z0a z0b
    clear hw6
    refine hC.mono ?_
    clear hC
    rintro e w7 ⟨hb, ad, bd, ld, cd, md, dd, rfl, hId⟩
    have hPd := hId.pool
    replace hx := mark_any hx hb
    replace hP := (hP.below hb).wider hb.size
    replace h9 := mark_any h9 hb
    replace hQ9 := (hQ9.below hb).wider hb.size
    replace hB := kept_trans hB hb
    clear hb
    obtain ⟨w8, hw8⟩ : ∃ y, y = w7.alloc (Obj.cells #[.slice ad ld cd, .slice bd md dd] 25) := ⟨_, rfl⟩
    have hk8 : Below w7.heap.size w7 w8 := by rw [hw8]; exact kept_alloc (Below.refl _ _) _
    replace hx := mark_any hx hk8
    replace hP := (hP.below hk8).wider hk8.size
    replace h9 := mark_any h9 hk8
    replace hQ9 := (hQ9.below hk8).wider hk8.size
    replace hPd := (hPd.below hk8).wider hk8.size
    replace hB := kept_trans hB hk8
    have hd : w8.heap[w7.heap.size]? = some (.cells #[.slice ad ld cd, .slice bd md dd] 25 (0, 0)) := by rw [hw8]; exact World.alloc_heap_new _ _
    clear hk8
    have hC := same_true hPd hP ⟨rfl, rfl⟩
    obtain ⟨z0a, z0b⟩ := pair_cells hd
    obtain ⟨z1a, z1b⟩ := pair_cells hx
    rw [hw8] at z0a z0b z1a z1b
    go_wp2_with fail
    rw [← hw8]
    clear z0a z0b z1a z1b
    clear hw8
    refine hC.mono ?_
    clear hC
    rintro e w9 ⟨rfl, hb⟩
    replace hx := mark_any hx hb
    replace hP := (hP.below hb).wider hb.size
    replace h9 := mark_any h9 hb
    replace hQ9 := (hQ9.below hb).wider hb.size
    replace hPd := (hPd.below hb).wider hb.size
    replace hd := mark_any hd hb
    replace hB := kept_trans hB hb
    clear hb
    have hC := takeFree_any hP (Nat.le_refl _)
    obtain ⟨z0a, z0b⟩ := pair_cells hx
    go_wp2_with fail
    clear z0a z0b
    refine hC.mono ?_
    clear hC
    rintro e w10 hA
    obtain ⟨hb, a5, b5, l5, c5, m5, d5, f5, ok5, rfl, hT5⟩ := take_view hA
    clear hA
    replace hx := mark_any hx hb
    replace hP := (hP.below hb).wider hb.size
    replace h9 := mark_any h9 hb
    replace hQ9 := (hQ9.below hb).wider hb.size
    replace hPd := (hPd.below hb).wider hb.size
    replace hd := mark_any hd hb
    replace hB := kept_trans hB hb
    clear hb
    obtain ⟨w11, hw11⟩ : ∃ y, y = w10.alloc (Obj.cells #[.slice a5 l5 c5, .slice b5 m5 d5] 25) := ⟨_, rfl⟩
    have hk11 : Below w10.heap.size w10 w11 := by rw [hw11]; exact kept_alloc (Below.refl _ _) _
    replace hx := mark_any hx hk11
    replace hP := (hP.below hk11).wider hk11.size
    replace h9 := mark_any h9 hk11
    replace hQ9 := (hQ9.below hk11).wider hk11.size
    replace hPd := (hPd.below hk11).wider hk11.size
    replace hd := mark_any hd hk11
    replace hT5 := hT5.up hk11
    replace hB := kept_trans hB hk11
    have h5 : w11.heap[w10.heap.size]? = some (.cells #[.slice a5 l5 c5, .slice b5 m5 d5] 25 (0, 0)) := by rw [hw11]; exact World.alloc_heap_new _ _
    clear hk11
    obtain ⟨s5, t5, hQ5, hA5⟩ := hT5
    have HA5 := Lib.hid hA5
    clear hA5
    cases ok5 with
    | false =>
      exfalso
      rcases HA9.out with ⟨h1, _⟩ | ⟨_, hr, ⟨p, h2, _⟩, _⟩
      · cases h1
      · rcases HA5.out with ⟨_, h3 | h3, _⟩ | ⟨h3, _⟩
        · rw [hr] at h3; cases h3
        · rw [firstL_none_of h3] at h2; cases h2
        · cases h3
    | true =>
      have hA5 : rightP s t = true ∧ takeB s [0] = some f5 ∧ s5 = s.set f5 5 ∧ t5 = t := by
        rcases HA5.out with ⟨h, _⟩ | ⟨_, h⟩
        · cases h
        · exact h
      obtain ⟨hr, hb0, rfl, rfl⟩ := hA5
      have hf5 : f5 ≤ 1048576 := by have := (takeB_spec hb0).1; have := (rightP_states hr).2.1; omega
      have HR := Lib.hid hr
      have HT := Lib.hid hb0
      clear hr hb0 HA5
      have hC := close_ok hQ5 (hE.up hB) hf5 (close_back HR.out HT.out)
      obtain ⟨z0a, z0b⟩ := pair_cells h5
      rw [hw11] at z0a z0b
      go_wp2_with fail
      rw [← hw11]
      clear z0a z0b
      clear hw11
      refine hC.mono ?_
      clear hC
      rintro e w12 ⟨hb, ac, bc, lc, cc, mc, dc, rfl, hIc⟩
      have hPc := hIc.pool
      replace hx := mark_any hx hb
      replace hP := (hP.below hb).wider hb.size
      replace h9 := mark_any h9 hb
      replace hQ9 := (hQ9.below hb).wider hb.size
      replace hPd := (hPd.below hb).wider hb.size
      replace hd := mark_any hd hb
      replace h5 := mark_any h5 hb
      replace hQ5 := (hQ5.below hb).wider hb.size
      replace hB := kept_trans hB hb
      clear hb
      obtain ⟨w13, hw13⟩ : ∃ y, y = w12.alloc (Obj.cells #[.slice ac lc cc, .slice bc mc dc] 25) := ⟨_, rfl⟩
      have hk13 : Below w12.heap.size w12 w13 := by rw [hw13]; exact kept_alloc (Below.refl _ _) _
      replace hx := mark_any hx hk13
      replace hP := (hP.below hk13).wider hk13.size
      replace h9 := mark_any h9 hk13
      replace hQ9 := (hQ9.below hk13).wider hk13.size
      replace hPd := (hPd.below hk13).wider hk13.size
      replace hd := mark_any hd hk13
      replace h5 := mark_any h5 hk13
      replace hQ5 := (hQ5.below hk13).wider hk13.size
      replace hPc := (hPc.below hk13).wider hk13.size
      replace hB := kept_trans hB hk13
      have hc : w13.heap[w12.heap.size]? = some (.cells #[.slice ac lc cc, .slice bc mc dc] 25 (0, 0)) := by rw [hw13]; exact World.alloc_heap_new _ _
      clear hk13
      go_wp2_with fail
      rw [← hw13]
      clear hw13
      have hC0 : HasBlk w12.heap.size #[.slice ac lc cc, .slice bc mc dc] 25 w13.drew := hc
      have hmk : ∀ w, (Instr.makeSlice 22 (.int .i64 32) (.int .i64 32)).run Tryd.prog w = .ok (.slice (some ⟨w.heap.size, 0, none⟩) 32 32) (w.alloc (.cells zeros32 3)) := fun _ => by kernel_rfl
      refine wp_region_class (HasBlk w12.heap.size #[.slice ac lc cc, .slice bc mc dc] 25) 9 (by kernel_rfl) ?_
      refine wpAnyC_take 0 (.agg #[.slice ac lc cc, .slice bc mc dc]) rfl (by kernel_rfl) rfl (fun _ _ _ h => h) hC0 (fun W hW => by obtain ⟨g1, g2⟩ := pair_cells hW.out; go_simp) ?_
      go_simp
      refine wpAnyC_take 1 (.int .i64 ((f5 : Nat) : Int)) rfl (by kernel_rfl) rfl (fun _ _ _ h => h) hC0 (fun W hW => by obtain ⟨g1, g2⟩ := pair_cells hW.out; go_simp) ?_
      go_simp
      refine wpAnyC_two 2 7 rfl rfl (by kernel_rfl) rfl rfl ?_ ?_
      · go_simp
        refine ⟨hC0.below (kept_alloc (Below.refl _ _) _) (Array.getElem?_eq_some_iff.1 hc).1, ?_⟩
        refine wpAnyC_two 3 7 rfl rfl (by kernel_rfl) rfl rfl ?_ ?_
        · go_simp
          obtain ⟨wm, hwm⟩ : ∃ y, y = (w13.alloc (Obj.cells zeros32 3)).drew := ⟨_, rfl⟩
          have hkm : Below w13.heap.size w13 wm := by rw [hwm]; exact (kept_alloc (Below.refl _ _) _).drew
          have hz : IsInts wm.heap.size wm (.slice (some ⟨w13.heap.size, 0, none⟩) 32 32) (List.replicate 32 0) := zeros_new (show wm.heap[w13.heap.size]? = some (.cells zeros32 3 (0, 0)) by rw [hwm]; first | exact World.alloc_heap_new _ _ | exact heap_alloc_at (World.alloc_heap_new _ _) _ | (have := World.alloc_heap_new (w13.alloc (Obj.cells #[.slice none 0 0, .slice none 0 0] 25)) (Obj.cells zeros32 3); rwa [World.size_alloc] at this))
          have hC := set_ok ((hPc.below hkm).wider hkm.size) hz (hE.up (kept_trans hB hkm)) hf5 (setE_back HR.out HT.out)
          rw [← hwm]
          clear hwm
          refine hC.mono ?_
          clear hC
          rintro e W1 ⟨hb, ae, be, le, ce, me, de, rfl, hIe⟩
          have hc1 : HasBlk w12.heap.size #[.slice ac lc cc, .slice bc mc dc] 25 W1 := mark_any (mark_any hc hkm) hb
          refine ⟨hc1, ?_⟩
          refine wpAnyC_take 4 (.tuple #[.agg #[.slice ae le ce, .slice be me de], .int .i64 0]) rfl (by kernel_rfl) rfl (fun _ _ _ h => h) hc1 (fun W hW => by go_simp) ?_
          go_simp
          refine wpAnyC_take 5 (.agg #[.slice ae le ce, .slice be me de]) rfl (by kernel_rfl) rfl (fun _ _ _ h => h) hc1 (fun W hW => by go_simp) ?_
          go_simp
          refine wpAnyC_take 6 (.int .i64 0) rfl (by kernel_rfl) rfl (fun _ _ _ h => h) hc1 (fun W hW => by go_simp) ?_
          go_simp
          refine wpAnyC_act 7 rfl (by kernel_rfl) rfl ?_
          go_simp
          refine ⟨hc1.below (kept_alloc (Below.refl _ _) _) (Array.getElem?_eq_some_iff.1 hc1.out).1, ?_⟩
          refine wpAnyC_act 8 rfl (by kernel_rfl) rfl ?_
          go_simp
          refine ⟨hc1.below (kept_alloc (Below.refl _ _) _) (Array.getElem?_eq_some_iff.1 hc1.out).1, ?_⟩
          obtain ⟨wf, hwf⟩ : ∃ y, y = W1.alloc (Obj.cells #[.slice ae le ce, .slice be me de] 25) := ⟨_, rfl⟩
          have hkf : Below W1.heap.size W1 wf := by rw [hwf]; exact kept_alloc (Below.refl _ _) _
          have hBF : Below w.heap.size w wf := kept_trans (kept_trans (kept_trans hB hkm) hb) hkf
          have hPF : IsPool wf.heap.size wf (.agg #[.slice p1 s.length c1, .slice p2 t5.length c2]) s t5 := (((((hP.below hkm).wider hkm.size).below hb).wider hb.size).below hkf).wider hkf.size
          have hxF := mark_any (mark_any (mark_any hx hkm) hb) hkf
          have hEF : IsPool wf.heap.size wf (.agg #[.slice ae le ce, .slice be me de]) _ _ := (hIe.pool.below hkf).wider hkf.size
          have hyF : wf.heap[W1.heap.size]? = some (.cells #[.slice ae le ce, .slice be me de] 25 (0, 0)) := by rw [hwf]; exact World.alloc_heap_new _ _
          refine wpAnyC_act 9 rfl (by kernel_rfl) rfl ?_
          go_simp
          refine wpAnyC_done (by kernel_rfl) ?_
          have hC := same_true hEF hPF (back_free HR.out HT.out)
          obtain ⟨q1, q2⟩ := pair_cells hxF
          obtain ⟨q3, q4⟩ := pair_cells hyF
          rw [hwf] at q1 q2 q3 q4
          go_wp2_with fail
          rw [← hwf]
          clear q1 q2 q3 q4 hwf
          refine hC.mono ?_
          clear hC
          rintro e wz ⟨rfl, hbz⟩
          go_wp2
          go_ret
          exact ⟨rfl, kept_trans hBF hbz⟩
        · go_simp
          refine ⟨(hC0.below (kept_alloc (Below.refl _ _) _) (Array.getElem?_eq_some_iff.1 hc).1).below (kept_alloc (Below.refl _ _) _) (by simp; have := (Array.getElem?_eq_some_iff.1 hc).1; omega), ?_⟩
          refine wpAnyC_act 3 rfl (by kernel_rfl) rfl ?_
          go_simp
          have hl17 : w13.heap.size + 1 < ((w13.alloc (Obj.cells zeros32 3)).alloc (Obj.cells #[.slice none 0 0, .slice none 0 0] 25)).drew.heap.size := by simp
          obtain ⟨wm, hwm⟩ : ∃ y, y = ((w13.alloc (Obj.cells zeros32 3)).alloc (Obj.cells #[.slice none 0 0, .slice none 0 0] 25)).drew := ⟨_, rfl⟩
          have hkm : Below w13.heap.size w13 wm := by rw [hwm]; exact (kept_alloc (kept_alloc (Below.refl _ _) _) _).drew
          have hz : IsInts wm.heap.size wm (.slice (some ⟨w13.heap.size, 0, none⟩) 32 32) (List.replicate 32 0) := zeros_new (show wm.heap[w13.heap.size]? = some (.cells zeros32 3 (0, 0)) by rw [hwm]; first | exact World.alloc_heap_new _ _ | exact heap_alloc_at (World.alloc_heap_new _ _) _ | (have := World.alloc_heap_new (w13.alloc (Obj.cells #[.slice none 0 0, .slice none 0 0] 25)) (Obj.cells zeros32 3); rwa [World.size_alloc] at this))
          have h17 : wm.heap[w13.heap.size + 1]? = some (.cells #[.slice none 0 0, .slice none 0 0] 25 (0, 0)) := by rw [hwm]; first | exact heap_alloc_at (World.alloc_heap_new _ _) _ | (have := World.alloc_heap_new (w13.alloc (Obj.cells zeros32 3)) (Obj.cells #[.slice none 0 0, .slice none 0 0] 25); rwa [World.size_alloc] at this)
          have hC := set_ok ((hPc.below hkm).wider hkm.size) hz (hE.up (kept_trans hB hkm)) hf5 (setE_back HR.out HT.out)
          rw [← hwm]
          rw [← hwm] at hl17
          clear hwm
          refine hC.mono ?_
          clear hC
          rintro e W1 ⟨hb, ae, be, le, ce, me, de, rfl, hIe⟩
          have hc1 : HasBlk w12.heap.size #[.slice ac lc cc, .slice bc mc dc] 25 W1 := mark_any (mark_any hc hkm) hb
          replace h17 := mark_any h17 hb
          have hC17 : HasBlk (w13.heap.size + 1) #[.slice none 0 0, .slice none 0 0] 25 W1 := h17
          refine ⟨hc1, ?_⟩
          refine wpAnyC_take 4 (.tuple #[.agg #[.slice ae le ce, .slice be me de], .int .i64 0]) rfl (by kernel_rfl) rfl (fun _ _ _ h => h) hc1 (fun W hW => by go_simp) ?_
          go_simp
          refine wpAnyC_take 5 (.agg #[.slice ae le ce, .slice be me de]) rfl (by kernel_rfl) rfl (fun _ _ _ h => h) hc1 (fun W hW => by go_simp) ?_
          go_simp
          refine wpAnyC_take 6 (.int .i64 0) rfl (by kernel_rfl) rfl (fun _ _ _ h => h) hc1 (fun W hW => by go_simp) ?_
          go_simp
          obtain ⟨u1, u2⟩ := pair_cells h17
          have u3 := row_frozen h17 0
          have u4 := row_frozen h17 1
          refine wpAnyC_act 8 rfl (by kernel_rfl) rfl ?_
          go_simp
          have hO := write2_only (W := W1) (B1 := w13.heap.size + 1) (.slice ae le ce) (.slice be me de)
          have hyF := write2 h17 (.slice ae le ce) (.slice be me de)
          have hlt17 : w13.heap.size + 1 < wm.heap.size := hl17
          have hge17 : w13.heap.size ≤ w13.heap.size + 1 := Nat.le_succ _
          have hBF0 : Below w13.heap.size w13 ((W1.setCell ⟨w13.heap.size + 1, 0, none⟩ (.slice ae le ce)).setCell ⟨w13.heap.size + 1, 1, none⟩ (.slice be me de)) := (kept_trans hkm hb).trans (hO.below (kept_trans hkm hb).size (fun j hj e => by omega))
          have hcF : HasBlk w12.heap.size #[.slice ac lc cc, .slice bc mc dc] 25 ((W1.setCell ⟨w13.heap.size + 1, 0, none⟩ (.slice ae le ce)).setCell ⟨w13.heap.size + 1, 1, none⟩ (.slice be me de)) := mark_any hc hBF0
          refine ⟨hcF, ?_⟩
          have hEF0 := (hIe.agree (AgreeIn.of_only hO (fun j h1 h2 e => by omega))).pool
          obtain ⟨wf, hwf⟩ : ∃ y, y = (W1.setCell ⟨w13.heap.size + 1, 0, none⟩ (.slice ae le ce)).setCell ⟨w13.heap.size + 1, 1, none⟩ (.slice be me de) := ⟨_, rfl⟩
          have hsF : W1.heap.size ≤ wf.heap.size := by rw [hwf]; exact hO.size
          rw [← hwf] at hBF0 hyF hEF0 hcF
          have hBF : Below w.heap.size w wf := kept_trans hB hBF0
          have hPF : IsPool wf.heap.size wf (.agg #[.slice p1 s.length c1, .slice p2 t5.length c2]) s t5 := (hP.below hBF0).wider hBF0.size
          have hxF := mark_any hx hBF0
          have hEF : IsPool wf.heap.size wf (.agg #[.slice ae le ce, .slice be me de]) _ _ := hEF0.wider hsF
          clear u1 u2 u3 u4 h17 hO
          refine wpAnyC_act 9 rfl (by kernel_rfl) rfl ?_
          go_simp
          refine wpAnyC_done (by kernel_rfl) ?_
          have hC := same_true hEF hPF (back_free HR.out HT.out)
          obtain ⟨q1, q2⟩ := pair_cells hxF
          obtain ⟨q3, q4⟩ := pair_cells hyF
          rw [hwf] at q1 q2 q3 q4
          go_wp2_with fail
          rw [← hwf]
          clear q1 q2 q3 q4 hwf
          refine hC.mono ?_
          clear hC
          rintro e wz ⟨rfl, hbz⟩
          go_wp2
          go_ret
          exact ⟨rfl, kept_trans hBF hbz⟩
      · go_simp
        refine ⟨hC0.below (kept_alloc (Below.refl _ _) _) (Array.getElem?_eq_some_iff.1 hc).1, ?_⟩
        refine wpAnyC_act 2 rfl (by kernel_rfl) rfl ?_
        go_simp
        refine ⟨(hC0.below (kept_alloc (Below.refl _ _) _) (Array.getElem?_eq_some_iff.1 hc).1).below (kept_alloc (Below.refl _ _) _) (by simp; have := (Array.getElem?_eq_some_iff.1 hc).1; omega), ?_⟩
        refine wpAnyC_act 3 rfl (by kernel_rfl) rfl ?_
        go_simp
        have hl17 : w13.heap.size < ((w13.alloc (Obj.cells #[.slice none 0 0, .slice none 0 0] 25)).alloc (Obj.cells zeros32 3)).drew.heap.size := by simp; omega
        obtain ⟨wm, hwm⟩ : ∃ y, y = ((w13.alloc (Obj.cells #[.slice none 0 0, .slice none 0 0] 25)).alloc (Obj.cells zeros32 3)).drew := ⟨_, rfl⟩
        have hkm : Below w13.heap.size w13 wm := by rw [hwm]; exact (kept_alloc (kept_alloc (Below.refl _ _) _) _).drew
        have hz : IsInts wm.heap.size wm (.slice (some ⟨w13.heap.size + 1, 0, none⟩) 32 32) (List.replicate 32 0) := zeros_new (show wm.heap[w13.heap.size + 1]? = some (.cells zeros32 3 (0, 0)) by rw [hwm]; first | exact World.alloc_heap_new _ _ | exact heap_alloc_at (World.alloc_heap_new _ _) _ | (have := World.alloc_heap_new (w13.alloc (Obj.cells #[.slice none 0 0, .slice none 0 0] 25)) (Obj.cells zeros32 3); rwa [World.size_alloc] at this))
        have h17 : wm.heap[w13.heap.size]? = some (.cells #[.slice none 0 0, .slice none 0 0] 25 (0, 0)) := by rw [hwm]; first | exact heap_alloc_at (World.alloc_heap_new _ _) _ | (have := World.alloc_heap_new (w13.alloc (Obj.cells zeros32 3)) (Obj.cells #[.slice none 0 0, .slice none 0 0] 25); rwa [World.size_alloc] at this)
        have hC := set_ok ((hPc.below hkm).wider hkm.size) hz (hE.up (kept_trans hB hkm)) hf5 (setE_back HR.out HT.out)
        rw [← hwm]
        rw [← hwm] at hl17
        clear hwm
        refine hC.mono ?_
        clear hC
        rintro e W1 ⟨hb, ae, be, le, ce, me, de, rfl, hIe⟩
        have hc1 : HasBlk w12.heap.size #[.slice ac lc cc, .slice bc mc dc] 25 W1 := mark_any (mark_any hc hkm) hb
        replace h17 := mark_any h17 hb
        have hC17 : HasBlk (w13.heap.size) #[.slice none 0 0, .slice none 0 0] 25 W1 := h17
        refine ⟨hc1, ?_⟩
        refine wpAnyC_take 4 (.tuple #[.agg #[.slice ae le ce, .slice be me de], .int .i64 0]) rfl (by kernel_rfl) rfl (fun _ _ _ h => h) hc1 (fun W hW => by go_simp) ?_
        go_simp
        refine wpAnyC_take 5 (.agg #[.slice ae le ce, .slice be me de]) rfl (by kernel_rfl) rfl (fun _ _ _ h => h) hc1 (fun W hW => by go_simp) ?_
        go_simp
        refine wpAnyC_take 6 (.int .i64 0) rfl (by kernel_rfl) rfl (fun _ _ _ h => h) hc1 (fun W hW => by go_simp) ?_
        go_simp
        obtain ⟨u1, u2⟩ := pair_cells h17
        have u3 := row_frozen h17 0
        have u4 := row_frozen h17 1
        refine wpAnyC_act 8 rfl (by kernel_rfl) rfl ?_
        go_simp
        have hO := write2_only (W := W1) (B1 := w13.heap.size) (.slice ae le ce) (.slice be me de)
        have hyF := write2 h17 (.slice ae le ce) (.slice be me de)
        have hlt17 : w13.heap.size < wm.heap.size := hl17
        have hge17 : w13.heap.size ≤ w13.heap.size := Nat.le_refl _
        have hBF0 : Below w13.heap.size w13 ((W1.setCell ⟨w13.heap.size, 0, none⟩ (.slice ae le ce)).setCell ⟨w13.heap.size, 1, none⟩ (.slice be me de)) := (kept_trans hkm hb).trans (hO.below (kept_trans hkm hb).size (fun j hj e => by omega))
        have hcF : HasBlk w12.heap.size #[.slice ac lc cc, .slice bc mc dc] 25 ((W1.setCell ⟨w13.heap.size, 0, none⟩ (.slice ae le ce)).setCell ⟨w13.heap.size, 1, none⟩ (.slice be me de)) := mark_any hc hBF0
        refine ⟨hcF, ?_⟩
        have hEF0 := (hIe.agree (AgreeIn.of_only hO (fun j h1 h2 e => by omega))).pool
        obtain ⟨wf, hwf⟩ : ∃ y, y = (W1.setCell ⟨w13.heap.size, 0, none⟩ (.slice ae le ce)).setCell ⟨w13.heap.size, 1, none⟩ (.slice be me de) := ⟨_, rfl⟩
        have hsF : W1.heap.size ≤ wf.heap.size := by rw [hwf]; exact hO.size
        rw [← hwf] at hBF0 hyF hEF0 hcF
        have hBF : Below w.heap.size w wf := kept_trans hB hBF0
        have hPF : IsPool wf.heap.size wf (.agg #[.slice p1 s.length c1, .slice p2 t5.length c2]) s t5 := (hP.below hBF0).wider hBF0.size
        have hxF := mark_any hx hBF0
        have hEF : IsPool wf.heap.size wf (.agg #[.slice ae le ce, .slice be me de]) _ _ := hEF0.wider hsF
        clear u1 u2 u3 u4 h17 hO
        refine wpAnyC_act 9 rfl (by kernel_rfl) rfl ?_
        go_simp
        refine wpAnyC_done (by kernel_rfl) ?_
        have hC := same_true hEF hPF (back_free HR.out HT.out)
        obtain ⟨q1, q2⟩ := pair_cells hxF
        obtain ⟨q3, q4⟩ := pair_cells hyF
        rw [hwf] at q1 q2 q3 q4
        go_wp2_with fail
        rw [← hwf]
        clear q1 q2 q3 q4 hwf
        refine hC.mono ?_
        clear hC
        rintro e wz ⟨rfl, hbz⟩
        go_wp2
        go_ret
        exact ⟨rfl, kept_trans hBF hbz⟩

end Go.Proofs.YtihmgiifphheeaaDoor
