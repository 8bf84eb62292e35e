/- Contract of selionref10.Set. -/
import Derived.Test.YtihmgiifphheeaaGreatDoorRef9
namespace Go.Proofs.YtihmgiifphheeaaGreatDoor
open Go.RowKit Go.Sel

theorem setAns_100 {s x : List Int} {t : List (List Int)} {b : Int} (h : rightP s t = false) : setAns s t b x = ([], [], 100) := by
  unfold setAns setE blockE
  rw [if_pos h]
theorem setAns_90 {s x : List Int} {t : List (List Int)} {b : Int} (hr : rightP s t = true) (h : ¬ (0 ≤ b ∧ b < (s.length : Int) ∧ s[b.toNat]?.getD 0 ∈ [1, 2, 5]) ∨ rightT x = false) : setAns s t b x = ([], [], 90) := by
  unfold setAns setE blockE
  rw [if_neg (by rw [hr]; decide)]
  rcases h with h | h
  · rw [if_neg h]
  · by_cases q : 0 ≤ b ∧ b < (s.length : Int) ∧ s[b.toNat]?.getD 0 ∈ [1, 2, 5]
    · rw [if_pos q]; simp [h]
    · rw [if_neg q]
theorem setAns_ok {s x : List Int} {t : List (List Int)} {b : Nat} {y : Int} (hr : rightP s t = true) (hx : s[b]? = some y) (hm : y ∈ [1, 2, 5]) (hx : rightT x = true) : setAns s t (b : Int) x = (s.set b (stateL x), t.set b x, 0) := by
  unfold setAns setE
  rw [blockE_yes hr ‹_› hm]
  simp [hx]
theorem rightP_length {s : List Int} {t : List (List Int)} (h : rightP s t = true) : t.length = s.length := by
  unfold rightP at h
  simp only [Bool.and_eq_true, decide_eq_true_eq] at h
  exact h.1.2
theorem RefRows.tabAt {B b : Nat} {a2 : Option Addr} {c2 : Nat} {vs : Value} {tvs : List Value} {s : List Int} {t : List (List Int)} {W : World} (h : RefRows B vs (.slice a2 t.length c2) tvs s t W) (hb : b < t.length) :
    ∃ gt, a2 = some ⟨gt, 0, none⟩ ∧ B ≤ gt ∧ gt < W.heap.size := by
  rcases h.tab.2 with ⟨h1, h0⟩ | ⟨gs, cap, cur, h1, _⟩
  · omega
  · cases h1
    have hl := h.tab.lt gs rfl
    exact ⟨gs, rfl, hl.1, hl.2⟩

set_option maxRecDepth 100000 in
set_option maxHeartbeats 8000000 in
theorem ref10Set_any {n : Nat} {v : Value} {s : List Int} {t : List (List Int)} {w : World} {vx : Value} {x : List Int} (b : Int) (hbI : I64 b) (h : IsPool n w v s t) (hx0 : IsInts n w vx x) (hn : n ≤ w.heap.size) :
    Calls Tryz.prog 20 #[v, .int .i64 b, vx] w (NumAns (setAns s t b x) w) := by
  have hok := h.ok
  have hls := hok.ls
  have hlt0 := hok.lt
  unfold big at hls hlt0
  unfold I64 at hbI
  have hlx := hx0.len
  have hrx : ∀ y ∈ x, I64 y := fun y hy => hx0.range hy
  have HRX := Lib.hid hrx
  clear hrx
  have hl2 := Lib.hid hlx
  unfold big at hlx
  obtain ⟨xa, xc, rfl, hxc⟩ := hx0.open
  obtain ⟨i0, hi, hz0, hz1, hz2⟩ := info_parts infoInt
  obtain ⟨a1, c1, a2, c2, rfl⟩ := IsPool.open h
  obtain ⟨w1, hw1⟩ : ∃ y, y = (w.alloc (Obj.cells #[.slice a1 s.length c1, .slice a2 t.length c2] 25)).alloc (Obj.cells #[.slice none 0 0, .slice none 0 0] 25) := ⟨_, rfl⟩
  have hb1 : Below w.heap.size w w1 := by rw [hw1]; exact kept_alloc (kept_alloc (Below.refl _ _) _) _
  have hs1 : w1.heap.size = w.heap.size + 2 := by rw [hw1]; simp
  have hx1 : w1.heap[w.heap.size]? = some (.cells #[.slice a1 s.length c1, .slice a2 t.length c2] 25 (0, 0)) := by rw [hw1]; exact heap_alloc_at (World.alloc_heap_new w _) _
  have hx2 : w1.heap[w.heap.size + 1]? = some (.cells #[.slice none 0 0, .slice none 0 0] 25 (0, 0)) := by rw [hw1]; have := World.alloc_heap_new (w.alloc (Obj.cells #[.slice a1 s.length c1, .slice a2 t.length c2] 25)) (Obj.cells #[.slice none 0 0, .slice none 0 0] 25); rwa [World.size_alloc] at this
  have hs2 : w.heap.size + 1 < w1.heap.size := by omega
  clear hs1
  have h1 := (h.below (hb1.mono hn)).wider (n' := w1.heap.size) (by omega)
  have hxx1 := hx0.below (hb1.mono hn)
  clear hx0
  obtain ⟨z1, z2⟩ := pair_cells hx1
  have hR := ref10Right_any h1 (Nat.le_refl _)
  rw [hw1] at z1 z2
  go_enter Tryz.func20, Tryz.ntmps20
  go_wp2_with fail
  rw [← hw1]
  clear hw1 z1 z2
  cases hr : rightP s t with
  | false =>
    rw [hr] at hR
    have HE := Lib.hid (show setAns s t b x = ([], [], 100) by exact setAns_100 hr)
    refine hR.mono ?_
    rintro e w2 ⟨rfl, hb2⟩
    clear hR hr
    have hr0 := mark_any hx2 hb2
    obtain ⟨e1, e2⟩ := pair_cells hr0
    have e3 := row_frozen hr0 0
    have e4 := row_frozen hr0 1
    have HY := Lib.hid (write2 hr0 (.slice none 0 0) (.slice none 0 0))
    have HB := Lib.hid (res_below (x := .slice none 0 0) (y := .slice none 0 0) (hb1.trans (hb2.mono (by omega))))
    clear hr0
    go_wp2
    obtain ⟨r1, r2⟩ := pair_cells HY.out
    refine bodyPost_ret (v := .tuple #[.agg #[.slice none 0 0, .slice none 0 0], .int .i64 100]) ?_ rfl ?_
    · clear e1 e2 e3 e4
      simp [results, Tryz.results20, go_sem, r1, r2]
    · rw [HE.out]; exact ⟨HB.out, none, none, 0, 0, 0, 0, rfl, emptyIn _ _ _⟩
  | true =>
    rw [hr] at hR
    refine hR.mono ?_
    rintro e w2 ⟨rfl, hb2⟩
    clear hR
    have HR := Lib.hid hr
    clear hr
    have hx := mark_any hx1 hb2
    have hs2' := hb2.size
    have hP2 := (h1.below hb2).wider hb2.size
    obtain ⟨y1, y2⟩ := pair_cells hx
    have hxx2 := hxx1.below (hb2.mono (by omega))
    clear hxx1
    by_cases hin : 0 ≤ b ∧ b < (s.length : Int)
    rotate_left
    · have HE := Lib.hid (setAns_90 (x := x) HR.out (.inl (fun q => hin ⟨q.1, q.2.1⟩)))
      by_cases h0 : b < 0
      · clear hin hP2
        have hr0 := mark_any hx2 hb2
        obtain ⟨e1, e2⟩ := pair_cells hr0
        have e3 := row_frozen hr0 0
        have e4 := row_frozen hr0 1
        have HY := Lib.hid (write2 hr0 (.slice none 0 0) (.slice none 0 0))
        have HB := Lib.hid (res_below (x := .slice none 0 0) (y := .slice none 0 0) (hb1.trans (hb2.mono (by omega))))
        clear hr0
        go_wp2
        obtain ⟨r1, r2⟩ := pair_cells HY.out
        refine bodyPost_ret (v := .tuple #[.agg #[.slice none 0 0, .slice none 0 0], .int .i64 90]) ?_ rfl ?_
        · clear e1 e2 e3 e4
          simp [results, Tryz.results20, go_sem, r1, r2]
        · rw [HE.out]; exact ⟨HB.out, none, none, 0, 0, 0, 0, rfl, emptyIn _ _ _⟩
      · have h9 : (s.length : Int) ≤ b := by omega
        clear hin hP2
        have hr0 := mark_any hx2 hb2
        obtain ⟨e1, e2⟩ := pair_cells hr0
        have e3 := row_frozen hr0 0
        have e4 := row_frozen hr0 1
        have HY := Lib.hid (write2 hr0 (.slice none 0 0) (.slice none 0 0))
        have HB := Lib.hid (res_below (x := .slice none 0 0) (y := .slice none 0 0) (hb1.trans (hb2.mono (by omega))))
        clear hr0
        go_wp2
        obtain ⟨r1, r2⟩ := pair_cells HY.out
        refine bodyPost_ret (v := .tuple #[.agg #[.slice none 0 0, .slice none 0 0], .int .i64 90]) ?_ rfl ?_
        · clear e1 e2 e3 e4
          simp [results, Tryz.results20, go_sem, r1, r2]
        · rw [HE.out]; exact ⟨HB.out, none, none, 0, 0, 0, 0, rfl, emptyIn _ _ _⟩
    · obtain ⟨hb0, hbl⟩ := hin
      obtain ⟨b, rfl⟩ := Int.eq_ofNat_of_zero_le hb0
      have hlt : b < s.length := by omega
      obtain ⟨q1, q2, hq, hq1, hq2⟩ := hP2
      cases hq
      obtain ⟨xx, g0, o0, hxb, rfl, _, gx, _⟩ := hq1.at hlt
      have hP2 : IsPool w2.heap.size w2 (.agg #[.slice (some ⟨g0, o0, none⟩) s.length c1, .slice a2 t.length c2]) s t := ⟨_, _, rfl, hq1, hq2⟩
      have hT := ref07Right_any hxx2
      cases hrt : rightT x with
      | false =>
        rw [hrt] at hT
        have HE := Lib.hid (setAns_90 (b := (b : Int)) HR.out (.inr hrt))
        clear hrt hP2 hq1 hq2 hxb
        go_wp2_with fail
        refine hT.mono ?_
        rintro e w' ⟨rfl, he⟩
        obtain rfl := he.symm
        clear hT
        have hr0 := mark_any hx2 hb2
        obtain ⟨e1, e2⟩ := pair_cells hr0
        have e3 := row_frozen hr0 0
        have e4 := row_frozen hr0 1
        have HY := Lib.hid (write2 hr0 (.slice none 0 0) (.slice none 0 0))
        have HB := Lib.hid (res_below (x := .slice none 0 0) (y := .slice none 0 0) (hb1.trans (hb2.mono (by omega))))
        clear hr0
        go_wp2
        obtain ⟨r1, r2⟩ := pair_cells HY.out
        refine bodyPost_ret (v := .tuple #[.agg #[.slice none 0 0, .slice none 0 0], .int .i64 90]) ?_ rfl ?_
        · clear e1 e2 e3 e4
          simp [results, Tryz.results20, go_sem, r1, r2]
        · rw [HE.out]; exact ⟨HB.out, none, none, 0, 0, 0, 0, rfl, emptyIn _ _ _⟩
      | true =>
        rw [hrt] at hT
        by_cases hx5 : xx = 1 ∨ xx = 2 ∨ xx = 5
        rotate_left
        · have HE := Lib.hid (setAns_90 (x := x) (b := (b : Int)) HR.out (.inl (fun q => by have := q.2.2; rw [Int.toNat_natCast, hxb] at this; exact hx5 (by simpa using this))))
          have q1 : (xx != 1) = true := by simpa using fun e => hx5 (.inl e)
          have q2 : (xx != 2) = true := by simpa using fun e => hx5 (.inr (.inl e))
          have q5 : (xx != 5) = true := by simpa using fun e => hx5 (.inr (.inr e))
          clear hrt hP2 hq1 hq2 hxb hx5
          go_wp2_with fail
          refine hT.mono ?_
          rintro e w' ⟨rfl, he⟩
          obtain rfl := he.symm
          clear hT
          have hr0 := mark_any hx2 hb2
          obtain ⟨e1, e2⟩ := pair_cells hr0
          have e3 := row_frozen hr0 0
          have e4 := row_frozen hr0 1
          have HY := Lib.hid (write2 hr0 (.slice none 0 0) (.slice none 0 0))
          have HB := Lib.hid (res_below (x := .slice none 0 0) (y := .slice none 0 0) (hb1.trans (hb2.mono (by omega))))
          clear hr0
          go_wp2
          obtain ⟨r1, r2⟩ := pair_cells HY.out
          refine bodyPost_ret (v := .tuple #[.agg #[.slice none 0 0, .slice none 0 0], .int .i64 90]) ?_ rfl ?_
          · clear e1 e2 e3 e4
            simp [results, Tryz.results20, go_sem, r1, r2]
          · rw [HE.out]; exact ⟨HB.out, none, none, 0, 0, 0, 0, rfl, emptyIn _ _ _⟩
        · have HE := Lib.hid (setAns_ok HR.out hxb (by simpa using hx5) hrt)
          have hO := ref10Own_any hP2 (Nat.le_refl _)
          have hlt2 : b < t.length := by have := rightP_length HR.out; omega
          clear hrt hq1 hq2 hxb hP2
          rcases hx5 with rfl | rfl | rfl
          all_goals (
            go_wp2_with fail
            refine hT.mono ?_
            rintro e w' ⟨rfl, he⟩
            obtain rfl := he.symm
            clear hT
            go_wp2_with fail
            refine hO.mono ?_
            clear hO y1 y2
            rintro e w3 ⟨p1, p2, d1, d2, tvs, rfl, hrows, hb3⟩
            obtain ⟨gs, u, rfl, hgB, hgl, -, -, -⟩ := hrows.setS hlt 0
            obtain ⟨gt, rfl, htB, htl⟩ := hrows.tabAt hlt2
            have hgg : gs ≠ gt := fun e => hrows.apart gs rfl (by rw [e]; rfl)
            have hs3 := hb3.size
            obtain ⟨w4, hw4⟩ : ∃ y, y = w3.alloc (Obj.cells #[.slice (some ⟨gs, 0, none⟩) s.length d1, .slice (some ⟨gt, 0, none⟩) t.length d2] 25) := ⟨_, rfl⟩
            have hb4 : Below w3.heap.size w3 w4 := by rw [hw4]; exact kept_alloc (Below.refl _ _) _
            have hs4 : w3.heap.size < w4.heap.size := by rw [hw4]; simp
            have hx4 : w4.heap[w3.heap.size]? = some (.cells #[.slice (some ⟨gs, 0, none⟩) s.length d1, .slice (some ⟨gt, 0, none⟩) t.length d2] 25 (0, 0)) := by rw [hw4]; exact World.alloc_heap_new _ _
            have hrows4 := hrows.kept hb4
            have hbF4 : Below w1.heap.size w1 w4 := kept_trans (kept_trans hb2 hb3) hb4
            have hxx4 := hxx2.below (Below.mono (kept_trans hb3 hb4) (by omega))
            have hC0 : HasBlk w3.heap.size #[.slice (some ⟨gs, 0, none⟩) s.length d1, .slice (some ⟨gt, 0, none⟩) t.length d2] 25 w4.drew := hx4
            clear hrows
            go_wp2_with fail
            rw [← hw4]
            clear hw4
            refine wp_region_class (fun W => HasBlk w3.heap.size #[.slice (some ⟨gs, 0, none⟩) s.length d1, .slice (some ⟨gt, 0, none⟩) t.length d2] 25 W) 6 (by kernel_rfl) ?_
            refine wpAnyC_take 0 (.pointer (some ⟨w3.heap.size, 1, none⟩)) rfl (by kernel_rfl) rfl (fun _ _ _ h => h) hC0 (fun W hW => by obtain ⟨g1, g2⟩ := pair_cells hW.out; go_simp) ?_
            go_simp
            refine wpAnyC_take 1 (.slice (some ⟨gt, 0, none⟩) t.length d2) rfl (by kernel_rfl) rfl (fun _ _ _ h => h) hC0 (fun W hW => by obtain ⟨g1, g2⟩ := pair_cells hW.out; go_simp) ?_
            go_simp
            refine wpAnyC_take 2 (.int .i64 (b : Int)) rfl (by kernel_rfl) rfl (fun _ _ _ h => h) hC0 (fun W hW => by go_simp) ?_
            go_simp
            refine wpAnyC_take 3 (.slice xa x.length xc) rfl (by kernel_rfl) rfl (fun _ _ _ h => h) hC0 (fun W hW => by go_simp) ?_
            go_simp
            refine wpAnyC_act 4 rfl (by kernel_rfl) rfl ?_
            refine wp_append_ints _ (.const (.slice none 0 0)) (.tmp 56) 22 rfl w4.heap.size 3 i0 (.int .i64 0) 8 Tryz.underlying22 hi hz0 hz1 hz2 rfl (.slice none 0 0) 0 [] rfl (World.ownsRow_nil _ _ _ _) (n := n) (.slice xa x.length xc) x rfl (hxx4.below ((Below.refl n w4).drew)) (by unfold maxLen; omega) (by omega) (Nat.le_refl _) ?_
            intro tv' w5 hrow hgr5 hf5
            have hb5 : Below w4.heap.size w4 w5 := ((Below.refl _ w4).drew).grown hgr5 (Nat.le_refl _) (fun j hj => by cases hj)
            simp only [Nat.zero_add, List.nil_append] at hrow
            obtain ⟨ta, tc, rfl, htc⟩ := owns_open hrow
            have hs5 := hb5.size
            have hC5 : HasBlk w3.heap.size #[.slice (some ⟨gs, 0, none⟩) s.length d1, .slice (some ⟨gt, 0, none⟩) t.length d2] 25 w5 := mark_any hx4 hb5
            refine ⟨fun _ => hC5, ?_⟩
            have HC5 := Lib.hid hC5
            go_simp
            obtain ⟨gt', u', he, _, _, hcu5, hfz5, hrows6⟩ := (hrows4.kept hb5).setT hlt2 (owns_base hrow (by omega)) (fun k e => ⟨fun e2 => by have := (hrow.lt k e).1; have := (hrows4.tab.lt k e2).2; omega, fun e2 => by have := (hrow.lt k e).1; have := (hrows4.sts.lt k e2).2; omega⟩)
            cases he
            obtain ⟨w6, hw6⟩ : ∃ y, y = w5.setCell ⟨gt, b, none⟩ (.slice ta x.length tc) := ⟨_, rfl⟩
            have hO6 : Only (fun j => j = gt) w5 w6 := by rw [hw6]; exact (Only.refl (fun j => j = gt) w5).setCell (p := ⟨gt, b, none⟩) (.inl rfl) _
            have hb46 : Below w2.heap.size w4 w6 := Below.trans (hb5.mono (by omega)) (hO6.below (by omega) (fun j hj e => by omega))
            have hs6 := hO6.size
            have hbF6 : Below w1.heap.size w1 w6 := hbF4.trans (hb46.mono (by omega))
            have hx6 : w6.heap[w3.heap.size]? = some (.cells #[.slice (some ⟨gs, 0, none⟩) s.length d1, .slice (some ⟨gt, 0, none⟩) t.length d2] 25 (0, 0)) := (hO6.block _ (by omega) (by omega)).trans hC5
            have hxx6 := hxx4.below (hb46.mono (by omega))
            rw [← hw6] at hrows6
            have HW6 := Lib.hid hw6
            clear hw6
            have hCt := ref07Count_any hxx6 (by omega)
            have hRm := fun W (hb : Below w6.heap.size w6 W) => ref08Room_any (hxx6.below (hb.mono (by omega))) (by have := hb.size; omega)
            have HRM := Lib.hid hRm
            have HOK := Lib.hid (show ∀ y, I64 y → PoolOk (s.set b y) (t.set b x) from fun y hy => PoolOk.tab (hok.set b hy) b ⟨hl2.out, HRX.out⟩)
            clear hRm hrow hgr5 hf5 hO6 hb46 hC0 hC5 hx4 hrows4 hxx4 hxx2 hxx6 hbF4
            refine wpAnyC_take 5 (.pointer (some ⟨gt, b, none⟩)) rfl (by kernel_rfl) rfl (fun _ _ _ h => h) HC5.out (fun W hW => by go_simp) ?_
            go_simp
            clear HC5
            refine wpAnyC_act 6 rfl (by kernel_rfl) rfl ?_
            go_simp
            rw [← HW6.out]
            refine wpAnyC_done (by kernel_rfl) ?_
            clear hcu5 hfz5
            go_wp2_with fail
            refine hCt.mono ?_
            clear hCt
            rintro e w7 ⟨rfl, hb7⟩
            by_cases hc : countL x = 0
            · rw [hc]
              have HE2 := Lib.hid (show setAns s t (b : Int) x = (s.set b 0, t.set b x, 0) by rw [HE.out]; unfold stateL; rw [if_pos hc])
              clear hc
              have hrX := hrows6.kept hb7
              have hsX := hb7.size
              obtain ⟨gs', u'', he, _, _, hcu7, hfz7, hset7⟩ := hrX.setS hlt 0
              cases he
              have hxX := mark_any hx6 hb7
              obtain ⟨f1, f2⟩ := pair_cells hxX
              have hbF : Below w1.heap.size w1 w7 := kept_trans hbF6 hb7
              have hr4 := mark_any hx2 hbF
              obtain ⟨v1, v2⟩ := pair_cells hr4
              have v3 := row_frozen hr4 0
              have v4 := row_frozen hr4 1
              have n1 : ¬ w3.heap.size = gs := by omega
              have n2 : ¬ w.heap.size + 1 = gs := by omega
              have n3 : ¬ gs = w.heap.size + 1 := by omega
              have hO5 : Only (fun b => b = gs) w7 (w7.setCell ⟨gs, b, none⟩ (.int .i64 0)) := (Only.refl (fun b => b = gs) w7).setCell (p := ⟨gs, b, none⟩) (.inl rfl) _
              have hr5 := (hO5.block (w.heap.size + 1) (by omega) (by omega)).trans hr4
              have HY := Lib.hid (write2 hr5 (.slice (some ⟨gs, 0, none⟩) s.length d1) (.slice (some ⟨gt, 0, none⟩) t.length d2))
              have hO6 := write2_only (W := w7.setCell ⟨gs, b, none⟩ (.int .i64 0)) (B1 := w.heap.size + 1) (.slice (some ⟨gs, 0, none⟩) s.length d1) (.slice (some ⟨gt, 0, none⟩) t.length d2)
              have hB4 : Below w.heap.size w w7 := hb1.trans (hbF.mono (by omega))
              have HB := Lib.hid ((hB4.trans (hO5.below hB4.size (fun j hj e => by omega))).trans (hO6.below (Nat.le_trans hB4.size hO5.size) (fun j hj e => by omega)))
              have HP := Lib.hid (((res_rows (w := w) hset7 (by omega)).poolIn (HOK.out 0 (by unfold I64; omega))).mono (lo' := w.heap.size) (by omega) (Nat.le_refl _))
              clear hO5 hO6 hr5 hr4 hset7 hrows6 hrX hxX hB4 hbF hx6 hbF6
              go_wp2
              obtain ⟨r1, r2⟩ := pair_cells HY.out
              refine bodyPost_ret (v := .tuple #[.agg #[.slice (some ⟨gs, 0, none⟩) s.length d1, .slice (some ⟨gt, 0, none⟩) t.length d2], .int .i64 0]) ?_ rfl ?_
              · clear f1 f2 hcu7 hfz7 v1 v2 v3 v4
                simp [results, Tryz.results20, go_sem, r1, r2]
              · rw [HE2.out]
                exact ⟨HB.out, _, _, _, _, _, _, rfl, HP.out⟩
            · have HC := Lib.hid hc
              have hc0 : ((countL x : Int) == 0) = false := by simpa using hc
              clear hc
              have hRR := HRM.out w7 hb7
              go_wp2_with fail
              refine hRR.mono ?_
              clear hRR
              rintro e w8 ⟨rfl, hb8⟩
              have hb78 : Below w6.heap.size w6 w8 := kept_trans hb7 hb8
              clear hc0
              by_cases hm : 0 < roomL x
              · have HE2 := Lib.hid (show setAns s t (b : Int) x = (s.set b 1, t.set b x, 0) by rw [HE.out]; unfold stateL; rw [if_neg HC.out, if_pos hm])
                have hm' : (0 : Int) < (roomL x : Int) := by omega
                clear hm
                have hrX := hrows6.kept hb78
                have hsX := hb78.size
                obtain ⟨gs', u'', he, _, _, hcu7, hfz7, hset7⟩ := hrX.setS hlt 1
                cases he
                have hxX := mark_any hx6 hb78
                obtain ⟨f1, f2⟩ := pair_cells hxX
                have hbF : Below w1.heap.size w1 w8 := kept_trans hbF6 hb78
                have hr4 := mark_any hx2 hbF
                obtain ⟨v1, v2⟩ := pair_cells hr4
                have v3 := row_frozen hr4 0
                have v4 := row_frozen hr4 1
                have n1 : ¬ w3.heap.size = gs := by omega
                have n2 : ¬ w.heap.size + 1 = gs := by omega
                have n3 : ¬ gs = w.heap.size + 1 := by omega
                have hO5 : Only (fun b => b = gs) w8 (w8.setCell ⟨gs, b, none⟩ (.int .i64 1)) := (Only.refl (fun b => b = gs) w8).setCell (p := ⟨gs, b, none⟩) (.inl rfl) _
                have hr5 := (hO5.block (w.heap.size + 1) (by omega) (by omega)).trans hr4
                have HY := Lib.hid (write2 hr5 (.slice (some ⟨gs, 0, none⟩) s.length d1) (.slice (some ⟨gt, 0, none⟩) t.length d2))
                have hO6 := write2_only (W := w8.setCell ⟨gs, b, none⟩ (.int .i64 1)) (B1 := w.heap.size + 1) (.slice (some ⟨gs, 0, none⟩) s.length d1) (.slice (some ⟨gt, 0, none⟩) t.length d2)
                have hB4 : Below w.heap.size w w8 := hb1.trans (hbF.mono (by omega))
                have HB := Lib.hid ((hB4.trans (hO5.below hB4.size (fun j hj e => by omega))).trans (hO6.below (Nat.le_trans hB4.size hO5.size) (fun j hj e => by omega)))
                have HP := Lib.hid (((res_rows (w := w) hset7 (by omega)).poolIn (HOK.out 1 (by unfold I64; omega))).mono (lo' := w.heap.size) (by omega) (Nat.le_refl _))
                clear hO5 hO6 hr5 hr4 hset7 hrows6 hrX hxX hB4 hbF hx6 hbF6
                go_wp2
                obtain ⟨r1, r2⟩ := pair_cells HY.out
                refine bodyPost_ret (v := .tuple #[.agg #[.slice (some ⟨gs, 0, none⟩) s.length d1, .slice (some ⟨gt, 0, none⟩) t.length d2], .int .i64 0]) ?_ rfl ?_
                · clear f1 f2 hcu7 hfz7 v1 v2 v3 v4
                  simp [results, Tryz.results20, go_sem, r1, r2]
                · rw [HE2.out]
                  exact ⟨HB.out, _, _, _, _, _, _, rfl, HP.out⟩
              · have HE2 := Lib.hid (show setAns s t (b : Int) x = (s.set b 2, t.set b x, 0) by rw [HE.out]; unfold stateL; rw [if_neg HC.out, if_neg hm])
                have hm' : ¬ (0 : Int) < (roomL x : Int) := by omega
                clear hm
                have hrX := hrows6.kept hb78
                have hsX := hb78.size
                obtain ⟨gs', u'', he, _, _, hcu7, hfz7, hset7⟩ := hrX.setS hlt 2
                cases he
                have hxX := mark_any hx6 hb78
                obtain ⟨f1, f2⟩ := pair_cells hxX
                have hbF : Below w1.heap.size w1 w8 := kept_trans hbF6 hb78
                have hr4 := mark_any hx2 hbF
                obtain ⟨v1, v2⟩ := pair_cells hr4
                have v3 := row_frozen hr4 0
                have v4 := row_frozen hr4 1
                have n1 : ¬ w3.heap.size = gs := by omega
                have n2 : ¬ w.heap.size + 1 = gs := by omega
                have n3 : ¬ gs = w.heap.size + 1 := by omega
                have hO5 : Only (fun b => b = gs) w8 (w8.setCell ⟨gs, b, none⟩ (.int .i64 2)) := (Only.refl (fun b => b = gs) w8).setCell (p := ⟨gs, b, none⟩) (.inl rfl) _
                have hr5 := (hO5.block (w.heap.size + 1) (by omega) (by omega)).trans hr4
                have HY := Lib.hid (write2 hr5 (.slice (some ⟨gs, 0, none⟩) s.length d1) (.slice (some ⟨gt, 0, none⟩) t.length d2))
                have hO6 := write2_only (W := w8.setCell ⟨gs, b, none⟩ (.int .i64 2)) (B1 := w.heap.size + 1) (.slice (some ⟨gs, 0, none⟩) s.length d1) (.slice (some ⟨gt, 0, none⟩) t.length d2)
                have hB4 : Below w.heap.size w w8 := hb1.trans (hbF.mono (by omega))
                have HB := Lib.hid ((hB4.trans (hO5.below hB4.size (fun j hj e => by omega))).trans (hO6.below (Nat.le_trans hB4.size hO5.size) (fun j hj e => by omega)))
                have HP := Lib.hid (((res_rows (w := w) hset7 (by omega)).poolIn (HOK.out 2 (by unfold I64; omega))).mono (lo' := w.heap.size) (by omega) (Nat.le_refl _))
                clear hO5 hO6 hr5 hr4 hset7 hrows6 hrX hxX hB4 hbF hx6 hbF6
                go_wp2
                obtain ⟨r1, r2⟩ := pair_cells HY.out
                refine bodyPost_ret (v := .tuple #[.agg #[.slice (some ⟨gs, 0, none⟩) s.length d1, .slice (some ⟨gt, 0, none⟩) t.length d2], .int .i64 0]) ?_ rfl ?_
                · clear f1 f2 hcu7 hfz7 v1 v2 v3 v4
                  simp [results, Tryz.results20, go_sem, r1, r2]
                · rw [HE2.out]
                  exact ⟨HB.out, _, _, _, _, _, _, rfl, HP.out⟩
)

theorem refSame_true {W : World} {v v' : Value} {s s' : List Int} {t t' : List (List Int)} (h : IsPool W.heap.size W v s t) (h' : IsPool W.heap.size W v' s' t') (hr : s = s' ∧ t = t') :
    Calls Tryz.prog 13 #[v, v'] W fun e w' => e = .returned (.bool true) ∧ Below W.heap.size W w' := by
  have := ref10Same_any h h' (Nat.le_refl _); rwa [decide_eq_true hr] at this
theorem takeFree_ans {W : World} {v : Value} {s : List Int} {t : List (List Int)} (h : IsPool W.heap.size W v s t) : Calls Tryz.prog 7 #[v] W (AnsPost (takeAns s t 0) W) :=
  (takeFree_any h (Nat.le_refl _)).mono fun _ _ h => takePost_ans h
theorem takeHole_ans {W : World} {v : Value} {s : List Int} {t : List (List Int)} (h : IsPool W.heap.size W v s t) : Calls Tryz.prog 9 #[v] W (AnsPost (takeAns s t 1) W) :=
  (takeHole_any h (Nat.le_refl _)).mono fun _ _ h => takePost_ans h
theorem takeRun_ans {W : World} {a0 a1' : Addr} {v : Value} {s : List Int} {t : List (List Int)} (k : Int) (hk : I64 k) (h : IsPool W.heap.size W v s t) (hE : RunErrs a0 a1' W.heap.size W) : Calls Tryz.prog 11 #[v, .int .i64 k] W (AnsPost (runAns s t k) W) :=
  (takeRun_any k hk h hE (Nat.le_refl _)).mono fun _ _ h => runPost_ans h
theorem close_ans {W : World} {v : Value} {s : List Int} {t : List (List Int)} (b : Int) (hb : I64 b) (h : IsPool W.heap.size W v s t) (hE : ErrT W.heap.size W) : Calls Tryz.prog 15 #[v, .int .i64 b] W (NumAns (closeAns s t b) W) :=
  (close_any b hb h hE (Nat.le_refl _)).mono fun _ _ h => givePost_ans h
theorem drop_ans {W : World} {a0 a1' : Addr} {v : Value} {s : List Int} {t : List (List Int)} (b : Int) (hb : I64 b) (h : IsPool W.heap.size W v s t) (hE : RunErrs a0 a1' W.heap.size W) : Calls Tryz.prog 17 #[v, .int .i64 b] W (TwoAns (dropAns s t b) W) :=
  (drop_any b hb h hE (Nat.le_refl _)).mono fun _ _ h => dropPost_ans h
theorem set_ans {W : World} {v vx : Value} {s x : List Int} {t : List (List Int)} (b : Int) (hb : I64 b) (h : IsPool W.heap.size W v s t) (hx : IsInts W.heap.size W vx x) (hE : ErrT W.heap.size W) : Calls Tryz.prog 19 #[v, .int .i64 b, vx] W (NumAns (setAns s t b x) W) :=
  (set_any b hb h hx hE (Nat.le_refl _)).mono fun _ _ h => givePost_ans h
end Go.Proofs.YtihmgiifphheeaaGreatDoor
