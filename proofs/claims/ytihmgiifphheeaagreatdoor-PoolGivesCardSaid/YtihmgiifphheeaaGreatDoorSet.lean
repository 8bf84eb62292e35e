/- Contract of pool.Set. -/
import Derived.Test.YtihmgiifphheeaaGreatDoorCounts
namespace Go.Proofs.YtihmgiifphheeaaGreatDoor
open Go.RowKit Go.Sel

/-- The tables' row of an own pool. -/
theorem OwnI2.tabRow {B g b : Nat} {w : World} {vs : Value} {s : List Int} {t : List (List Int)} (h : OwnI2 B g w vs s t) (hb : b < t.length) :
    ∃ gt cap, w.heap[g]? = some (.cells #[vs, .slice (some ⟨gt, 0, none⟩) t.length cap] 53 (0, 0)) ∧ g < gt ∧ gt < w.heap.size ∧ t.length ≤ cap := by
  obtain ⟨vt, tvs, q1, q2, q3, q4, q5, q6⟩ := h
  have hlt := q5.lt
  rcases q5.2 with ⟨_, h0⟩ | ⟨gt, cap, cur, rfl, hg, hh, h3, _⟩
  · omega
  · exact ⟨gt, cap, q1, by omega, (hlt gt rfl).2, h3⟩
theorem OwnI2.setTab {B g b gt cap : Nat} {w : World} {vs tv : Value} {s : List Int} {t : List (List Int)} {x : List Int} (h : OwnI2 B g w vs s t) (hb : b < t.length)
    (hg : w.heap[g]? = some (.cells #[vs, .slice (some ⟨gt, 0, none⟩) t.length cap] 53 (0, 0))) (hT : w.ownsRow (g + 1) 3 1 tv x.length (x.map (Value.int .i64))) (hne : ∀ k, tv.ownBlock = some k → k ≠ gt) :
    ∃ u, w.cell? ⟨gt, b, none⟩ = some u ∧ w.frozen? ⟨gt, b, none⟩ = false ∧ OwnI2 B g (w.setCell ⟨gt, b, none⟩ tv) vs s (t.set b x) := by
  obtain ⟨vt, tvs, q1, q2, q3, q4, q5, q6⟩ := h
  obtain rfl : vt = .slice (some ⟨gt, 0, none⟩) t.length cap := by
    rw [q1] at hg
    simpa using hg
  have hl2 : tvs.length = t.length := by have := q5.1; simpa using this
  have hgt := q5.lt gt rfl
  have hc := q5.cellAt b (by omega)
  rw [List.getElem?_eq_getElem (by omega)] at hc
  obtain ⟨s1, s2⟩ := q5.stored b tv
  have hO : Only (fun k => k = gt) w (w.setCell ⟨gt, b, none⟩ tv) := (Only.refl (fun k => k = gt) w).setCell (p := ⟨gt, b, none⟩) (.inl rfl) _
  refine ⟨_, hc, q5.frozenAt b, .slice (some ⟨gt, 0, none⟩) t.length cap, tvs.set b tv, ?_, q2, ?_, q4, ?_, ?_⟩
  · exact (hO.block g (Array.getElem?_eq_some_iff.1 q1).1 (by omega)).trans q1
  · refine owns_only q3 hO (fun k hk e => ?_)
    subst hk
    have := q4 _ e
    omega
  · rw [List.length_set]; exact s1
  · intro i tv' y h1 h2
    by_cases e : b = i
    · subst e
      rw [List.getElem?_set_self (by omega)] at h1 h2
      cases h1
      cases h2
      exact ⟨owns_only hT hO (fun k hk e => hne k e hk), fun k hk e => by cases e; exact hne _ hk rfl⟩
    · rw [List.getElem?_set_ne e] at h1 h2
      obtain ⟨r1, r2⟩ := q6 i tv' y h1 h2
      exact ⟨owns_only r1 hO (fun k hk e => r2 k e (by rw [hk]; rfl)), r2⟩

/-- What is wrong with a table laid anew. -/
def setE (s : List Int) (t : List (List Int)) (b : Int) (x : List Int) : Option Int :=
  match blockE s t b [1, 2, 5] with | some e => some e | none => if rightT x then none else some 90

theorem blockE_none {s sts : List Int} {t : List (List Int)} {b : Int} (h : blockE s t b sts = none) : rightP s t = true ∧ 0 ≤ b ∧ b < (s.length : Int) ∧ t.length = s.length ∧ s[b.toNat]?.getD 0 ∈ sts := by
  unfold blockE at h
  split at h
  · cases h
  · rename_i hr
    split at h
    · rename_i h3
      have hr' : rightP s t = true := by cases hq : rightP s t; exact absurd hq hr; rfl
      refine ⟨hr', h3.1, h3.2.1, ?_, h3.2.2⟩
      unfold rightP at hr'
      simp only [Bool.and_eq_true, decide_eq_true_eq] at hr'
      exact hr'.1.2
    · cases h

theorem PoolOk.tab {s : List Int} {t : List (List Int)} (h : PoolOk s t) (b : Nat) {x : List Int} (hx : x.length ≤ big ∧ ∀ y ∈ x, I64 y) : PoolOk s (t.set b x) :=
  ⟨h.ls, h.ns, by rw [List.length_set]; exact h.lt, fun y hy => by rcases List.mem_or_eq_of_mem_set hy with hy | rfl; exact h.nt y hy; exact hx⟩

theorem I64_state (t : List Int) : I64 (stateL t) := by
  unfold stateL I64
  split
  · omega
  · split <;> omega

set_option maxRecDepth 100000 in
set_option maxHeartbeats 4000000 in
theorem set_any {n : Nat} {v vx : Value} {s x : List Int} {t : List (List Int)} {w : World} (b : Int) (hb : I64 b) (h : IsPool n w v s t) (hx : IsInts n w vx x) (hE : ErrT n w) (hn : n ≤ w.heap.size) :
    Calls Tryz.prog 19 #[v, .int .i64 b, vx] w (GivePost (setE s t b x) (s.set b.toNat (stateL x)) (t.set b.toNat x) w) := by
  have hok := h.ok
  have hls := hok.ls
  have hlx := hx.len
  have hrx : ∀ y ∈ x, I64 y := fun y hy => hx.range hy
  unfold big at hls
  obtain ⟨a1, c1, a2, c2, rfl⟩ := IsPool.open h
  obtain ⟨xa, xc, rfl, hxc⟩ := hx.open
  obtain ⟨w1, hw1⟩ : ∃ y, y = ((w.alloc (Obj.cells #[.slice a1 s.length c1, .slice a2 t.length c2] 25)).alloc (Obj.cells #[.slice none 0 0, .slice none 0 0] 25)).alloc (Obj.cells #[Value.int IntKind.i64 1, Value.int IntKind.i64 2, Value.int IntKind.i64 5] 3) := ⟨_, rfl⟩
  have hb1 : Below w.heap.size w w1 := by rw [hw1]; exact kept_alloc (kept_alloc (kept_alloc (Below.refl _ _) _) _) _
  have hs1 : w1.heap.size = w.heap.size + 3 := by rw [hw1]; simp
  have hx1 : w1.heap[w.heap.size]? = some (.cells #[.slice a1 s.length c1, .slice a2 t.length c2] 25 (0, 0)) := by rw [hw1]; exact heap_alloc_at (heap_alloc_at (World.alloc_heap_new w _) _) _
  have hx2 : w1.heap[w.heap.size + 1]? = some (.cells #[.slice none 0 0, .slice none 0 0] 25 (0, 0)) := by
    rw [hw1]; exact heap_alloc_at (by have := World.alloc_heap_new (w.alloc (Obj.cells #[.slice a1 s.length c1, .slice a2 t.length c2] 25)) (Obj.cells #[.slice none 0 0, .slice none 0 0] 25); rwa [World.size_alloc] at this) _
  have hx3 : w1.heap[w.heap.size + 1 + 1]? = some (.cells #[.int .i64 1, .int .i64 2, .int .i64 5] 3 (0, 0)) := by
    rw [hw1]; have := World.alloc_heap_new ((w.alloc (Obj.cells #[.slice a1 s.length c1, .slice a2 t.length c2] 25)).alloc (Obj.cells #[.slice none 0 0, .slice none 0 0] 25)) (Obj.cells #[Value.int IntKind.i64 1, Value.int IntKind.i64 2, Value.int IntKind.i64 5] 3); rwa [World.size_alloc, World.size_alloc] at this
  have hst : IsInts w1.heap.size w1 (.slice (some ⟨w.heap.size + 1 + 1, 0, none⟩) 3 3) [1, 2, 5] := by
    refine ⟨some ⟨w.heap.size + 1 + 1, 0, none⟩, 3, rfl, Nat.le_refl _, by simp [big], fun j y hj => ⟨w.heap.size + 1 + 1, 0, rfl, by omega, ?_⟩⟩
    match j, hj with
    | 0, hj => simp at hj; subst hj; exact ⟨by simp [World.cell?, hx3], by unfold I64; omega⟩
    | 1, hj => simp at hj; subst hj; exact ⟨by simp [World.cell?, hx3], by unfold I64; omega⟩
    | 2, hj => simp at hj; subst hj; exact ⟨by simp [World.cell?, hx3], by unfold I64; omega⟩
    | j + 3, hj => simp at hj
  have hK := block_any (n := w1.heap.size) b hb ((h.below (hb1.mono hn)).wider (by omega)) hst (Nat.le_refl _)
  have h1 := h.below (hb1.mono hn)
  have hE1 := hE.below (hb1.mono hn)
  have hxx1 := hx.below (hb1.mono hn)
  go_enter Tryz.func19, Tryz.ntmps19
  go_wp2_with fail
  rw [← hw1]
  refine hK.mono ?_
  clear hK hst
  rintro e w2 ⟨rfl, hb2⟩
  have hs2 := hb2.size
  have hy1 := (hb2.block _ (by omega)).trans hx1
  have hy2 := (hb2.block _ (by omega)).trans hx2
  have h2 := h1.below (hb2.mono (by omega))
  have hxx := hxx1.below (hb2.mono (by omega))
  have hE2 := hE1.below (hb2.mono (by omega))
  have hb02 : Below w.heap.size w w2 := hb1.trans (hb2.mono (by omega))
  clear hw1 hx1 hx2 hx3 hb1 h h1 hE hE1 hx hxx1
  cases hk : blockE s t b [1, 2, 5] with
  | some z =>
    have hT := poolTold_any z hE2 (by omega)
    have HK := Lib.hid (show setE s t b x = some z by unfold setE; rw [hk])
    clear hk h2 hxx
    unfold errV
    go_wp2_with fail
    refine hT.mono ?_
    rintro e w3 ⟨rfl, hb3⟩
    have hy3 := (hb3.block _ (by omega)).trans hy2
    obtain ⟨e1, e2⟩ := pair_cells hy3
    have e3 := row_frozen hy3 0
    have e4 := row_frozen hy3 1
    have HY := Lib.hid (write2 hy3 (.slice none 0 0) (.slice none 0 0))
    have hb03 : Below w.heap.size w w3 := kept_trans hb02 hb3
    clear hT hy3 hy1 hy2 hE2
    go_wp2
    obtain ⟨r1, r2⟩ := pair_cells HY.out
    refine bodyPost_ret (v := .tuple #[.agg #[.slice none 0 0, .slice none 0 0], .int .i64 z]) ?_ rfl ⟨(hb03.setCell (p := ⟨w.heap.size + 1, 0, none⟩) (by simp) _).setCell (p := ⟨w.heap.size + 1, 1, none⟩) (by simp) _, .inl ⟨z, HK.out, rfl⟩⟩
    clear e1 e2 e3 e4
    simp [results, Tryz.results19, go_sem, r1, r2]
  | none =>
    have hM := marksRight_any hxx
    unfold errV
    go_wp2_with fail
    refine hM.mono ?_
    clear hM
    rintro e w3 ⟨rfl, he⟩
    obtain rfl := he.symm
    cases hrt : rightT x with
    | false =>
      have hT := poolTold_any 90 hE2 (by omega)
      have HK := Lib.hid (show setE s t b x = some 90 by unfold setE; rw [hk, hrt]; rfl)
      clear hk h2 hxx hrt
      go_wp2_with fail
      refine hT.mono ?_
      rintro e w3 ⟨rfl, hb3⟩
      have hy3 := (hb3.block _ (by omega)).trans hy2
      obtain ⟨e1, e2⟩ := pair_cells hy3
      have e3 := row_frozen hy3 0
      have e4 := row_frozen hy3 1
      have HY := Lib.hid (write2 hy3 (.slice none 0 0) (.slice none 0 0))
      have hb03 : Below w.heap.size w w3 := kept_trans hb02 hb3
      clear hT hy3 hy1 hy2 hE2
      go_wp2
      obtain ⟨r1, r2⟩ := pair_cells HY.out
      refine bodyPost_ret (v := .tuple #[.agg #[.slice none 0 0, .slice none 0 0], .int .i64 90]) ?_ rfl ⟨(hb03.setCell (p := ⟨w.heap.size + 1, 0, none⟩) (by simp) _).setCell (p := ⟨w.heap.size + 1, 1, none⟩) (by simp) _, .inl ⟨90, HK.out, rfl⟩⟩
      clear e1 e2 e3 e4
      simp [results, Tryz.results19, go_sem, r1, r2]
    | true =>
      obtain ⟨-, hb0, hbl, hlen, -⟩ := blockE_none hk
      obtain ⟨b0, rfl⟩ := Int.eq_ofNat_of_zero_le hb0
      have hlt : b0 < t.length := by omega
      have hlts : b0 < s.length := by omega
      clear hlen
      have hO := own_any h2 (by omega)
      have HK := Lib.hid (show setE s t b0 x = none by unfold setE; rw [hk, hrt]; rfl)
      obtain ⟨y1, y2⟩ := pair_cells hy1
      clear hk h2 hE2 hrt
      go_wp2_with fail
      refine hO.mono ?_
      clear hO y1 y2
      rintro e w3 ⟨g, rfl, ⟨vs, hOwn⟩, hb3⟩
      replace hOwn : OwnI2 w2.heap.size g w3 vs s t := hOwn
      have hy3 := (hb3.block _ (by omega)).trans hy2
      have hs3 := hb3.size
      have hxx3 := (hxx.below (hb3.mono (by omega)))
      obtain ⟨gt, cap, hg3, hgt, hgtl, hcap⟩ := hOwn.tabRow hlt
      have hgB : w2.heap.size ≤ g := by obtain ⟨_, _, _, q2, _⟩ := hOwn; exact q2
      have hC := clone_any (hxx3.below ((Below.refl n w3).drew))
      have hC0 : w3.drew.heap[g]? = some (.cells #[vs, .slice (some ⟨gt, 0, none⟩) t.length cap] 53 (0, 0)) := hg3
      have hbl' : (b0 : Int) < (t.length : Int) := by omega
      clear hy1
      go_wp2
      refine wp_region_class (fun W => W.heap[g]? = some (.cells #[vs, .slice (some ⟨gt, 0, none⟩) t.length cap] 53 (0, 0))) 9 (by kernel_rfl) ?_
      refine wpAnyC_take 0 (.pointer (some ⟨g, 0, none⟩)) rfl (by kernel_rfl) rfl (fun _ _ _ h => h) hC0 (fun W hW => by obtain ⟨u1, u2⟩ := pair_cells hW; go_simp) ?_
      go_simp
      refine wpAnyC_take 1 (.pointer (some ⟨g, 0, none⟩)) rfl (by kernel_rfl) rfl (fun _ _ _ h => h) hC0 (fun W hW => by obtain ⟨u1, u2⟩ := pair_cells hW; go_simp) ?_
      go_simp
      refine wpAnyC_take 2 (.pointer (some ⟨g, 0, none⟩)) rfl (by kernel_rfl) rfl (fun _ _ _ h => h) hC0 (fun W hW => by obtain ⟨u1, u2⟩ := pair_cells hW; go_simp) ?_
      go_simp
      refine wpAnyC_take 3 (.pointer (some ⟨g, 1, none⟩)) rfl (by kernel_rfl) rfl (fun _ _ _ h => h) hC0 (fun W hW => by obtain ⟨u1, u2⟩ := pair_cells hW; go_simp) ?_
      go_simp
      refine wpAnyC_take 4 (.slice (some ⟨gt, 0, none⟩) t.length cap) rfl (by kernel_rfl) rfl (fun _ _ _ h => h) hC0 (fun W hW => by obtain ⟨u1, u2⟩ := pair_cells hW; go_simp) ?_
      go_simp
      refine wpAnyC_take 5 (.int .i64 (b0 : Int)) rfl (by kernel_rfl) rfl (fun _ _ _ h => h) hC0 (fun W hW => by obtain ⟨u1, u2⟩ := pair_cells hW; go_simp) ?_
      go_simp
      refine wpAnyC_take 6 (.slice xa x.length xc) rfl (by kernel_rfl) rfl (fun _ _ _ h => h) hC0 (fun W hW => by obtain ⟨u1, u2⟩ := pair_cells hW; go_simp) ?_
      go_simp
      refine wpAnyC_act 7 rfl (by kernel_rfl) rfl ?_
      go_simp
      refine hC.mono ?_
      clear hC
      rintro e w4 ⟨tv, rfl, hownT, hbT⟩
      obtain ⟨ta, tc, rfl, htc⟩ := owns_open hownT
      have hbT' : Below w3.heap.size w3 w4 := (Below.refl _ w3).drew.trans hbT
      have hownT' : w4.ownsRow w3.heap.size 3 1 (.slice ta x.length tc) x.length (x.map (Value.int .i64)) := hownT
      have hs4 := hbT'.size
      have hgl := (Array.getElem?_eq_some_iff.1 hg3).1
      have hg4 := (hbT'.block _ hgl).trans hg3
      have hOwn4 : OwnI2 w2.heap.size g w4 vs s t := hOwn.only (Only.of_below (S := fun _ => False) hbT') (fun _ h => h.elim)
      obtain ⟨u, hc4, hf4, hOwn5⟩ := hOwn4.setTab (tv := .slice ta x.length tc) (x := x) hlt hg4 (owns_base hownT' (by omega)) (fun k hk e => by have := (hownT'.lt k hk).1; omega)
      refine ⟨hg4, ?_⟩
      refine wpAnyC_act 8 rfl (by kernel_rfl) rfl ?_
      go_simp
      refine wpAnyC_act 9 rfl (by kernel_rfl) rfl ?_
      go_simp
      refine wpAnyC_done (by kernel_rfl) ?_
      have hlen5 : (t.set b0 x).length = t.length := List.length_set
      obtain ⟨w5, hw5⟩ : ∃ y, y = w4.setCell ⟨gt, b0, none⟩ (.slice ta x.length tc) := ⟨_, rfl⟩
      rw [← hw5] at hOwn5 ⊢
      have hO45 : Only (fun k => k = gt) w4 w5 := by rw [hw5]; exact (Only.refl (fun k => k = gt) w4).setCell (p := ⟨gt, b0, none⟩) (.inl rfl) _
      have hs5 : w4.heap.size ≤ w5.heap.size := hO45.size
      have hx5 : IsInts n w5 (.slice xa x.length xc) x := (hxx3.below (hbT'.mono (by omega))).below (hO45.below (by omega) (fun k hk e => by omega))
      have hy5 : w5.heap[w.heap.size + 1]? = some (.cells #[.slice none 0 0, .slice none 0 0] 25 (0, 0)) := (hO45.block _ (by omega) (by omega)).trans ((hbT'.block _ (by omega)).trans hy3)
      have hb05 : Below w.heap.size w w5 := (kept_trans (kept_trans hb02 hb3) hbT').trans (hO45.below (by omega) (fun k hk e => by omega))
      have hok5 := PoolOk.tab hok b0 ⟨hlx, hrx⟩
      have hS := stateOf_any (hx5.below ((Below.refl n w5).drew)) (by show n ≤ w5.heap.size; omega)
      obtain ⟨vt5, hg5, _⟩ := hOwn5.poolIn hok5
      obtain ⟨gs, cap2, _, rfl, hgsB, hgsg, _⟩ := hOwn5.set hlts 0
      obtain ⟨ua, uc, hvt5⟩ : ∃ a c, vt5 = .slice a t.length c := by
        obtain ⟨gt', cap', hg', _⟩ := hOwn5.tabRow (b := b0) (by rw [hlen5]; exact hlt)
        rw [hg5] at hg'
        have := Option.some.inj hg'
        simp at this
        exact ⟨_, _, this⟩
      subst hvt5
      have hC5 : w5.drew.heap[g]? = some (.cells #[.slice (some ⟨gs, 0, none⟩) s.length cap2, .slice ua t.length uc] 53 (0, 0)) := hg5
      have HLen := Lib.hid hlen5
      clear hw5 hOwn hOwn4 hg3 hg4 hC0 hownT hownT' hbT hbT' hy3 hxx hxx3 hc4 hf4 hlen5
      go_wp2
      refine wp_region_class (fun W => W.heap[g]? = some (.cells #[.slice (some ⟨gs, 0, none⟩) s.length cap2, .slice ua t.length uc] 53 (0, 0))) 9 (by kernel_rfl) ?_
      refine wpAnyC_take 0 (.pointer (some ⟨g, 0, none⟩)) rfl (by kernel_rfl) rfl (fun _ _ _ h => h) hC5 (fun W hW => by obtain ⟨u1, u2⟩ := pair_cells hW; go_simp) ?_
      go_simp
      refine wpAnyC_take 1 (.pointer (some ⟨g, 0, none⟩)) rfl (by kernel_rfl) rfl (fun _ _ _ h => h) hC5 (fun W hW => by obtain ⟨u1, u2⟩ := pair_cells hW; go_simp) ?_
      go_simp
      refine wpAnyC_take 2 (.pointer (some ⟨g, 0, none⟩)) rfl (by kernel_rfl) rfl (fun _ _ _ h => h) hC5 (fun W hW => by obtain ⟨u1, u2⟩ := pair_cells hW; go_simp) ?_
      go_simp
      refine wpAnyC_take 3 (.pointer (some ⟨g, 0, none⟩)) rfl (by kernel_rfl) rfl (fun _ _ _ h => h) hC5 (fun W hW => by obtain ⟨u1, u2⟩ := pair_cells hW; go_simp) ?_
      go_simp
      refine wpAnyC_take 4 (.slice (some ⟨gs, 0, none⟩) s.length cap2) rfl (by kernel_rfl) rfl (fun _ _ _ h => h) hC5 (fun W hW => by obtain ⟨u1, u2⟩ := pair_cells hW; go_simp) ?_
      go_simp
      refine wpAnyC_take 5 (.int .i64 (b0 : Int)) rfl (by kernel_rfl) rfl (fun _ _ _ h => h) hC5 (fun W hW => by obtain ⟨u1, u2⟩ := pair_cells hW; go_simp) ?_
      go_simp
      refine wpAnyC_take 6 (.slice xa x.length xc) rfl (by kernel_rfl) rfl (fun _ _ _ h => h) hC5 (fun W hW => by obtain ⟨u1, u2⟩ := pair_cells hW; go_simp) ?_
      go_simp
      refine wpAnyC_act 7 rfl (by kernel_rfl) rfl ?_
      go_simp
      refine hS.mono ?_
      clear hS
      rintro e w6 ⟨rfl, hb6⟩
      have hb6' : Below w5.heap.size w5 w6 := (Below.refl _ w5).drew.trans hb6
      have hs6 := hb6'.size
      have hg6 := (hb6'.block _ (Array.getElem?_eq_some_iff.1 hg5).1).trans hg5
      have hOwn6 : OwnI2 w2.heap.size g w6 (.slice (some ⟨gs, 0, none⟩) s.length cap2) s (t.set b0 x) := hOwn5.only (Only.of_below (S := fun _ => False) hb6') (fun _ h => h.elim)
      obtain ⟨gs', cap2', u, hE, -, -, -, hc6, hf6, hOwn7⟩ := hOwn6.set hlts (stateL x)
      cases hE
      obtain ⟨vt7, hg7, hP7⟩ := hOwn7.poolIn (hok5.set b0 (I64_state x))
      have n1 : ¬ g = gs := by omega
      have n2 : ¬ w.heap.size + 1 = gs := by omega
      have n3 : ¬ gs = w.heap.size + 1 := by omega
      have hvt : vt7 = .slice ua t.length uc := by
        rw [Below.heap_setCell _ _ _ _ n1, hg6] at hg7
        have := Option.some.inj hg7
        simp at this
        exact this.symm
      subst hvt
      have hy6 := (hb6'.block _ (by omega)).trans hy5
      have hy7 : (w6.setCell ⟨gs, b0, none⟩ (.int .i64 (stateL x))).heap[w.heap.size + 1]? = some (.cells #[.slice none 0 0, .slice none 0 0] 25 (0, 0)) := (Below.heap_setCell _ _ _ _ n2).trans hy6
      have hbs : (b0 : Int) < (s.length : Int) := by omega
      refine ⟨hg6, ?_⟩
      refine wpAnyC_act 8 rfl (by kernel_rfl) rfl ?_
      go_simp
      refine wpAnyC_act 9 rfl (by kernel_rfl) rfl ?_
      go_simp
      refine wpAnyC_done (by kernel_rfl) ?_
      obtain ⟨f1, f2⟩ := pair_cells hy7
      have f3 := row_frozen hy7 0
      have f4 := row_frozen hy7 1
      obtain ⟨k1, k2⟩ := pair_cells hg7
      have HY := Lib.hid (write2 hy7 (.slice (some ⟨gs, 0, none⟩) s.length cap2) (.slice ua t.length uc))
      have hb07 : Below w.heap.size w (w6.setCell ⟨gs, b0, none⟩ (.int .i64 (stateL x))) := (kept_trans hb05 hb6').setCell (p := ⟨gs, b0, none⟩) (by show w.heap.size ≤ gs; omega) _
      have HP := Lib.hid ((hP7.agree (AgreeIn.of_only (write2_only (B1 := w.heap.size + 1) (.slice (some ⟨gs, 0, none⟩) s.length cap2) (.slice ua t.length uc)) (fun k h1 h2 => by omega))).mono (lo' := w.heap.size) (hi' := (((w6.setCell ⟨gs, b0, none⟩ (.int .i64 (stateL x))).setCell ⟨w.heap.size + 1, 0, none⟩ (.slice (some ⟨gs, 0, none⟩) s.length cap2)).setCell ⟨w.heap.size + 1, 1, none⟩ (.slice ua t.length uc)).heap.size) (by omega) (by simp [World.setCell]))
      clear hy5 hy6 hy7 hOwn5 hOwn6 hOwn7 hP7 hg5 hg6 hg7 hC5 hx5 hb6 hb6' hc6 hf6
      go_wp2
      obtain ⟨r1, r2⟩ := pair_cells HY.out
      refine bodyPost_ret (v := .tuple #[.agg #[.slice (some ⟨gs, 0, none⟩) s.length cap2, .slice ua t.length uc], .int .i64 0]) ?_ rfl ⟨(hb07.setCell (p := ⟨w.heap.size + 1, 0, none⟩) (by simp) _).setCell (p := ⟨w.heap.size + 1, 1, none⟩) (by simp) _, .inr ⟨_, HK.out, rfl, HP.out⟩⟩
      clear f1 f2 f3 f4 k1 k2
      simp [results, Tryz.results19, go_sem, r1, r2]

end Go.Proofs.YtihmgiifphheeaaGreatDoor
