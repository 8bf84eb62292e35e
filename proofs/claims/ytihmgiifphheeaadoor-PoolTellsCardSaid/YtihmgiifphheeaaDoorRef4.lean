/- Contract of selionref10.New. -/
import Derived.Test.YtihmgiifphheeaaDoorRef3
import Derived.Test.YtihmgiifphheeaaDoorRefP
namespace Go.Proofs.YtihmgiifphheeaaDoor
open Go.RowKit Go.Sel

/-- The reference's answer to New. -/
def RefNewPost (n : Int) (w : World) (e : Ending) (w' : World) : Prop :=
  Below w.heap.size w w' ∧ ((¬ (1 ≤ n ∧ n ≤ 32) ∧ e = .returned (.tuple #[.agg #[.slice none 0 0, .slice none 0 0], .int .i64 2])) ∨
    (1 ≤ n ∧ n ≤ 32 ∧ ∃ (a1 a2 : Option Addr) (l1 c1 l2 c2 : Nat), e = .returned (.tuple #[.agg #[.slice a1 l1 c1, .slice a2 l2 c2], .int .i64 0]) ∧ IsPool w'.heap.size w' (.agg #[.slice a1 l1 c1, .slice a2 l2 c2]) (List.replicate n.toNat 0) (List.replicate n.toNat (List.replicate 32 0))))

theorem ok_zeros (k : Nat) (hk : k ≤ 32) : PoolOk (List.replicate k 0) (List.replicate k (List.replicate 32 0)) :=
  ⟨by simp [big]; omega, fun x hx => by rw [(List.mem_replicate.1 hx).2]; unfold I64; omega, by simp [big]; omega, fun x hx => by
    rw [(List.mem_replicate.1 hx).2]
    exact ⟨by simp [big], fun y hy => by rw [(List.mem_replicate.1 hy).2]; unfold I64; omega⟩⟩

set_option maxRecDepth 100000 in
set_option maxHeartbeats 4000000 in
theorem ref10New_any (n : Int) (hn : I64 n) (w : World) : Calls Tryd.prog 17 #[.int .i64 n] w (RefNewPost n w) := by
  unfold I64 at hn
  by_cases hno : 1 ≤ n ∧ n ≤ 32
  rotate_left
  · have HN := Lib.hid hno
    obtain ⟨w1, hw1⟩ : ∃ y, y = w.alloc (Obj.cells #[.slice none 0 0, .slice none 0 0] 25) := ⟨_, rfl⟩
    have hb1 : Below w.heap.size w w1 := by rw [hw1]; exact kept_alloc (Below.refl _ _) _
    have hx1 : w1.heap[w.heap.size]? = some (.cells #[.slice none 0 0, .slice none 0 0] 25 (0, 0)) := by rw [hw1]; exact World.alloc_heap_new _ _
    obtain ⟨r1, r2⟩ := pair_cells hx1
    rw [hw1] at r1 r2
    by_cases h1 : n < 1
    · clear hno
      go_enter Tryd.func17, Tryd.ntmps17
      go_wp2
      refine bodyPost_ret (v := .tuple #[.agg #[.slice none 0 0, .slice none 0 0], .int .i64 2]) ?_ rfl ⟨?_, .inl ⟨HN.out, rfl⟩⟩
      · simp [results, Tryd.results17, go_sem, r1, r2]
      · exact kept_alloc (Below.refl _ _) _
    · have h2 : 32 < n := by omega
      clear hno
      go_enter Tryd.func17, Tryd.ntmps17
      go_wp2
      refine bodyPost_ret (v := .tuple #[.agg #[.slice none 0 0, .slice none 0 0], .int .i64 2]) ?_ rfl ⟨?_, .inl ⟨HN.out, rfl⟩⟩
      · simp [results, Tryd.results17, go_sem, r1, r2]
      · exact kept_alloc (Below.refl _ _) _
  · obtain ⟨h1, h2⟩ := hno
    obtain ⟨m, rfl⟩ := Int.eq_ofNat_of_zero_le (show 0 ≤ n by omega)
    have hm1 : 1 ≤ m := by omega
    have hm2 : m ≤ 32 := by omega
    obtain ⟨i0, hi, hz0, hz1, hz2⟩ := info_parts infoInt
    obtain ⟨j0, hj, hy0, hy1, hy2⟩ := info_parts infoInts
    obtain ⟨w1, hw1⟩ : ∃ y, y = (w.alloc (Obj.cells #[.slice none 0 0, .slice none 0 0] 25)).alloc (Obj.cells #[.slice none 0 0, .slice none 0 0] 25) := ⟨_, rfl⟩
    have hb1 : Below w.heap.size w w1 := by rw [hw1]; exact kept_alloc (kept_alloc (Below.refl _ _) _) _
    have hs1 : w1.heap.size = w.heap.size + 2 := by rw [hw1]; simp
    have hx1 : w1.heap[w.heap.size]? = some (.cells #[.slice none 0 0, .slice none 0 0] 25 (0, 0)) := by rw [hw1]; exact heap_alloc_at (World.alloc_heap_new w _) _
    have hx2 : w1.heap[w.heap.size + 1]? = some (.cells #[.slice none 0 0, .slice none 0 0] 25 (0, 0)) := by rw [hw1]; have := World.alloc_heap_new (w.alloc (Obj.cells #[.slice none 0 0, .slice none 0 0] 25)) (Obj.cells #[.slice none 0 0, .slice none 0 0] 25); rwa [World.size_alloc] at this
    have hs2 : w.heap.size + 1 < w1.heap.size := by omega
    clear hs1
    go_enter Tryd.func17, Tryd.ntmps17
    go_wp2_with fail
    rw [← hw1]
    clear hw1
    go_loopw [5] (fun i W => ∃ (k : Nat) (vs vt : Value) (tvs : List Value), k ≤ m ∧ i = .int .i64 k ∧ RefPool (w.heap.size + 1) vs vt tvs (List.replicate k 0) (List.replicate k (List.replicate 32 0)) W ∧ Below (w.heap.size + 1) w1 W) (fun i _ => m - (intOf i).toNat)
    case atStart => exact ⟨0, _, _, _, Nat.zero_le _, rfl, RefPool.empty hx2, Below.refl _ _⟩
    case round =>
      obtain ⟨k, vs, vt, tvs, hk, rfl, hp, hb⟩ := hrel
      by_cases hlt : k < m
      · have hlt' : (k : Int) < (m : Int) := by omega
        obtain ⟨y1, y2⟩ := pair_cells hp.blk
        have hlt2 := hp.lt
        have HP := Lib.hid hp
        have hown := hp.sts
        simp only [List.length_replicate] at hown
        obtain ⟨sa, sc, rfl, hsc⟩ := owns_open hown
        go_wp2_with (at_builtin; refine wpList_append_new rfl _ _ 22 rfl (w.heap.size + 1 + 1) 3 i0 (.int .i64 0) 1 8 Tryd.underlying22 hi hz0 hz1 hz2 rfl (by decide) _ _ _ rfl (hown.alloc _) ⟨wr.heap.size, 0, none⟩ 1 1 [.int .i64 0] rfl rfl (cell_one_new _ _ _) (by simp [Value.oneCell']) (by unfold maxLen; omega) (by omega) (by simp; omega) ?_)
        intro v' w3 hown' hgrow hf
        obtain ⟨hg3, hp3, hO3⟩ := HP.out.pushS (m := k + 1) (xs := [0]) (kept_alloc (Below.refl _ _) _) (by simp) (by simpa using hown') hgrow hf
        rw [← List.replicate_succ'] at hp3
        obtain ⟨va, vc, rfl, hvc⟩ := owns_open hown'
        have hb4 : Below (w.heap.size + 1) w1 (w3.setCell ⟨w.heap.size + 1, 0, none⟩ (.slice va (k + 1) vc)) := hb.trans (hO3.below (by omega) (fun j hj hS => by
          rcases hS with hS | hS
          · have := (hown.lt j hS).1; omega
          · omega))
        obtain ⟨u1, u2⟩ := pair_cells hg3
        have u3 := row_frozen hg3 0
        obtain ⟨w4, hw4⟩ : ∃ y, y = w3.setCell ⟨w.heap.size + 1, 0, none⟩ (.slice va (k + 1) vc) := ⟨_, rfl⟩
        rw [← hw4] at hp3 hb4
        have HP4 := Lib.hid hp3
        clear hg3 hO3 hown' hgrow hf hp HP y1 y2 hown hb
        go_wp2_with fail
        rw [← hw4]
        clear hw4 u1 u2 u3
        have hown4 := hp3.tab
        simp only [List.length_replicate] at hown4
        have hblk := hp3.blk
        have hlt4 := hp3.lt
        have hCm := ref07Make_any w4.drew
        have hC0 : HasBlk (w.heap.size + 1) #[.slice va (k + 1) vc, vt] 25 w4.drew := hblk
        refine wp_region_class (HasBlk (w.heap.size + 1) #[.slice va (k + 1) vc, vt] 25) 6 (by kernel_rfl) ?_
        refine wpAnyC_take 0 (.pointer (some ⟨w.heap.size + 1, 1, none⟩)) rfl (by kernel_rfl) rfl (fun _ _ _ h => h) hC0 (fun W hW => by obtain ⟨g1, g2⟩ := pair_cells hW.out; go_simp) ?_
        go_simp
        refine wpAnyC_take 1 vt rfl (by kernel_rfl) rfl (fun _ _ _ h => h) hC0 (fun W hW => by obtain ⟨g1, g2⟩ := pair_cells hW.out; go_simp) ?_
        go_simp
        refine wpAnyC_act 2 rfl (by kernel_rfl) rfl ?_
        go_simp
        refine hCm.mono ?_
        clear hCm
        rintro e W5 ⟨tv', rfl, hrow, hb5⟩
        have hb5' : Below w4.heap.size w4 W5 := (Below.refl _ w4).drew.trans hb5
        have hC5 : HasBlk (w.heap.size + 1) #[.slice va (k + 1) vc, vt] 25 W5 := mark_any hblk hb5'
        obtain ⟨ta, tc, rfl, htc⟩ := owns_open hrow
        have hs5 := hb5'.size
        have hown5 : (W5.alloc (.cells #[.slice ta 32 tc] 22)).ownsRow (w.heap.size + 1 + 1) 22 1 vt k tvs := (owns_kept hown4 hb5').alloc _
        refine ⟨hC5, ?_⟩
        refine wpAnyC_act 3 rfl (by kernel_rfl) rfl ?_
        go_simp
        refine ⟨hC5.below (kept_alloc (Below.refl _ _) _) (by omega), ?_⟩
        refine wpAnyC_act 4 rfl (by kernel_rfl) rfl ?_
        refine wp_append_new _ (.tmp 24) (.tmp 26) 23 rfl (w.heap.size + 1 + 1) 22 j0 (.slice none 0 0) 1 24 Tryd.underlying23 hj hy0 hy1 hy2 rfl (by decide) vt k tvs rfl hown5 ⟨W5.heap.size, 0, none⟩ 1 1 [.slice ta 32 tc] rfl rfl (cell_one_new _ _ _) (by simp [Value.oneCell']) (by unfold maxLen; omega) (by omega) (by simp; omega) ?_
        intro v6 w6 hown6 hgrow6 hf6
        obtain ⟨hg6, hp6, hO6⟩ := hp3.pushT (x := List.replicate 32 0) (m := k + 1) hb5' (by simpa using hrow) (by simp) hown6 hgrow6 hf6
        rw [← List.replicate_succ'] at hp6
        obtain ⟨xa, xc, rfl, hxc⟩ := owns_open hown6
        have hC6 : HasBlk (w.heap.size + 1) #[.slice va (k + 1) vc, vt] 25 w6 := hg6
        refine ⟨fun _ => hC6, ?_⟩
        go_simp
        refine wpAnyC_act 5 rfl (by kernel_rfl) rfl ?_
        go_simp
        try refine ⟨hC6, ?_⟩
        obtain ⟨u1, u2⟩ := pair_cells hg6
        have u3 := row_frozen hg6 1
        refine wpAnyC_act 6 rfl (by kernel_rfl) rfl ?_
        go_simp
        refine wpAnyC_done (by kernel_rfl) ?_
        have hb6 : Below (w.heap.size + 1) w1 (w6.setCell ⟨w.heap.size + 1, 1, none⟩ (.slice xa (k + 1) xc)) := hb4.trans (hO6.below (by omega) (fun j hj hS => by
          rcases hS with hS | hS
          · have := (hown4.lt j hS).1; omega
          · omega))
        have HP6 := Lib.hid hp6
        clear hp6 hp3 hO6 hg6 hown6 hgrow6 hf6 u1 u2 u3 hC6 hC5 hC0 hown5 hown4 hrow hb5 hb5' hblk HP4
        go_wp2
        go_roundw
        case rel => exact ⟨k + 1, _, _, _, by omega, by go_num, HP6.out, hb6⟩
        case measure => simp [intOf]; omega
      · obtain rfl : k = m := by omega
        have hP := hp.isPool (ok_zeros k hm2)
        have hblk := hp.blk
        have hlt2 := hp.lt
        have hA := hp.sts
        have hT := hp.tab
        simp only [List.length_replicate] at hA hT
        obtain ⟨va, vc, rfl, _⟩ := owns_open hA
        obtain ⟨xa, xc, rfl, _⟩ := owns_open hT
        obtain ⟨y1, y2⟩ := pair_cells hblk
        have hx := (hb.block w.heap.size (by omega)).trans hx1
        obtain ⟨e1, e2⟩ := pair_cells hx
        have e3 := row_frozen hx 0
        have e4 := row_frozen hx 1
        have HY := Lib.hid (write2 hx (.slice va k vc) (.slice xa k xc))
        have hO := write2_only (W := wr) (B1 := w.heap.size) (.slice va k vc) (.slice xa k xc)
        have hbw : Below w.heap.size w wr := hb1.trans (hb.mono (by omega))
        have hBF : Below w.heap.size w ((wr.setCell ⟨w.heap.size, 0, none⟩ (.slice va k vc)).setCell ⟨w.heap.size, 1, none⟩ (.slice xa k xc)) := hbw.trans (hO.below hbw.size (fun j hj e => by omega))
        have hPF : IsPool ((wr.setCell ⟨w.heap.size, 0, none⟩ (.slice va k vc)).setCell ⟨w.heap.size, 1, none⟩ (.slice xa k xc)).heap.size ((wr.setCell ⟨w.heap.size, 0, none⟩ (.slice va k vc)).setCell ⟨w.heap.size, 1, none⟩ (.slice xa k xc)) (.agg #[.slice va k vc, .slice xa k xc]) (List.replicate k 0) (List.replicate k (List.replicate 32 0)) := by
          have hpF : RefPool (w.heap.size + 1) (.slice va k vc) (.slice xa k xc) tvs (List.replicate k 0) (List.replicate k (List.replicate 32 0)) ((wr.setCell ⟨w.heap.size, 0, none⟩ (.slice va k vc)).setCell ⟨w.heap.size, 1, none⟩ (.slice xa k xc)) :=
            ⟨(hO.block _ hlt2 (by omega)).trans hblk, owns_only hp.sts hO (fun j hj e => by subst hj; have := (hp.sts.lt _ e).1; omega), owns_only hp.tab hO (fun j hj e => by subst hj; have := (hp.tab.lt _ e).1; omega),
              fun i tv x h1 h2 => ⟨owns_only (hp.row i tv x h1 h2).1 hO (fun j hj e => by subst hj; have := ((hp.row i tv x h1 h2).1.lt _ e).1; omega), (hp.row i tv x h1 h2).2⟩, hp.apart⟩
          exact hpF.isPool (ok_zeros k hm2)
        have HPF := Lib.hid hPF
        have HBF := Lib.hid hBF
        clear hp hP hA hT hO hPF hBF hbw hx hx1 hx2 hblk
        have hge : ¬ (k : Int) < (k : Int) := by omega
        go_wp2
        obtain ⟨r1, r2⟩ := pair_cells HY.out
        refine bodyPost_ret (v := .tuple #[.agg #[.slice va k vc, .slice xa k xc], .int .i64 0]) ?_ rfl ⟨HBF.out, .inr ⟨by omega, by omega, va, xa, k, vc, k, xc, rfl, by rw [Int.toNat_natCast]; exact HPF.out⟩⟩
        clear e1 e2 e3 e4 y1 y2
        simp [results, Tryd.results17, go_sem, r1, r2]
end Go.Proofs.YtihmgiifphheeaaDoor
