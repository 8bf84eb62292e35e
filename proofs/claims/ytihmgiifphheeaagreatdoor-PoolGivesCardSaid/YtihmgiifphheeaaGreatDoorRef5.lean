/- Contract of selionref10.Own: a pool of its own. -/
import Derived.Test.YtihmgiifphheeaaGreatDoorRef3
import Derived.Test.YtihmgiifphheeaaGreatDoorRefP
namespace Go.Sel
open Go Go.RowKit
variable {P : Program}
theorem append_nil_src (w : World) (base : Nat) (t ty e : TypeId) (i : TypeInfo) (size : Nat) (ht : P.underlying t = some (.slice e)) (hi : P.info? e = some i)
    (v : Value) (k : Nat) (xs : List Value) (hown : w.ownsRow base e size v k xs) (c : Nat) : (Builtin.append_ #[t, t] ty #[v, .slice none 0 c]).run P w = .ok v w := by
  rcases hown.2 with ⟨rfl, rfl⟩ | ⟨g, cap, cur, rfl, _, _, hnc, _⟩
  · simp [Builtin.append_, run_underlying ht, sizeOf, typeInfo, hi, Builtin.lenOf, Builtin.firstCells]
  · simp [Builtin.append_, run_underlying ht, sizeOf, typeInfo, hi, Builtin.lenOf, Builtin.firstCells, hnc, storeCells]
/-- append onto a row of the call's own, of a slice of integers, nil or not. -/
theorem wp_append_ints (w : World) {o : Oper} {a : Act} {K : Act → World → Prop} {Q : Exit → Act → World → Prop}
    (s x : Operand) (t : TypeId) (hop : o.op = Op.call { callee := Callee.builtin Builtin.append, args := #[s, x], argTypes := #[t, t] })
    (base : Nat) (e : TypeId) (i : TypeInfo) (z : Value) (bytes : Nat) (h1 : P.underlying t = some (.slice e)) (h2 : P.info? e = some i) (h3 : i.zero = some z) (h4 : i.size = 1) (h5 : i.bytes = bytes) (h6 : z.cells.size = 1)
    (v : Value) (k : Nat) (xs : List Value) (hs : a.eval s = v) (hown : w.ownsRow base e 1 v k xs) {n : Nat} (vx : Value) (ys : List Int) (hx : a.eval x = vx) (hsrc : IsInts n w vx ys)
    (b1 : k + ys.length ≤ maxLen) (b2 : (k + ys.length) * bytes ≤ 140737488355328) (b3 : base ≤ w.heap.size)
    (hK : ∀ v' w', w'.ownsRow base e 1 v' (k + ys.length) (xs ++ ys.map (Value.int .i64)) → w.grownBy w' v.ownBlock → Fresh w v v' → K (a.put o.dst v') w') :
    Oper.wp P o a w K Q := by
  obtain ⟨A, c, rfl, hlc⟩ := hsrc.open
  cases A with
  | none =>
    have hy : ys = [] := by
      cases ys with
      | nil => rfl
      | cons y r => obtain ⟨_, _, _, _, h, _⟩ := hsrc.at (k := 0) (by simp); cases h
    subst hy
    have hrun := append_nil_src (P := P) w base t o.type e i 1 h1 h2 v k xs hown c
    unfold Oper.wp
    simp [execOp, hop, resolve, invoke, builtin, hs, hx, hrun, Result.andThen]
    exact hK v w (by simpa using hown) (World.grownBy.refl w _) (.inl rfl)
  | some ad =>
    refine wp_append_new w s x t hop base e i z 1 bytes h1 h2 h3 h4 h5 h6 (by decide) v k xs hs hown ad ys.length c (ys.map (Value.int .i64)) hx (by simp) (fun j u hj => ?_) (fun u hu => ?_) b1 b2 b3 hK
    · rw [List.getElem?_map] at hj
      cases hyj : ys[j]? with
      | none => rw [hyj] at hj; cases hj
      | some y =>
        rw [hyj] at hj
        cases hj
        obtain ⟨y', b, off, hy', he, _, hcell, _⟩ := hsrc.at (List.getElem?_eq_some_iff.1 hyj).1
        rw [hyj] at hy'
        cases hy'
        cases he
        rw [Addr.add_lit]
        exact hcell
    · obtain ⟨y, _, rfl⟩ := List.mem_map.1 hu; rfl
theorem wpList_append_ints {w : World} {ops : Array Oper} {rest : List Oper} {o : Oper} {a : Act} {Q : Exit → Act → World → Prop} (hgd : o.guard = none)
    (s x : Operand) (t : TypeId) (hop : o.op = Op.call { callee := Callee.builtin Builtin.append, args := #[s, x], argTypes := #[t, t] })
    (base : Nat) (e : TypeId) (i : TypeInfo) (z : Value) (bytes : Nat) (h1 : P.underlying t = some (.slice e)) (h2 : P.info? e = some i) (h3 : i.zero = some z) (h4 : i.size = 1) (h5 : i.bytes = bytes) (h6 : z.cells.size = 1)
    (v : Value) (k : Nat) (xs : List Value) (hs : a.eval s = v) (hown : w.ownsRow base e 1 v k xs) {n : Nat} (vx : Value) (ys : List Int) (hx : a.eval x = vx) (hsrc : IsInts n w vx ys)
    (b1 : k + ys.length ≤ maxLen) (b2 : (k + ys.length) * bytes ≤ 140737488355328) (b3 : base ≤ w.heap.size)
    (h : ∀ v' w', w'.ownsRow base e 1 v' (k + ys.length) (xs ++ ys.map (Value.int .i64)) → w.grownBy w' v.ownBlock → Fresh w v v' → wpList P ops Q rest (a.put o.dst v') w') : wpList P ops Q (o :: rest) a w :=
  wpList_plain hgd fun _ hK => wp_append_ints w s x t hop base e i z bytes h1 h2 h3 h4 h5 h6 v k xs hs hown vx ys hx hsrc b1 b2 b3 fun v' w' r1 r2 r3 => hK _ _ (h v' w' r1 r2 r3)
end Go.Sel
namespace Go.Proofs.YtihmgiifphheeaaGreatDoor
open Go.RowKit Go.Sel

/-- The rows of a pool of the call's own, from block B on. -/
structure RefRows (B : Nat) (vs vt : Value) (tvs : List Value) (s : List Int) (t : List (List Int)) (W : World) : Prop where
  sts : W.ownsRow B 3 1 vs s.length (s.map (Value.int .i64))
  tab : W.ownsRow B 22 1 vt t.length tvs
  row : ∀ (i : Nat) (tv : Value) (x : List Int), tvs[i]? = some tv → t[i]? = some x → W.ownsRow B 3 1 tv x.length (x.map (Value.int .i64)) ∧ ∀ b, tv.ownBlock = some b → vt.ownBlock ≠ some b ∧ vs.ownBlock ≠ some b
  apart : ∀ b, vs.ownBlock = some b → vt.ownBlock ≠ some b
section
variable {B g : Nat} {vs vt : Value} {tvs : List Value} {s : List Int} {t : List (List Int)} {W W' : World}
theorem RefPool.rows (h : RefPool g vs vt tvs s t W) (hB : B ≤ g + 1) : RefRows B vs vt tvs s t W :=
  ⟨owns_base h.sts hB, owns_base h.tab hB, fun i tv x h1 h2 => ⟨owns_base (h.row i tv x h1 h2).1 hB, (h.row i tv x h1 h2).2⟩, h.apart⟩
theorem RefRows.kept (h : RefRows B vs vt tvs s t W) (hb : Below W.heap.size W W') : RefRows B vs vt tvs s t W' :=
  ⟨owns_kept h.sts hb, owns_kept h.tab hb, fun i tv x h1 h2 => ⟨owns_kept (h.row i tv x h1 h2).1 hb, (h.row i tv x h1 h2).2⟩, h.apart⟩
theorem RefRows.only {S : Nat → Prop} (h : RefRows B vs vt tvs s t W) (hO : Only S W W') (hS : ∀ k, S k → k < B) : RefRows B vs vt tvs s t W' :=
  ⟨owns_only h.sts hO (fun k hk e => by have := hS k hk; have := (h.sts.lt k e).1; omega), owns_only h.tab hO (fun k hk e => by have := hS k hk; have := (h.tab.lt k e).1; omega),
    fun i tv x h1 h2 => ⟨owns_only (h.row i tv x h1 h2).1 hO (fun k hk e => by have := hS k hk; have := ((h.row i tv x h1 h2).1.lt k e).1; omega), (h.row i tv x h1 h2).2⟩, h.apart⟩
theorem RefRows.isPool (h : RefRows B vs vt tvs s t W) (ho : PoolOk s t) : IsPool W.heap.size W (.agg #[vs, vt]) s t :=
  ⟨vs, vt, rfl, IsInts.of_owns h.sts ho.ls ho.ns, IsTabs.of_owns h.tab ho.lt (fun i tv x h1 h2 => IsInts.of_owns (h.row i tv x h1 h2).1 (ho.nt x (List.mem_of_getElem? h2)).1 (ho.nt x (List.mem_of_getElem? h2)).2)⟩
end

/-- Own's answer. -/
def RefOwnPost (s : List Int) (t : List (List Int)) (w : World) (e : Ending) (w' : World) : Prop :=
  ∃ (a1 a2 : Option Addr) (c1 c2 : Nat) (tvs : List Value), e = .returned (.agg #[.slice a1 s.length c1, .slice a2 t.length c2]) ∧ RefRows w.heap.size (.slice a1 s.length c1) (.slice a2 t.length c2) tvs s t w' ∧ Below w.heap.size w w'

set_option maxRecDepth 100000 in
set_option maxHeartbeats 4000000 in
theorem ref10Own_any {n : Nat} {v : Value} {s : List Int} {t : List (List Int)} {w : World} (h : IsPool n w v s t) (hn : n ≤ w.heap.size) : Calls Tryz.prog 33 #[v] w (RefOwnPost s t w) := by
  have hok := h.ok
  obtain ⟨v1, v2, rfl, hs, ht⟩ := h
  obtain ⟨a1, c1, rfl, hc1⟩ := hs.open
  obtain ⟨a2, c2, rfl, hc2⟩ := ht.open
  have hl1 := hs.len
  have hl2 := ht.len
  unfold big at hl1 hl2
  obtain ⟨i0, hi, hz0, hz1, hz2⟩ := info_parts infoInt
  obtain ⟨j0, hj, hy0, hy1, hy2⟩ := info_parts infoInts
  obtain ⟨w1, hw1⟩ : ∃ y, y = ((w.alloc (Obj.cells #[.slice a1 s.length c1, .slice a2 t.length c2] 25)).alloc (Obj.cells #[.slice none 0 0, .slice none 0 0] 25)).alloc (Obj.cells #[.slice none 0 0, .slice none 0 0] 25) := ⟨_, rfl⟩
  have hb1 : Below w.heap.size w w1 := by rw [hw1]; exact kept_alloc (kept_alloc (kept_alloc (Below.refl _ _) _) _) _
  have hs1 : w1.heap.size = w.heap.size + 3 := by rw [hw1]; simp
  have hx1 : w1.heap[w.heap.size]? = some (.cells #[.slice a1 s.length c1, .slice a2 t.length c2] 25 (0, 0)) := by rw [hw1]; exact heap_alloc_at (heap_alloc_at (World.alloc_heap_new w _) _) _
  have hx2 : w1.heap[w.heap.size + 1]? = some (.cells #[.slice none 0 0, .slice none 0 0] 25 (0, 0)) := by
    rw [hw1]; exact heap_alloc_at (by have := World.alloc_heap_new (w.alloc (Obj.cells #[.slice a1 s.length c1, .slice a2 t.length c2] 25)) (Obj.cells #[.slice none 0 0, .slice none 0 0] 25); rwa [World.size_alloc] at this) _
  have hx3 : w1.heap[w.heap.size + 1 + 1]? = some (.cells #[.slice none 0 0, .slice none 0 0] 25 (0, 0)) := by
    rw [hw1]; have := World.alloc_heap_new ((w.alloc (Obj.cells #[.slice a1 s.length c1, .slice a2 t.length c2] 25)).alloc (Obj.cells #[.slice none 0 0, .slice none 0 0] 25)) (Obj.cells #[.slice none 0 0, .slice none 0 0] 25); rwa [World.size_alloc, World.size_alloc] at this
  have hsz1 : w.heap.size + 1 + 1 < w1.heap.size := by omega
  clear hs1
  have hp0 : RefPool (w.heap.size + 1 + 1) (.slice none 0 0) (.slice none 0 0) [] [] [] w1 := RefPool.empty hx3
  have hss := hs.below (hb1.mono hn)
  obtain ⟨y1, y2⟩ := pair_cells hx1
  obtain ⟨y3, y4⟩ := pair_cells hx3
  have hw := hw1
  rw [hw1] at y1 y2 y3 y4
  rw [hw1] at hss
  go_enter Tryz.func33, Tryz.ntmps33
  go_wp2_with (at_builtin; refine wpList_append_ints rfl _ _ 22 rfl (w.heap.size + 1 + 1 + 1) 3 i0 (.int .i64 0) 8 Tryz.underlying22 hi hz0 hz1 hz2 rfl _ 0 [] rfl (World.ownsRow_nil _ _ _ _) _ s rfl hss (by unfold maxLen; omega) (by omega) (by simp) ?_)
  intro v' w3 hown' hgrow hf
  rw [← hw1] at hgrow hf
  obtain ⟨hg3, hp3, hO3⟩ := hp0.pushS (m := 0 + s.length) (xs := s) (Below.refl _ _) (by simp) (by simpa using hown') hgrow hf
  simp only [List.nil_append] at hown' hp3
  obtain ⟨va, vc, rfl, hvc⟩ := owns_open hown'
  have hb4 : Below (w.heap.size + 1 + 1) w1 (w3.setCell ⟨w.heap.size + 1 + 1, 0, none⟩ (.slice va s.length vc)) := hO3.below (by omega) (fun j hj hS => by
    rcases hS with hS | hS
    · cases hS
    · omega)
  obtain ⟨u1, u2⟩ := pair_cells hg3
  have u3 := row_frozen hg3 0
  obtain ⟨w4, hw4⟩ : ∃ y, y = w3.setCell ⟨w.heap.size + 1 + 1, 0, none⟩ (.slice va s.length vc) := ⟨_, rfl⟩
  rw [← hw4] at hp3 hb4
  clear hg3 hO3 hown' hgrow hf hp0 y1 y2 y3 y4 hss hx3 hs hw
  go_wp2_with fail
  rw [← hw4]
  clear hw4 u1 u2 u3 hw1
  go_loopw [4] (fun i W => ∃ (k : Nat) (vt : Value) (tvs : List Value), k ≤ t.length ∧ i = .int .i64 k ∧ RefPool (w.heap.size + 1 + 1) (.slice va s.length vc) vt tvs s (t.take k) W ∧ Below (w.heap.size + 1 + 1) w1 W) (fun i _ => t.length - (intOf i).toNat)
  case atStart => exact ⟨0, _, _, Nat.zero_le _, rfl, hp3, hb4⟩
  case round =>
    obtain ⟨k, vt, tvs, hk, rfl, hp, hb⟩ := hrel
    clear hp3 hb4
    have hx := (hb.block w.heap.size (by omega)).trans hx1
    have hlt2 := hp.lt
    have htk : (t.take k).length = k := by rw [List.length_take]; omega
    obtain ⟨y1, y2⟩ := pair_cells hx
    by_cases hlt : k < t.length
    · have hblk := hp.blk
      have hown4 := hp.tab
      rw [htk] at hown4
      obtain ⟨x, bt, ot, tv, hxt, rfl, hbt, hct, htv⟩ := (ht.below (hb1.mono hn)).at hlt
      have hct' : wr.cell? ⟨bt, ot + k, none⟩ = some tv := (hb.cell (p := ⟨bt, ot + k, none⟩) (by show bt < _; omega)).trans hct
      have htv' : IsInts n wr tv x := htv.below (hb.mono (by omega))
      have hlx := htv.len
      unfold big at hlx
      have HX := Lib.hid hxt
      obtain ⟨xa, xc, rfl, hxc⟩ := htv.open
      have hC0 : HasBlk (w.heap.size + 1 + 1) #[.slice va s.length vc, vt] 25 wr.drew ∧ HasBlk w.heap.size #[.slice a1 s.length c1, .slice (some ⟨bt, ot, none⟩) t.length c2] 25 wr.drew ∧ wr.drew.cell? ⟨bt, ot + k, none⟩ = some (.slice xa x.length xc) := ⟨hblk, hx, hct'⟩
      clear hct htv hxt htk
      go_wp2_with fail
      refine wp_region_class (fun W => HasBlk (w.heap.size + 1 + 1) #[.slice va s.length vc, vt] 25 W ∧ HasBlk w.heap.size #[.slice a1 s.length c1, .slice (some ⟨bt, ot, none⟩) t.length c2] 25 W ∧ W.cell? ⟨bt, ot + k, none⟩ = some (.slice xa x.length xc)) 11 (by kernel_rfl) ?_
      refine wpAnyC_take 0 (.pointer (some ⟨w.heap.size + 1 + 1, 1, none⟩)) rfl (by kernel_rfl) rfl (fun _ _ _ h => h) hC0 (fun W hW => by obtain ⟨k1, k2, k3⟩ := hW; obtain ⟨g1, g2⟩ := pair_cells k1.out; obtain ⟨g3, g4⟩ := pair_cells k2.out; go_simp) ?_
      go_simp
      refine wpAnyC_take 1 vt rfl (by kernel_rfl) rfl (fun _ _ _ h => h) hC0 (fun W hW => by obtain ⟨k1, k2, k3⟩ := hW; obtain ⟨g1, g2⟩ := pair_cells k1.out; obtain ⟨g3, g4⟩ := pair_cells k2.out; go_simp) ?_
      go_simp
      refine wpAnyC_take 2 (.pointer (some ⟨w.heap.size, 1, none⟩)) rfl (by kernel_rfl) rfl (fun _ _ _ h => h) hC0 (fun W hW => by obtain ⟨k1, k2, k3⟩ := hW; obtain ⟨g1, g2⟩ := pair_cells k1.out; obtain ⟨g3, g4⟩ := pair_cells k2.out; go_simp) ?_
      go_simp
      refine wpAnyC_take 3 (.slice (some ⟨bt, ot, none⟩) t.length c2) rfl (by kernel_rfl) rfl (fun _ _ _ h => h) hC0 (fun W hW => by obtain ⟨k1, k2, k3⟩ := hW; obtain ⟨g1, g2⟩ := pair_cells k1.out; obtain ⟨g3, g4⟩ := pair_cells k2.out; go_simp) ?_
      go_simp
      refine wpAnyC_take 4 (.int .i64 (k : Int)) rfl (by kernel_rfl) rfl (fun _ _ _ h => h) hC0 (fun W hW => by go_simp) ?_
      go_simp
      refine wpAnyC_take 5 (.pointer (some ⟨bt, ot + k, none⟩)) rfl (by kernel_rfl) rfl (fun _ _ _ h => h) hC0 (fun W hW => by go_simp) ?_
      go_simp
      refine wpAnyC_take 6 (.slice xa x.length xc) rfl (by kernel_rfl) rfl (fun _ _ _ h => h) hC0 (fun W hW => by obtain ⟨k1, k2, k3⟩ := hW; go_simp) ?_
      go_simp
      refine wpAnyC_act 7 rfl (by kernel_rfl) rfl ?_
      refine wp_append_ints _ (.const (.slice none 0 0)) (.tmp 24) 22 rfl wr.heap.size 3 i0 (.int .i64 0) 8 Tryz.underlying22 hi hz0 hz1 hz2 rfl (.slice none 0 0) 0 [] rfl (World.ownsRow_nil _ _ _ _) (n := n) (.slice xa x.length xc) x rfl (htv'.below ((Below.refl n wr).drew)) (by unfold maxLen; omega) (by omega) (Nat.le_refl _) ?_
      intro tv' W5 hrow hgr5 hf5
      have hb5 : Below wr.heap.size wr W5 := ((Below.refl _ wr).drew).grown hgr5 (Nat.le_refl _) (fun j hj => by cases hj)
      simp only [Nat.zero_add, List.nil_append] at hrow
      obtain ⟨ta, tc, rfl, htc⟩ := owns_open hrow
      have hs5 := hb5.size
      have hcn : n ≤ wr.heap.size := by have := hb.size; omega
      have hC5 : HasBlk (w.heap.size + 1 + 1) #[.slice va s.length vc, vt] 25 W5 ∧ HasBlk w.heap.size #[.slice a1 s.length c1, .slice (some ⟨bt, ot, none⟩) t.length c2] 25 W5 ∧ W5.cell? ⟨bt, ot + k, none⟩ = some (.slice xa x.length xc) :=
        ⟨mark_any hblk hb5, mark_any hx hb5, (hb5.cell (p := ⟨bt, ot + k, none⟩) (by show bt < _; omega)).trans hct'⟩
      have hown5 : (W5.alloc (.cells #[.slice ta x.length tc] 22)).ownsRow (w.heap.size + 1 + 1 + 1) 22 1 vt k tvs := (owns_kept hown4 hb5).alloc _
      refine ⟨fun _ => hC5, ?_⟩
      go_simp
      refine wpAnyC_act 8 rfl (by kernel_rfl) rfl ?_
      go_simp
      refine ⟨⟨hC5.1.below (kept_alloc (Below.refl _ _) _) (by omega), hC5.2.1.below (kept_alloc (Below.refl _ _) _) (by omega), (World.cell?_alloc_lt _ _ ⟨bt, ot + k, none⟩ (by show bt < _; omega)).trans hC5.2.2⟩, ?_⟩
      refine wpAnyC_act 9 rfl (by kernel_rfl) rfl ?_
      refine wp_append_new _ (.tmp 19) (.tmp 26) 23 rfl (w.heap.size + 1 + 1 + 1) 22 j0 (.slice none 0 0) 1 24 Tryz.underlying23 hj hy0 hy1 hy2 rfl (by decide) vt k tvs rfl hown5 ⟨W5.heap.size, 0, none⟩ 1 1 [.slice ta x.length tc] rfl rfl (cell_one_new _ _ _) (by simp [Value.oneCell']) (by unfold maxLen; omega) (by omega) (by simp; omega) ?_
      intro v6 w6 hown6 hgrow6 hf6
      obtain ⟨hg6, hp6, hO6⟩ := hp.pushT (x := x) (m := k + 1) hb5 hrow (by rw [List.length_take]; omega) hown6 hgrow6 hf6
      rw [← take_snoc HX.out] at hp6
      obtain ⟨za, zc, rfl, hzc⟩ := owns_open hown6
      have hC6 : HasBlk (w.heap.size + 1 + 1) #[.slice va s.length vc, vt] 25 w6 ∧ HasBlk w.heap.size #[.slice a1 s.length c1, .slice (some ⟨bt, ot, none⟩) t.length c2] 25 w6 ∧ w6.cell? ⟨bt, ot + k, none⟩ = some (.slice xa x.length xc) := by
        have hO5 : Only (fun b => vt.ownBlock = some b) wr w6 := (((Only.refl _ wr).kept hb5).alloc _).grown hgrow6 (fun k hk => .inl hk)
        have hv := fun j hj => hown4.lt j hj
        exact ⟨hg6, (hO5.block _ (by omega) (fun e => by have := (hv _ e).1; omega)).trans hx, (hO5.cell (p := ⟨bt, ot + k, none⟩) (by show bt < _; omega) (fun e => by have := (hv _ e).1; simp at this; omega)).trans hct'⟩
      refine ⟨fun _ => hC6, ?_⟩
      go_simp
      refine wpAnyC_act 10 rfl (by kernel_rfl) rfl ?_
      go_simp
      try refine ⟨hC6, ?_⟩
      obtain ⟨u1, u2⟩ := pair_cells hg6
      have u3 := row_frozen hg6 1
      refine wpAnyC_act 11 rfl (by kernel_rfl) rfl ?_
      go_simp
      refine wpAnyC_done (by kernel_rfl) ?_
      have hb6 : Below (w.heap.size + 1 + 1) w1 (w6.setCell ⟨w.heap.size + 1 + 1, 1, none⟩ (.slice za (k + 1) zc)) := hb.trans (hO6.below (by omega) (fun j hj hS => by
        rcases hS with hS | hS
        · have := (hown4.lt j hS).1; omega
        · omega))
      have HP6 := Lib.hid hp6
      clear hp6 hO6 hg6 hown6 hgrow6 hf6 u1 u2 u3 hC6 hC5 hC0 hown5 hown4 hrow hb5 hblk hct' htv' y1 y2 hgr5 hf5 ht
      go_wp2
      go_roundw
      case rel => exact ⟨k + 1, _, _, by omega, by go_num, HP6.out, hb6⟩
      case measure => simp [intOf]; omega
    · obtain rfl : k = t.length := by omega
      rw [List.take_length] at hp
      have hT := hp.tab
      obtain ⟨za, zc, rfl, _⟩ := owns_open hT
      have hblk := hp.blk
      obtain ⟨k1, k2⟩ := pair_cells hblk
      have hr := (hb.block (w.heap.size + 1) (by omega)).trans hx2
      obtain ⟨e1, e2⟩ := pair_cells hr
      have e3 := row_frozen hr 0
      have e4 := row_frozen hr 1
      have HY := Lib.hid (write2 hr (.slice va s.length vc) (.slice za t.length zc))
      have hO := write2_only (W := wr) (B1 := w.heap.size + 1) (.slice va s.length vc) (.slice za t.length zc)
      have hbw : Below w.heap.size w wr := hb1.trans (hb.mono (by omega))
      have HBF := Lib.hid (hbw.trans (hO.below hbw.size (fun j hj e => by omega)))
      have HRF := Lib.hid (((hp.rows (B := w.heap.size + 1 + 1) (by omega)).only hO (fun j e => by omega)))
      clear hp hT hO hbw hx hx1 hx2 hblk ht htk
      have hge : ¬ (t.length : Int) < (t.length : Int) := by omega
      go_wp2
      obtain ⟨r1, r2⟩ := pair_cells HY.out
      refine bodyPost_ret (v := .agg #[.slice va s.length vc, .slice za t.length zc]) ?_ rfl ⟨va, za, vc, zc, tvs, rfl, ?_, HBF.out⟩
      · clear e1 e2 e3 e4 y1 y2 k1 k2
        simp [results, Tryz.results33, go_sem, r1, r2]
      · have hR := HRF.out
        exact ⟨owns_base hR.sts (by omega), owns_base hR.tab (by omega), fun i tv x h1 h2 => ⟨owns_base (hR.row i tv x h1 h2).1 (by omega), (hR.row i tv x h1 h2).2⟩, hR.apart⟩
end Go.Proofs.YtihmgiifphheeaaGreatDoor

/- Contracts of selionref10.take, Close. -/
namespace Go.Sel
open Go
theorem takeB_first {s : List Int} {a : Int} {k : Nat} (hk : s[k]? = some a) (h : ∀ j, j < k → s[j]? ≠ some a) : takeB s [a] = some k := by
  obtain ⟨hlt, hka⟩ := List.getElem?_eq_some_iff.1 hk
  unfold takeB blocksL
  rw [List.head?_filter, List.find?_range_eq_some]
  refine ⟨by simp [hk], by simpa using hlt, fun j hj => ?_⟩
  have hne := h j hj
  have hjl : j < s.length := by omega
  rw [List.getElem?_eq_getElem hjl] at hne ⊢
  simp at hne ⊢
  exact hne
theorem takeB_none_all {s : List Int} {a : Int} (h : ∀ j, j < s.length → s[j]? ≠ some a) : takeB s [a] = none := by
  cases hc : takeB s [a] with
  | none => rfl
  | some b =>
    obtain ⟨hlt, x, hx, hm⟩ := takeB_spec hc
    have : x = a := by simpa using hm
    subst this
    exact absurd hx (h b hlt)
end Go.Sel
namespace Go.Proofs.YtihmgiifphheeaaGreatDoor
open Go.RowKit Go.Sel

theorem RefRows.setS {B b : Nat} {a1 : Option Addr} {c1 : Nat} {vt : Value} {tvs : List Value} {s : List Int} {t : List (List Int)} {W : World} (h : RefRows B (.slice a1 s.length c1) vt tvs s t W) (hb : b < s.length) (x : Int) :
    ∃ gs u, a1 = some ⟨gs, 0, none⟩ ∧ B ≤ gs ∧ gs < W.heap.size ∧ W.cell? ⟨gs, b, none⟩ = some u ∧ W.frozen? ⟨gs, b, none⟩ = false ∧ RefRows B (.slice a1 s.length c1) vt tvs (s.set b x) t (W.setCell ⟨gs, b, none⟩ (.int .i64 x)) := by
  obtain ⟨gs, rfl⟩ : ∃ gs, a1 = some ⟨gs, 0, none⟩ := by
    rcases h.sts.2 with ⟨h1, h0⟩ | ⟨gs, cap, cur, h1, _⟩
    · omega
    · cases h1; exact ⟨gs, rfl⟩
  have hc := h.sts.cellAt b (by omega)
  rw [List.getElem?_eq_getElem (by rw [List.length_map]; exact hb)] at hc
  obtain ⟨s1, s2⟩ := h.sts.stored b (.int .i64 x)
  have hl := h.sts.lt gs rfl
  have hO : Only (fun k => k = gs) W (W.setCell ⟨gs, b, none⟩ (.int .i64 x)) := (Only.refl (fun k => k = gs) W).setCell (p := ⟨gs, b, none⟩) (.inl rfl) _
  refine ⟨gs, _, rfl, hl.1, hl.2, hc, h.sts.frozenAt b, ⟨?_, owns_only h.tab hO (fun k hk e => by subst hk; exact h.apart _ rfl e), fun i tv y h1 h2 => ?_, h.apart⟩⟩
  · rw [List.length_set, List.map_set]; exact s1
  · obtain ⟨r1, r2⟩ := h.row i tv y h1 h2
    exact ⟨owns_only r1 hO (fun k hk e => by subst hk; exact (r2 _ e).2 rfl), r2⟩

/-- A table more in its place: a row that the call made behind. -/
theorem RefRows.setT {B b : Nat} {a2 : Option Addr} {c2 : Nat} {vs tv : Value} {tvs : List Value} {s x : List Int} {t : List (List Int)} {W : World} (h : RefRows B vs (.slice a2 t.length c2) tvs s t W) (hb : b < t.length)
    (hT : W.ownsRow B 3 1 tv x.length (x.map (Value.int .i64))) (hne : ∀ k, tv.ownBlock = some k → (Value.slice a2 t.length c2).ownBlock ≠ some k ∧ vs.ownBlock ≠ some k) :
    ∃ gt u, a2 = some ⟨gt, 0, none⟩ ∧ B ≤ gt ∧ gt < W.heap.size ∧ W.cell? ⟨gt, b, none⟩ = some u ∧ W.frozen? ⟨gt, b, none⟩ = false ∧ RefRows B vs (.slice a2 t.length c2) (tvs.set b tv) s (t.set b x) (W.setCell ⟨gt, b, none⟩ tv) := by
  obtain ⟨gt, rfl⟩ : ∃ gt, a2 = some ⟨gt, 0, none⟩ := by
    rcases h.tab.2 with ⟨h1, h0⟩ | ⟨gs, cap, cur, h1, _⟩
    · omega
    · cases h1; exact ⟨gs, rfl⟩
  have hl2 : tvs.length = t.length := by have := h.tab.1; simpa using this
  have hc := h.tab.cellAt b (by omega)
  rw [List.getElem?_eq_getElem (by omega)] at hc
  obtain ⟨s1, s2⟩ := h.tab.stored b tv
  have hl := h.tab.lt gt rfl
  have hO : Only (fun k => k = gt) W (W.setCell ⟨gt, b, none⟩ tv) := (Only.refl (fun k => k = gt) W).setCell (p := ⟨gt, b, none⟩) (.inl rfl) _
  refine ⟨gt, _, rfl, hl.1, hl.2, hc, h.tab.frozenAt b, ⟨owns_only h.sts hO (fun k hk e => by subst hk; exact h.apart _ e rfl), ?_, fun i tv' y h1 h2 => ?_, h.apart⟩⟩
  · rw [List.length_set]; exact s1
  · by_cases e : b = i
    · subst e
      rw [List.getElem?_set_self (by omega)] at h1 h2
      cases h1
      cases h2
      exact ⟨owns_only hT hO (fun k hk e => by subst hk; exact (hne _ e).1 rfl), hne⟩
    · rw [List.getElem?_set_ne e] at h1 h2
      obtain ⟨r1, r2⟩ := h.row i tv' y h1 h2
      exact ⟨owns_only r1 hO (fun k hk e => by subst hk; exact (r2 _ e).1 rfl), r2⟩

theorem RefRows.poolIn {B : Nat} {vs vt : Value} {tvs : List Value} {s : List Int} {t : List (List Int)} {W : World} (h : RefRows B vs vt tvs s t W) (ho : PoolOk s t) : PoolIn B W.heap.size W (.agg #[vs, vt]) s t := fun w' ha => by
  have p3 := owns_agree h.sts ha (Nat.le_refl _) (Nat.le_refl _)
  have p5 := owns_agree h.tab ha (Nat.le_refl _) (Nat.le_refl _)
  refine ⟨vs, vt, rfl, (IsInts.of_owns p3 ho.ls ho.ns).narrow (fun k hk => (h.sts.lt k hk).2), ?_⟩
  have hl2 : tvs.length = t.length := by have := h.tab.1; simpa using this
  rcases hp : p5.2 with ⟨rfl, h2⟩ | ⟨gt, cap, cur, rfl, hg, hh, h3, h4, h5, h6⟩
  · have : t = [] := List.length_eq_zero_iff.1 h2
    subst this
    exact IsSl.nil
  · refine ⟨some ⟨gt, 0, none⟩, cap, rfl, h3, ho.lt, fun j x hx => ?_⟩
    have hj : j < tvs.length := by have := (List.getElem?_eq_some_iff.1 hx).1; omega
    have hc := p5.cells (g := gt) rfl j tvs[j] (List.getElem?_eq_getElem hj)
    rw [Addr.add_lit] at hc
    obtain ⟨r1, _⟩ := h.row j _ x (List.getElem?_eq_getElem hj) hx
    refine ⟨gt, 0, rfl, (h.tab.lt gt rfl).2, tvs[j], by simpa using hc, ?_⟩
    exact (IsInts.of_owns (owns_agree r1 ha (Nat.le_refl _) (Nat.le_refl _)) (ho.nt x (List.mem_of_getElem? hx)).1 (ho.nt x (List.mem_of_getElem? hx)).2).narrow (fun k hk => (r1.lt k hk).2)
/-- A pool, a place, a flag. -/
def AnsPost (r : List Int × List (List Int) × Nat × Bool) (w : World) (e : Ending) (w' : World) : Prop :=
  Below w.heap.size w w' ∧ ∃ (a1 a2 : Option Addr) (l1 c1 l2 c2 : Nat), e = .returned (.tuple #[.agg #[.slice a1 l1 c1, .slice a2 l2 c2], .int .i64 ((r.2.2.1 : Nat) : Int), .bool r.2.2.2]) ∧ PoolIn w.heap.size w'.heap.size w' (.agg #[.slice a1 l1 c1, .slice a2 l2 c2]) r.1 r.2.1
theorem emptyIn (lo hi : Nat) (w : World) : PoolIn lo hi w (.agg #[.slice none 0 0, .slice none 0 0]) [] [] := fun _ _ => ⟨_, _, rfl, IsSl.nil, IsSl.nil⟩
def takeAns (s : List Int) (t : List (List Int)) (a : Int) : List Int × List (List Int) × Nat × Bool :=
  if rightP s t = true then (match takeB s [a] with | some b => (s.set b 5, t, b, true) | none => ([], [], 0, false)) else ([], [], 0, false)
theorem takePost_ans {s : List Int} {t : List (List Int)} {a : Int} {w : World} {e : Ending} {w' : World} (h : TakePost s t [a] w e w') : AnsPost (takeAns s t a) w e w' := by
  obtain ⟨hb, ⟨hno, rfl⟩ | ⟨b, v, hr, hB, rfl, hP⟩⟩ := h
  · have e1 : takeAns s t a = ([], [], 0, false) := by
      unfold takeAns
      rcases hno with h | h
      · rw [if_neg (by rw [h]; decide)]
      · rw [h]; split <;> rfl
    rw [e1]
    exact ⟨hb, none, none, 0, 0, 0, 0, rfl, emptyIn _ _ _⟩
  · have e1 : takeAns s t a = (s.set b 5, t, b, true) := by unfold takeAns; rw [if_pos hr, hB]
    rw [e1]
    obtain ⟨a1, c1, a2, c2, rfl⟩ := IsPool.open hP.pool
    exact ⟨hb, a1, a2, _, c1, _, c2, rfl, hP⟩

set_option maxRecDepth 100000 in
set_option maxHeartbeats 4000000 in
theorem ref10take_any {n : Nat} {v : Value} {s : List Int} {t : List (List Int)} {w : World} (a : Int) (ha : I64 a) (h : IsPool n w v s t) (hn : n ≤ w.heap.size) :
    Calls Tryz.prog 26 #[v, .int .i64 a] w (AnsPost (takeAns s t a) w) := by
  have hok := h.ok
  have hls := hok.ls
  unfold big at hls
  unfold I64 at ha
  obtain ⟨a1, c1, a2, c2, rfl⟩ := IsPool.open h
  obtain ⟨w1, hw1⟩ : ∃ y, y = (w.alloc (Obj.cells #[.slice a1 s.length c1, .slice a2 t.length c2] 25)).alloc (Obj.cells #[.slice none 0 0, .slice none 0 0] 25) := ⟨_, rfl⟩
  have hb1 : Below w.heap.size w w1 := by rw [hw1]; exact kept_alloc (kept_alloc (Below.refl _ _) _) _
  have hs1 : w1.heap.size = w.heap.size + 2 := by rw [hw1]; simp
  have hx1 : w1.heap[w.heap.size]? = some (.cells #[.slice a1 s.length c1, .slice a2 t.length c2] 25 (0, 0)) := by rw [hw1]; exact heap_alloc_at (World.alloc_heap_new w _) _
  have hx2 : w1.heap[w.heap.size + 1]? = some (.cells #[.slice none 0 0, .slice none 0 0] 25 (0, 0)) := by rw [hw1]; have := World.alloc_heap_new (w.alloc (Obj.cells #[.slice a1 s.length c1, .slice a2 t.length c2] 25)) (Obj.cells #[.slice none 0 0, .slice none 0 0] 25); rwa [World.size_alloc] at this
  have hs2 : w.heap.size + 1 < w1.heap.size := by omega
  clear hs1
  -- nothing is taken
  have none_ : ∀ W, Below w1.heap.size w1 W → takeAns s t a = ([], [], 0, false) → AnsPost (takeAns s t a) w (.returned (.tuple #[.agg #[.slice none 0 0, .slice none 0 0], .int .i64 0, .bool false])) ((W.setCell ⟨w.heap.size + 1, 0, none⟩ (.slice none 0 0)).setCell ⟨w.heap.size + 1, 1, none⟩ (.slice none 0 0)) := fun W hb e1 => by
    rw [e1]
    have hbw := hb1.trans (hb.mono (by omega))
    exact ⟨(hbw.setCell (p := ⟨w.heap.size + 1, 0, none⟩) (by simp) _).setCell (p := ⟨w.heap.size + 1, 1, none⟩) (by simp) _, none, none, 0, 0, 0, 0, rfl, emptyIn _ _ _⟩
  have NONE := Lib.hid none_
  clear none_
  go_enter Tryz.func26, Tryz.ntmps26
  go_wp2_with fail
  rw [← hw1]
  clear hw1
  go_loopw [7] (fun i W => ∃ k : Nat, k ≤ s.length ∧ i = .int .i64 k ∧ Hid (∀ j, j < k → s[j]? ≠ some a) ∧ Below w1.heap.size w1 W) (fun i _ => s.length - (intOf i).toNat)
  case atStart => exact ⟨0, Nat.zero_le _, rfl, Lib.hid (fun j hj => by omega), Below.refl _ _⟩
  case round =>
    obtain ⟨k, hk, rfl, hh, hb⟩ := hrel
    have hx := mark_any hx1 hb
    have hr0 := mark_any hx2 hb
    have hbw : Below w.heap.size w wr := hb1.trans (hb.mono (by omega))
    have hsw := hb.size
    obtain ⟨y1, y2⟩ := pair_cells hx
    obtain ⟨e1, e2⟩ := pair_cells hr0
    have e3 := row_frozen hr0 0
    have e4 := row_frozen hr0 1
    by_cases hlt : k < s.length
    · have hP := h.below (hbw.mono hn)
      have hR := ref10Right_any hP (Nat.le_trans hn hbw.size)
      cases hr : rightP s t with
      | false =>
        rw [hr] at hR
        have HE := Lib.hid (show takeAns s t a = ([], [], 0, false) by unfold takeAns; rw [if_neg (by rw [hr]; decide)])
        clear hr
        clear hx hr0
        go_wp2_with fail
        refine hR.mono ?_
        rintro e w2 ⟨rfl, hb2⟩
        have HK := Lib.hid (kept_trans hb hb2)
        have hr2 := mark_any (mark_any hx2 hb) hb2
        have HY := Lib.hid (write2 hr2 (.slice none 0 0) (.slice none 0 0))
        obtain ⟨u1, u2⟩ := pair_cells hr2
        have u3 := row_frozen hr2 0
        have u4 := row_frozen hr2 1
        clear hR hr2
        go_wp2
        obtain ⟨r1, r2⟩ := pair_cells HY.out
        refine bodyPost_ret (v := .tuple #[.agg #[.slice none 0 0, .slice none 0 0], .int .i64 0, .bool false]) ?_ rfl (NONE.out w2 HK.out HE.out)
        clear e1 e2 e3 e4 y1 y2 u1 u2 u3 u4
        simp [results, Tryz.results26, go_sem, r1, r2]
      | true =>
        rw [hr] at hR
        have HR := Lib.hid hr
        clear hr
        obtain ⟨z1, z2, hz, hz1, hz2⟩ := hP
        cases hz
        obtain ⟨x, b1, o1, hxk, rfl, hbn, g1, _⟩ := hz1.at hlt
        have hwr := hbw.size
        have hP : IsPool n wr (.agg #[.slice (some ⟨b1, o1, none⟩) s.length c1, .slice a2 t.length c2]) s t := ⟨_, _, rfl, hz1, hz2⟩
        by_cases hxa : x = a
        · subst hxa
          have HT := Lib.hid (takeB_first hxk hh.out)
          clear hx hr0 hxk hz1 hz2
          go_wp2_with fail
          refine hR.mono ?_
          rintro e w2 ⟨rfl, hb2⟩
          clear hR
          have hx' := mark_any (mark_any hx1 hb) hb2
          obtain ⟨u1, u2⟩ := pair_cells hx'
          have g1' := (hb2.cell (p := ⟨b1, o1 + k, none⟩) (by show b1 < _; omega)).trans g1
          have hO := ref10Own_any (hP.below (hb2.mono (Nat.le_trans hn hbw.size))) (Nat.le_trans (Nat.le_trans hn hbw.size) hb2.size)
          clear hx' g1 y1 y2 e1 e2 e3 e4
          go_wp2_with fail
          refine hO.mono ?_
          clear hO u1 u2
          rintro e w3 ⟨p1, p2, d1, d2, tvs, rfl, hrows, hb3⟩
          obtain ⟨gs, u, rfl, hgB, hgl, hcu, hfz, hset⟩ := hrows.setS hlt 5
          have hs3 := hb3.size
          have hs2' := hb2.size
          obtain ⟨w4, hw4⟩ : ∃ y, y = w3.alloc (Obj.cells #[.slice (some ⟨gs, 0, none⟩) s.length d1, .slice p2 t.length d2] 25) := ⟨_, rfl⟩
          have hb4 : Below w3.heap.size w3 w4 := by rw [hw4]; exact kept_alloc (Below.refl _ _) _
          have hx4 : w4.heap[w3.heap.size]? = some (.cells #[.slice (some ⟨gs, 0, none⟩) s.length d1, .slice p2 t.length d2] 25 (0, 0)) := by rw [hw4]; exact World.alloc_heap_new _ _
          have hrows4 := hrows.kept hb4
          obtain ⟨gs', u', he, _, _, hcu4, hfz4, hset4⟩ := hrows4.setS hlt 5
          cases he
          obtain ⟨f1, f2⟩ := pair_cells hx4
          have hbF : Below w1.heap.size w1 w4 := kept_trans (kept_trans (kept_trans hb hb2) hb3) hb4
          have hr4 := mark_any hx2 hbF
          obtain ⟨v1, v2⟩ := pair_cells hr4
          have v3 := row_frozen hr4 0
          have v4 := row_frozen hr4 1
          have n1 : ¬ w3.heap.size = gs := by omega
          have n2 : ¬ w.heap.size + 1 = gs := by omega
          have n3 : ¬ gs = w.heap.size + 1 := by omega
          rw [hw4] at f1 f2 hcu4 hfz4 v1 v2 v3 v4
          clear hcu hfz hset hrows hgl
          have hO5 : Only (fun b => b = gs) w4 (w4.setCell ⟨gs, k, none⟩ (.int .i64 5)) := (Only.refl (fun b => b = gs) w4).setCell (p := ⟨gs, k, none⟩) (.inl rfl) _
          have hr5 := (hO5.block (w.heap.size + 1) (by omega) (by omega)).trans hr4
          have HY := Lib.hid (write2 hr5 (.slice (some ⟨gs, 0, none⟩) s.length d1) (.slice p2 t.length d2))
          have hO6 := write2_only (W := w4.setCell ⟨gs, k, none⟩ (.int .i64 5)) (B1 := w.heap.size + 1) (.slice (some ⟨gs, 0, none⟩) s.length d1) (.slice p2 t.length d2)
          have hB4 : Below w.heap.size w w4 := hb1.trans (hbF.mono (by omega))
          have HB := Lib.hid ((hB4.trans (hO5.below hB4.size (fun j hj e => by omega))).trans (hO6.below (Nat.le_trans hB4.size hO5.size) (fun j hj e => by omega)))
          have HP := Lib.hid (((hset4.only hO6 (fun j e => by omega)).poolIn (hok.set k (x := 5) (by unfold I64; omega))).mono (lo' := w.heap.size) (by omega) (Nat.le_refl _))
          have HE := Lib.hid (show takeAns s t x = (s.set k 5, t, k, true) by unfold takeAns; rw [if_pos HR.out, HT.out])
          clear hO5 hO6 hr5 hr4 hset4 hrows4 hx4 hB4 hbF hP
          go_wp2_with fail
          rw [← hw4]
          obtain ⟨r1, r2⟩ := pair_cells HY.out
          refine bodyPost_ret (v := .tuple #[.agg #[.slice (some ⟨gs, 0, none⟩) s.length d1, .slice p2 t.length d2], .int .i64 (k : Nat), .bool true]) ?_ rfl ?_
          · clear f1 f2 hcu4 hfz4 v1 v2 v3 v4
            simp [results, Tryz.results26, go_sem, r1, r2]
          · rw [HE.out]
            exact ⟨HB.out, _, _, _, _, _, _, rfl, HP.out⟩
        · have q : (x == a) = false := by simpa using hxa
          have HN := Lib.hid (show ∀ j, j < k + 1 → s[j]? ≠ some a from fun j hj => by
            by_cases e : j = k
            · subst e; rw [hxk]; simpa using hxa
            · exact hh.out j (by omega))
          clear hx hr0 hxk hz1 hz2 hh hxa
          go_wp2_with fail
          refine hR.mono ?_
          rintro e w2 ⟨rfl, hb2⟩
          clear hR
          have hx' := mark_any (mark_any hx1 hb) hb2
          obtain ⟨u1, u2⟩ := pair_cells hx'
          have g1' := (hb2.cell (p := ⟨b1, o1 + k, none⟩) (by show b1 < _; omega)).trans g1
          clear hx' g1 y1 y2 e1 e2 e3 e4
          go_wp2
          go_roundw
          case rel => exact ⟨k + 1, by omega, by go_num, HN, kept_trans hb hb2⟩
          case measure => simp [intOf]; omega
    · have HE := Lib.hid (show takeAns s t a = ([], [], 0, false) by
        unfold takeAns
        rw [takeB_none_all (fun j hj => hh.out j (by omega))]
        split <;> rfl)
      have HY := Lib.hid (write2 hr0 (.slice none 0 0) (.slice none 0 0))
      have HK := Lib.hid hb
      clear hx hr0 hh
      go_wp2
      obtain ⟨r1, r2⟩ := pair_cells HY.out
      refine bodyPost_ret (v := .tuple #[.agg #[.slice none 0 0, .slice none 0 0], .int .i64 0, .bool false]) ?_ rfl (NONE.out wr HK.out HE.out)
      clear e1 e2 e3 e4 y1 y2
      simp [results, Tryz.results26, go_sem, r1, r2]
end Go.Proofs.YtihmgiifphheeaaGreatDoor

/- Contracts of selionref10.TakeFree, TakeHole, Close; selionref09.free, First. -/
namespace Go.Sel
open Go
/-- How many are free from a place on. -/
def freeL (l : List Int) (f : Nat) : Nat := ((l.drop f).takeWhile (fun x => decide (x = 0))).length
theorem freeL_len {l : List Int} {f m : Nat} (h1 : ∀ j, j < m → l[f + j]? = some 0) (h2 : ∀ x, l[f + m]? = some x → ¬ x = 0) (hm : f + m ≤ l.length) : freeL l f = m := by
  unfold freeL
  refine takeWhile_len (by rw [List.length_drop]; omega) (fun j x hj hx => ?_) (fun x hx => ?_)
  · rw [List.getElem?_drop, h1 j hj] at hx; cases hx; rfl
  · rw [List.getElem?_drop] at hx; simpa using h2 x hx
theorem freeL_le (l : List Int) (f : Nat) : freeL l f ≤ l.length - f := by
  unfold freeL
  have := (List.takeWhile_sublist (l := l.drop f) (fun x : Int => decide (x = 0))).length_le
  rwa [List.length_drop] at this
theorem freeL_end {l : List Int} {f n : Nat} (hz : ∀ j, f ≤ j → j < n → l[j]? = some 0) (hn : n ≤ l.length) (hx : ∀ x, l[n]? = some x → ¬ x = 0) {j : Nat} (h1 : f ≤ j) (h2 : j ≤ n) : freeL l j = n - j :=
  freeL_len (fun i hi => hz _ (by omega) (by omega)) (fun x h => hx x (by rwa [show j + (n - j) = n by omega] at h)) (by omega)
theorem runs_find (l : List Int) (k : Int) (hk : 1 ≤ k) : ∀ (m n f : Nat), l.length - n = m → f ≤ n → n ≤ l.length → (∀ j, f ≤ j → j < n → l[j]? = some 0) →
    match (runsGo (l.drop n) n f).find? (fun h => decide (k ≤ (h.2 : Int) - (h.1 : Int))) with
    | some h => f ≤ h.1 ∧ k ≤ (freeL l h.1 : Int) ∧ h.1 < l.length ∧ ∀ j, f ≤ j → j < h.1 → (freeL l j : Int) < k
    | none => ∀ j, f ≤ j → (freeL l j : Int) < k := by
  intro m
  induction m with
  | zero =>
    intro n f hm hf hn hz
    have hnl : n = l.length := by omega
    subst hnl
    have hend : ∀ x, l[l.length]? = some x → ¬ x = 0 := fun x h => by simp at h
    have hfr : ∀ j, f ≤ j → j ≤ l.length → freeL l j = l.length - j := fun j h1 h2 => freeL_end hz (Nat.le_refl _) hend h1 h2
    have hbig : ∀ j, l.length < j → freeL l j = 0 := fun j h => by have := freeL_le l j; omega
    rw [List.drop_of_length_le (Nat.le_refl _)]
    simp only [runsGo]
    by_cases hlt : f < l.length
    · rw [if_pos hlt]
      simp only [List.find?_cons, List.find?_nil]
      by_cases hc : k ≤ (l.length : Int) - (f : Int)
      · rw [decide_eq_true hc]
        exact ⟨Nat.le_refl _, by rw [hfr f (Nat.le_refl _) hf]; omega, hlt, fun j h1 h2 => by omega⟩
      · rw [decide_eq_false hc]
        intro j hj
        by_cases h : j ≤ l.length
        · rw [hfr j hj h]; omega
        · rw [hbig j (by omega)]; omega
    · rw [if_neg hlt]
      intro j hj
      by_cases h : j ≤ l.length
      · rw [hfr j hj h]; omega
      · rw [hbig j (by omega)]; omega
  | succ m ih =>
    intro n f hm hf hn hz
    have hnl : n < l.length := by omega
    rw [List.drop_eq_getElem_cons hnl]
    simp only [runsGo]
    by_cases hx : l[n] = 0
    · rw [if_pos hx]
      exact ih (n + 1) f (by omega) (by omega) (by omega) (fun j h1 h2 => by
        by_cases e : j = n
        · subst e; rw [List.getElem?_eq_getElem hnl, hx]
        · exact hz j h1 (by omega))
    · rw [if_neg hx]
      have hend : ∀ x, l[n]? = some x → ¬ x = 0 := fun x h => by rw [List.getElem?_eq_getElem hnl] at h; cases h; exact hx
      have hfr : ∀ j, f ≤ j → j ≤ n → freeL l j = n - j := fun j h1 h2 => freeL_end hz hn hend h1 h2
      have hrest := ih (n + 1) (n + 1) (by omega) (Nat.le_refl _) (by omega) (fun j h1 h2 => by omega)
      have join : ∀ (hsmall : ∀ j, f ≤ j → j ≤ n → (freeL l j : Int) < k), match (runsGo (l.drop (n + 1)) (n + 1) (n + 1)).find? (fun h => decide (k ≤ (h.2 : Int) - (h.1 : Int))) with
          | some h => f ≤ h.1 ∧ k ≤ (freeL l h.1 : Int) ∧ h.1 < l.length ∧ ∀ j, f ≤ j → j < h.1 → (freeL l j : Int) < k
          | none => ∀ j, f ≤ j → (freeL l j : Int) < k := fun hsmall => by
        split
        · rename_i h he
          rw [he] at hrest
          obtain ⟨r1, r2, r3, r4⟩ := hrest
          exact ⟨by omega, r2, r3, fun j h1 h2 => by
            by_cases hj : j ≤ n
            · exact hsmall j h1 hj
            · exact r4 j (by omega) h2⟩
        · rename_i he
          rw [he] at hrest
          exact fun j h1 => by
            by_cases hj : j ≤ n
            · exact hsmall j h1 hj
            · exact hrest j (by omega)
      by_cases hlt : f < n
      · rw [if_pos hlt]
        simp only [List.find?_cons]
        by_cases hc : k ≤ (n : Int) - (f : Int)
        · rw [decide_eq_true hc]
          exact ⟨Nat.le_refl _, by rw [hfr f (Nat.le_refl _) hf]; omega, by omega, fun j h1 h2 => by omega⟩
        · rw [decide_eq_false hc]
          exact join (fun j h1 h2 => by rw [hfr j h1 h2]; omega)
      · rw [if_neg hlt]
        exact join (fun j h1 h2 => by rw [hfr j h1 h2]; omega)
theorem firstL_free {l : List Int} {k : Int} {h : Nat × Nat} (hf : firstL l k = some h) : h.1 < l.length ∧ k ≤ (freeL l h.1 : Int) ∧ ∀ j, j < h.1 → (freeL l j : Int) < k := by
  unfold firstL at hf
  split at hf
  · rename_i hg
    simp only [Bool.and_eq_true, decide_eq_true_eq] at hg
    have := runs_find l k hg.2 l.length 0 0 rfl (Nat.le_refl _) (Nat.zero_le _) (fun j h1 h2 => by omega)
    rw [List.drop_zero, show runsGo l 0 0 = runsL l from rfl, hf] at this
    exact ⟨this.2.2.1, this.2.1, fun j hj => this.2.2.2 j (Nat.zero_le _) hj⟩
  · cases hf
theorem firstL_none_free {l : List Int} {k : Int} (hr : rightS l = true) (hk : 1 ≤ k) (hf : firstL l k = none) : ∀ j, (freeL l j : Int) < k := by
  unfold firstL at hf
  rw [if_pos (by rw [hr, decide_eq_true hk]; rfl)] at hf
  have := runs_find l k hk l.length 0 0 rfl (Nat.le_refl _) (Nat.zero_le _) (fun j h1 h2 => by omega)
  rw [List.drop_zero, show runsGo l 0 0 = runsL l from rfl, hf] at this
  exact fun j => this j (Nat.zero_le _)
end Go.Sel
namespace Go.Proofs.YtihmgiifphheeaaGreatDoor
open Go.RowKit Go.Sel

set_option maxHeartbeats 1000000 in
theorem ref09free_any {n : Nat} {v : Value} {l : List Int} {w : World} (f : Nat) (hf : f ≤ l.length) (h1 : IsInts n w v l) :
    Calls Tryz.prog 57 #[v, .int .i64 f] w fun e w' => e = .returned (.int .i64 (freeL l f)) ∧ w' = w := by
  obtain ⟨a1, c1, rfl, hc1⟩ := h1.open
  have hl := h1.len
  unfold big at hl
  go_enter Tryz.func57, Tryz.ntmps57
  go_wp2
  go_loop [5] (fun i => ∃ k : Nat, f + k ≤ l.length ∧ i = .int .i64 k ∧ Hid (∀ j, j < k → l[f + j]? = some 0)) (fun i => l.length - (intOf i).toNat)
  case atStart => exact ⟨0, by omega, rfl, Lib.hid (fun j hj => by omega)⟩
  case round =>
    obtain ⟨k, hk, rfl, hh⟩ := hrel
    by_cases hlt : f + k < l.length
    · obtain ⟨x, b1, o1, hx, rfl, _, g1, _⟩ := h1.at hlt
      have k1 : (f : Int) + (k : Int) < (l.length : Int) := by omega
      have k0 : (0 : Int) ≤ (f : Int) + (k : Int) := by omega
      have k2 : ((f : Int) + (k : Int)).toNat = f + k := by omega
      clear h1
      by_cases hx0 : x = 0
      · subst hx0
        have HN := Lib.hid (show ∀ j, j < k + 1 → l[f + j]? = some 0 from fun j hj => by
          by_cases e : j = k
          · subst e; exact hx
          · exact hh.out j (by omega))
        clear hx hh
        go_wp2
        go_round
        case measure => simp [intOf]; omega
        case rel => exact ⟨k + 1, by omega, by go_num, HN⟩
      · have q : (x == 0) = false := by simpa using hx0
        have HF := Lib.hid (freeL_len hh.out (fun y hy => by rw [hx] at hy; cases hy; exact hx0) (by omega))
        clear hx hh hx0
        go_wp2
        go_ret
        exact ⟨ret_int (by rw [HF.out]), rfl⟩
    · have k1 : ¬ (f : Int) + (k : Int) < (l.length : Int) := by omega
      have HF := Lib.hid (freeL_len hh.out (fun y hy => by have := (List.getElem?_eq_some_iff.1 hy).1; omega) (by omega))
      clear h1 hh
      go_wp2
      go_ret
      exact ⟨ret_int (by rw [HF.out]), rfl⟩

/-- First's answer. -/
def RefFirst (l : List Int) (k : Int) : Value := match firstL l k with | some h => .tuple #[.int .i64 (h.1 : Nat), .bool true] | none => .tuple #[.int .i64 0, .bool false]
theorem refFirst_none {l : List Int} {k : Int} (h : firstL l k = none) : RefFirst l k = .tuple #[.int .i64 0, .bool false] := by unfold RefFirst; rw [h]
theorem refFirst_some {l : List Int} {k : Int} {h : Nat × Nat} (hf : firstL l k = some h) : RefFirst l k = .tuple #[.int .i64 (h.1 : Nat), .bool true] := by unfold RefFirst; rw [hf]

set_option maxHeartbeats 2000000 in
theorem ref09First_any {n : Nat} {v : Value} {l : List Int} {w : World} (k : Int) (hk : I64 k) (h1 : IsInts n w v l) :
    Calls Tryz.prog 31 #[v, .int .i64 k] w fun e w' => e = .returned (RefFirst l k) ∧ w' = w := by
  have hR := ref09Right_any h1
  obtain ⟨a1, c1, rfl, hc1⟩ := h1.open
  have hl := h1.len
  unfold big at hl
  unfold I64 at hk
  cases hr : rightS l with
  | false =>
    rw [hr] at hR
    have HF := Lib.hid (show firstL l k = none by unfold firstL; rw [hr]; rfl)
    clear hr h1
    go_enter Tryz.func31, Tryz.ntmps31
    go_wp2_with fail
    refine hR.mono ?_
    rintro e w' ⟨rfl, rfl⟩
    clear hR
    go_wp2
    exact bodyPost_ret (v := .tuple #[.int .i64 0, .bool false]) (by simp [results, Tryz.results31, go_sem]) rfl ⟨by rw [refFirst_none HF.out], rfl⟩
  | true =>
    rw [hr] at hR
    by_cases hk1 : 1 ≤ k
    · go_enter Tryz.func31, Tryz.ntmps31
      go_wp2_with fail
      refine hR.mono ?_
      rintro e w' ⟨rfl, he⟩
      obtain rfl := he.symm
      clear hR
      have HR := Lib.hid hr
      clear hr
      go_wp2
      go_loop [6] (fun i => ∃ j : Nat, j ≤ l.length ∧ i = .int .i64 j ∧ Hid (∀ m, m < j → (freeL l m : Int) < k)) (fun i => l.length - (intOf i).toNat)
      case atStart => exact ⟨0, Nat.zero_le _, rfl, Lib.hid (fun j hj => by omega)⟩
      case round =>
        obtain ⟨j, hj, rfl, hh⟩ := hrel
        by_cases hlt : j < l.length
        · have hF := ref09free_any j hj h1
          by_cases hge : k ≤ (freeL l j : Int)
          · have HF := Lib.hid (show ∃ h, firstL l k = some h ∧ h.1 = j from by
              cases hfl : firstL l k with
              | none => have := firstL_none_free HR.out hk1 hfl j; omega
              | some h =>
                obtain ⟨q1, q2, q3⟩ := firstL_free hfl
                refine ⟨h, rfl, ?_⟩
                rcases Nat.lt_trichotomy h.1 j with h' | h' | h'
                · have := hh.out h.1 h'; omega
                · exact h'
                · have := q3 j h'; omega)
            generalize freeL l j = fr at *
            clear hh h1
            go_wp2_with fail
            refine hF.mono ?_
            rintro e w' ⟨rfl, he⟩
            obtain rfl := he.symm
            clear hF
            go_wp2
            obtain ⟨h, q1, q2⟩ := HF.out
            exact bodyPost_ret (v := .tuple #[.int .i64 (j : Nat), .bool true]) (by simp [results, Tryz.results31, go_sem]) rfl ⟨by rw [refFirst_some q1, q2], rfl⟩
          · have HN := Lib.hid (show ∀ m, m < j + 1 → (freeL l m : Int) < k from fun m hm => by
              by_cases e : m = j
              · subst e; omega
              · exact hh.out m (by omega))
            generalize freeL l j = fr at *
            clear hh h1
            go_wp2_with fail
            refine hF.mono ?_
            rintro e w' ⟨rfl, he⟩
            obtain rfl := he.symm
            clear hF
            go_wp2
            go_round
            case measure => simp [intOf]; omega
            case rel => exact ⟨j + 1, by omega, by go_num, HN⟩
        · have HF := Lib.hid (show firstL l k = none from by
            cases hfl : firstL l k with
            | none => rfl
            | some h =>
              obtain ⟨q1, q2, q3⟩ := firstL_free hfl
              have := hh.out h.1 (by omega)
              omega)
          clear hh h1
          go_wp2
          exact bodyPost_ret (v := .tuple #[.int .i64 0, .bool false]) (by simp [results, Tryz.results31, go_sem]) rfl ⟨by rw [refFirst_none HF.out], rfl⟩
    · have HF := Lib.hid (show firstL l k = none by unfold firstL; rw [decide_eq_false hk1]; simp)
      have hk2 : k < 1 := by omega
      clear hr h1 hk1
      go_enter Tryz.func31, Tryz.ntmps31
      go_wp2_with fail
      refine hR.mono ?_
      rintro e w' ⟨rfl, rfl⟩
      clear hR
      go_wp2
      exact bodyPost_ret (v := .tuple #[.int .i64 0, .bool false]) (by simp [results, Tryz.results31, go_sem]) rfl ⟨by rw [refFirst_none HF.out], rfl⟩
end Go.Proofs.YtihmgiifphheeaaGreatDoor

/- Contracts of selionref09.Put, Cut. -/
namespace Go.Sel
open Go Go.RowKit
theorem owns_form {w : World} {base e : Nat} {v : Value} {k : Nat} {xs : List Value} (h : w.ownsRow base e 1 v k xs) (hk : 0 < k) : ∃ g c, v = .slice (some ⟨g, 0, none⟩) k c ∧ base ≤ g ∧ g < w.heap.size := by
  have hl := h.lt
  rcases h.2 with ⟨_, h0⟩ | ⟨g, cap, cur, rfl, _⟩
  · omega
  · have := hl g rfl
    exact ⟨g, cap, rfl, this.1, this.2⟩
/-- The row behind the first i places of a large one. -/
theorem putRow_one {l : List Int} {f : Nat} (hf : f + 1 ≤ l.length) : putRow l f 1 = l.set f 3 := by
  unfold putRow
  have := turnL_step (l := l) (f := f) (m := 0) 4 (by omega)
  rw [turnL_zero, Nat.add_zero] at this
  rw [← this, List.set_set]
theorem putRow_step {l : List Int} {f i : Nat} (h1 : 1 ≤ i) (hf : f + i < l.length) : (putRow l f i).set (f + i) 4 = putRow l f (i + 1) := by
  unfold putRow
  rw [List.set_comm _ _ (show f ≠ f + i by omega), turnL_step 4 hf]
theorem mustL_one {l : List Int} {f : Int} {p : Int → Bool} : mustL l f 1 p = true ↔ 0 ≤ f ∧ ∃ x, l[f.toNat]? = some x ∧ p x = true := by
  unfold mustL
  simp only [Bool.and_eq_true, decide_eq_true_eq]
  constructor
  · rintro ⟨⟨h1, h2⟩, h3⟩
    have hlt : f.toNat < l.length := by omega
    refine ⟨h1, l[f.toNat], List.getElem?_eq_getElem hlt, ?_⟩
    rw [List.all_eq_true] at h3
    exact h3 _ (List.mem_of_getElem? (i := 0) (by rw [List.getElem?_take_of_lt (by omega), List.getElem?_drop]; simp))
  · rintro ⟨h1, x, hx, hp⟩
    have hlt := (List.getElem?_eq_some_iff.1 hx).1
    refine ⟨⟨h1, by omega⟩, ?_⟩
    rw [List.all_eq_true]
    intro y hy
    obtain ⟨i, hi⟩ := List.getElem?_of_mem hy
    have hi1 : i < 1 := by
      have := (List.getElem?_eq_some_iff.1 hi).1
      rw [List.length_take] at this; omega
    obtain rfl : i = 0 := by omega
    rw [List.getElem?_take_of_lt (by omega), List.getElem?_drop, Nat.add_zero, hx] at hi
    cases hi
    exact hp
end Go.Sel
namespace Go.Proofs.YtihmgiifphheeaaGreatDoor
open Go.RowKit Go.Sel

theorem make_zero (m : Nat) (hm : m ≤ 1048576) (W : World) :
    (Instr.makeSlice 22 (.int .i64 0) (.int .i64 (m : Int))).run Tryz.prog W = .ok (.slice (some ⟨W.heap.size, 0, none⟩) 0 m) (W.alloc (.cells (madeCells #[Value.int .i64 0] m) 3)) := by
  obtain ⟨i0, hi, hz0, hz1, hz2⟩ := info_parts infoInt
  have := run_make W 22 3 i0 (.int .i64 0) Tryz.underlying22 hi hz0 .i64 .i64 0 (m : Int) (by omega) (by omega) (by rw [hz2]; omega) (by omega)
  rw [hz1, Int.toNat_natCast, Nat.mul_one] at this
  exact this

def RefPutPost (l : List Int) (f k : Nat) (w : World) (e : Ending) (w' : World) : Prop :=
  ∃ a c, e = .returned (.tuple #[.slice a l.length c, .int .i64 0]) ∧ w'.ownsRow w.heap.size 3 1 (.slice a l.length c) l.length ((putRow l f k).map (Value.int .i64)) ∧ Below w.heap.size w w'

set_option maxRecDepth 100000 in
set_option maxHeartbeats 4000000 in
theorem ref09Put_ok {n : Nat} {v : Value} {l : List Int} {w : World} (f k : Nat) (hk : 1 ≤ k) (hf : f + k ≤ l.length) (hfree : k ≤ freeL l f) (hw : wholeL l = true) (hl32 : l.length ≤ 32) (h1 : IsInts n w v l) (hn : n ≤ w.heap.size) :
    Calls Tryz.prog 34 #[v, .int .i64 f, .int .i64 k] w (RefPutPost l f k w) := by
  have hW := ref09Whole_any h1
  rw [hw] at hW
  have hF := ref09free_any f (by omega) h1
  obtain ⟨a1, c1, rfl, hc1⟩ := h1.open
  obtain ⟨i0, hi, hz0, hz1, hz2⟩ := info_parts infoInt
  have hmk := make_zero l.length (by omega)
  have p1 : (1 : Int) ≤ (k : Int) := by omega
  have p2 : (0 : Int) ≤ (f : Int) := by omega
  have p3 : (f : Int) < (l.length : Int) := by omega
  have p4 : f < l.length := by omega
  have p5 : (k : Int) ≤ (freeL l f : Int) := by omega
  have hfl := freeL_le l f
  generalize freeL l f = fr at *
  obtain ⟨w1, hw1⟩ : ∃ y, y = w.alloc (.cells (madeCells #[Value.int .i64 0] l.length) 3) := ⟨_, rfl⟩
  have hb1 : Below w.heap.size w w1 := by rw [hw1]; exact kept_alloc (Below.refl _ _) _
  have hs1 : w.heap.size < w1.heap.size := by rw [hw1]; simp
  have hown1 : w1.ownsRow w.heap.size 3 1 (.slice (some ⟨w.heap.size, 0, none⟩) 0 l.length) 0 [] := by rw [hw1]; exact World.ownsRow_made w _ l.length (Nat.le_refl _) (by unfold maxLen; omega) (by simp [size_madeCells])
  have hsrc := h1.below (hb1.mono hn)
  clear hw
  go_enter Tryz.func34, Tryz.ntmps34
  go_wp2_with fail
  refine hW.mono ?_
  rintro e w' ⟨rfl, he⟩
  obtain rfl := he.symm
  clear hW
  go_wp2_with fail
  refine hF.mono ?_
  rintro e w' ⟨rfl, he⟩
  obtain rfl := he.symm
  clear hF
  rw [hw1] at hown1 hsrc
  go_wp2_with (at_builtin; refine wpList_append_ints rfl _ _ 22 rfl w.heap.size 3 i0 (.int .i64 0) 8 Tryz.underlying22 hi hz0 hz1 hz2 rfl _ 0 [] rfl hown1 _ l rfl hsrc (by unfold maxLen; omega) (by omega) (by simp) ?_)
  intro v' w2 hown hgrow _
  rw [← hw1] at hgrow hown1
  have hb2 : Below w.heap.size w w2 := hb1.grown hgrow (by omega) (fun j hj => (hown1.lt j hj).1)
  obtain ⟨g, c, rfl, hg1, hg2⟩ := owns_form hown (by omega)
  have hc0 := hown.cellAt f (by omega)
  rw [List.getElem?_eq_getElem (by rw [List.length_map]; omega)] at hc0
  have hf0 := hown.frozenAt f
  obtain ⟨s1, -⟩ := hown.stored f (.int .i64 3)
  rw [← List.map_set, ← putRow_one (by omega)] at s1
  have hb3 : Below w.heap.size w (w2.setCell ⟨g, f, none⟩ (.int .i64 3)) := hb2.setCell (p := ⟨g, f, none⟩) hg1 _
  have S1 := Lib.hid s1
  clear s1 hown hown1 hgrow hw1 hsrc hb1 hs1 hmk h1
  go_wp2_with fail
  go_loopw [9] (fun q W => ∃ i : Nat, 1 ≤ i ∧ i ≤ k ∧ q = .int .i64 i ∧ W.ownsRow w.heap.size 3 1 (.slice (some ⟨g, 0, none⟩) l.length c) l.length ((putRow l f i).map (Value.int .i64)) ∧ Below w.heap.size w W) (fun q _ => k - (intOf q).toNat)
  case atStart => exact ⟨1, Nat.le_refl _, hk, rfl, S1.out, hb3⟩
  case round =>
    obtain ⟨i, hi1, hi2, rfl, hown, hb⟩ := hrel
    by_cases hlt : i < k
    · have hlt' : (i : Int) < (k : Int) := by omega
      have hc1' := hown.cellAt (f + i) (by omega)
      rw [List.getElem?_eq_getElem (by rw [List.length_map, putRow_len (by omega)]; omega)] at hc1'
      have hf1 := hown.frozenAt (f + i)
      obtain ⟨s2, -⟩ := hown.stored (f + i) (.int .i64 4)
      rw [← List.map_set, putRow_step hi1 (by omega)] at s2
      have hb4 : Below w.heap.size w (wr.setCell ⟨g, f + i, none⟩ (.int .i64 4)) := hb.setCell (p := ⟨g, f + i, none⟩) hg1 _
      have S2 := Lib.hid s2
      have q0 : (0 : Int) ≤ (f : Int) + (i : Int) := by omega
      have q1 : (f : Int) + (i : Int) < (l.length : Int) := by omega
      have q2 : ((f : Int) + (i : Int)).toNat = f + i := by omega
      clear s2 hown
      go_wp2
      go_roundw
      case rel => exact ⟨i + 1, by omega, by omega, by go_num, S2.out, hb4⟩
      case measure => simp [intOf]; omega
    · have hlt' : ¬ (i : Int) < (k : Int) := by omega
      obtain rfl : i = k := by omega
      have S2 := Lib.hid hown
      clear hown
      go_wp2
      exact bodyPost_ret (v := .tuple #[.slice (some ⟨g, 0, none⟩) l.length c, .int .i64 0]) (by simp [results, Tryz.results34, go_sem]) rfl ⟨_, _, rfl, S2.out, hb⟩

def RefCutPost (l : List Int) (f : Int) (w : World) (e : Ending) (w' : World) : Prop :=
  Below w.heap.size w w' ∧ ((mustL l f 1 isHeadB = false ∧ e = .returned (.tuple #[.slice none 0 0, .int .i64 0, .int .i64 91])) ∨
    (mustL l f 1 isHeadB = true ∧ ∃ a c, e = .returned (.tuple #[.slice a l.length c, .int .i64 (cutLen l f.toNat : Nat), .int .i64 0]) ∧ w'.ownsRow w.heap.size 3 1 (.slice a l.length c) l.length ((turnL l f.toNat (cutLen l f.toNat) 0).map (Value.int .i64))))

set_option maxRecDepth 100000 in
set_option maxHeartbeats 4000000 in
theorem ref09Cut_any {n : Nat} {v : Value} {l : List Int} {w : World} (f : Int) (hfI : I64 f) (hw : wholeL l = true) (hl32 : l.length ≤ 32) (h1 : IsInts n w v l) (hn : n ≤ w.heap.size) :
    Calls Tryz.prog 38 #[v, .int .i64 f] w (RefCutPost l f w) := by
  have hW := ref09Whole_any h1
  rw [hw] at hW
  unfold I64 at hfI
  obtain ⟨a1, c1, rfl, hc1⟩ := h1.open
  clear hw
  by_cases hin : 0 ≤ f ∧ f < (l.length : Int)
  rotate_left
  · have HF := Lib.hid (show mustL l f 1 isHeadB = false by
      cases hm : mustL l f 1 isHeadB with
      | false => rfl
      | true =>
        obtain ⟨q1, x, q2, _⟩ := mustL_one.1 hm
        have := (List.getElem?_eq_some_iff.1 q2).1
        exact absurd ⟨q1, by omega⟩ hin)
    by_cases h0 : f < 0
    · clear hin h1
      go_enter Tryz.func38, Tryz.ntmps38
      go_wp2_with fail
      refine hW.mono ?_
      rintro e w' ⟨rfl, he⟩
      obtain rfl := he.symm
      clear hW
      go_wp2
      exact bodyPost_ret (v := .tuple #[.slice none 0 0, .int .i64 0, .int .i64 91]) (by simp [results, Tryz.results38, go_sem]) rfl ⟨Below.refl _ _, .inl ⟨HF.out, rfl⟩⟩
    · have h2 : (l.length : Int) ≤ f := by omega
      clear hin h1
      go_enter Tryz.func38, Tryz.ntmps38
      go_wp2_with fail
      refine hW.mono ?_
      rintro e w' ⟨rfl, he⟩
      obtain rfl := he.symm
      clear hW
      go_wp2
      exact bodyPost_ret (v := .tuple #[.slice none 0 0, .int .i64 0, .int .i64 91]) (by simp [results, Tryz.results38, go_sem]) rfl ⟨Below.refl _ _, .inl ⟨HF.out, rfl⟩⟩
  · obtain ⟨hf0, hfl⟩ := hin
    obtain ⟨f, rfl⟩ := Int.eq_ofNat_of_zero_le hf0
    have hlt : f < l.length := by omega
    obtain ⟨x, b1, o1, hx, rfl, hbn, g1, _⟩ := h1.at hlt
    by_cases hx3 : x = 3
    rotate_left
    · have HF := Lib.hid (show mustL l (f : Int) 1 isHeadB = false by
        cases hm : mustL l (f : Int) 1 isHeadB with
        | false => rfl
        | true =>
          obtain ⟨q1, y, q2, q3⟩ := mustL_one.1 hm
          rw [Int.toNat_natCast, hx] at q2
          cases q2
          exact absurd (by simpa [isHeadB] using q3) hx3)
      have q : (x != 3) = true := by simpa using hx3
      clear hx h1
      go_enter Tryz.func38, Tryz.ntmps38
      go_wp2_with fail
      refine hW.mono ?_
      rintro e w' ⟨rfl, he⟩
      obtain rfl := he.symm
      clear hW
      go_wp2
      exact bodyPost_ret (v := .tuple #[.slice none 0 0, .int .i64 0, .int .i64 91]) (by simp [results, Tryz.results38, go_sem]) rfl ⟨Below.refl _ _, .inl ⟨HF.out, rfl⟩⟩
    · subst hx3
      have HM := Lib.hid (mustL_one.2 ⟨hf0, 3, by rw [Int.toNat_natCast]; exact hx, rfl⟩ : mustL l (f : Int) 1 isHeadB = true)
      obtain ⟨i0, hi, hz0, hz1, hz2⟩ := info_parts infoInt
      have hmk := make_zero l.length (by omega)
      obtain ⟨w1, hw1⟩ : ∃ y, y = w.alloc (.cells (madeCells #[Value.int .i64 0] l.length) 3) := ⟨_, rfl⟩
      have hb1 : Below w.heap.size w w1 := by rw [hw1]; exact kept_alloc (Below.refl _ _) _
      have hs1 : w.heap.size < w1.heap.size := by rw [hw1]; simp
      have hown1 : w1.ownsRow w.heap.size 3 1 (.slice (some ⟨w.heap.size, 0, none⟩) 0 l.length) 0 [] := by rw [hw1]; exact World.ownsRow_made w _ l.length (Nat.le_refl _) (by unfold maxLen; omega) (by simp [size_madeCells])
      have hsrc := h1.below (hb1.mono hn)
      have HH := Lib.hid h1
      clear hx h1
      go_enter Tryz.func38, Tryz.ntmps38
      go_wp2_with fail
      refine hW.mono ?_
      rintro e w' ⟨rfl, he⟩
      obtain rfl := he.symm
      clear hW
      rw [hw1] at hown1 hsrc
      go_wp2_with (at_builtin; refine wpList_append_ints rfl _ _ 22 rfl w.heap.size 3 i0 (.int .i64 0) 8 Tryz.underlying22 hi hz0 hz1 hz2 rfl _ 0 [] rfl hown1 _ l rfl hsrc (by unfold maxLen; omega) (by omega) (by simp) ?_)
      intro v' w2 hown hgrow _
      rw [← hw1] at hgrow hown1
      have hb2 : Below w.heap.size w w2 := hb1.grown hgrow (by omega) (fun j hj => (hown1.lt j hj).1)
      obtain ⟨g, c, rfl, hg1, hg2⟩ := owns_form hown (by omega)
      have hc0 := hown.cellAt f (by omega)
      rw [List.getElem?_eq_getElem (by rw [List.length_map]; omega)] at hc0
      have hf0' := hown.frozenAt f
      obtain ⟨s1, -⟩ := hown.stored f (.int .i64 0)
      have hone : l.set f 0 = turnL l f 1 0 := by have := turnL_step (l := l) (f := f) (m := 0) 0 (by omega); rwa [turnL_zero, Nat.add_zero] at this
      rw [← List.map_set, hone] at s1
      have hb3 : Below w.heap.size w (w2.setCell ⟨g, f, none⟩ (.int .i64 0)) := hb2.setCell (p := ⟨g, f, none⟩) hg1 _
      have S1 := Lib.hid s1
      clear s1 hown hown1 hgrow hw1 hsrc hb1 hs1 hmk hone g1
      go_wp2_with fail
      go_loopw [8] (fun q W => ∃ i : Nat, 1 ≤ i ∧ f + i ≤ l.length ∧ q = .int .i64 i ∧ Hid (TailsTo l f i) ∧ W.ownsRow w.heap.size 3 1 (.slice (some ⟨g, 0, none⟩) l.length c) l.length ((turnL l f i 0).map (Value.int .i64)) ∧ Below w.heap.size w W) (fun q _ => l.length - (intOf q).toNat)
      case atStart => exact ⟨1, Nat.le_refl _, by omega, rfl, Lib.hid (fun j x h1 h2 => by omega), S1.out, hb3⟩
      case round =>
        obtain ⟨i, hi1, hi2, rfl, hT, hown, hb⟩ := hrel
        by_cases hlt2 : f + i < l.length
        · obtain ⟨y, b2, o2, hy, he, _, g2, _⟩ := (HH.out.below (hb.mono hn)).at hlt2
          cases he
          have q0 : (0 : Int) ≤ (f : Int) + (i : Int) := by omega
          have q1 : (f : Int) + (i : Int) < (l.length : Int) := by omega
          have q2 : ((f : Int) + (i : Int)).toNat = f + i := by omega
          by_cases hy4 : y = 4
          · subst hy4
            have hc1' := hown.cellAt (f + i) (by omega)
            rw [List.getElem?_eq_getElem (by rw [List.length_map, length_turnL 0 (by omega)]; omega)] at hc1'
            have hf1 := hown.frozenAt (f + i)
            obtain ⟨s2, -⟩ := hown.stored (f + i) (.int .i64 0)
            rw [← List.map_set, turnL_step 0 (by omega)] at s2
            have hb4 : Below w.heap.size w (wr.setCell ⟨g, f + i, none⟩ (.int .i64 0)) := hb.setCell (p := ⟨g, f + i, none⟩) hg1 _
            have S2 := Lib.hid s2
            have HT := Lib.hid (hT.out.step (.inr hy))
            clear s2 hown hy hT
            go_wp2
            go_roundw
            case rel => exact ⟨i + 1, by omega, by omega, by go_num, HT, S2.out, hb4⟩
            case measure => simp [intOf]; omega
          · have q : (y == 4) = false := by simpa using hy4
            have HC := Lib.hid (hT.out.len hi1 (by omega) (fun x hx => by rw [hy] at hx; cases hx; exact hy4))
            have S2 := Lib.hid hown
            clear hown hy hy4 hT
            go_wp2
            refine bodyPost_ret (v := .tuple #[.slice (some ⟨g, 0, none⟩) l.length c, .int .i64 (i : Nat), .int .i64 0]) (by simp [results, Tryz.results38, go_sem]) rfl ⟨hb, .inr ⟨HM.out, some ⟨g, 0, none⟩, c, ?_, ?_⟩⟩
            · rw [Int.toNat_natCast, HC.out]
            · rw [Int.toNat_natCast, HC.out]; exact S2.out
        · have q1 : ¬ (f : Int) + (i : Int) < (l.length : Int) := by omega
          have HC := Lib.hid (hT.out.len hi1 (by omega) (fun x hx => by have := (List.getElem?_eq_some_iff.1 hx).1; omega))
          have S2 := Lib.hid hown
          clear hown hT
          go_wp2
          refine bodyPost_ret (v := .tuple #[.slice (some ⟨g, 0, none⟩) l.length c, .int .i64 (i : Nat), .int .i64 0]) (by simp [results, Tryz.results38, go_sem]) rfl ⟨hb, .inr ⟨HM.out, some ⟨g, 0, none⟩, c, ?_, ?_⟩⟩
          · rw [Int.toNat_natCast, HC.out]
          · rw [Int.toNat_natCast, HC.out]; exact S2.out
end Go.Proofs.YtihmgiifphheeaaGreatDoor
