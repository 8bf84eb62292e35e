/- Contract of pool.own: a pool of its own. -/
import Derived.Test.YtihmgiifphheeaaGreatDoorPool2
import Derived.Test.YtihmgiifphheeaaGreatDoorDraw
namespace Go.Sel
open Go Go.RowKit
variable {P : Program}
theorem wp_append_new (w : World) {o : Oper} {a : Act} {K : Act → World → Prop} {Q : Exit → Act → World → Prop}
    (s x : Operand) (t : TypeId) (hop : o.op = Op.call { callee := Callee.builtin Builtin.append, args := #[s, x], argTypes := #[t, t] })
    (base : Nat) (e : TypeId) (i : TypeInfo) (z : Value) (size bytes : Nat) (h1 : P.underlying t = some (.slice e)) (h2 : P.info? e = some i) (h3 : i.zero = some z) (h4 : i.size = size) (h5 : i.bytes = bytes) (h6 : z.cells.size = size) (h7 : 0 < size)
    (v : Value) (k : Nat) (xs : List Value) (hs : a.eval s = v) (hown : w.ownsRow base e size v k xs) (ad : Addr) (m c : Nat) (news : List Value) (hx : a.eval x = .slice (some ad) m c) (hn : news.length = m * size)
    (hc : ∀ j u, news[j]? = some u → w.cell? (ad.add j) = some u) (h1c : ∀ u ∈ news, u.oneCell' = true) (b1 : k + m ≤ maxLen) (b2 : (k + m) * bytes ≤ 140737488355328) (b3 : base ≤ w.heap.size)
    (hK : ∀ v' w', w'.ownsRow base e size v' (k + m) (xs ++ news) → w.grownBy w' v.ownBlock → Fresh w v v' → K (a.put o.dst v') w') :
    Oper.wp P o a w K Q := by
  obtain ⟨v', w', hrun, r1, r2, _⟩ := run_append_own (P := P) w base t o.type e i z size bytes h1 h2 h3 h4 h5 h6 h7 v k xs hown ad m c news hn hc h1c b1 b2 b3
  have hf := run_append_where w base t o.type e i z size bytes h1 h2 h3 h4 h5 v k xs hown ad m c news hn hc h1c b1 b2 v' w' hrun
  unfold Oper.wp
  simp [execOp, hop, resolve, invoke, builtin, hs, hx, hrun, Result.andThen]
  exact hK v' w' r1 r2 hf
end Go.Sel
namespace Go.Proofs.YtihmgiifphheeaaGreatDoor
open Go.RowKit Go.Sel

theorem infoInts : (Tryz.prog.info? 22).map (fun i => (i.zero, i.size, i.bytes)) = some (some (.slice none 0 0), 1, 24) := by kernel_rfl

theorem owns_base {w : World} {base base' : Nat} {e : TypeId} {size : Nat} {v : Value} {k : Nat} {xs : List Value} (h : w.ownsRow base e size v k xs) (hb : base' ≤ base) : w.ownsRow base' e size v k xs := by
  obtain ⟨h1, h2⟩ := h
  refine ⟨h1, ?_⟩
  rcases h2 with h2 | ⟨g, cap, cur, rfl, hg, r⟩
  · exact .inl h2
  · exact .inr ⟨g, cap, cur, rfl, Nat.le_trans hb hg, r⟩

/-- The same with all named. -/
def OwnAt (B g : Nat) (w : World) (vs : Value) (s : List Int) (t : List (List Int)) (vt : Value) (tvs : List Value) : Prop :=
  w.heap[g]? = some (.cells #[vs, vt] 53 (0, 0)) ∧ B ≤ g ∧ w.ownsRow B 3 1 vs s.length (s.map (Value.int .i64)) ∧ (∀ k, vs.ownBlock = some k → k < g) ∧
    w.ownsRow (g + 1) 22 1 vt t.length tvs ∧ ∀ (i : Nat) (tv : Value) (x : List Int), tvs[i]? = some tv → t[i]? = some x → w.ownsRow (g + 1) 3 1 tv x.length (x.map (Value.int .i64)) ∧ ∀ k, tv.ownBlock = some k → vt.ownBlock ≠ some k
/-- The same with the states' slice named. -/
def OwnI2 (B g : Nat) (w : World) (vs : Value) (s : List Int) (t : List (List Int)) : Prop := ∃ vt tvs, OwnAt B g w vs s t vt tvs

/-- A table more. -/
theorem OwnAt.push {B g : Nat} {wr W1 w'' : World} {vs vt tv' v' : Value} {tvs : List Value} {s : List Int} {t : List (List Int)} {x : List Int}
    (q1 : wr.heap[g]? = some (.cells #[vs, vt] 53 (0, 0))) (q2 : B ≤ g) (q3 : wr.ownsRow B 3 1 vs s.length (s.map (Value.int .i64))) (q4 : ∀ k, vs.ownBlock = some k → k < g)
    (q5 : wr.ownsRow (g + 1) 22 1 vt t.length tvs) (q6 : ∀ (i : Nat) (tv : Value) (x : List Int), tvs[i]? = some tv → t[i]? = some x → wr.ownsRow (g + 1) 3 1 tv x.length (x.map (Value.int .i64)) ∧ ∀ k, tv.ownBlock = some k → vt.ownBlock ≠ some k)
    (hb : Below wr.heap.size wr W1) (hT : W1.ownsRow wr.heap.size 3 1 tv' x.length (x.map (Value.int .i64)))
    (hown' : w''.ownsRow (g + 1) 22 1 v' (t.length + 1) (tvs ++ [tv'])) (hgrow : (W1.alloc (.cells #[tv'] 22)).grownBy w'' vt.ownBlock) (hf : Fresh (W1.alloc (.cells #[tv'] 22)) vt v') :
    w''.heap[g]? = some (.cells #[vs, vt] 53 (0, 0)) ∧ OwnAt B g (w''.setCell ⟨g, 1, none⟩ v') vs s (t ++ [x]) v' (tvs ++ [tv']) ∧ Only (fun b => vt.ownBlock = some b ∨ b = g) wr (w''.setCell ⟨g, 1, none⟩ v') := by
  have hgl : g < wr.heap.size := (Array.getElem?_eq_some_iff.1 q1).1
  have hvt : ∀ k, vt.ownBlock = some k → g < k ∧ k < wr.heap.size := fun k hk => by have := q5.lt k hk; omega
  have hO : Only (fun b => vt.ownBlock = some b) wr w'' := (((Only.refl _ wr).kept hb).alloc _).grown hgrow (fun k hk => .inl hk)
  have hO2 : Only (fun b => vt.ownBlock = some b ∨ b = g) wr (w''.setCell ⟨g, 1, none⟩ v') := Only.setCell (S := fun b => vt.ownBlock = some b ∨ b = g) (hO.mono (fun _ _ h => Or.inl h)) (p := ⟨g, 1, none⟩) (Or.inl (Or.inr rfl)) v'
  have hg'' : w''.heap[g]? = some (.cells #[vs, vt] 53 (0, 0)) := (hO.block g hgl (fun h => by have := hvt g h; omega)).trans q1
  have hO1 : Only (fun b => vt.ownBlock = some b ∨ b = g) W1 (w''.setCell ⟨g, 1, none⟩ v') := ((((Only.refl (fun b => vt.ownBlock = some b ∨ b = g) W1).alloc _).grown hgrow (fun k hk => .inl (.inl hk))).setCell (.inl (.inr rfl)) _)
  have hsz := hb.size
  refine ⟨hg'', ⟨?_, q2, ?_, q4, ?_, ?_⟩, hO2⟩
  · have := heap_setCell_same w'' g 1 _ _ v' hg''
    simpa using this
  · refine owns_only q3 hO2 (fun k hk e => ?_)
    have h1 := q4 k e
    rcases hk with hk | hk
    · have := hvt k hk; omega
    · omega
  · rw [List.length_append]
    refine owns_only hown' ((Only.refl (fun b => b = g) w'').setCell (.inl rfl) _) (fun k hk e => ?_)
    subst hk
    have := (hown'.lt _ e).1
    omega
  · have key : ∀ k, k < W1.heap.size → vt.ownBlock ≠ some k → v'.ownBlock ≠ some k := fun k hk hne e => by
      rcases hf with hf | ⟨g', h1, h2⟩
      · rw [hf] at e; exact hne e
      · rw [h1] at e; cases e; simp at h2; omega
    intro i tv y hi hy
    by_cases hlt : i < t.length
    · have hl2 : tvs.length = t.length := by have := q5.1; simpa using this
      rw [List.getElem?_append_left (by omega)] at hi
      rw [List.getElem?_append_left hlt] at hy
      obtain ⟨r1, r2⟩ := q6 i tv y hi hy
      refine ⟨owns_only r1 hO2 (fun k hk e => ?_), fun k hk => key k ?_ (r2 k hk)⟩
      · rcases hk with hk | hk
        · exact r2 k e hk
        · have := (r1.lt k e).1; omega
      · have := (r1.lt k hk).2; omega
    · have hl2 : tvs.length = t.length := by have := q5.1; simpa using this
      have hi' : i = t.length := by
        have := (List.getElem?_eq_some_iff.1 hy).1
        simp at this; omega
      subst hi'
      rw [← hl2, List.getElem?_concat_length] at hi
      rw [List.getElem?_concat_length] at hy
      cases hi
      cases hy
      refine ⟨owns_base (owns_only hT hO1 (fun k hk e => ?_)) (by omega), fun k hk => key k (hT.lt k hk).2 (fun e => ?_)⟩
      · have h1 := (hT.lt k e).1
        rcases hk with hk | hk
        · have := hvt k hk; omega
        · omega
      · have h1 := (hT.lt k hk).1
        have := hvt k e
        omega

/-- A keeper in block g, with a pool of its own: the states' row before g, the tables' behind it; all from block B on. -/
def OwnPool (B : Nat) (w : World) (g : Nat) (s : List Int) (t : List (List Int)) : Prop :=
  ∃ vs vt tvs, w.heap[g]? = some (.cells #[vs, vt] 53 (0, 0)) ∧ B ≤ g ∧ w.ownsRow B 3 1 vs s.length (s.map (Value.int .i64)) ∧ (∀ k, vs.ownBlock = some k → k < g) ∧
    w.ownsRow (g + 1) 22 1 vt t.length tvs ∧ ∀ (i : Nat) (tv : Value) (x : List Int), tvs[i]? = some tv → t[i]? = some x → w.ownsRow (g + 1) 3 1 tv x.length (x.map (Value.int .i64)) ∧ ∀ k, tv.ownBlock = some k → vt.ownBlock ≠ some k

def OwnPost (s : List Int) (t : List (List Int)) (w : World) (e : Ending) (w' : World) : Prop := ∃ g, e = .returned (.pointer (some ⟨g, 0, none⟩)) ∧ OwnPool w.heap.size w' g s t ∧ Below w.heap.size w w'

set_option maxRecDepth 100000 in
set_option maxHeartbeats 2000000 in
theorem own_any {n : Nat} {v : Value} {s : List Int} {t : List (List Int)} {w : World} (h : IsPool n w v s t) (hn : n ≤ w.heap.size) :
    Calls Tryz.prog 27 #[v] w (OwnPost s t w) := by
  obtain ⟨v1, v2, rfl, hs, ht⟩ := h
  obtain ⟨a2, c2, rfl, hc2⟩ := ht.open
  have hl2 := ht.len
  unfold big at hl2
  obtain ⟨w1, hw1⟩ : ∃ w1, w1 = w.alloc (.cells #[v1, .slice a2 t.length c2] 25) := ⟨_, rfl⟩
  have hb1 : Below w.heap.size w w1 := by rw [hw1]; exact (Below.refl _ w).alloc (Nat.le_refl _) _
  have hs1 : w1.heap.size = w.heap.size + 1 := by rw [hw1]; simp
  have hx1 : w1.heap[w.heap.size]? = some (.cells #[v1, .slice a2 t.length c2] 25 (0, 0)) := by rw [hw1]; exact World.alloc_heap_new _ _
  have hC := clone_any (hs.below (hb1.mono hn))
  obtain ⟨y1, y2⟩ := pair_cells hx1
  go_enter Tryz.func27, Tryz.ntmps27
  go_wp2_with fail
  rw [← hw1]
  refine hC.mono ?_
  rintro e w2 ⟨vs, rfl, hown, hb2⟩
  rw [hs1] at hown
  clear hC hw1
  obtain ⟨sa, sc, rfl, hcs⟩ := owns_open hown
  replace hx1 := (hb2.block _ (by omega)).trans hx1
  obtain ⟨y1, y2⟩ := pair_cells hx1
  have hs2 := hb2.size
  obtain ⟨w3, hw3⟩ : ∃ w3, w3 = w2.alloc (.cells #[.slice sa s.length sc, .slice none 0 0] 53) := ⟨_, rfl⟩
  have hb3 : Below w2.heap.size w2 w3 := by rw [hw3]; exact (Below.refl _ _).alloc (Nat.le_refl _) _
  have hs3 : w3.heap.size = w2.heap.size + 1 := by rw [hw3]; simp
  have hx3 : w3.heap[w2.heap.size]? = some (.cells #[.slice sa s.length sc, .slice none 0 0] 53 (0, 0)) := by rw [hw3]; exact World.alloc_heap_new _ _
  have hb03 : Below w.heap.size w w3 := hb1.trans ((hb2.trans (hb3.mono hb2.size)).mono (by omega))
  have H0 : Hid (OwnI2 w.heap.size w2.heap.size w3 (.slice sa s.length sc) s [] ∧ Below w.heap.size w w3 ∧ w3.heap[w.heap.size]? = some (.cells #[v1, .slice a2 t.length c2] 25 (0, 0))) :=
    ⟨⟨.slice none 0 0, [], hx3, by omega, owns_kept (owns_base hown (by omega)) hb3, fun k hk => (hown.lt k hk).2, World.ownsRow_nil _ _ _ _, fun i tv x h => by simp at h⟩, hb03, (hb3.block _ (by omega)).trans hx1⟩
  obtain ⟨z1, z2⟩ := pair_cells ((hb3.block _ (by omega)).trans hx1)
  rw [hw3] at z2
  go_wp2
  rw [← hw3]
  clear hx1 hx3 y1 y2 z1 z2 hown
  go_loopw [15] (fun i W => ∃ k : Nat, k ≤ t.length ∧ i = .int .i64 k ∧ Hid (OwnI2 w.heap.size w2.heap.size W (.slice sa s.length sc) s (t.take k) ∧ Below w.heap.size w W ∧ W.heap[w.heap.size]? = some (.cells #[v1, .slice a2 t.length c2] 25 (0, 0)))) (fun i _ => t.length - (intOf i).toNat)
  case atStart => exact ⟨0, Nat.zero_le _, rfl, H0⟩
  case round =>
    obtain ⟨k, hk, rfl, hh⟩ := hrel
    clear H0
    obtain ⟨⟨vt, tvs, q1, q2, q3, q4, q5, q6⟩, q7, q8⟩ := hh.out
    by_cases hlt : k < t.length
    · obtain ⟨x, b2, o2, tv, hx, rfl, _, gt, htv⟩ := (ht.below (q7.mono hn)).at hlt
      have hC := clone_any (htv.below ((Below.refl n wr).drew))
      have hC0 : wr.drew.heap[w2.heap.size]? = some (.cells #[.slice sa s.length sc, vt] 53 (0, 0)) := q1
      go_wp2
      refine wp_region_class (fun W => W.heap[w2.heap.size]? = some (.cells #[.slice sa s.length sc, vt] 53 (0, 0))) 13 (by kernel_rfl) ?_
      refine wpAnyC_take 0 (.pointer (some ⟨w2.heap.size, 0, none⟩)) rfl (by kernel_rfl) rfl (fun _ _ _ h => h) hC0 (fun W hW => by obtain ⟨u1, u2⟩ := pair_cells hW; go_simp) ?_
      go_simp
      refine wpAnyC_take 1 (.pointer (some ⟨w2.heap.size, 0, none⟩)) rfl (by kernel_rfl) rfl (fun _ _ _ h => h) hC0 (fun W hW => by obtain ⟨u1, u2⟩ := pair_cells hW; go_simp) ?_
      go_simp
      refine wpAnyC_take 2 (.pointer (some ⟨w2.heap.size, 0, none⟩)) rfl (by kernel_rfl) rfl (fun _ _ _ h => h) hC0 (fun W hW => by obtain ⟨u1, u2⟩ := pair_cells hW; go_simp) ?_
      go_simp
      refine wpAnyC_take 3 (.pointer (some ⟨w2.heap.size, 0, none⟩)) rfl (by kernel_rfl) rfl (fun _ _ _ h => h) hC0 (fun W hW => by obtain ⟨u1, u2⟩ := pair_cells hW; go_simp) ?_
      go_simp
      refine wpAnyC_take 4 (.pointer (some ⟨w2.heap.size, 1, none⟩)) rfl (by kernel_rfl) rfl (fun _ _ _ h => h) hC0 (fun W hW => by obtain ⟨u1, u2⟩ := pair_cells hW; go_simp) ?_
      go_simp
      refine wpAnyC_take 5 vt rfl (by kernel_rfl) rfl (fun _ _ _ h => h) hC0 (fun W hW => by obtain ⟨u1, u2⟩ := pair_cells hW; go_simp) ?_
      go_simp
      refine wpAnyC_take 6 tv rfl (by kernel_rfl) rfl (fun _ _ _ h => h) hC0 (fun W hW => by obtain ⟨u1, u2⟩ := pair_cells hW; go_simp) ?_
      go_simp
      refine wpAnyC_act 7 rfl (by kernel_rfl) rfl ?_
      go_simp
      refine hC.mono ?_
      rintro e W1 ⟨tv', rfl, hownT, hbT⟩
      obtain ⟨ta, tc, rfl, htc⟩ := owns_open hownT
      have hbT' : Below wr.heap.size wr W1 := (Below.refl _ wr).drew.trans hbT
      have hgl : w2.heap.size < wr.heap.size := (Array.getElem?_eq_some_iff.1 q1).1
      have hsT := hbT'.size
      have htk : (t.take k).length = k := by rw [List.length_take]; omega
      have hC1 : W1.heap[w2.heap.size]? = some (.cells #[.slice sa s.length sc, vt] 53 (0, 0)) := (hbT'.block _ hgl).trans q1
      have q5' : (W1.alloc (.cells #[.slice ta x.length tc] 22)).ownsRow (w2.heap.size + 1) 22 1 vt k tvs := by rw [← htk]; exact (owns_kept q5 hbT').alloc _
      obtain ⟨i0, hi, hz0, hz1, hz2⟩ := info_parts infoInts
      refine ⟨hC1, ?_⟩
      refine wpAnyC_act 8 rfl (by kernel_rfl) rfl ?_
      go_simp
      refine ⟨(Below.heap_alloc W1 _ _ (by omega)).trans hC1, ?_⟩
      refine wpAnyC_act 9 rfl (by kernel_rfl) rfl ?_
      refine wp_append_new _ (.tmp 24) (.tmp 27) 23 rfl (w2.heap.size + 1) 22 i0 (.slice none 0 0) 1 24 Tryz.underlying23 hi hz0 hz1 hz2 rfl (by decide) vt k tvs rfl q5' ⟨W1.heap.size, 0, none⟩ 1 1 [.slice ta x.length tc] rfl rfl (cell_one_new _ _ _) (by simp [Value.oneCell']) (by unfold maxLen; omega) (by omega) (by simp; omega) ?_
      intro v' w4 hown' hgrow hf
      rw [← htk] at hown'
      obtain ⟨hC2, hNew0, hOn⟩ := OwnAt.push q1 q2 q3 q4 q5 q6 hbT' hownT hown' hgrow hf
      have hNew : OwnI2 w.heap.size w2.heap.size _ _ _ _ := ⟨_, _, hNew0⟩
      clear hNew0
      rw [htk] at hown'
      obtain ⟨g4, c4, rfl⟩ := ownsRow_succ hown'
      refine ⟨fun _ => hC2, ?_⟩
      go_simp
      refine wpAnyC_act 10 rfl (by kernel_rfl) rfl ?_
      go_simp
      refine wpAnyC_act 11 rfl (by kernel_rfl) rfl ?_
      go_simp
      refine wpAnyC_act 12 rfl (by kernel_rfl) rfl ?_
      go_simp
      obtain ⟨u1, u2⟩ := pair_cells hC2
      have u3 := row_frozen hC2 1
      refine wpAnyC_act 13 rfl (by kernel_rfl) rfl ?_
      go_simp
      refine wpAnyC_done (by kernel_rfl) ?_
      have HN : Hid (OwnI2 w.heap.size w2.heap.size (w4.setCell ⟨w2.heap.size, 1, none⟩ (.slice (some ⟨g4, 0, none⟩) (k + 1) c4)) (.slice sa s.length sc) s (t.take (k + 1)) ∧ Below w.heap.size w (w4.setCell ⟨w2.heap.size, 1, none⟩ (.slice (some ⟨g4, 0, none⟩) (k + 1) c4)) ∧
          (w4.setCell ⟨w2.heap.size, 1, none⟩ (.slice (some ⟨g4, 0, none⟩) (k + 1) c4)).heap[w.heap.size]? = some (.cells #[v1, .slice (some ⟨b2, o2, none⟩) t.length c2] 25 (0, 0))) := by
        rw [take_snoc hx]
        refine ⟨hNew, q7.trans (hOn.below q7.size (fun j hj hS => ?_)), (hOn.block _ (Array.getElem?_eq_some_iff.1 q8).1 (fun hS => ?_)).trans q8⟩
        · rcases hS with hS | hS
          · have := (q5.lt j hS).1; omega
          · omega
        · rcases hS with hS | hS
          · have := (q5.lt _ hS).1; omega
          · omega
      clear hNew hOn q1 q2 q3 q4 q5 q6 q7 q8 hh hown' hgrow hf hC2 hC1 q5' hownT hbT hbT' htv gt ht hs hx hC hC0 u1 u2 u3
      go_wp2
      go_roundw
      case rel => exact ⟨k + 1, by omega, by go_num, HN⟩
      case measure => simp [intOf]; omega
    · have HX := Lib.hid (take_all hlt)
      clear ht hs
      go_wp2
      go_ret
      refine ⟨w2.heap.size, rfl, ?_, q7⟩
      have hf := hh.out.1
      rw [HX.out] at hf
      obtain ⟨vt9, tvs9, h9⟩ := hf
      exact ⟨_, vt9, tvs9, h9⟩

end Go.Proofs.YtihmgiifphheeaaGreatDoor
