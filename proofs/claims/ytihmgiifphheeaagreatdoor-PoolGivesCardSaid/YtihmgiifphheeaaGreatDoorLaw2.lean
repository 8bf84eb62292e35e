/- Contract of selionlaw10.Cut. -/
import Derived.Test.YtihmgiifphheeaaGreatDoorLaw1
namespace Go.Sel
open Go Go.RowKit
/-- A slice of slices of ints, by its first ones, of each the first ones. -/
def HeadTabs (n : Nat) (w : World) (v : Value) (t : List (List Int)) : Prop :=
  ∃ a l c, v = .slice a l c ∧ l ≤ c ∧ c ≤ maxLen ∧ t.length = min l 34 ∧
    ∀ (j : Nat) (x : List Int), t[j]? = some x → ∃ b o tv, a = some ⟨b, o, none⟩ ∧ b < n ∧ w.cell? ⟨b, o + j, none⟩ = some tv ∧ HeadInts n w tv x
theorem HeadTabs.below {n : Nat} {w w' : World} {v : Value} {t : List (List Int)} (h : HeadTabs n w v t) (hb : Below n w w') : HeadTabs n w' v t := by
  obtain ⟨a, l, c, rfl, h1, h2, h3, h6⟩ := h
  refine ⟨a, l, c, rfl, h1, h2, h3, fun j x hx => ?_⟩
  obtain ⟨b, o, tv, rfl, k0, k1, k2⟩ := h6 j x hx
  exact ⟨b, o, tv, rfl, k0, (hb.cell (p := ⟨b, o + j, none⟩) k0).trans k1, k2.below hb⟩
/-- What cells w holds in the blocks below n and from B on, w' holds too. -/
def AgreeOut (n B : Nat) (w w' : World) : Prop := ∀ k o, (k < n ∨ B ≤ k) → o.isCells = true → w.heap[k]? = some o → w'.heap[k]? = some o
theorem cell_out {n B : Nat} {w w' : World} {p : Addr} {u : Value} (h : w.cell? p = some u) (hp : p.block < n ∨ B ≤ p.block) (ha : AgreeOut n B w w') : w'.cell? p = some u := by
  unfold World.cell? at h ⊢
  cases ho : w.heap[p.block]? with
  | none => rw [ho] at h; cases h
  | some o =>
    cases o with
    | cells c t f => rw [ha _ _ hp rfl ho]; rw [ho] at h; exact h
    | _ => rw [ho] at h; cases h
theorem IsInts.out {n B : Nat} {w w' : World} {v : Value} {xs : List Int} (h : IsInts n w v xs) (ha : AgreeOut n B w w') : IsInts n w' v xs := by
  obtain ⟨a, c, rfl, h1, h2, h3⟩ := h
  refine ⟨a, c, rfl, h1, h2, fun j x hx => ?_⟩
  obtain ⟨b, o, rfl, h4, h5, h6⟩ := h3 j x hx
  exact ⟨b, o, rfl, h4, cell_out h5 (.inl h4) ha, h6⟩
theorem tabs_out {n B : Nat} {w w' : World} {base e : Nat} {vt : Value} {tvs : List Value} {t : List (List Int)} (h : w.ownsRow base e 1 vt t.length tvs) (hB : B ≤ base) (hl : t.length ≤ big) (hn : n ≤ w.heap.size)
    (ht : ∀ (i : Nat) (tv : Value) (x : List Int), tvs[i]? = some tv → t[i]? = some x → IsInts n w tv x) (ha : AgreeOut n B w w') : IsTabs w.heap.size w' vt t := by
  have hl2 : tvs.length = t.length := by have := h.1; simpa using this
  rcases hp : h.2 with ⟨rfl, h2⟩ | ⟨gt, cap, cur, rfl, hg, hh, h3, h4, h5, h6⟩
  · have : t = [] := List.length_eq_zero_iff.1 h2
    subst this
    exact IsSl.nil
  · refine ⟨some ⟨gt, 0, none⟩, cap, rfl, h3, hl, fun j x hx => ?_⟩
    have hj : j < tvs.length := by have := (List.getElem?_eq_some_iff.1 hx).1; omega
    have hc := h.cells (g := gt) rfl j tvs[j] (List.getElem?_eq_getElem hj)
    rw [Addr.add_lit] at hc
    refine ⟨gt, 0, rfl, (Array.getElem?_eq_some_iff.1 hh).1, tvs[j], ?_, ((ht j _ x (List.getElem?_eq_getElem hj) hx).out ha).wider hn⟩
    have := cell_out hc (.inr (Nat.le_trans hB hg)) ha
    simpa using this
end Go.Sel
namespace Go.Proofs.YtihmgiifphheeaaGreatDoor
open Go.RowKit Go.Sel

/-- What the cut of a pool keeps in its loop. -/
def CutI (w : World) (n : Nat) (v1 v2 vs : Value) (t : List (List Int)) (k : Nat) (W : World) : Prop :=
  ∃ vt tvs, W.heap[w.heap.size + 1 + 1]? = some (.cells #[vs, vt] 25 (0, 0)) ∧ W.heap[w.heap.size]? = some (.cells #[v1, v2] 25 (0, 0)) ∧ W.heap[w.heap.size + 1]? = some (.cells #[.slice none 0 0, .slice none 0 0] 25 (0, 0)) ∧
    W.ownsRow (w.heap.size + 3) 22 1 vt k tvs ∧ (∀ (i : Nat) (tv : Value) (x : List Int), tvs[i]? = some tv → t[i]? = some x → IsInts n W tv x) ∧ Below w.heap.size w W

theorem CutI.push {w W W0 W4 : World} {n k : Nat} {v1 v2 vs vt tv' v' : Value} {t : List (List Int)} {tvs : List Value} {x : List Int} {tmp : Obj} (hn : n ≤ w.heap.size)
    (q1 : W.heap[w.heap.size + 1 + 1]? = some (.cells #[vs, vt] 25 (0, 0))) (q2 : W.heap[w.heap.size]? = some (.cells #[v1, v2] 25 (0, 0))) (q3 : W.heap[w.heap.size + 1]? = some (.cells #[.slice none 0 0, .slice none 0 0] 25 (0, 0)))
    (q4 : W.ownsRow (w.heap.size + 3) 22 1 vt k tvs) (q5 : ∀ (i : Nat) (tv : Value) (x : List Int), tvs[i]? = some tv → t[i]? = some x → IsInts n W tv x) (q6 : Below w.heap.size w W)
    (hb : Below W.heap.size W W0) (hnew : IsInts n W0 tv' x) (hx : t[k]? = some x) (hown' : W4.ownsRow (w.heap.size + 3) 22 1 v' (k + 1) (tvs ++ [tv'])) (hgrow : (W0.alloc tmp).grownBy W4 vt.ownBlock) :
    W4.heap[w.heap.size + 1 + 1]? = some (.cells #[vs, vt] 25 (0, 0)) ∧ CutI w n v1 v2 vs t (k + 1) (W4.setCell ⟨w.heap.size + 1 + 1, 1, none⟩ v') := by
  have hvt : ∀ b, vt.ownBlock = some b → w.heap.size + 3 ≤ b := fun b hb => (q4.lt b hb).1
  have hl1 := (Array.getElem?_eq_some_iff.1 q1).1
  have hO : Only (fun b => vt.ownBlock = some b) W W4 := (((Only.refl _ W).kept hb).alloc _).grown hgrow (fun k hk => .inl hk)
  have hO0 : Only (fun b => vt.ownBlock = some b) W0 W4 := ((Only.refl _ W0).alloc _).grown hgrow (fun k hk => .inl hk)
  have hS : Only (fun b => b = w.heap.size + 1 + 1) W4 (W4.setCell ⟨w.heap.size + 1 + 1, 1, none⟩ v') := (Only.refl (fun b => b = w.heap.size + 1 + 1) W4).setCell (p := ⟨w.heap.size + 1 + 1, 1, none⟩) (.inl rfl) _
  have hg4 := (hO.block _ hl1 (fun h => by have := hvt _ h; omega)).trans q1
  have hs := hO.size
  have hs0 := hb.size
  refine ⟨hg4, v', tvs ++ [tv'], pair_set1 hg4, ?_, ?_, ?_, ?_, ?_⟩
  · exact (hS.block _ (by omega) (by omega)).trans ((hO.block _ (by omega) (fun h => by have := hvt _ h; omega)).trans q2)
  · exact (hS.block _ (by omega) (by omega)).trans ((hO.block _ (by omega) (fun h => by have := hvt _ h; omega)).trans q3)
  · exact owns_only hown' hS (fun k hk e => by subst hk; have := (hown'.lt _ e).1; omega)
  · have hl2 : tvs.length = k := by have := q4.1; simpa using this
    intro i tv y hi hy
    by_cases hlt : i < k
    · rw [List.getElem?_append_left (by omega)] at hi
      exact ((q5 i tv y hi hy).below (hO.below (by omega) (fun b hb h => by have := hvt _ h; omega))).below (hS.below (by omega) (fun b hb h => by omega))
    · have hi' : i = k := by
        have := (List.getElem?_eq_some_iff.1 hi).1
        simp at this; omega
      subst hi'
      rw [← hl2, List.getElem?_concat_length] at hi
      cases hi
      rw [hx] at hy
      cases hy
      exact (hnew.below (hO0.below (by omega) (fun b hb h => by have := hvt _ h; omega))).below (hS.below (by omega) (fun b hb h => by omega))
  · exact (q6.trans (hO.below q6.size (fun b hb h => by have := hvt _ h; omega))).trans (hS.below (by omega) (fun b hb h => by omega))

def CutPPost (n : Nat) (s : List Int) (t : List (List Int)) (w : World) (e : Ending) (w' : World) : Prop := ∃ v, e = .returned v ∧ (∀ w2, AgreeOut n (w.heap.size + 3) w' w2 → IsPool w'.heap.size w2 v s t) ∧ Below w.heap.size w w'

set_option maxRecDepth 100000 in
set_option maxHeartbeats 4000000 in
theorem lawCut_any {n : Nat} {v1 v2 : Value} {s : List Int} {t : List (List Int)} {w : World} (hs : HeadInts n w v1 s) (ht : HeadTabs n w v2 t) (hn : n ≤ w.heap.size) :
    Calls Tryz.prog 6 #[.agg #[v1, v2]] w (CutPPost n s t w) := by
  obtain ⟨a2, l2, c2, rfl, hlc, hcm, hlt34, hcell⟩ := ht
  have HT : HeadTabs n w (.slice a2 l2 c2) t := ⟨a2, l2, c2, rfl, hlc, hcm, hlt34, hcell⟩
  unfold maxLen at hcm
  obtain ⟨w1, hw1⟩ : ∃ y, y = (w.alloc (Obj.cells #[v1, .slice a2 l2 c2] 25)).alloc (Obj.cells #[.slice none 0 0, .slice none 0 0] 25) := ⟨_, rfl⟩
  have hb1 : Below w.heap.size w w1 := by rw [hw1]; exact kept_alloc (kept_alloc (Below.refl _ _) _) _
  have hs1 : w1.heap.size = w.heap.size + 1 + 1 := by rw [hw1]; simp
  have hx1 : w1.heap[w.heap.size]? = some (.cells #[v1, .slice a2 l2 c2] 25 (0, 0)) := by rw [hw1]; exact heap_alloc_at (World.alloc_heap_new w _) _
  have hx2 : w1.heap[w.heap.size + 1]? = some (.cells #[.slice none 0 0, .slice none 0 0] 25 (0, 0)) := by
    rw [hw1]; have := World.alloc_heap_new (w.alloc (Obj.cells #[v1, .slice a2 l2 c2] 25)) (Obj.cells #[.slice none 0 0, .slice none 0 0] 25); rwa [World.size_alloc] at this
  have hF := few_any (hs.below (hb1.mono hn))
  obtain ⟨y1, y2⟩ := pair_cells hx1
  rw [hw1] at y1 y2
  go_enter Tryz.func6, Tryz.ntmps6
  go_wp2_with fail
  rw [← hw1]
  refine hF.mono ?_
  clear hF y1 y2
  rintro e w2 ⟨⟨vs, rfl, hvs⟩, he⟩
  obtain rfl := he.symm
  obtain ⟨sa, sc, rfl, hsc⟩ := hvs.open
  obtain ⟨w3, hw3⟩ : ∃ y, y = w1.alloc (Obj.cells #[.slice sa s.length sc, .slice none 0 0] 25) := ⟨_, rfl⟩
  have hb3 : Below w1.heap.size w1 w3 := by rw [hw3]; exact kept_alloc (Below.refl _ _) _
  have hs3 : w3.heap.size = w.heap.size + 3 := by rw [hw3]; simp [hs1]
  have hx3 : w3.heap[w.heap.size + 1 + 1]? = some (.cells #[.slice sa s.length sc, .slice none 0 0] 25 (0, 0)) := by rw [hw3, ← hs1]; exact World.alloc_heap_new w1 _
  have hb03 : Below w.heap.size w w3 := hb1.trans (hb3.mono hb1.size)
  have hvs3 := hvs.below (hb3.mono (by omega))
  have H0 : Hid (CutI w n v1 (.slice a2 l2 c2) (.slice sa s.length sc) t 0 w3) :=
    ⟨.slice none 0 0, [], hx3, (hb3.block _ (by omega)).trans hx1, (hb3.block _ (by omega)).trans hx2, World.ownsRow_nil _ _ _ _, fun i tv x h => by simp at h, hb03⟩
  have HS1 := Lib.hid hs1
  have HS3 := Lib.hid hs3
  have HVS := Lib.hid hvs3
  have HL := Lib.hid hlt34
  have HB03 := Lib.hid hb03
  have HHT := Lib.hid HT
  have htl : t.length ≤ 34 := by omega
  have htl2 : t.length ≤ l2 := by omega
  clear hx1 hx2 hx3 hb1 hb3 hvs hvs3 hb03 HT hcell hlt34 hs hw1
  go_wp2_with fail
  rw [← hw3]
  clear hs1 hw3 hs3
  go_loopw [4] (fun i W => ∃ k : Nat, k ≤ t.length ∧ i = .int .i64 k ∧ Hid (CutI w n v1 (.slice a2 l2 c2) (.slice sa s.length sc) t k W)) (fun i _ => t.length - (intOf i).toNat)
  case atStart => exact ⟨0, Nat.zero_le _, rfl, H0⟩
  case round =>
    obtain ⟨k, hk, rfl, hh⟩ := hrel
    clear H0
    obtain ⟨vt, tvs, q1, q2, q3, q4, q5, q6⟩ := hh.out
    obtain ⟨y1, y2⟩ := pair_cells q2
    by_cases hlt : k < t.length
    · have hk2 : (k : Int) < (l2 : Int) := by omega
      have hk34 : (k : Int) < 34 := by omega
      obtain ⟨a', l', c', hE, _, _, _, hcell⟩ := HHT.out.below (q6.mono hn)
      cases hE
      obtain ⟨bt, ot, tv, rfl, hbt, hct, hhead⟩ := hcell k t[k] (List.getElem?_eq_getElem hlt)
      have HHX := Lib.hid hhead
      have hC0 : wr.drew.heap[w.heap.size]? = some (.cells #[v1, .slice (some ⟨bt, ot, none⟩) l2 c2] 25 (0, 0)) ∧ wr.drew.heap[w.heap.size + 1 + 1]? = some (.cells #[.slice sa s.length sc, vt] 25 (0, 0)) ∧ wr.drew.cell? ⟨bt, ot + k, none⟩ = some tv := ⟨q2, q1, hct⟩
      have hCt := cut07_any (hhead.below ((Below.refl n wr).drew))
      have hsW := q6.size
      clear hcell hhead
      go_wp2
      refine wp_region_class (fun W => W.heap[w.heap.size]? = some (.cells #[v1, .slice (some ⟨bt, ot, none⟩) l2 c2] 25 (0, 0)) ∧ W.heap[w.heap.size + 1 + 1]? = some (.cells #[.slice sa s.length sc, vt] 25 (0, 0)) ∧ W.cell? ⟨bt, ot + k, none⟩ = some tv) 11 (by kernel_rfl) ?_
      refine wpAnyC_take 0 (.pointer (some ⟨w.heap.size + 1 + 1, 1, none⟩)) rfl (by kernel_rfl) rfl (fun _ _ _ h => h) hC0 (fun W hW => by obtain ⟨u1, u2, u3⟩ := hW; obtain ⟨g1, g2⟩ := pair_cells u1; obtain ⟨g3, g4⟩ := pair_cells u2; go_simp) ?_
      go_simp
      refine wpAnyC_take 1 vt rfl (by kernel_rfl) rfl (fun _ _ _ h => h) hC0 (fun W hW => by obtain ⟨u1, u2, u3⟩ := hW; obtain ⟨g1, g2⟩ := pair_cells u1; obtain ⟨g3, g4⟩ := pair_cells u2; go_simp) ?_
      go_simp
      refine wpAnyC_take 2 (.pointer (some ⟨w.heap.size, 1, none⟩)) rfl (by kernel_rfl) rfl (fun _ _ _ h => h) hC0 (fun W hW => by obtain ⟨u1, u2, u3⟩ := hW; obtain ⟨g1, g2⟩ := pair_cells u1; obtain ⟨g3, g4⟩ := pair_cells u2; go_simp) ?_
      go_simp
      refine wpAnyC_take 3 (.slice (some ⟨bt, ot, none⟩) l2 c2) rfl (by kernel_rfl) rfl (fun _ _ _ h => h) hC0 (fun W hW => by obtain ⟨u1, u2, u3⟩ := hW; obtain ⟨g1, g2⟩ := pair_cells u1; obtain ⟨g3, g4⟩ := pair_cells u2; go_simp) ?_
      go_simp
      refine wpAnyC_take 4 (.int .i64 (k : Int)) rfl (by kernel_rfl) rfl (fun _ _ _ h => h) hC0 (fun W hW => by obtain ⟨u1, u2, u3⟩ := hW; obtain ⟨g1, g2⟩ := pair_cells u1; obtain ⟨g3, g4⟩ := pair_cells u2; go_simp) ?_
      go_simp
      refine wpAnyC_take 5 (.pointer (some ⟨bt, ot + k, none⟩)) rfl (by kernel_rfl) rfl (fun _ _ _ h => h) hC0 (fun W hW => by obtain ⟨u1, u2, u3⟩ := hW; obtain ⟨g1, g2⟩ := pair_cells u1; obtain ⟨g3, g4⟩ := pair_cells u2; go_simp) ?_
      go_simp
      refine wpAnyC_take 6 tv rfl (by kernel_rfl) rfl (fun _ _ _ h => h) hC0 (fun W hW => by obtain ⟨u1, u2, u3⟩ := hW; obtain ⟨g1, g2⟩ := pair_cells u1; obtain ⟨g3, g4⟩ := pair_cells u2; go_simp) ?_
      go_simp
      refine wpAnyC_act 7 rfl (by kernel_rfl) rfl ?_
      go_simp
      refine hCt.mono ?_
      clear hCt
      rintro e W1 ⟨⟨tv', rfl, hnew⟩, he1⟩
      obtain rfl := he1.symm
      obtain ⟨ta, tc, rfl, htc⟩ := hnew.open
      obtain ⟨i0, hi0, hi1, hi2, hi3⟩ := info_parts infoInts
      have q4' : (wr.drew.alloc (.cells #[.slice ta t[k].length tc] 22)).ownsRow (w.heap.size + 3) 22 1 vt k tvs := (owns_kept q4 ((Below.refl _ wr).drew)).alloc _
      have hl1 := (Array.getElem?_eq_some_iff.1 q1).1
      have hvtl := q4.lt
      refine ⟨hC0, ?_⟩
      refine wpAnyC_act 8 rfl (by kernel_rfl) rfl ?_
      go_simp
      refine ⟨⟨heap_alloc_at q2 _, heap_alloc_at q1 _, (World.cell?_alloc_lt _ _ ⟨bt, ot + k, none⟩ (by show bt < wr.heap.size; omega)).trans hct⟩, ?_⟩
      refine wpAnyC_act 9 rfl (by kernel_rfl) rfl ?_
      refine wp_append_new _ (.tmp 21) (.tmp 28) 23 rfl (w.heap.size + 3) 22 i0 (.slice none 0 0) 1 24 Tryz.underlying23 hi0 hi1 hi2 hi3 rfl (by decide) vt k tvs rfl q4' ⟨wr.heap.size, 0, none⟩ 1 1 [.slice ta t[k].length tc] rfl rfl (cell_one_new _ _ _) (by simp [Value.oneCell']) (by unfold maxLen; omega) (by omega) (by simp; omega) ?_
      intro v' W4 hown' hgrow hf
      obtain ⟨hC2, hNew⟩ := CutI.push hn q1 q2 q3 q4 q5 q6 ((Below.refl _ wr).drew) hnew (List.getElem?_eq_getElem hlt) hown' hgrow
      obtain ⟨g4, c4, rfl⟩ := ownsRow_succ hown'
      have hO : Only (fun b => vt.ownBlock = some b) wr W4 := (((Only.refl _ wr).drew).alloc _).grown hgrow (fun k hk => .inl hk)
      have hq24 := (hO.block _ (by omega) (fun h => by have := (hvtl _ h).1; omega)).trans q2
      have hct4 : W4.cell? ⟨bt, ot + k, none⟩ = some tv := (hO.cell (p := ⟨bt, ot + k, none⟩) (by show bt < _; omega) (fun h => by have := (hvtl _ h).1; simp at this; omega)).trans hct
      refine ⟨fun _ => ⟨hq24, hC2, hct4⟩, ?_⟩
      go_simp
      refine wpAnyC_act 10 rfl (by kernel_rfl) rfl ?_
      go_simp
      try refine ⟨⟨hq24, hC2, hct4⟩, ?_⟩
      obtain ⟨u1, u2⟩ := pair_cells hC2
      have u3 := row_frozen hC2 1
      refine wpAnyC_act 11 rfl (by kernel_rfl) rfl ?_
      go_simp
      refine wpAnyC_done (by kernel_rfl) ?_
      have HN := Lib.hid hNew
      clear hNew q1 q2 q3 q4 q5 q6 q4' hown' hgrow hf hC2 hO hq24 hct4 u1 u2 u3 hC0 hnew hct hh y1 y2 hvtl
      go_wp2
      go_roundw
      case rel => exact ⟨k + 1, by omega, by go_num, HN⟩
      case measure => simp [intOf]; omega
    · have hke : k = t.length := by omega
      subst hke
      obtain ⟨va, vc, rfl, hvc⟩ := owns_open q4
      obtain ⟨e1, e2⟩ := pair_cells q3
      have e3 := row_frozen q3 0
      have e4 := row_frozen q3 1
      obtain ⟨p1, p2⟩ := pair_cells q1
      have HY := Lib.hid (write2 q3 (.slice sa s.length sc) (.slice va t.length vc))
      have hO := write2_only (W := wr) (B1 := w.heap.size + 1) (.slice sa s.length sc) (.slice va t.length vc)
      have hBF : Below w.heap.size w ((wr.setCell ⟨w.heap.size + 1, 0, none⟩ (.slice sa s.length sc)).setCell ⟨w.heap.size + 1, 1, none⟩ (.slice va t.length vc)) := q6.trans (hO.below q6.size (fun b hb h => by omega))
      have hNB : Below n wr ((wr.setCell ⟨w.heap.size + 1, 0, none⟩ (.slice sa s.length sc)).setCell ⟨w.heap.size + 1, 1, none⟩ (.slice va t.length vc)) := hO.below (Nat.le_trans hn q6.size) (fun b hb h => by omega)
      have hnW : n ≤ ((wr.setCell ⟨w.heap.size + 1, 0, none⟩ (.slice sa s.length sc)).setCell ⟨w.heap.size + 1, 1, none⟩ (.slice va t.length vc)).heap.size := Nat.le_trans (Nat.le_trans hn q6.size) hO.size
      have hP : ∀ w2, AgreeOut n (w.heap.size + 3) ((wr.setCell ⟨w.heap.size + 1, 0, none⟩ (.slice sa s.length sc)).setCell ⟨w.heap.size + 1, 1, none⟩ (.slice va t.length vc)) w2 → IsPool ((wr.setCell ⟨w.heap.size + 1, 0, none⟩ (.slice sa s.length sc)).setCell ⟨w.heap.size + 1, 1, none⟩ (.slice va t.length vc)).heap.size w2 (.agg #[.slice sa s.length sc, .slice va t.length vc]) s t := by
        intro w2 ha
        have hsz3 : w3.heap.size ≤ ((wr.setCell ⟨w.heap.size + 1, 0, none⟩ (.slice sa s.length sc)).setCell ⟨w.heap.size + 1, 1, none⟩ (.slice va t.length vc)).heap.size := by have := (Array.getElem?_eq_some_iff.1 q1).1; have := HS3.out; have := hO.size; omega
        refine ⟨_, _, rfl, ((HVS.out.below ?_).out ha).wider hnW, tabs_out (owns_only q4 hO (fun b hb e => by subst hb; have := (q4.lt _ e).1; omega)) (Nat.le_refl _) (by unfold big; omega) hnW (fun i tv x h1 h2 => (q5 i tv x h1 h2).below hNB) ha⟩
        have h1 := (hBF.mono hn)
        have h3 := HB03.out.mono hn
        exact ⟨by rw [h1.os, h3.os], by rw [h1.tape, h3.tape], by rw [h1.output, h3.output], hsz3, fun b hb => by rw [h1.block b hb, h3.block b hb]⟩
      have HP := Lib.hid hP
      have HBF := Lib.hid hBF
      clear q1 q2 q3 q4 q5 q6 hh hP hBF hNB hnW hO
      by_cases hl2 : t.length < l2
      · have h34 : ¬ (t.length : Int) < 34 := by have := HL.out; omega
        have hl2' : (t.length : Int) < (l2 : Int) := by omega
        go_wp2
        obtain ⟨r1, r2⟩ := pair_cells HY.out
        refine bodyPost_ret (v := .agg #[.slice sa s.length sc, .slice va t.length vc]) ?_ rfl ⟨_, rfl, HP.out, HBF.out⟩
        clear e1 e2 e3 e4 p1 p2
        simp [results, Tryz.results6, go_sem, r1, r2]
      · have hl2' : ¬ (t.length : Int) < (l2 : Int) := by omega
        go_wp2
        obtain ⟨r1, r2⟩ := pair_cells HY.out
        refine bodyPost_ret (v := .agg #[.slice sa s.length sc, .slice va t.length vc]) ?_ rfl ⟨_, rfl, HP.out, HBF.out⟩
        clear e1 e2 e3 e4 p1 p2
        simp [results, Tryz.results6, go_sem, r1, r2]

end Go.Proofs.YtihmgiifphheeaaGreatDoor
