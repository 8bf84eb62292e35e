/- Plain laws of a table laid anew. -/
import Derived.Test.YtihmgiifphheeaaDoorViews
import Derived.Test.YtihmgiifphheeaaDoorDraw2
namespace Go.Sel
open Go
theorem zeros_of_count {x : List Int} (hr : rightT x = true) (hc : countL x = 0) : x = List.replicate 32 0 := by
  have hlen := rightT_len hr
  unfold countL linesL at hc
  rw [if_pos hr, List.length_map, List.length_eq_zero_iff] at hc
  refine List.ext_getElem? (fun i => ?_)
  by_cases hi : i < 32
  · rw [List.getElem?_replicate, if_pos hi]
    have hn : i ∉ keptL x := by rw [hc]; exact List.not_mem_nil
    unfold keptL at hn
    rw [List.mem_filter, List.mem_range] at hn
    have hk : keptAt x i = false := by
      cases hq : keptAt x i with
      | false => rfl
      | true => exact absurd ⟨hi, hq⟩ hn
    unfold keptAt at hk
    simp only [Bool.or_eq_false_iff, Bool.not_eq_false', decide_eq_true_eq] at hk
    have hx : x[i]? = some x[i] := List.getElem?_eq_getElem (by omega)
    have h0 := hk.1
    rw [hx] at h0 ⊢
    simpa using h0
  · rw [List.getElem?_eq_none (by omega), List.getElem?_eq_none (by simp; omega)]
end Go.Sel
namespace Go.Proofs.YtihmgiifphheeaaDoor
open Go.Sel
theorem ask_state {x : List Int} (hr : rightT x = true) : askP (stateL x) x = true := by
  unfold askP stateL
  by_cases h0 : countL x = 0
  · rw [if_pos h0, if_pos (.inl rfl), decide_eq_true_eq]
    exact zeros_of_count hr h0
  · rw [if_neg h0]
    by_cases h1 : 0 < roomL x
    · rw [if_pos h1, if_neg (by decide), if_pos rfl]
      simp [h1]
      omega
    · rw [if_neg h1, if_neg (by decide), if_neg (by decide)]
theorem setE_none {s : List Int} {t : List (List Int)} {b : Int} {x : List Int} (h : setE s t b x = none) :
    rightP s t = true ∧ 0 ≤ b ∧ b.toNat < s.length ∧ t.length = s.length ∧ rightT x = true ∧ ∃ y, s[b.toNat]? = some y ∧ (y = 1 ∨ y = 2 ∨ y = 5) := by
  unfold setE at h
  cases hb : blockE s t b [1, 2, 5] with
  | some e => rw [hb] at h; cases h
  | none =>
    rw [hb] at h
    simp only [] at h
    obtain ⟨h1, h2, h3, h4, h5⟩ := blockE_none hb
    have hx : rightT x = true := by
      cases hq : rightT x with
      | true => rfl
      | false => rw [hq] at h; cases h
    have hlt : b.toNat < s.length := by omega
    refine ⟨h1, h2, hlt, h4, hx, s[b.toNat], List.getElem?_eq_getElem hlt, ?_⟩
    rw [List.getElem?_eq_getElem hlt] at h5
    simpa using h5
theorem setE_some {s : List Int} {t : List (List Int)} {b : Int} {x : List Int} {e : Int} (h : setE s t b x = some e) : (rightP s t = false ∧ e = 100) ∨ (rightP s t = true ∧ e = 90) := by
  unfold setE at h
  cases hr : rightP s t with
  | false =>
    have : blockE s t b [1, 2, 5] = some 100 := by unfold blockE; rw [if_pos hr]
    rw [this] at h
    exact .inl ⟨rfl, by simpa using h.symm⟩
  | true =>
    right
    refine ⟨rfl, ?_⟩
    unfold blockE at h
    rw [if_neg (by rw [hr]; decide)] at h
    split at h
    · rename_i e' he
      split at he
      · cases he
      · have : e' = 90 := by simpa using he.symm
        rw [this] at h; simpa using h.symm
    · split at h
      · cases h
      · simpa using h.symm
/-- What a table laid anew leaves. -/
theorem lays_all {s : List Int} {t : List (List Int)} {b : Int} {x : List Int} (h : setE s t b x = none) :
    rightP (s.set b.toNat (stateL x)) (t.set b.toNat x) = true ∧ othersP s (s.set b.toNat (stateL x)) t (t.set b.toNat x) b.toNat 1 = true ∧
      (s.set b.toNat (stateL x)).count 3 = s.count 3 ∧ (s.set b.toNat (stateL x)).count 4 = s.count 4 ∧
      s.count 0 + s.count 1 + s.count 2 + s.count 5 = (s.set b.toNat (stateL x)).count 0 + (s.set b.toNat (stateL x)).count 1 + (s.set b.toNat (stateL x)).count 2 + (s.set b.toNat (stateL x)).count 5 := by
  obtain ⟨hr, h0, hlt, htl, hx, y, hy, hm⟩ := setE_none h
  have ha := stateL_ask x
  have hr' : rightP (s.set b.toNat (stateL x)) (t.set b.toNat x) = true := by
    refine rightP_mk (wholeL_set (rightP_whole hr) hlt (by omega) (by omega) (fun z hz => by rw [hy] at hz; cases hz; omega)) (by rw [List.length_set, List.length_set]; exact htl) (fun i u v h1 h2 => ?_)
    by_cases e : b.toNat = i
    · subst e
      rw [List.getElem?_set_self hlt] at h1
      rw [List.getElem?_set_self (by omega)] at h2
      cases h1
      cases h2
      exact ⟨hx, ask_state hx⟩
    · rw [List.getElem?_set_ne e] at h1 h2
      exact rightP_at hr h1 h2
  have hc := fun z => count_turned hy (stateL x) z
  have hlen : (s.set b.toNat (stateL x)).length = s.length := List.length_set
  have hs1 := count_six (rightP_states hr).2.2
  have hs2 := count_six (rightP_states hr').2.2
  have c3 := hc 3
  have c4 := hc 4
  have n3 : ¬ y = 3 := by omega
  have n4 : ¬ y = 4 := by omega
  have m3 : ¬ stateL x = 3 := by omega
  have m4 : ¬ stateL x = 4 := by omega
  rw [if_neg n3, if_neg m3] at c3
  rw [if_neg n4, if_neg m4] at c4
  refine ⟨hr', ?_, by omega, by omega, by omega⟩
  unfold othersP
  simp only [Bool.and_eq_true, decide_eq_true_eq, List.all_eq_true, List.length_set]
  refine ⟨⟨⟨trivial, trivial⟩, htl⟩, fun i _ => ?_⟩
  unfold sameAt
  by_cases e : b.toNat = i
  · subst e; simp
  · rw [List.getElem?_set_ne e, List.getElem?_set_ne e]; simp
/-- The table of a block, as it is laid out. -/
theorem pool_row {W : World} {s : List Int} {t : List (List Int)} {i : Nat} {a c : Option Addr} {l1 c1 l2 c2 : Nat} (h : IsPool W.heap.size W (.agg #[.slice a l1 c1, .slice c l2 c2]) s t) (hi : i < s.length) (ht : i < t.length) :
    l1 = s.length ∧ l2 = t.length ∧ (∃ g o x, a = some ⟨g, o, none⟩ ∧ s[i]? = some x ∧ W.cell? ⟨g, o + i, none⟩ = some (.int .i64 x)) ∧ ∃ g o x v, c = some ⟨g, o, none⟩ ∧ t[i]? = some x ∧ W.cell? ⟨g, o + i, none⟩ = some v ∧ IsInts W.heap.size W v x := by
  obtain ⟨u1, u2, e, h1, h2⟩ := h
  cases e
  obtain ⟨b1, d1, e1, _⟩ := h1.open
  obtain ⟨b2, d2, e2, _⟩ := h2.open
  cases e1
  cases e2
  obtain ⟨x, g, o, k1, k2, _, k3, _⟩ := h1.at hi
  obtain ⟨y, g', o', v, j1, j2, _, j3, j4⟩ := h2.at ht
  exact ⟨rfl, rfl, ⟨g, o, x, k2, k1, k3⟩, g', o', y, v, j2, j1, j3, j4⟩
theorem pool_lens {W : World} {s : List Int} {t : List (List Int)} {a c : Option Addr} {l1 c1 l2 c2 n : Nat} (h : IsPool n W (.agg #[.slice a l1 c1, .slice c l2 c2]) s t) : l1 = s.length ∧ l2 = t.length := by
  obtain ⟨u1, u2, e, h1, h2⟩ := h
  cases e
  obtain ⟨b1, d1, e1, _⟩ := h1.open
  obtain ⟨b2, d2, e2, _⟩ := h2.open
  cases e1
  cases e2
  exact ⟨rfl, rfl⟩
end Go.Proofs.YtihmgiifphheeaaDoor

/- Contracts of Drop, Close, Set where they give back what was taken. -/
namespace Go.Proofs.YtihmgiifphheeaaDoor
open Go.RowKit Go.Sel
/-- A pool and numbers. -/
def BackPost (xs : List Int) (s : List Int) (t : List (List Int)) (w : World) (e : Ending) (w' : World) : Prop :=
  Below w.heap.size w w' ∧ ∃ (a1 a2 : Option Addr) (l1 c1 l2 c2 : Nat), e = .returned (.tuple (#[.agg #[.slice a1 l1 c1, .slice a2 l2 c2]] ++ (xs.map (Value.int .i64)).toArray)) ∧ PoolIn w.heap.size w'.heap.size w' (.agg #[.slice a1 l1 c1, .slice a2 l2 c2]) s t
theorem drop_back {W : World} {a0 a1 : Addr} {v : Value} {s s' : List Int} {t t' : List (List Int)} {k : Int} {b : Nat} (h : IsPool W.heap.size W v s' t') (hE : RunErrs a0 a1 W.heap.size W)
    (hA : rightP s t = true ∧ (∃ h : Nat × Nat, firstL s k = some h ∧ b = h.1 ∧ s' = putRow s h.1 k.toNat) ∧ t' = t) :
    Calls Tryd.prog 25 #[v, .int .i64 b] W (BackPost [k, 0] s t W) := by
  obtain ⟨hr, ⟨p, hf, rfl, rfl⟩, rfl⟩ := hA
  obtain ⟨k1, k2, _⟩ := firstL_zeros hf
  have hc := cut_put hr hf
  have h32 := (rightP_states hr).2.1
  have hm := must_put (s := s) k1 k2
  refine (drop_any (p.1 : Int) (by unfold I64; omega) h hE (Nat.le_refl _)).mono ?_
  rintro e w' ⟨hb, ⟨hno, _⟩ | ⟨_, hno, _⟩ | ⟨_, _, v', rfl, hP⟩⟩
  · rw [rightP_put hr hf] at hno; cases hno
  · rw [hm] at hno; cases hno
  · rw [Int.toNat_natCast, hc.1, hc.2] at hP
    obtain ⟨b1, c1, b2, c2, rfl⟩ := IsPool.open hP.pool
    refine ⟨hb, b1, b2, _, c1, _, c2, ?_, hP⟩
    rw [Int.toNat_natCast, hc.1]
    have e : ((k.toNat : Nat) : Int) = k := by omega
    rw [e]
    rfl
theorem close_ok {W : World} {v : Value} {s : List Int} {t : List (List Int)} {b : Nat} (h : IsPool W.heap.size W v s t) (hE : ErrT W.heap.size W) (hb : b ≤ 1048576) (hk : blockE s t (b : Int) [5] = none) :
    Calls Tryd.prog 26 #[v, .int .i64 b] W (BackPost [0] (s.set b 2) t W) := by
  refine (close_any (b : Int) (by unfold I64; omega) h hE (Nat.le_refl _)).mono ?_
  rintro e w' ⟨hb, ⟨x, hno, _⟩ | ⟨v', _, rfl, hP⟩⟩
  · rw [hk] at hno; cases hno
  · rw [Int.toNat_natCast] at hP
    obtain ⟨b1, c1, b2, c2, rfl⟩ := IsPool.open hP.pool
    exact ⟨hb, b1, b2, _, c1, _, c2, rfl, hP⟩
theorem set_ok {W : World} {v vx : Value} {s x : List Int} {t : List (List Int)} {b : Nat} (h : IsPool W.heap.size W v s t) (hx : IsInts W.heap.size W vx x) (hE : ErrT W.heap.size W) (hb : b ≤ 1048576) (hk : setE s t (b : Int) x = none) :
    Calls Tryd.prog 24 #[v, .int .i64 b, vx] W (BackPost [0] (s.set b (stateL x)) (t.set b x) W) := by
  refine (set_any (b : Int) (by unfold I64; omega) h hx hE (Nat.le_refl _)).mono ?_
  rintro e w' ⟨hb, ⟨x', hno, _⟩ | ⟨v', _, rfl, hP⟩⟩
  · rw [hk] at hno; cases hno
  · rw [Int.toNat_natCast] at hP
    obtain ⟨b1, c1, b2, c2, rfl⟩ := IsPool.open hP.pool
    exact ⟨hb, b1, b2, _, c1, _, c2, rfl, hP⟩
/-- A table of zeros, new. -/
theorem zeros_new {w : World} {g : Nat} (h : w.heap[g]? = some (.cells ((List.replicate 32 0).map (Value.int .i64)).toArray 3 (0, 0))) : IsInts w.heap.size w (.slice (some ⟨g, 0, none⟩) 32 32) (List.replicate 32 0) := by
  have hr : w.ownsRow g 3 1 (.slice (some ⟨g, 0, none⟩) 32 32) (List.replicate 32 (0 : Int)).length ((List.replicate 32 (0 : Int)).map (Value.int .i64)) :=
    ⟨by simp, .inr ⟨g, 32, _, rfl, Nat.le_refl _, h, by decide, by decide, by simp, by simp⟩⟩
  exact IsInts.of_owns (xs := List.replicate 32 0) hr (by simp [big]) (by intro x hx; rw [(List.mem_replicate.1 hx).2]; unfold I64; omega)
end Go.Proofs.YtihmgiifphheeaaDoor
