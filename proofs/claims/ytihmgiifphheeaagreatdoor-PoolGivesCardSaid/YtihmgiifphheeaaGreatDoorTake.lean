/- Contracts of pool.take, TakeFree, TakeHole. -/
import Derived.Test.YtihmgiifphheeaaGreatDoorBlocks
namespace Go.Sel
open Go Go.RowKit
/-- Small lists of small numbers. -/
structure PoolOk (s : List Int) (t : List (List Int)) : Prop where
  ls : s.length ≤ big
  ns : ∀ x ∈ s, I64 x
  lt : t.length ≤ big
  nt : ∀ x ∈ t, x.length ≤ big ∧ ∀ y ∈ x, I64 y
theorem IsPool.ok {n : Nat} {w : World} {v : Value} {s : List Int} {t : List (List Int)} (h : IsPool n w v s t) : PoolOk s t := by
  obtain ⟨v1, v2, rfl, h1, h2⟩ := h
  refine ⟨h1.len, fun x hx => h1.range hx, h2.len, fun x hx => ?_⟩
  obtain ⟨a2, c2, rfl, _⟩ := h2.open
  obtain ⟨k, hk⟩ := List.getElem?_of_mem hx
  obtain ⟨y, b, o, v, hy, _, _, _, hv⟩ := h2.at (List.getElem?_eq_some_iff.1 hk).1
  rw [hk] at hy; cases hy
  exact ⟨hv.len, fun y hy => hv.range hy⟩
theorem PoolOk.set {s : List Int} {t : List (List Int)} (h : PoolOk s t) (b : Nat) {x : Int} (hx : I64 x) : PoolOk (s.set b x) t :=
  ⟨by rw [List.length_set]; exact h.ls, fun y hy => by rcases List.mem_or_eq_of_mem_set hy with hy | rfl; exact h.ns y hy; exact hx, h.lt, h.nt⟩
theorem PoolOk.states {s s' : List Int} {t : List (List Int)} (h : PoolOk s t) (h1 : s'.length ≤ big) (h2 : ∀ x ∈ s', I64 x) : PoolOk s' t := ⟨h1, h2, h.lt, h.nt⟩
theorem below_set_both {n : Nat} {w w' : World} (h : Below n w w') {p : Addr} (u : Value) : Below n (w.setCell p u) (w'.setCell p u) :=
  ⟨h.os, h.tape, h.output, by simpa [World.setCell] using h.size, fun k hk => by
    by_cases e : k = p.block
    · subst e
      have := h.block _ hk
      simp [World.setCell, Array.getElem?_modify, this]
    · rw [Below.heap_setCell _ _ _ _ e, Below.heap_setCell _ _ _ _ e]; exact h.block k hk⟩
theorem cell_quiet {B : Nat} {w w' : World} {p : Addr} {u : Value} (h : w.cell? p = some u) (hq : Quiet B (fun _ => True) w w') : w'.cell? p = some u := by
  unfold World.cell? at h ⊢
  cases ho : w.heap[p.block]? with
  | none => rw [ho] at h; cases h
  | some o =>
    cases o with
    | cells c t f => rw [hq.cells ho (.inr trivial)]; rw [ho] at h; exact h
    | _ => rw [ho] at h; cases h
theorem IsInts.quietT {n B : Nat} {w w' : World} {v : Value} {xs : List Int} (h : IsInts n w v xs) (hq : Quiet B (fun _ => True) w w') : IsInts n w' v xs := by
  obtain ⟨a, c, rfl, h1, h2, h3⟩ := h
  refine ⟨a, c, rfl, h1, h2, fun j x hx => ?_⟩
  obtain ⟨b, o, rfl, h4, h5, h6⟩ := h3 j x hx
  exact ⟨b, o, rfl, h4, cell_quiet h5 hq, h6⟩
theorem IsTabs.quietT {n B : Nat} {w w' : World} {v : Value} {xs : List (List Int)} (h : IsTabs n w v xs) (hq : Quiet B (fun _ => True) w w') : IsTabs n w' v xs := by
  obtain ⟨a, c, rfl, h1, h2, h3⟩ := h
  refine ⟨a, c, rfl, h1, h2, fun j x hx => ?_⟩
  obtain ⟨b, o, rfl, h4, v, h5, h6⟩ := h3 j x hx
  exact ⟨b, o, rfl, h4, v, cell_quiet h5 hq, h6.quietT hq⟩
theorem IsPool.quietT {n B : Nat} {w w' : World} {v : Value} {s : List Int} {t : List (List Int)} (h : IsPool n w v s t) (hq : Quiet B (fun _ => True) w w') : IsPool n w' v s t := by
  obtain ⟨v1, v2, e, h1, h2⟩ := h
  exact ⟨v1, v2, e, h1.quietT hq, h2.quietT hq⟩
/-- What cells w holds in the blocks from lo to hi, w' holds too. -/
def AgreeIn (lo hi : Nat) (w w' : World) : Prop := ∀ k o, lo ≤ k → k < hi → o.isCells = true → w.heap[k]? = some o → w'.heap[k]? = some o
theorem AgreeIn.refl (lo hi : Nat) (w : World) : AgreeIn lo hi w w := fun _ _ _ _ _ h => h
theorem AgreeIn.trans {lo hi : Nat} {a b c : World} (h : AgreeIn lo hi a b) (k : AgreeIn lo hi b c) : AgreeIn lo hi a c := fun i o h1 h2 h3 h4 => k i o h1 h2 h3 (h i o h1 h2 h3 h4)
theorem AgreeIn.mono {lo hi lo' hi' : Nat} {a b : World} (h : AgreeIn lo hi a b) (h1 : lo ≤ lo') (h2 : hi' ≤ hi) : AgreeIn lo' hi' a b := fun i o k1 k2 => h i o (by omega) (by omega)
theorem AgreeIn.of_only {lo hi : Nat} {S : Nat → Prop} {a b : World} (h : Only S a b) (hS : ∀ k, lo ≤ k → k < hi → ¬ S k) : AgreeIn lo hi a b :=
  fun i _ h1 h2 _ h4 => (h.block i (Array.getElem?_eq_some_iff.1 h4).1 (hS i h1 h2)).trans h4
theorem AgreeIn.of_below {lo hi n : Nat} {a b : World} (h : Below n a b) (hn : hi ≤ n) : AgreeIn lo hi a b := fun i o _ h2 _ h4 => (h.block i (by omega)).trans h4
theorem AgreeIn.of_quiet {lo hi B : Nat} {a b : World} (hq : Quiet B (fun _ => True) a b) : AgreeIn lo hi a b := fun _ _ _ _ h3 h4 => hq.block _ _ h4 (.inr ⟨trivial, h3⟩)
/-- A pool whose blocks lie from lo to hi. -/
def PoolIn (lo hi : Nat) (w : World) (v : Value) (s : List Int) (t : List (List Int)) : Prop := ∀ w', AgreeIn lo hi w w' → IsPool hi w' v s t
theorem PoolIn.agree {lo hi : Nat} {w w' : World} {v : Value} {s : List Int} {t : List (List Int)} (h : PoolIn lo hi w v s t) (ha : AgreeIn lo hi w w') : PoolIn lo hi w' v s t := fun _ h2 => h _ (ha.trans h2)
theorem PoolIn.mono {lo hi lo' hi' : Nat} {w : World} {v : Value} {s : List Int} {t : List (List Int)} (h : PoolIn lo hi w v s t) (h1 : lo' ≤ lo) (h2 : hi ≤ hi') : PoolIn lo' hi' w v s t := fun _ ha => (h _ (ha.mono h1 h2)).wider h2
theorem PoolIn.pool {lo hi : Nat} {w : World} {v : Value} {s : List Int} {t : List (List Int)} (h : PoolIn lo hi w v s t) : IsPool hi w v s t := h _ (AgreeIn.refl _ _ _)
theorem owns_agree {lo hi : Nat} {w w' : World} {base : Nat} {e : TypeId} {size : Nat} {v : Value} {k : Nat} {xs : List Value} (h : w.ownsRow base e size v k xs) (ha : AgreeIn lo hi w w') (h1 : lo ≤ base) (h2 : w.heap.size ≤ hi) : w'.ownsRow base e size v k xs := by
  have hlt := h.lt
  obtain ⟨g1, g2⟩ := h
  refine ⟨g1, ?_⟩
  rcases g2 with g2 | ⟨g, cap, cur, rfl, hg, hh, r⟩
  · exact .inl g2
  · exact .inr ⟨g, cap, cur, rfl, hg, ha g _ (by omega) (by have := (hlt g rfl).2; omega) rfl hh, r⟩
theorem IsInts.narrow {n m : Nat} {w : World} {v : Value} {xs : List Int} (h : IsInts n w v xs) (hm : ∀ g, v.ownBlock = some g → g < m) : IsInts m w v xs := by
  obtain ⟨a, c, rfl, h1, h2, h3⟩ := h
  refine ⟨a, c, rfl, h1, h2, fun j x hx => ?_⟩
  obtain ⟨b, o, rfl, h4, h5⟩ := h3 j x hx
  exact ⟨b, o, rfl, hm b rfl, h5⟩
/-- The lowest block that is taken. -/
def takeB (s sts : List Int) : Option Nat := (blocksL s sts).head?
end Go.Sel
namespace Go.Sel
open Go Go.RowKit
theorem mark_any {W W' : World} {D : Nat} {x : Obj} (h : W.heap[D]? = some x) (hb : Below W.heap.size W W') : W'.heap[D]? = some x := (hb.block _ (Array.getElem?_eq_some_iff.1 h).1).trans h
end Go.Sel
namespace Go.Proofs.YtihmgiifphheeaaGreatDoor
open Go.RowKit Go.Sel
attribute [local go_sem] Oper.semAt_some

theorem IsTabs.of_owns {w : World} {base : Nat} {vt : Value} {tvs : List Value} {t : List (List Int)} (h : w.ownsRow base 22 1 vt t.length tvs) (hl : t.length ≤ big)
    (ht : ∀ (i : Nat) (tv : Value) (x : List Int), tvs[i]? = some tv → t[i]? = some x → IsInts w.heap.size w tv x) : IsTabs w.heap.size w vt t := by
  have hl2 : tvs.length = t.length := by have := h.1; simpa using this
  rcases h.2 with ⟨rfl, h2⟩ | ⟨g, cap, cur, rfl, hg, hh, h3, h4, h5, h6⟩
  · have : t = [] := List.length_eq_zero_iff.1 h2
    subst this
    exact IsSl.nil
  · refine ⟨some ⟨g, 0, none⟩, cap, rfl, h3, hl, fun j x hx => ?_⟩
    have hj : j < tvs.length := by have := (List.getElem?_eq_some_iff.1 hx).1; omega
    have hc := h.cells (g := g) rfl j tvs[j] (List.getElem?_eq_getElem hj)
    rw [Addr.add_lit] at hc
    refine ⟨g, 0, rfl, (Array.getElem?_eq_some_iff.1 hh).1, tvs[j], by simpa using hc, ht j _ x (List.getElem?_eq_getElem hj) hx⟩

theorem OwnI2.isPool {B g : Nat} {w : World} {vs : Value} {s : List Int} {t : List (List Int)} (h : OwnI2 B g w vs s t) (ho : PoolOk s t) :
    ∃ vt, w.heap[g]? = some (.cells #[vs, vt] 53 (0, 0)) ∧ IsPool w.heap.size w (.agg #[vs, vt]) s t := by
  obtain ⟨vt, tvs, q1, q2, q3, q4, q5, q6⟩ := h
  exact ⟨vt, q1, vs, vt, rfl, IsInts.of_owns q3 ho.ls ho.ns, IsTabs.of_owns q5 ho.lt (fun i tv x h1 h2 => IsInts.of_owns (q6 i tv x h1 h2).1 (ho.nt x (List.mem_of_getElem? h2)).1 (ho.nt x (List.mem_of_getElem? h2)).2)⟩

theorem OwnI2.poolIn {B g : Nat} {w : World} {vs : Value} {s : List Int} {t : List (List Int)} (h : OwnI2 B g w vs s t) (ho : PoolOk s t) :
    ∃ vt, w.heap[g]? = some (.cells #[vs, vt] 53 (0, 0)) ∧ PoolIn B w.heap.size w (.agg #[vs, vt]) s t := by
  obtain ⟨vt, tvs, q1, q2, q3, q4, q5, q6⟩ := h
  refine ⟨vt, q1, fun w' ha => ?_⟩
  have p3 := owns_agree q3 ha (Nat.le_refl _) (Nat.le_refl _)
  have p5 := owns_agree q5 ha (by omega) (Nat.le_refl _)
  refine ⟨vs, vt, rfl, (IsInts.of_owns p3 ho.ls ho.ns).narrow (fun k hk => (q3.lt k hk).2), ?_⟩
  have hl2 : tvs.length = t.length := by have := q5.1; simpa using this
  rcases hp : p5.2 with ⟨rfl, h2⟩ | ⟨gt, cap, cur, rfl, hg, hh, h3, h4, h5, h6⟩
  · have : t = [] := List.length_eq_zero_iff.1 h2
    subst this
    exact IsSl.nil
  · refine ⟨some ⟨gt, 0, none⟩, cap, rfl, h3, ho.lt, fun j x hx => ?_⟩
    have hj : j < tvs.length := by have := (List.getElem?_eq_some_iff.1 hx).1; omega
    have hc := p5.cells (g := gt) rfl j tvs[j] (List.getElem?_eq_getElem hj)
    rw [Addr.add_lit] at hc
    obtain ⟨r1, _⟩ := q6 j _ x (List.getElem?_eq_getElem hj) hx
    refine ⟨gt, 0, rfl, (q5.lt gt rfl).2, tvs[j], by simpa using hc, ?_⟩
    exact (IsInts.of_owns (owns_agree r1 ha (by omega) (Nat.le_refl _)) (ho.nt x (List.mem_of_getElem? hx)).1 (ho.nt x (List.mem_of_getElem? hx)).2).narrow (fun k hk => (r1.lt k hk).2)

theorem OwnI2.set {B g b : Nat} {w : World} {vs : Value} {s : List Int} {t : List (List Int)} (h : OwnI2 B g w vs s t) (hb : b < s.length) (x : Int) :
    ∃ gs cap u, vs = .slice (some ⟨gs, 0, none⟩) s.length cap ∧ B ≤ gs ∧ gs < g ∧ g < w.heap.size ∧ w.cell? ⟨gs, b, none⟩ = some u ∧ w.frozen? ⟨gs, b, none⟩ = false ∧ OwnI2 B g (w.setCell ⟨gs, b, none⟩ (.int .i64 x)) vs (s.set b x) t := by
  obtain ⟨vt, tvs, q1, q2, q3, q4, q5, q6⟩ := h
  obtain ⟨gs, cap, rfl⟩ : ∃ gs cap, vs = .slice (some ⟨gs, 0, none⟩) s.length cap := by
    rcases q3.2 with ⟨_, h0⟩ | ⟨gs, cap, cur, rfl, _⟩
    · omega
    · exact ⟨gs, cap, rfl⟩
  have hgs := q4 gs rfl
  have hg := (Array.getElem?_eq_some_iff.1 q1).1
  have hc := q3.cellAt b (by omega)
  rw [List.getElem?_eq_getElem (by rw [List.length_map]; exact hb)] at hc
  obtain ⟨s1, s2⟩ := q3.stored b (.int .i64 x)
  have hO : Only (fun k => k = gs) w (w.setCell ⟨gs, b, none⟩ (.int .i64 x)) := (Only.refl (fun k => k = gs) w).setCell (p := ⟨gs, b, none⟩) (.inl rfl) _
  refine ⟨gs, cap, _, rfl, (q3.lt gs rfl).1, hgs, hg, hc, q3.frozenAt b, vt, tvs, ?_, q2, ?_, q4, ?_, ?_⟩
  · exact (hO.block g hg (by omega)).trans q1
  · rw [List.length_set, List.map_set]; exact s1
  · refine owns_only q5 hO (fun k hk e => ?_)
    subst hk
    have := (q5.lt _ e).1
    omega
  · intro i tv y h1 h2
    obtain ⟨r1, r2⟩ := q6 i tv y h1 h2
    refine ⟨owns_only r1 hO (fun k hk e => ?_), r2⟩
    subst hk
    have := (r1.lt _ e).1
    omega

theorem OwnI2.only {B g : Nat} {w w' : World} {S : Nat → Prop} {vs : Value} {s : List Int} {t : List (List Int)} (h : OwnI2 B g w vs s t) (hO : Only S w w') (hS : ∀ k, S k → k < B) : OwnI2 B g w' vs s t := by
  obtain ⟨vt, tvs, q1, q2, q3, q4, q5, q6⟩ := h
  refine ⟨vt, tvs, (hO.block g (Array.getElem?_eq_some_iff.1 q1).1 (fun h => by have := hS g h; omega)).trans q1, q2, owns_only q3 hO (fun k hk e => ?_), q4, owns_only q5 hO (fun k hk e => ?_), fun i tv y h1 h2 => ?_⟩
  · have := hS k hk; have := (q3.lt k e).1; omega
  · have := hS k hk; have := (q5.lt k e).1; omega
  · obtain ⟨r1, r2⟩ := q6 i tv y h1 h2
    exact ⟨owns_only r1 hO (fun k hk e => by have := hS k hk; have := (r1.lt k e).1; omega), r2⟩

/-- Four writes into result cells. -/
def put4 (B1 B2 B3 : Nat) (va vb x y : Value) (W : World) : World := (((W.setCell ⟨B1, 0, none⟩ va).setCell ⟨B1, 1, none⟩ vb).setCell ⟨B2, 0, none⟩ x).setCell ⟨B3, 0, none⟩ y
theorem put4_only {B1 B2 B3 : Nat} (va vb x y : Value) (W : World) : Only (fun b => b = B1 ∨ b = B2 ∨ b = B3) W (put4 B1 B2 B3 va vb x y W) := by
  unfold put4
  exact ((((Only.refl (fun b => b = B1 ∨ b = B2 ∨ b = B3) W).setCell (p := ⟨B1, 0, none⟩) (.inl (.inl rfl)) _).setCell (p := ⟨B1, 1, none⟩) (.inl (.inl rfl)) _).setCell (p := ⟨B2, 0, none⟩) (.inl (.inr (.inl rfl))) _).setCell (p := ⟨B3, 0, none⟩) (.inl (.inr (.inr rfl))) _
theorem put4_both {n B1 B2 B3 : Nat} {w w' : World} (va vb x y : Value) (h : Below n w w') : Below n (put4 B1 B2 B3 va vb x y w) (put4 B1 B2 B3 va vb x y w') := by
  unfold put4
  exact below_set_both (below_set_both (below_set_both (below_set_both h va) vb) x) y
theorem put4_size {B1 B2 B3 : Nat} (va vb x y : Value) (W : World) : (put4 B1 B2 B3 va vb x y W).heap.size = W.heap.size := by simp [put4, World.setCell]

/-- What take's blocks hold: the pool, its results. -/
def TakeF (w : World) (v1 v2 : Value) (W : World) : Prop :=
  W.heap[w.heap.size]? = some (.cells #[v1, v2] 25 (0, 0)) ∧ W.heap[w.heap.size + 1]? = some (.cells #[.slice none 0 0, .slice none 0 0] 25 (0, 0)) ∧ Boxed W (w.heap.size + 1 + 1) 3 (.int .i64 0) ∧ Boxed W (w.heap.size + 1 + 1 + 1) 4 (.bool false) ∧ Below w.heap.size w W
theorem TakeF.kept {w W W' : World} {v1 v2 : Value} (h : TakeF w v1 v2 W) (hb : Below W.heap.size W W') : TakeF w v1 v2 W' := by
  obtain ⟨h1, h2, h3, h4, h5⟩ := h
  exact ⟨mark_any h1 hb, mark_any h2 hb, box_kept h3 hb, box_kept h4 hb, kept_trans h5 hb⟩
theorem TakeF.size {w W : World} {v1 v2 : Value} (h : TakeF w v1 v2 W) : w.heap.size + 4 ≤ W.heap.size := h.2.2.2.1.lt
theorem TakeF.new (w : World) (v1 v2 : Value) : TakeF w v1 v2 ((((w.alloc (Obj.cells #[v1, v2] 25)).alloc (Obj.cells #[.slice none 0 0, .slice none 0 0] 25)).alloc (Obj.cells #[Value.int IntKind.i64 0] 3)).alloc (Obj.cells #[Value.bool false] 4)) := by
  refine ⟨?_, ?_, ?_, ?_, kept_alloc (kept_alloc (kept_alloc (kept_alloc (Below.refl _ _) _) _) _) _⟩
  · exact heap_alloc_at (heap_alloc_at (heap_alloc_at (World.alloc_heap_new w _) _) _) _
  · exact heap_alloc_at (heap_alloc_at (by have := World.alloc_heap_new (w.alloc (Obj.cells #[v1, v2] 25)) (Obj.cells #[.slice none 0 0, .slice none 0 0] 25); rwa [World.size_alloc] at this) _) _
  · exact Boxed.alloc (by have := Boxed.new ((w.alloc (Obj.cells #[v1, v2] 25)).alloc (Obj.cells #[.slice none 0 0, .slice none 0 0] 25)) 3 (.int .i64 0); rwa [World.size_alloc, World.size_alloc] at this) _
  · have := Boxed.new (((w.alloc (Obj.cells #[v1, v2] 25)).alloc (Obj.cells #[.slice none 0 0, .slice none 0 0] 25)).alloc (Obj.cells #[Value.int IntKind.i64 0] 3)) 4 (.bool false)
    rwa [World.size_alloc, World.size_alloc, World.size_alloc] at this

/-- What take's result cells hold at its end. -/
def TakeR (w : World) (va vb x y : Value) (W : World) : Prop :=
  W.heap[w.heap.size + 1]? = some (.cells #[va, vb] 25 (0, 0)) ∧ Boxed W (w.heap.size + 1 + 1) 3 x ∧ Boxed W (w.heap.size + 1 + 1 + 1) 4 y ∧ Below w.heap.size w W
theorem write4 {w W : World} {B1 B2 B3 t1 t2 t3 : Nat} {va vb x y : Value} (h1 : W.heap[B1]? = some (.cells #[va, vb] t1 (0, 0))) (h2 : Boxed W B2 t2 x) (h3 : Boxed W B3 t3 y) (h4 : Below w.heap.size w W) (n1 : w.heap.size ≤ B1) (n2 : B1 < B2) (n3 : B2 < B3) (va' vb' x' y' : Value) :
    ((((W.setCell ⟨B1, 0, none⟩ va').setCell ⟨B1, 1, none⟩ vb').setCell ⟨B2, 0, none⟩ x').setCell ⟨B3, 0, none⟩ y').heap[B1]? = some (.cells #[va', vb'] t1 (0, 0)) ∧ Boxed ((((W.setCell ⟨B1, 0, none⟩ va').setCell ⟨B1, 1, none⟩ vb').setCell ⟨B2, 0, none⟩ x').setCell ⟨B3, 0, none⟩ y') B2 t2 x' ∧
    Boxed ((((W.setCell ⟨B1, 0, none⟩ va').setCell ⟨B1, 1, none⟩ vb').setCell ⟨B2, 0, none⟩ x').setCell ⟨B3, 0, none⟩ y') B3 t3 y' ∧ Below w.heap.size w ((((W.setCell ⟨B1, 0, none⟩ va').setCell ⟨B1, 1, none⟩ vb').setCell ⟨B2, 0, none⟩ x').setCell ⟨B3, 0, none⟩ y') := by
  have e1 : (W.setCell ⟨B1, 0, none⟩ va').heap[B1]? = some (.cells #[va', vb] t1 (0, 0)) := pair_set0 h1
  have g2 : Boxed (W.setCell ⟨B1, 0, none⟩ va') B2 t2 x := (Below.heap_setCell _ _ _ _ (by show B2 ≠ B1; omega)).trans h2
  have g3 : Boxed (W.setCell ⟨B1, 0, none⟩ va') B3 t3 y := (Below.heap_setCell _ _ _ _ (by show B3 ≠ B1; omega)).trans h3
  have g4 : Below w.heap.size w (W.setCell ⟨B1, 0, none⟩ va') := h4.setCell n1 _
  generalize W.setCell ⟨B1, 0, none⟩ va' = W1 at e1 g2 g3 g4
  have e1' : (W1.setCell ⟨B1, 1, none⟩ vb').heap[B1]? = some (.cells #[va', vb'] t1 (0, 0)) := pair_set1 e1
  have g2' : Boxed (W1.setCell ⟨B1, 1, none⟩ vb') B2 t2 x := (Below.heap_setCell _ _ _ _ (by show B2 ≠ B1; omega)).trans g2
  have g3' : Boxed (W1.setCell ⟨B1, 1, none⟩ vb') B3 t3 y := (Below.heap_setCell _ _ _ _ (by show B3 ≠ B1; omega)).trans g3
  have g4' : Below w.heap.size w (W1.setCell ⟨B1, 1, none⟩ vb') := g4.setCell n1 _
  generalize W1.setCell ⟨B1, 1, none⟩ vb' = W2 at e1' g2' g3' g4'
  have a1 : (W2.setCell ⟨B2, 0, none⟩ x').heap[B1]? = some (.cells #[va', vb'] t1 (0, 0)) := (Below.heap_setCell _ _ _ _ (by show B1 ≠ B2; omega)).trans e1'
  have a2 : Boxed (W2.setCell ⟨B2, 0, none⟩ x') B2 t2 x' := g2'.set _
  have a3 : Boxed (W2.setCell ⟨B2, 0, none⟩ x') B3 t3 y := (Below.heap_setCell _ _ _ _ (by show B3 ≠ B2; omega)).trans g3'
  have a4 : Below w.heap.size w (W2.setCell ⟨B2, 0, none⟩ x') := g4'.setCell (by show w.heap.size ≤ B2; omega) _
  generalize W2.setCell ⟨B2, 0, none⟩ x' = W3 at a1 a2 a3 a4
  exact ⟨(Below.heap_setCell _ _ _ _ (by show B1 ≠ B3; omega)).trans a1, (Below.heap_setCell _ _ _ _ (by show B2 ≠ B3; omega)).trans a2, a3.set _, a4.setCell (by show w.heap.size ≤ B3; omega) _⟩
theorem TakeR.write {w W : World} {va vb x y : Value} (h : TakeR w va vb x y W) (va' vb' x' y' : Value) :
    TakeR w va' vb' x' y' ((((W.setCell ⟨w.heap.size + 1, 0, none⟩ va').setCell ⟨w.heap.size + 1, 1, none⟩ vb').setCell ⟨w.heap.size + 1 + 1, 0, none⟩ x').setCell ⟨w.heap.size + 1 + 1 + 1, 0, none⟩ y') := by
  obtain ⟨h1, h2, h3, h4⟩ := h
  exact write4 h1 h2 h3 h4 (by omega) (by omega) (by omega) va' vb' x' y'
theorem TakeR.row {w W : World} {va vb x y : Value} (h : TakeR w va vb x y W) (va' vb' : Value) : TakeR w va' vb' x y (W.setRow (w.heap.size + 1) #[va', vb']) := by
  obtain ⟨h1, h2, h3, h4⟩ := h
  exact ⟨setRow_heap _ _ _ _ _ _ h1, (setRow_other _ _ _ _ (by omega)).trans h2, (setRow_other _ _ _ _ (by omega)).trans h3, Go.Sel.below_setRow h4 (by omega) _⟩
theorem TakeR.two {w W : World} {va vb x y : Value} (h : TakeR w va vb x y W) (x' y' : Value) : TakeR w va vb x' y' ((W.setCell ⟨w.heap.size + 1 + 1, 0, none⟩ x').setCell ⟨w.heap.size + 1 + 1 + 1, 0, none⟩ y') := by
  obtain ⟨h1, h2, h3, h4⟩ := h
  refine ⟨?_, (h2.set _).other (by omega) _, (h3.other (by omega) _).set _, (h4.setCell (p := ⟨w.heap.size + 1 + 1, 0, none⟩) (by show w.heap.size ≤ w.heap.size + 1 + 1; omega) _).setCell (p := ⟨w.heap.size + 1 + 1 + 1, 0, none⟩) (by show w.heap.size ≤ w.heap.size + 1 + 1 + 1; omega) _⟩
  rw [Below.heap_setCell _ _ _ _ (by show w.heap.size + 1 ≠ w.heap.size + 1 + 1 + 1; omega), Below.heap_setCell _ _ _ _ (by show w.heap.size + 1 ≠ w.heap.size + 1 + 1; omega)]
  exact h1
theorem TakeR.quiet {w W W' : World} {va vb x y : Value} {B : Nat} {T : Nat → Prop} (h : TakeR w va vb x y W) (hq : Quiet B T W W') (hB : w.heap.size ≤ B) (hT : ∀ b, (b = w.heap.size + 1 ∨ b = w.heap.size + 1 + 1 ∨ b = w.heap.size + 1 + 1 + 1) → b < B ∨ T b) : TakeR w va vb x y W' := by
  obtain ⟨h1, h2, h3, h4⟩ := h
  exact ⟨hq.cells h1 (hT _ (.inl rfl)), hq.boxed h2 (hT _ (.inr (.inl rfl))), hq.boxed h3 (hT _ (.inr (.inr rfl))), hq.below h4 hB (Nat.le_refl _)⟩
theorem TakeR.cells {w W : World} {va vb x y : Value} (h : TakeR w va vb x y W) :
    W.cell? ⟨w.heap.size + 1, 0, none⟩ = some va ∧ W.cell? ⟨w.heap.size + 1, 1, none⟩ = some vb ∧ W.cell? ⟨w.heap.size + 1 + 1, 0, none⟩ = some x ∧ W.cell? ⟨w.heap.size + 1 + 1 + 1, 0, none⟩ = some y ∧
    W.frozen? ⟨w.heap.size + 1, 0, none⟩ = false ∧ W.frozen? ⟨w.heap.size + 1, 1, none⟩ = false ∧ W.frozen? ⟨w.heap.size + 1 + 1, 0, none⟩ = false ∧ W.frozen? ⟨w.heap.size + 1 + 1 + 1, 0, none⟩ = false := by
  obtain ⟨h1, h2, h3, h4⟩ := h
  obtain ⟨e1, e2⟩ := pair_cells h1
  exact ⟨e1, e2, h2.cell, h3.cell, row_frozen h1 0, row_frozen h1 1, h2.frozen, h3.frozen⟩
theorem TakeF.toR {w W : World} {v1 v2 : Value} (h : TakeF w v1 v2 W) : TakeR w (.slice none 0 0) (.slice none 0 0) (.int .i64 0) (.bool false) W := h.2

/-- take's answer. -/
def TakePost (s : List Int) (t : List (List Int)) (sts : List Int) (w : World) (e : Ending) (w' : World) : Prop :=
  Below w.heap.size w w' ∧ (
    ((rightP s t = false ∨ takeB s sts = none) ∧ e = .returned (.tuple #[.agg #[.slice none 0 0, .slice none 0 0], .int .i64 0, .bool false])) ∨
    (∃ b v, rightP s t = true ∧ takeB s sts = some b ∧ e = .returned (.tuple #[v, .int .i64 (b : Nat), .bool true]) ∧ PoolIn w.heap.size w'.heap.size w' v (s.set b 5) t))

/-- In the loop: nothing has turned yet. -/
def TakeI (w w1 : World) (v1 v2 : Value) (g B7 : Nat) (T0 : Nat → Prop) (k : Nat) (T1 : Nat → Prop) (W : World) : Prop :=
  k = 0 ∧ (∀ b, T1 b ↔ T0 b) ∧ TakeF w v1 v2 W ∧ Boxed W B7 46 (.pointer (some ⟨g, 0, none⟩)) ∧ Below w1.heap.size w1 W
/-- Behind it. -/
def TakeX (w w0 w1 : World) (vs : Value) (s sts : List Int) (t : List (List Int)) (c : Code) (_ : Nat) (_ : Nat → Prop) (W : World) : Prop :=
  c = .ret ∧ ∃ b vt, takeB s sts = some b ∧ TakeR w vs vt (.int .i64 (b : Nat)) (.bool true) W ∧ PoolIn w0.heap.size w1.heap.size W (.agg #[vs, vt]) (s.set b 5) t ∧ w1.heap.size ≤ W.heap.size

theorem TakeF.quiet {w W W' : World} {v1 v2 : Value} {B : Nat} {T : Nat → Prop} (h : TakeF w v1 v2 W) (hq : Quiet B T W W') (hB : w.heap.size + 4 ≤ B) : TakeF w v1 v2 W' := by
  obtain ⟨h1, h2, h3, h4, h5⟩ := h
  exact ⟨hq.cells h1 (.inl (by omega)), hq.cells h2 (.inl (by omega)), hq.boxed h3 (.inl (by omega)), hq.boxed h4 (.inl (by omega)), hq.below h5 (by omega) (Nat.le_refl _)⟩
theorem takeB_at {s sts : List Int} {m : Nat} (h : (blocksL s sts)[0]? = some m) : takeB s sts = some m ∧ m < s.length := by
  refine ⟨by unfold takeB; rw [List.head?_eq_getElem?]; exact h, ?_⟩
  have := List.mem_of_getElem? h
  unfold blocksL at this
  rw [List.mem_filter, List.mem_range] at this
  exact this.1
theorem takeB_none {s sts : List Int} (h : (blocksL s sts).length = 0) : takeB s sts = none := by
  unfold takeB; rw [List.length_eq_zero_iff.1 h]; rfl

set_option maxRecDepth 10000 in
set_option maxHeartbeats 2000000 in
theorem take_any {n : Nat} {v vst : Value} {s sts : List Int} {t : List (List Int)} {w : World} (h : IsPool n w v s t) (hst : IsInts n w vst sts) (hn : n ≤ w.heap.size) :
    Calls Tryz.prog 25 #[v, vst] w (TakePost s t sts w) := by
  have hok := h.ok
  have hls := hok.ls
  unfold big at hls
  refine callsIn_wide.1 (callsIn_of_wp_marks (n := 0) Tryz.func25 rfl trivial ?_)
  simp only [Tryz.ntmps25, List.size_toArray, List.length_cons, List.length_nil, Nat.reduceAdd, Nat.reduceSub, Array.replicate_succ, Array.replicate_zero, List.push_toArray, List.append_toArray, List.nil_append, List.cons_append]
  obtain ⟨v1, v2, rfl, hs, ht⟩ := h
  gi_wp2_with fail
  refine wpIn_scope_fwd 0 rfl ?_
  obtain ⟨w0, hw0⟩ : ∃ x, x = (((w.alloc (Obj.cells #[v1, v2] 25)).alloc (Obj.cells #[.slice none 0 0, .slice none 0 0] 25)).alloc (Obj.cells #[Value.int IntKind.i64 0] 3)).alloc (Obj.cells #[Value.bool false] 4) := ⟨_, rfl⟩
  rw [← hw0]
  have hF0 : TakeF w v1 v2 w0 := by rw [hw0]; exact TakeF.new w v1 v2
  have hs0 := hF0.size
  have hb0 := hF0.2.2.2.2
  obtain ⟨y1, y2⟩ := pair_cells hF0.1
  have hO := own_any (n := n) (v := .agg #[v1, v2]) (s := s) (t := t) (w := w0) ⟨v1, v2, rfl, hs.below (hb0.mono hn), ht.below (hb0.mono hn)⟩ (by omega)
  clear hw0
  gi_wp2_with fail
  refine (callsIn_wide.2 hO).mono ?_
  rintro e w1 ⟨g, rfl, ⟨vs, hOwn⟩, hb1⟩
  clear hO y1 y2
  have hF1 := hF0.kept hb1
  have hs1 := hb1.size
  replace hOwn : OwnI2 w0.heap.size g w1 vs s t := hOwn
  obtain ⟨w2, hw2⟩ : ∃ x, x = w1.alloc (Obj.cells #[Value.pointer (some ⟨g, 0, none⟩)] 46) := ⟨_, rfl⟩
  have hb2 : Below w1.heap.size w1 w2 := by rw [hw2]; exact kept_alloc (Below.refl _ _) _
  have hs2 : w2.heap.size = w1.heap.size + 1 := by rw [hw2]; simp
  have hF2 := hF1.kept hb2
  obtain ⟨y1, y2⟩ := pair_cells hF2.1
  have hk2 : Boxed w2 w1.heap.size 46 (.pointer (some ⟨g, 0, none⟩)) := by rw [hw2]; exact Boxed.new _ _ _
  have hR := poolRight_any (n := n) (v := .agg #[v1, v2]) (s := s) (t := t) (w := w2) ⟨v1, v2, rfl, hs.below (hF2.2.2.2.2.mono hn), ht.below (hF2.2.2.2.2.mono hn)⟩ (by omega)
  rw [hw2] at y1 y2
  gi_wp2_with fail
  rw [← hw2]
  refine (callsIn_wide.2 hR).mono ?_
  rintro e w3 ⟨rfl, hb3⟩
  clear hR hw2 y1 y2
  have hF3 := hF2.kept hb3
  have hk3 := box_kept hk2 hb3
  have hs3 := hb3.size
  cases hr : rightP s t with
  | false =>
    obtain ⟨e1, e2, e3, e4, e5, e6, e7, e8⟩ := (TakeF.toR hF3).cells
    have hW := (TakeF.toR hF3).write (.slice none 0 0) (.slice none 0 0) (.int .i64 0) (.bool false)
    have HF := Lib.hid hW
    have HR := Lib.hid hr
    clear hF3 hF2 hF1 hF0 hb0 hb1 hb2 hb3 hk2 hk3 hOwn hs ht hr hW
    gi_wp2_with fail
    apply wpIn_goto
    refine ⟨rfl, (wpIn_wide (n := 0)).1 ?_⟩
    gi_wp2_with fail
    rw [Exit.noGoto_ret]
    obtain ⟨r1, r2, r3, r4, _⟩ := HF.out.cells
    refine end_plain rfl ⟨.tuple #[.agg #[.slice none 0 0, .slice none 0 0], .int .i64 0, .bool false], ?_, HF.out.2.2.2, .inl ⟨.inl HR.out, rfl⟩⟩
    clear e1 e2 e3 e4 e5 e6 e7 e8
    simp [results, Tryz.results25, go_sem, r1, r2, r3, r4]
  | true =>
    have HR := Lib.hid hr
    clear hr
    obtain ⟨sa, sl, sc, rfl⟩ : ∃ a l c, vst = .slice a l c := by obtain ⟨a, c, rfl, _⟩ := hst.open; exact ⟨a, _, c, rfl⟩
    have k1 := hk3.cell
    have hmk := blocksMaker_any (some ⟨g, 0, none⟩) sa sl sc w3
    obtain ⟨w4, hw4⟩ : ∃ x, x = (w3.alloc (.cells #[.pointer (some ⟨g, 0, none⟩)] 46)).alloc (.cells #[.slice sa sl sc] 22) := ⟨_, rfl⟩
    rw [← hw4] at hmk
    have hb4 : Below w3.heap.size w3 w4 := by rw [hw4]; exact kept_alloc (kept_alloc (Below.refl _ _) _) _
    have hs4 : w4.heap.size = w3.heap.size + 2 := by rw [hw4]; simp
    have hB1 : Boxed w4 w3.heap.size 46 (.pointer (some ⟨g, 0, none⟩)) := by rw [hw4]; exact (Boxed.new w3 _ _).alloc _
    have hB2 : Boxed w4 (w3.heap.size + 1) 22 (.slice sa sl sc) := by rw [hw4]; simpa using Boxed.new (w3.alloc (.cells #[.pointer (some ⟨g, 0, none⟩)] 46)) 22 (.slice sa sl sc)
    clear hw4
    have hF4 := hF3.kept hb4
    have hk4 := box_kept hk3 hb4
    have hb14 : Below w1.heap.size w1 w4 := (hb2.trans (hb3.mono (by omega))).trans (hb4.mono (by omega))
    obtain ⟨vt, hg1, hP⟩ := hOwn.isPool hok
    have hg4 := (hb14.block _ (Array.getElem?_eq_some_iff.1 hg1).1).trans hg1
    have hgl := (Array.getElem?_eq_some_iff.1 hg1).1
    obtain ⟨vs', vt', hE, hPs, hPt⟩ := hP
    cases hE
    obtain ⟨ta, tc, rfl, htc⟩ := hPt.open
    have hIt := blocks_iter (n := w1.heap.size) (hPs.below hb14) ((hst.below (hF4.2.2.2.2.mono hn)).wider (by omega)) hB1 hg4 hB2 (by omega)
    gi_wp2_with fail
    refine (callsIn_wide.2 hmk).mono ?_
    rintro e w5 ⟨rfl, he5⟩
    obtain rfl := he5.symm
    gi_wp2_with fail
    refine range_oneS 8 rfl (enters_of Tryz.func68 (by kernel_rfl) rfl) hIt.iterS (Below.refl _ _)
      (fun b => w.heap.size ≤ b ∧ b < w4.heap.size) (fun b hb => hb.2)
      (TakeI w w1 v1 v2 g w1.heap.size (fun b => w.heap.size ≤ b ∧ b < w4.heap.size)) (TakeX w w0 w1 vs s sts t)
      ?hI ?hIx (fun k T1 A h => by cases h.1) ?h0 ?assign ?body ?done ?stop
    case hI =>
      rintro j T1 A B ⟨i1, i2, i3, i4, i5⟩ hq
      exact ⟨i1, i2, i3.quiet hq (by omega), hq.boxed i4 (.inl (by have := hk2.lt; omega)), hq.below i5 (by omega) (Nat.le_refl _)⟩
    case hIx =>
      rintro c j T1 A B ⟨i1, b, vt', i2, i3, i4, i5⟩ hq
      exact ⟨i1, b, vt', i2, i3.quiet hq (by omega) (fun b hb => .inl (by omega)), i4.agree (AgreeIn.of_below (hq.upto (n := w1.heap.size) (by omega) i5) (Nat.le_refl _)), Nat.le_trans i5 hq.size⟩
    case h0 => exact ⟨rfl, fun b => Iff.rfl, hF4, hk4, hb14⟩
    case assign =>
      intro lp j x W K hx hK
      obtain ⟨m, hm, rfl⟩ := map_at hx
      simp only [encN] at hK ⊢
      gi_wp2
      exact hK
    case body =>
      rintro lp j x T1 W hx ⟨rfl, i2, i3, i4, i5⟩ ht
      obtain ⟨m, hm, rfl⟩ := map_at hx
      obtain ⟨hm1, hm2⟩ := takeB_at hm
      obtain ⟨gs, cap, u, rfl, hgB, hgs, _, hc0, hf0, hO2⟩ := hOwn.set hm2 5
      obtain ⟨vt2, hg2, hP2⟩ := hO2.poolIn (hok.set m (x := 5) (by unfold I64; omega))
      have h0k := i4.cell
      have hgW := (i5.block g hgl).trans hg1
      obtain ⟨p1, p2⟩ := pair_cells hgW
      have hcW : W.cell? ⟨gs, m, none⟩ = some u := (i5.cell (p := ⟨gs, m, none⟩) (by show gs < _; omega)).trans hc0
      have hfW : W.frozen? ⟨gs, m, none⟩ = false := (i5.frozen (p := ⟨gs, m, none⟩) (by show gs < _; omega)).trans hf0
      obtain ⟨e1, e2, e3, e4, e5, e6, e7, e8⟩ := (TakeF.toR i3).cells
      have n1 : ¬ g = gs := by omega
      have n2 : ¬ w.heap.size + 1 = gs := by omega
      have n3 : ¬ w.heap.size + 1 + 1 = gs := by omega
      have n4 : ¬ w.heap.size + 1 + 1 + 1 = gs := by omega
      have n5 : ¬ w1.heap.size = gs := by omega
      have hml : (m : Int) < (s.length : Int) := by omega
      have hB2 : TakeR w (.slice none 0 0) (.slice none 0 0) (.int .i64 0) (.bool false) (W.setCell ⟨gs, m, none⟩ (.int .i64 5)) :=
        ⟨(Below.heap_setCell _ _ _ _ (by show w.heap.size + 1 ≠ gs; omega)).trans i3.2.1, (Below.heap_setCell _ _ _ _ (by show w.heap.size + 1 + 1 ≠ gs; omega)).trans i3.2.2.1, (Below.heap_setCell _ _ _ _ (by show w.heap.size + 1 + 1 + 1 ≠ gs; omega)).trans i3.2.2.2.1, i3.2.2.2.2.setCell (p := ⟨gs, m, none⟩) (by show w.heap.size ≤ gs; omega) _⟩
      have hRW := hB2.write (.slice (some ⟨gs, 0, none⟩) s.length cap) (.slice ta t.length tc) (.int .i64 (m : Nat)) (.bool true)
      obtain ⟨f1, f2, f3, f4, f5, f6, f7, f8⟩ := hB2.cells
      have n6 : ¬ gs = w.heap.size + 1 := by omega
      have n7 : ¬ gs = w.heap.size + 1 + 1 := by omega
      have n8 : ¬ gs = w.heap.size + 1 + 1 + 1 := by omega
      have hPW : PoolIn w0.heap.size w1.heap.size (put4 (w.heap.size + 1) (w.heap.size + 1 + 1) (w.heap.size + 1 + 1 + 1) (.slice (some ⟨gs, 0, none⟩) s.length cap) (.slice ta t.length tc) (.int .i64 (m : Nat)) (.bool true) (W.setCell ⟨gs, m, none⟩ (.int .i64 5))) (.agg #[.slice (some ⟨gs, 0, none⟩) s.length cap, .slice ta t.length tc]) (s.set m 5) t := by
        have hvt : vt2 = .slice ta t.length tc := by
          rw [Below.heap_setCell _ _ _ _ n1] at hg2
          rw [hg2] at hg1
          simpa using hg1
        subst hvt
        have hsz : (w1.setCell ⟨gs, m, none⟩ (.int .i64 5)).heap.size = w1.heap.size := by simp [World.setCell]
        rw [hsz] at hP2
        exact (hP2.agree (AgreeIn.of_below (below_set_both i5 (p := ⟨gs, m, none⟩) (.int .i64 5)) (Nat.le_refl _))).agree (AgreeIn.of_only (put4_only _ _ _ _ _) (fun k h1 h2 => by rintro (h | h | h) <;> omega))
      have hO4 : Only T1 W ((((((W.setCell ⟨gs, m, none⟩ (.int .i64 5)).setCell ⟨w.heap.size + 1, 0, none⟩ (.slice (some ⟨gs, 0, none⟩) s.length cap)).setCell ⟨w.heap.size + 1, 1, none⟩ (.slice ta t.length tc)).setCell ⟨w.heap.size + 1 + 1, 0, none⟩ (.int .i64 (m : Nat))).setCell ⟨w.heap.size + 1 + 1 + 1, 0, none⟩ (.bool true))) :=
        (((((Only.refl T1 W).setCell (p := ⟨gs, m, none⟩) (.inl ((i2 gs).2 ⟨by omega, by omega⟩)) _).setCell (p := ⟨w.heap.size + 1, 0, none⟩) (.inl ((i2 (w.heap.size + 1)).2 ⟨by omega, by omega⟩)) _).setCell (p := ⟨w.heap.size + 1, 1, none⟩) (.inl ((i2 (w.heap.size + 1)).2 ⟨by omega, by omega⟩)) _).setCell (p := ⟨w.heap.size + 1 + 1, 0, none⟩) (.inl ((i2 (w.heap.size + 1 + 1)).2 ⟨by omega, by omega⟩)) _).setCell (p := ⟨w.heap.size + 1 + 1 + 1, 0, none⟩) (.inl ((i2 (w.heap.size + 1 + 1 + 1)).2 ⟨by omega, by omega⟩)) _
      have HW := Lib.hid hRW
      have HO4 := Lib.hid hO4
      have HPW := Lib.hid hPW
      have I2 := Lib.hid i2
      have M1 := Lib.hid hm1
      clear hRW hO4 hPW hx hm i2 hm1 hP2 hO2
      simp only [encN]
      gi_wp2
      have hsz : w1.heap.size ≤ W.heap.size := i5.size
      exact ⟨T1, fun b hb => .inl hb, HO4.out, rfl, m, _, M1.out, HW.out, HPW.out, by simpa [World.setCell] using hsz⟩
    case done =>
      rintro D T1 W hD ⟨i1, i2, i3, i4, i5⟩ hd
      have hnone := takeB_none (s := s) (sts := sts) (by simpa using i1)
      obtain ⟨f1, f2, f3, f4, f5, f6, f7, f8⟩ := (TakeF.toR i3).cells
      have hW := (TakeF.toR i3).write (.slice none 0 0) (.slice none 0 0) (.int .i64 0) (.bool false)
      have HW := Lib.hid hW
      have HN := Lib.hid hnone
      have hDm := mark_set (mark_set (mark_set (mark_set hd ⟨w.heap.size + 1, 0, none⟩ (.slice none 0 0)) ⟨w.heap.size + 1, 1, none⟩ (.slice none 0 0)) ⟨w.heap.size + 1 + 1, 0, none⟩ (.int .i64 0)) ⟨w.heap.size + 1 + 1 + 1, 0, none⟩ (.bool false)
      have HD := Lib.hid hDm
      clear hW hnone i1 i2 i3 i4 i5 hd hDm
      gi_wp2
      apply wpIn_label
      gi_wp2
      refine end_mark (B := w.heap.size) (by omega) HD.out (fun w' hq => ?_)
      obtain ⟨r1, r2, r3, r4, _⟩ := (HW.out.quiet hq (Nat.le_refl _) (fun _ _ => .inr trivial)).cells
      refine ⟨.tuple #[.agg #[.slice none 0 0, .slice none 0 0], .int .i64 0, .bool false], ?_, hq.below HW.out.2.2.2 (Nat.le_refl _) (Nat.le_refl _), .inl ⟨.inr HN.out, rfl⟩⟩
      clear f1 f2 f3 f4 f5 f6 f7 f8
      simp [results, Tryz.results25, go_sem, r1, r2, r3, r4]
    case stop =>
      rintro D c j T1 W hD hj ⟨rfl, b, vt', i2, i3, i4, i5⟩ hd
      have HW := Lib.hid i3
      have HP := Lib.hid i4
      have HT := Lib.hid i2
      clear i2 i3 i4
      gi_wp2
      refine end_mark (B := w.heap.size) (by omega) hd (fun w' hq => ?_)
      obtain ⟨r1, r2, r3, r4, _⟩ := (HW.out.quiet hq (Nat.le_refl _) (fun _ _ => .inr trivial)).cells
      refine ⟨.tuple #[.agg #[vs, vt'], .int .i64 (b : Nat), .bool true], ?_, hq.below HW.out.2.2.2 (Nat.le_refl _) (Nat.le_refl _), .inr ⟨b, _, HR.out, HT.out, rfl, ?_⟩⟩
      · simp [results, Tryz.results25, go_sem, r1, r2, r3, r4]
      · exact (HP.out.agree (AgreeIn.of_quiet hq)).mono (by omega) (Nat.le_trans i5 hq.size)

theorem IsPool.open {n : Nat} {w : World} {v : Value} {s : List Int} {t : List (List Int)} (h : IsPool n w v s t) : ∃ a1 c1 a2 c2, v = .agg #[.slice a1 s.length c1, .slice a2 t.length c2] := by
  obtain ⟨v1, v2, rfl, h1, h2⟩ := h
  obtain ⟨a1, c1, rfl, _⟩ := h1.open
  obtain ⟨a2, c2, rfl, _⟩ := h2.open
  exact ⟨a1, c1, a2, c2, rfl⟩
/-- A block of one new integer, as a slice. -/
theorem ints_one {w : World} {g : Nat} {x : Int} (h : w.heap[g]? = some (.cells #[.int .i64 x] 3 (0, 0))) (hx : I64 x) : IsInts w.heap.size w (.slice (some ⟨g, 0, none⟩) 1 1) [x] := by
  refine ⟨some ⟨g, 0, none⟩, 1, rfl, Nat.le_refl _, by simp [big], fun j y hj => ?_⟩
  cases j with
  | zero =>
    simp at hj; subst hj
    exact ⟨g, 0, rfl, (Array.getElem?_eq_some_iff.1 h).1, by simp [World.cell?, h], hx⟩
  | succ j => simp at hj
/-- Two writes into a result cell. -/
theorem write2 {W : World} {B1 t1 : Nat} {va vb : Value} (h1 : W.heap[B1]? = some (.cells #[va, vb] t1 (0, 0))) (va' vb' : Value) :
    ((W.setCell ⟨B1, 0, none⟩ va').setCell ⟨B1, 1, none⟩ vb').heap[B1]? = some (.cells #[va', vb'] t1 (0, 0)) := pair_set1 (pair_set0 h1)
theorem write2_only {W : World} {B1 : Nat} (va' vb' : Value) : Only (fun b => b = B1) W ((W.setCell ⟨B1, 0, none⟩ va').setCell ⟨B1, 1, none⟩ vb') :=
  ((Only.refl (fun b => b = B1) W).setCell (p := ⟨B1, 0, none⟩) (.inl rfl) _).setCell (p := ⟨B1, 1, none⟩) (.inl rfl) _

end Go.Proofs.YtihmgiifphheeaaGreatDoor
