/- The law of a range over a function, by the shape of the loop's variables. -/
import Derived.Test.YtjhmghcfhgajcaaDoorData
namespace Go.Sel
open Go Go.RowKit

theorem zip_one (tm : Array Value) (p : Tmp) (x : Value) : (#[p].zip #[x]).foldl (fun t (p, v) => t.setIfInBounds p v) tm = tm.setIfInBounds p x := by simp
theorem zip_two (tm : Array Value) (p q : Tmp) (x y : Value) : (#[p, q].zip #[x, y]).foldl (fun t (p, v) => t.setIfInBounds p v) tm = (tm.setIfInBounds p x).setIfInBounds q y := by simp

theorem map_at {α β : Type} {f : α → β} {xs : List α} {j : Nat} {y : β} (h : (xs.map f)[j]? = some y) : ∃ x, xs[j]? = some x ∧ y = f x := by
  rw [List.getElem?_map] at h
  cases hx : xs[j]? with
  | none => rw [hx] at h; cases h
  | some x => rw [hx] at h; cases h; exact ⟨x, rfl, rfl⟩

theorem pair_cells {W : World} {B : Nat} {u v : Value} {t : TypeId} {f : Nat × Nat} (h : W.heap[B]? = some (.cells #[u, v] t f)) : W.cell? ⟨B, 0, none⟩ = some u ∧ W.cell? ⟨B, 1, none⟩ = some v := by
  constructor <;> simp [World.cell?, h]

theorem mark_set {W : World} {D : Nat} {x : Option (List Deferred)} (h : W.heap[D]? = some (.deferred x)) (p : Addr) (u : Value) : (W.setCell p u).heap[D]? = some (.deferred x) := (KeepsOthers.setCell W p u).same D _ h rfl
theorem mark_alloc {W : World} {D : Nat} {x : Option (List Deferred)} (h : W.heap[D]? = some (.deferred x)) (o : Obj) : (W.alloc o).heap[D]? = some (.deferred x) := (KeepsOthers.alloc W o).same D _ h rfl
theorem mark_kept {W W' : World} {D : Nat} {x : Option (List Deferred)} (h : W.heap[D]? = some (.deferred x)) (hb : Below W.heap.size W W') : W'.heap[D]? = some (.deferred x) := (hb.block _ (Array.getElem?_eq_some_iff.1 h).1).trans h

section
variable {P : Program} {g : Operand} {assign body : Code} {Q : Exit → Act → World → Prop} {a : Act} {w : World}
  {gf : Nat} {lb : Array Value} {foot : Nat → Prop} {w0 : World}

/-- No loop variable. -/
theorem range_zero {p : Tmp} {xs : List Value}
    (hg : a.eval g = .func (.func gf) #[] lb) (eg : ∀ args w, (callFunc gf args).run P w = .ok (.enter gf args) w)
    (hit : Iter P gf lb (xs.map fun x => #[x]) foot w0) (hb0 : Below w0.heap.size w0 w)
    (T : Nat → Prop) (hT : ∀ b, T b → b < w.heap.size ∧ ¬ foot b) (hfoot : ∀ b, foot b → b < w.heap.size)
    (I : Nat → (Nat → Prop) → World → Prop) (Ix : Code → Nat → (Nat → Prop) → World → Prop)
    (hI : ∀ k T A B, I k T A → Quiet w.heap.size T A B → I k T B) (hIx : ∀ c k T A B, Ix c k T A → Quiet w.heap.size T A B → Ix c k T B)
    (h0 : I 0 T w)
    (hbody : ∀ (l k : Nat) (x : Value) (T1 : Nat → Prop) (W : World), xs[k]? = some x → I k T1 W → (∀ b, T1 b → b < W.heap.size) →
      body.wpIn (Fence.wide.inRound l) 0 P (bodyEnd I Ix k T1 W) { tmps := a.tmps.setIfInBounds p x, defers := [] } W)
    (hdone : ∀ (D : Nat) (T1 : Nat → Prop) (W : World), w.heap.size ≤ D → I xs.length T1 W → W.heap[D]? = some (.deferred (some [])) →
      Q .normal { a with defers := { target := .collected D, args := #[] } :: a.defers } W)
    (hstop : ∀ (D : Nat) (c : Code) (k : Nat) (T1 : Nat → Prop) (W : World), w.heap.size ≤ D → k ≤ xs.length → Ix c k T1 W → W.heap[D]? = some (.deferred (some [])) →
      c.wpIn Fence.wide 0 P Q { a with defers := { target := .collected D, args := #[] } :: a.defers } W) :
    (Code.rangeFunc g #[p] .skip body).wpIn Fence.wide 0 P Q a w := by
  have hes : ∀ (k : Nat) es, (xs.map fun x => #[x])[k]? = some es → ∃ x, xs[k]? = some x ∧ es = #[x] := fun k es h => by
    rw [List.getElem?_map] at h
    cases hx : xs[k]? with
    | none => rw [hx] at h; cases h
    | some x => rw [hx] at h; cases h; exact ⟨x, rfl, rfl⟩
  refine range_gen hg eg hit hb0 (fun k es h => by obtain ⟨x, _, rfl⟩ := hes k es h; rfl) T hT hfoot I Ix hI hIx h0
    (fun k a' _ => ∃ x, xs[k]? = some x ∧ a' = { tmps := a.tmps.setIfInBounds p x, defers := [] }) (fun _ _ _ _ _ _ h _ _ => h)
    (fun l k es W K h _ hK => ?_) (fun l k es a' T1 W h ha hi ht => ?_) (by simpa using hdone) (by simpa using hstop)
  · obtain ⟨x, hx, rfl⟩ := hes k es h
    rw [zip_one]
    exact wpIn_skip (hK _ _ (Below.refl _ _) ⟨x, hx, rfl⟩)
  · obtain ⟨x, hx, rfl⟩ := ha
    exact hbody l k x T1 W hx hi ht

/-- One loop variable, in slot s. -/
theorem range_one {p : Tmp} (s : Tmp) {xs : List Value}
    (hg : a.eval g = .func (.func gf) #[] lb) (eg : ∀ args w, (callFunc gf args).run P w = .ok (.enter gf args) w)
    (hit : Iter P gf lb (xs.map fun x => #[x]) foot w0) (hb0 : Below w0.heap.size w0 w)
    (T : Nat → Prop) (hT : ∀ b, T b → b < w.heap.size ∧ ¬ foot b) (hfoot : ∀ b, foot b → b < w.heap.size)
    (I : Nat → (Nat → Prop) → World → Prop) (Ix : Code → Nat → (Nat → Prop) → World → Prop)
    (hI : ∀ k T A B, I k T A → Quiet w.heap.size T A B → I k T B) (hIx : ∀ c k T A B, Ix c k T A → Quiet w.heap.size T A B → Ix c k T B)
    (h0 : I 0 T w)
    (hassign : ∀ (l k : Nat) (x : Value) (W : World) (K : Act → World → Prop), xs[k]? = some x → K { tmps := (a.tmps.setIfInBounds p x).setIfInBounds s x, defers := [] } W →
      assign.wpIn (Fence.wide.inRound l) 0 P (Exit.then K (fun _ _ _ => False)) { tmps := a.tmps.setIfInBounds p x, defers := [] } W)
    (hbody : ∀ (l k : Nat) (x : Value) (T1 : Nat → Prop) (W : World), xs[k]? = some x → I k T1 W → (∀ b, T1 b → b < W.heap.size) →
      body.wpIn (Fence.wide.inRound l) 0 P (bodyEnd I Ix k T1 W) { tmps := (a.tmps.setIfInBounds p x).setIfInBounds s x, defers := [] } W)
    (hdone : ∀ (D : Nat) (T1 : Nat → Prop) (W : World), w.heap.size ≤ D → I xs.length T1 W → W.heap[D]? = some (.deferred (some [])) →
      Q .normal { a with defers := { target := .collected D, args := #[] } :: a.defers } W)
    (hstop : ∀ (D : Nat) (c : Code) (k : Nat) (T1 : Nat → Prop) (W : World), w.heap.size ≤ D → k ≤ xs.length → Ix c k T1 W → W.heap[D]? = some (.deferred (some [])) →
      c.wpIn Fence.wide 0 P Q { a with defers := { target := .collected D, args := #[] } :: a.defers } W) :
    (Code.rangeFunc g #[p] assign body).wpIn Fence.wide 0 P Q a w := by
  have hes : ∀ (k : Nat) es, (xs.map fun x => #[x])[k]? = some es → ∃ x, xs[k]? = some x ∧ es = #[x] := fun k es h => by
    rw [List.getElem?_map] at h
    cases hx : xs[k]? with
    | none => rw [hx] at h; cases h
    | some x => rw [hx] at h; cases h; exact ⟨x, rfl, rfl⟩
  refine range_gen hg eg hit hb0 (fun k es h => by obtain ⟨x, _, rfl⟩ := hes k es h; rfl) T hT hfoot I Ix hI hIx h0
    (fun k a' _ => ∃ x, xs[k]? = some x ∧ a' = { tmps := (a.tmps.setIfInBounds p x).setIfInBounds s x, defers := [] }) (fun _ _ _ _ _ _ h _ _ => h)
    (fun l k es W K h _ hK => ?_) (fun l k es a' T1 W h ha hi ht => ?_) (by simpa using hdone) (by simpa using hstop)
  · obtain ⟨x, hx, rfl⟩ := hes k es h
    rw [zip_one]
    exact hassign l k x W K hx (hK _ _ (Below.refl _ _) ⟨x, hx, rfl⟩)
  · obtain ⟨x, hx, rfl⟩ := ha
    exact hbody l k x T1 W hx hi ht

/-- One loop variable, in a new block of each round's, of type t, its address in slot s. -/
theorem range_box {p : Tmp} (s : Tmp) (t : TypeId) {xs : List Value}
    (hg : a.eval g = .func (.func gf) #[] lb) (eg : ∀ args w, (callFunc gf args).run P w = .ok (.enter gf args) w)
    (hit : Iter P gf lb (xs.map fun x => #[x]) foot w0) (hb0 : Below w0.heap.size w0 w)
    (T : Nat → Prop) (hT : ∀ b, T b → b < w.heap.size ∧ ¬ foot b) (hfoot : ∀ b, foot b → b < w.heap.size)
    (I : Nat → (Nat → Prop) → World → Prop) (Ix : Code → Nat → (Nat → Prop) → World → Prop)
    (hI : ∀ k T A B, I k T A → Quiet w.heap.size T A B → I k T B) (hIx : ∀ c k T A B, Ix c k T A → Quiet w.heap.size T A B → Ix c k T B)
    (h0 : I 0 T w)
    (hassign : ∀ (l k : Nat) (x : Value) (W : World) (K : Act → World → Prop), xs[k]? = some x →
      K { tmps := (a.tmps.setIfInBounds p x).setIfInBounds s (.pointer (some ⟨W.heap.size, 0, none⟩)), defers := [] } (W.alloc (.cells x.cells t)) →
      assign.wpIn (Fence.wide.inRound l) 0 P (Exit.then K (fun _ _ _ => False)) { tmps := a.tmps.setIfInBounds p x, defers := [] } W)
    (hbody : ∀ (l k : Nat) (x : Value) (b : Nat) (T1 : Nat → Prop) (W : World), xs[k]? = some x → W.heap[b]? = some (.cells x.cells t (0, 0)) → I k T1 W → (∀ b, T1 b → b < W.heap.size) →
      body.wpIn (Fence.wide.inRound l) 0 P (bodyEnd I Ix k T1 W) { tmps := (a.tmps.setIfInBounds p x).setIfInBounds s (.pointer (some ⟨b, 0, none⟩)), defers := [] } W)
    (hdone : ∀ (D : Nat) (T1 : Nat → Prop) (W : World), w.heap.size ≤ D → I xs.length T1 W → W.heap[D]? = some (.deferred (some [])) →
      Q .normal { a with defers := { target := .collected D, args := #[] } :: a.defers } W)
    (hstop : ∀ (D : Nat) (c : Code) (k : Nat) (T1 : Nat → Prop) (W : World), w.heap.size ≤ D → k ≤ xs.length → Ix c k T1 W → W.heap[D]? = some (.deferred (some [])) →
      c.wpIn Fence.wide 0 P Q { a with defers := { target := .collected D, args := #[] } :: a.defers } W) :
    (Code.rangeFunc g #[p] assign body).wpIn Fence.wide 0 P Q a w := by
  have hes : ∀ (k : Nat) es, (xs.map fun x => #[x])[k]? = some es → ∃ x, xs[k]? = some x ∧ es = #[x] := fun k es h => by
    rw [List.getElem?_map] at h
    cases hx : xs[k]? with
    | none => rw [hx] at h; cases h
    | some x => rw [hx] at h; cases h; exact ⟨x, rfl, rfl⟩
  refine range_gen hg eg hit hb0 (fun k es h => by obtain ⟨x, _, rfl⟩ := hes k es h; rfl) T hT hfoot I Ix hI hIx h0
    (fun k a' W => ∃ x b, xs[k]? = some x ∧ W.heap[b]? = some (.cells x.cells t (0, 0)) ∧ a' = { tmps := (a.tmps.setIfInBounds p x).setIfInBounds s (.pointer (some ⟨b, 0, none⟩)), defers := [] })
    (fun k a' A l o o' h hl ho => by obtain ⟨x, b, h1, h2, h3⟩ := h; exact ⟨x, b, h1, (World.putObj_heap_other (fun e => by subst e; rw [h2] at hl; cases hl; cases ho)).trans h2, h3⟩)
    (fun l k es W K h _ hK => ?_) (fun l k es a' T1 W h ha hi ht => ?_) (by simpa using hdone) (by simpa using hstop)
  · obtain ⟨x, hx, rfl⟩ := hes k es h
    rw [zip_one]
    exact hassign l k x W K hx (hK _ _ ((Below.refl _ _).alloc (Nat.le_refl _) _) ⟨x, _, hx, World.alloc_heap_new W _, rfl⟩)
  · obtain ⟨x, b, hx, hb, rfl⟩ := ha
    exact hbody l k x b T1 W hx hb hi ht

/-- Two loop variables, in slots s1 and s2. -/
theorem range_two {p1 p2 : Tmp} (s1 s2 : Tmp) {xs : List (Value × Value)}
    (hg : a.eval g = .func (.func gf) #[] lb) (eg : ∀ args w, (callFunc gf args).run P w = .ok (.enter gf args) w)
    (hit : Iter P gf lb (xs.map fun x => #[x.1, x.2]) foot w0) (hb0 : Below w0.heap.size w0 w)
    (T : Nat → Prop) (hT : ∀ b, T b → b < w.heap.size ∧ ¬ foot b) (hfoot : ∀ b, foot b → b < w.heap.size)
    (I : Nat → (Nat → Prop) → World → Prop) (Ix : Code → Nat → (Nat → Prop) → World → Prop)
    (hI : ∀ k T A B, I k T A → Quiet w.heap.size T A B → I k T B) (hIx : ∀ c k T A B, Ix c k T A → Quiet w.heap.size T A B → Ix c k T B)
    (h0 : I 0 T w)
    (hassign : ∀ (l k : Nat) (x : Value × Value) (W : World) (K : Act → World → Prop), xs[k]? = some x →
      K { tmps := (((a.tmps.setIfInBounds p1 x.1).setIfInBounds p2 x.2).setIfInBounds s1 x.1).setIfInBounds s2 x.2, defers := [] } W →
      assign.wpIn (Fence.wide.inRound l) 0 P (Exit.then K (fun _ _ _ => False)) { tmps := (a.tmps.setIfInBounds p1 x.1).setIfInBounds p2 x.2, defers := [] } W)
    (hbody : ∀ (l k : Nat) (x : Value × Value) (T1 : Nat → Prop) (W : World), xs[k]? = some x → I k T1 W → (∀ b, T1 b → b < W.heap.size) →
      body.wpIn (Fence.wide.inRound l) 0 P (bodyEnd I Ix k T1 W) { tmps := (((a.tmps.setIfInBounds p1 x.1).setIfInBounds p2 x.2).setIfInBounds s1 x.1).setIfInBounds s2 x.2, defers := [] } W)
    (hdone : ∀ (D : Nat) (T1 : Nat → Prop) (W : World), w.heap.size ≤ D → I xs.length T1 W → W.heap[D]? = some (.deferred (some [])) →
      Q .normal { a with defers := { target := .collected D, args := #[] } :: a.defers } W)
    (hstop : ∀ (D : Nat) (c : Code) (k : Nat) (T1 : Nat → Prop) (W : World), w.heap.size ≤ D → k ≤ xs.length → Ix c k T1 W → W.heap[D]? = some (.deferred (some [])) →
      c.wpIn Fence.wide 0 P Q { a with defers := { target := .collected D, args := #[] } :: a.defers } W) :
    (Code.rangeFunc g #[p1, p2] assign body).wpIn Fence.wide 0 P Q a w := by
  have hes : ∀ (k : Nat) es, (xs.map fun x => #[x.1, x.2])[k]? = some es → ∃ x, xs[k]? = some x ∧ es = #[x.1, x.2] := fun k es h => by
    rw [List.getElem?_map] at h
    cases hx : xs[k]? with
    | none => rw [hx] at h; cases h
    | some x => rw [hx] at h; cases h; exact ⟨x, rfl, rfl⟩
  refine range_gen hg eg hit hb0 (fun k es h => by obtain ⟨x, _, rfl⟩ := hes k es h; rfl) T hT hfoot I Ix hI hIx h0
    (fun k a' _ => ∃ x, xs[k]? = some x ∧ a' = { tmps := (((a.tmps.setIfInBounds p1 x.1).setIfInBounds p2 x.2).setIfInBounds s1 x.1).setIfInBounds s2 x.2, defers := [] }) (fun _ _ _ _ _ _ h _ _ => h)
    (fun l k es W K h _ hK => ?_) (fun l k es a' T1 W h ha hi ht => ?_) (by simpa using hdone) (by simpa using hstop)
  · obtain ⟨x, hx, rfl⟩ := hes k es h
    rw [zip_two]
    exact hassign l k x W K hx (hK _ _ (Below.refl _ _) ⟨x, hx, rfl⟩)
  · obtain ⟨x, hx, rfl⟩ := ha
    exact hbody l k x T1 W hx hi ht
end
end Go.Sel
