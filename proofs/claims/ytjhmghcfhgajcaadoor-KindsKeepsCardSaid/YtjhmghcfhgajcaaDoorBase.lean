/- The base of the walks: what a world keeps (Only, Quiet), an iterator's contract (Iter) and the law of a range over a function (range_wide), over any program. -/
import Derived.RangeFuncNested
import Derived.RangeFuncCalls
import Derived.RangeFuncLeaves
import Derived.RangeFuncBox
import Derived.Below
import Derived.WalkKit
import Derived.WalkSmall
import Derived.Lib.Hide
import Derived.WalkMore
import Derived.ScopeJumps
namespace Go.Sel
open Go Go.RowKit

/-- All blocks of w but those in S are as they were; none has gone. -/
structure Only (S : Nat → Prop) (w w' : World) : Prop where
  os : w'.os = w.os
  tape : w'.tape = w.tape
  output : w'.output = w.output
  size : w.heap.size ≤ w'.heap.size
  block : ∀ k, k < w.heap.size → ¬ S k → w'.heap[k]? = w.heap[k]?

theorem Only.refl (S : Nat → Prop) (w : World) : Only S w w := ⟨rfl, rfl, rfl, Nat.le_refl _, fun _ _ _ => rfl⟩
theorem Only.trans {S : Nat → Prop} {a b c : World} (h : Only S a b) (k : Only S b c) : Only S a c :=
  ⟨k.os.trans h.os, k.tape.trans h.tape, k.output.trans h.output, Nat.le_trans h.size k.size, fun i hi hs => (k.block i (Nat.lt_of_lt_of_le hi h.size) hs).trans (h.block i hi hs)⟩
theorem Only.mono {S S' : Nat → Prop} {a b : World} (h : Only S a b) (hs : ∀ k, k < a.heap.size → S k → S' k) : Only S' a b :=
  ⟨h.os, h.tape, h.output, h.size, fun i hi hn => h.block i hi (fun hS => hn (hs i hi hS))⟩
theorem Only.of_below {S : Nat → Prop} {w w' : World} (h : Below w.heap.size w w') : Only S w w' :=
  ⟨h.os, h.tape, h.output, h.size, fun i hi _ => h.block i hi⟩
theorem Only.below {S : Nat → Prop} {w w' : World} (h : Only S w w') {n : Nat} (hn : n ≤ w.heap.size) (hS : ∀ k, k < n → ¬ S k) : Below n w w' :=
  ⟨h.os, h.tape, h.output, h.size, fun i hi => h.block i (Nat.lt_of_lt_of_le hi hn) (hS i hi)⟩
theorem Only.alloc {S : Nat → Prop} {a w : World} (h : Only S a w) (o : Obj) : Only S a (w.alloc o) :=
  h.trans (Only.of_below ((Below.refl _ w).alloc (Nat.le_refl _) o))
theorem Only.drew {S : Nat → Prop} {a w : World} (h : Only S a w) : Only S a w.drew := h.trans (Only.of_below (Below.refl _ w).drew)
theorem Only.drewN {S : Nat → Prop} {a w : World} (h : Only S a w) (n : Nat) : Only S a (w.drewN n) := h.trans (Only.of_below (below_drewN (Below.refl _ w) n))
theorem Only.setCell {S : Nat → Prop} {a w : World} (h : Only S a w) {p : Addr} (hp : S p.block ∨ a.heap.size ≤ p.block) (u : Value) : Only S a (w.setCell p u) :=
  ⟨h.os, h.tape, h.output, by simpa [World.setCell] using h.size, fun k hk hn => by
    rw [Below.heap_setCell w p u k (fun e => by subst e; rcases hp with hp | hp; exact hn hp; omega)]; exact h.block k hk hn⟩
theorem Only.kept {S : Nat → Prop} {a w w' : World} (h : Only S a w) (k : Below w.heap.size w w') : Only S a w' := h.trans (Only.of_below k)
theorem Only.cell {S : Nat → Prop} {w w' : World} (h : Only S w w') {p : Addr} (hp : p.block < w.heap.size) (hS : ¬ S p.block) : w'.cell? p = w.cell? p :=
  World.cell?_of_block (w := w) (h.block p.block hp hS)
theorem Only.grown {S : Nat → Prop} {a w w' : World} {row : Option Nat} (h : Only S a w) (hg : w.grownBy w' row) (hr : ∀ k, row = some k → S k ∨ a.heap.size ≤ k) : Only S a w' :=
  ⟨hg.os.trans h.os, hg.tape.trans h.tape, hg.output.trans h.output, Nat.le_trans h.size hg.size, fun k hk hn =>
    (hg.block k (Nat.lt_of_lt_of_le hk h.size) (fun e => by rcases hr k e.symm with h1 | h1; exact hn h1; omega)).trans (h.block k hk hn)⟩

theorem below_size {n : Nat} {a b : World} (h : Below n a b) : a.heap.size ≤ b.heap.size := h.size
theorem Below.kept {n : Nat} {a b c : World} (h : Below n a b) (hn : n ≤ b.heap.size) (k : Below b.heap.size b c) : Below n a c := h.trans (k.mono hn)

/-- w' holds what w held in the blocks below B, and in those cells that T names. -/
structure Quiet (B : Nat) (T : Nat → Prop) (w w' : World) : Prop where
  os : w'.os = w.os
  tape : w'.tape = w.tape
  output : w'.output = w.output
  size : w.heap.size ≤ w'.heap.size
  block : ∀ (k : Nat) (o : Obj), w.heap[k]? = some o → (k < B ∨ (T k ∧ o.isCells = true)) → w'.heap[k]? = some o

theorem Quiet.refl (B : Nat) (T : Nat → Prop) (w : World) : Quiet B T w w := ⟨rfl, rfl, rfl, Nat.le_refl _, fun _ _ h _ => h⟩
theorem Quiet.trans {B : Nat} {T : Nat → Prop} {a b c : World} (h : Quiet B T a b) (k : Quiet B T b c) : Quiet B T a c :=
  ⟨k.os.trans h.os, k.tape.trans h.tape, k.output.trans h.output, Nat.le_trans h.size k.size, fun i o hi ho => k.block i o (h.block i o hi ho) ho⟩
theorem Quiet.of_below {B : Nat} {T : Nat → Prop} {w w' : World} (h : Below w.heap.size w w') : Quiet B T w w' :=
  ⟨h.os, h.tape, h.output, h.size, fun k _ hk _ => (h.block k (Array.getElem?_eq_some_iff.1 hk).1).trans hk⟩
theorem Quiet.of_only {B : Nat} {S T : Nat → Prop} {w w' : World} (h : Only S w w') (h1 : ∀ k, k < B → ¬ S k) (h2 : ∀ k, T k → ¬ S k) : Quiet B T w w' :=
  ⟨h.os, h.tape, h.output, h.size, fun k _ hk ho => (h.block k (Array.getElem?_eq_some_iff.1 hk).1 (by rcases ho with ho | ho; exact h1 k ho; exact h2 k ho.1)).trans hk⟩
theorem Quiet.putObj {B : Nat} {T : Nat → Prop} (w : World) {l : Nat} {o : Obj} (hl : w.heap[l]? = some o) (hB : B ≤ l) (ho : o.isCells = false) (o' : Obj) : Quiet B T w (w.putObj l o') :=
  ⟨rfl, rfl, rfl, by simp [World.putObj], fun k u hk hu => by
    by_cases e : k = l
    · subst e; rw [hl] at hk; cases hk; rcases hu with h1 | h1
      · omega
      · rw [ho] at h1; cases h1.2
    · rw [World.putObj_heap_other e]; exact hk⟩
theorem Quiet.boxed {B : Nat} {T : Nat → Prop} {w w' : World} (h : Quiet B T w w') {b : Nat} {t : TypeId} {v : Value} (hp : Boxed w b t v) (hb : b < B ∨ T b) : Boxed w' b t v :=
  h.block _ _ hp (hb.imp id (fun h => ⟨h, rfl⟩))
theorem Quiet.cells {B : Nat} {T : Nat → Prop} {w w' : World} (h : Quiet B T w w') {b : Nat} {c : Array Value} {t : TypeId} {f : Nat × Nat} (hp : w.heap[b]? = some (.cells c t f)) (hb : b < B ∨ T b) : w'.heap[b]? = some (.cells c t f) :=
  h.block _ _ hp (hb.imp id (fun h => ⟨h, rfl⟩))
theorem Quiet.upto {B n : Nat} {T : Nat → Prop} {w w' : World} (h : Quiet B T w w') (hn : n ≤ B) (hs : n ≤ w.heap.size) : Below n w w' :=
  ⟨h.os, h.tape, h.output, h.size, fun k hk => by
    obtain ⟨o, ho⟩ : ∃ o, w.heap[k]? = some o := ⟨_, Array.getElem?_eq_getElem (Nat.lt_of_lt_of_le hk hs)⟩
    rw [ho]; exact h.block k o ho (.inl (Nat.lt_of_lt_of_le hk hn))⟩
theorem Quiet.below {B n : Nat} {T : Nat → Prop} {a w w' : World} (h : Quiet B T w w') (hb : Below n a w) (hn : n ≤ B) (hs : n ≤ a.heap.size) : Below n a w' :=
  hb.trans (h.upto hn (Nat.le_trans hs hb.size))
theorem Quiet.ownsRow {B : Nat} {T : Nat → Prop} {w w' : World} (h : Quiet B T w w') {base : Nat} {e : TypeId} {size : Nat} {v : Value} {k : Nat} {xs : List Value} (hr : w.ownsRow base e size v k xs) (hb : ∀ g, v.ownBlock = some g → g < B ∨ T g) : w'.ownsRow base e size v k xs := by
  obtain ⟨h1, h2⟩ := hr
  refine ⟨h1, ?_⟩
  rcases h2 with h2 | ⟨g, cap, cur, rfl, hg, hh, r⟩
  · exact .inl h2
  · exact .inr ⟨g, cap, cur, rfl, hg, h.cells hh (hb g rfl), r⟩

/-- An iterator's contract: the value '.func (.func gf) #[] lb', made in w, hands yield the elements ess, one behind the other, as long as yield says true.
    foot: the blocks that it reads between two rounds. T: the blocks that the rounds may write: those of the caller's, and those that a round has laid itself. -/
def Iter (P : Program) (gf : Nat) (lb : Array Value) (ess : List (Array Value)) (foot : Nat → Prop) (w : World) : Prop :=
  ∀ (l : Nat) (J Jx : Nat → (Nat → Prop) → World → Prop) (T : Nat → Prop) (W : World), Below w.heap.size w W →
    (∀ k T A B, J k T A → Only (fun b => W.heap.size ≤ b ∧ ¬ T b) A B → J k T B) → (∀ k T A B, Jx k T A → Only (fun b => W.heap.size ≤ b ∧ ¬ T b) A B → Jx k T B) →
    (∀ b, T b → b < W.heap.size ∧ ¬ foot b) →
    (∀ (k : Nat) (T1 : Nat → Prop) (W1 : World) (es : Array Value), ess[k]? = some es → J k T1 W1 → (∀ b, T1 b → b < W1.heap.size) → YieldAt Fence.wide 0 P l es W1 fun e W' =>
      ∃ T2 : Nat → Prop, (∀ b, T2 b → T1 b ∨ (W1.heap.size ≤ b ∧ b < W'.heap.size)) ∧ Only T1 W1 W' ∧
        ((e = .returned (.bool true) ∧ J (k + 1) T2 W') ∨ (e = .returned (.bool false) ∧ Jx (k + 1) T2 W'))) →
    J 0 T W →
    CallsIn Fence.wide 0 P gf (#[.func (.yield l) #[] #[]] ++ lb) W fun e W' => (∃ v, e = .returned v) ∧ ∃ T2 : Nat → Prop, (J ess.length T2 W' ∨ ∃ k, k ≤ ess.length ∧ Jx k T2 W')

theorem Iter.later {P : Program} {gf : Nat} {lb : Array Value} {ess : List (Array Value)} {foot : Nat → Prop} {w w' : World} (h : Iter P gf lb ess foot w) (hb : Below w.heap.size w w') : Iter P gf lb ess foot w' :=
  fun l J Jx T W hW => h l J Jx T W (hb.trans (hW.mono hb.size))

/-- How a round's body may be left. -/
def bodyEnd (I : Nat → (Nat → Prop) → World → Prop) (Ix : Code → Nat → (Nat → Prop) → World → Prop) (k : Nat) (T : Nat → Prop) (W : World) : Exit → Act → World → Prop
  | .normal, _, W' => ∃ T2 : Nat → Prop, (∀ b, T2 b → T b ∨ (W.heap.size ≤ b ∧ b < W'.heap.size)) ∧ Only T W W' ∧ I (k + 1) T2 W'
  | .ret, _, W' => ∃ T2 : Nat → Prop, (∀ b, T2 b → T b ∨ (W.heap.size ≤ b ∧ b < W'.heap.size)) ∧ Only T W W' ∧ Ix .ret (k + 1) T2 W'
  | .exit id, _, W' => ∃ T2 : Nat → Prop, (∀ b, T2 b → T b ∨ (W.heap.size ≤ b ∧ b < W'.heap.size)) ∧ Only T W W' ∧ Ix (.exit id) (k + 1) T2 W'
  | .goto t, _, W' => ∃ T2 : Nat → Prop, (∀ b, T2 b → T b ∨ (W.heap.size ≤ b ∧ b < W'.heap.size)) ∧ Only T W W' ∧ Ix (.goto t) (k + 1) T2 W'
  | .panic _, _, _ => False
  | .outgrown, _, _ => False

@[go_sem] theorem wide_depth_none : Fence.wide.depth = none := rfl
@[go_sem] theorem wide_fn (f : FuncId) : Fence.wide.fn f = True := rfl
theorem wide_depth {p : Prop} : Fence.wide.depth.isSome = true → p := fun h => by simp [Fence.wide] at h

theorem range_gen {P : Program} {g : Operand} {ps : Array Tmp} {assign body : Code} {Q : Exit → Act → World → Prop} {a : Act} {w : World}
    {gf : Nat} {lb : Array Value} {ess : List (Array Value)} {foot : Nat → Prop} {w0 : World}
    (hg : a.eval g = .func (.func gf) #[] lb) (eg : ∀ args w, (callFunc gf args).run P w = .ok (.enter gf args) w)
    (hit : Iter P gf lb ess foot w0) (hb0 : Below w0.heap.size w0 w) (hps : ∀ (k : Nat) es, ess[k]? = some es → es.size = ps.size)
    (T : Nat → Prop) (hT : ∀ b, T b → b < w.heap.size ∧ ¬ foot b) (hfoot : ∀ b, foot b → b < w.heap.size)
    (I : Nat → (Nat → Prop) → World → Prop) (Ix : Code → Nat → (Nat → Prop) → World → Prop)
    (hI : ∀ k T A B, I k T A → Quiet w.heap.size T A B → I k T B) (hIx : ∀ c k T A B, Ix c k T A → Quiet w.heap.size T A B → Ix c k T B)
    (h0 : I 0 T w) (Ax : Nat → Act → World → Prop) (hAx : ∀ k a' A l o o', Ax k a' A → A.heap[l]? = some o → o.isCells = false → Ax k a' (A.putObj l o'))
    (hassign : ∀ (l k : Nat) (es : Array Value) (W : World) (K : Act → World → Prop), ess[k]? = some es → w.heap.size ≤ W.heap.size → (∀ a' W', Below W.heap.size W W' → Ax k a' W' → K a' W') →
      assign.wpIn (Fence.wide.inRound l) 0 P (Exit.then K (fun _ _ _ => False)) { tmps := (ps.zip es).foldl (fun t (p, v) => t.setIfInBounds p v) a.tmps, defers := [] } W)
    (hbody : ∀ (l k : Nat) (es : Array Value) (a' : Act) (T1 : Nat → Prop) (W : World), ess[k]? = some es → Ax k a' W → I k T1 W → (∀ b, T1 b → b < W.heap.size) →
      body.wpIn (Fence.wide.inRound l) 0 P (bodyEnd I Ix k T1 W) a' W)
    (hdone : ∀ (D : Nat) (T1 : Nat → Prop) (W : World), w.heap.size ≤ D → I ess.length T1 W → W.heap[D]? = some (.deferred (some [])) →
      Q .normal { a with defers := { target := .collected D, args := #[] } :: a.defers } W)
    (hstop : ∀ (D : Nat) (c : Code) (k : Nat) (T1 : Nat → Prop) (W : World), w.heap.size ≤ D → k ≤ ess.length → Ix c k T1 W → W.heap[D]? = some (.deferred (some [])) →
      c.wpIn Fence.wide 0 P Q { a with defers := { target := .collected D, args := #[] } :: a.defers } W) :
    (Code.rangeFunc g ps assign body).wpIn Fence.wide 0 P Q a w := by
  refine wpIn_rangeFunc ?_
  intro fn hfn
  obtain ⟨rec, hrec⟩ : ∃ rec : LoopState → Option Code → Loop, rec = fun st pe => { state := st, pending := pe, fn, tmps := a.tmps, params := ps, assign, body, defers := w.heap.size } := ⟨_, rfl⟩
  obtain ⟨W1, hW1⟩ : ∃ W1, (w.alloc (.deferred (some []))).alloc (.loop (rec .ready none)) = W1 := ⟨_, rfl⟩
  have hL1 : W1.heap[w.heap.size + 1]? = some (.loop (rec .ready none)) := by
    rw [← hW1]; have := World.alloc_heap_new (w.alloc (.deferred (some []))) (.loop (rec .ready none)); rwa [World.size_alloc] at this
  have hK1 : W1.heap[w.heap.size]? = some (.deferred (some [])) := by
    rw [← hW1]; exact (Below.heap_alloc _ _ _ (by simp)).trans (World.alloc_heap_new w _)
  have hbw : Below w.heap.size w W1 := by
    rw [← hW1]; exact (((Below.refl _ w).alloc (Nat.le_refl _) _).alloc (by simp) _)
  have hs1 : W1.heap.size = w.heap.size + 2 := by rw [← hW1]; simp
  have hI1 : I 0 T W1 := hI _ _ _ _ h0 (Quiet.of_below hbw)
  have hb1 : Below w0.heap.size w0 W1 := hb0.trans (hbw.mono hb0.size)
  refine ⟨w.heap.size + 1, [{ target := .collected w.heap.size, args := #[] }], W1, { target := .fn (.func gf) lb, args := #[.func (.yield (w.heap.size + 1)) #[] #[]] }, W1, gf,
    #[.func (.yield (w.heap.size + 1)) #[] #[]] ++ lb, W1, ?_, ?_, ?_, ?_, wide_depth, ?_⟩
  · rw [← hW1, hrec]; exact run_enterLoop_outer _ _ _ _ _
  · simp only [resolve, hg]
    simp [go_sem]
  · intro f' _; trivial
  · simp [invoke, go_sem, eg]
  · refine (hit (w.heap.size + 1)
      (fun k T1 W => ∃ T0 : Nat → Prop, (∀ b, T1 b ↔ T0 b ∨ b = w.heap.size + 1) ∧ ¬ T0 (w.heap.size + 1) ∧ ¬ T0 w.heap.size ∧ I k T0 W ∧
        W.heap[w.heap.size + 1]? = some (.loop (rec .ready none)) ∧ W.heap[w.heap.size]? = some (.deferred (some [])))
      (fun k T1 W => ∃ (T0 : Nat → Prop) (c : Code), (∀ b, T0 b → T1 b) ∧ Ix c k T0 W ∧
        W.heap[w.heap.size + 1]? = some (.loop (rec .done (some c))) ∧ W.heap[w.heap.size]? = some (.deferred (some [])))
      (fun b => T b ∨ b = w.heap.size + 1) W1 hb1 ?_ ?_ ?_ ?_ ⟨T, fun b => Iff.rfl, fun h => by have := (hT _ h).1; omega, fun h => by have := (hT _ h).1; omega, hI1, hL1, hK1⟩).mono ?_
    · rintro k T1 A B ⟨T0, h1, h2, h3, h4, h5, h6⟩ hAB
      exact ⟨T0, h1, h2, h3, hI _ _ _ _ h4 (Quiet.of_only hAB (fun k hk hS => by have := hS.1; omega) (fun k hk hS => hS.2 ((h1 k).2 (.inl hk)))), (hAB.block _ (Array.getElem?_eq_some_iff.1 h5).1 (fun hS => by have := hS.1; omega)).trans h5, (hAB.block _ (Array.getElem?_eq_some_iff.1 h6).1 (fun hS => by have := hS.1; omega)).trans h6⟩
    · rintro k T1 A B ⟨T0, c, h3, h4, h5, h6⟩ hAB
      exact ⟨T0, c, h3, hIx _ _ _ _ _ h4 (Quiet.of_only hAB (fun k hk hS => by have := hS.1; omega) (fun k hk hS => hS.2 (h3 k hk))), (hAB.block _ (Array.getElem?_eq_some_iff.1 h5).1 (fun hS => by have := hS.1; omega)).trans h5, (hAB.block _ (Array.getElem?_eq_some_iff.1 h6).1 (fun hS => by have := hS.1; omega)).trans h6⟩
    · rintro b (h | rfl)
      · have := hT b h; exact ⟨by omega, this.2⟩
      · exact ⟨by omega, fun h => by have := hfoot _ h; omega⟩
    · -- one round
      rintro k T1 W es hes ⟨T0, hT1, hnl, hnd, hi, hl, hk⟩ hlt1
      have hlt : w.heap.size + 1 < W.heap.size := (Array.getElem?_eq_some_iff.1 hl).1
      have hy := run_yield (P := P) (args := es) hl (by rw [hrec]; exact hps k es hes)
      rw [hrec] at hy
      refine ⟨fn, _, assign, body, hy, roundIn_of_wpIn hfn (hassign _ k es W _ hes (by omega) ?_)⟩
      clear hy
      intro a' Wa hba hax
      replace hl := (hba.block _ hlt).trans hl
      replace hk := (hba.block _ (by omega)).trans hk
      replace hi := hI _ _ _ _ hi (Quiet.of_below hba)
      have hsa := hba.size
      replace hlt : w.heap.size + 1 < Wa.heap.size := by omega
      replace hlt1 : ∀ b, T1 b → b < Wa.heap.size := fun b hb => Nat.lt_of_lt_of_le (hlt1 b hb) hsa
      have hoa : Only T1 W Wa := Only.of_below hba
      clear hba
      revert hoa hsa
      generalize W = Wb
      intro hsa hoa
      obtain ⟨W, rfl⟩ : ∃ W, W = Wa := ⟨_, rfl⟩
      refine ⟨_, run_beginRound hl (by rw [hrec]), ?_⟩
      have hl2 : (W.putObj (w.heap.size + 1) (.loop { rec .ready none with state := .busy })).heap[w.heap.size + 1]? = some (.loop { rec .ready none with state := .busy }) := World.putObj_heap_same hlt
      have hk2 : (W.putObj (w.heap.size + 1) (.loop { rec .ready none with state := .busy })).heap[w.heap.size]? = some (.deferred (some [])) := (World.putObj_heap_other (by omega)).trans hk
      have hsz2 : (W.putObj (w.heap.size + 1) (.loop { rec .ready none with state := .busy })).heap.size = W.heap.size := by simp [World.putObj]
      have hq2 : Only T1 W (W.putObj (w.heap.size + 1) (.loop { rec .ready none with state := .busy })) :=
        ⟨rfl, rfl, rfl, by rw [hsz2]; exact Nat.le_refl _, fun i hi hn => World.putObj_heap_other (fun e => hn ((hT1 i).2 (.inr e)))⟩
      refine wpIn_mono (hbody _ k es a' T0 _ hes (hAx _ _ _ _ _ _ hax hl rfl) (hI _ _ _ _ hi (Quiet.putObj W hl (by omega) rfl _)) (fun b hb => by rw [hsz2]; exact hlt1 b ((hT1 b).2 (.inl hb)))) ?_
      have fin : ∀ (jump : Option Code) (W3 : World), Only T0 (W.putObj (w.heap.size + 1) (.loop { rec .ready none with state := .busy })) W3 →
          (Instr.endRound (w.heap.size + 1) jump).run P W3 = .ok (.bool jump.isNone) (W3.putObj (w.heap.size + 1) (.loop (rec (if jump.isNone then .ready else .done) jump))) ∧
          W3.heap[w.heap.size + 1]? = some (.loop { rec .ready none with state := .busy }) ∧
          (W3.putObj (w.heap.size + 1) (.loop (rec (if jump.isNone then .ready else .done) jump))).heap[w.heap.size + 1]? = some (.loop (rec (if jump.isNone then .ready else .done) jump)) ∧
          (W3.putObj (w.heap.size + 1) (.loop (rec (if jump.isNone then .ready else .done) jump))).heap[w.heap.size]? = some (.deferred (some [])) ∧
          (W3.putObj (w.heap.size + 1) (.loop (rec (if jump.isNone then .ready else .done) jump))).heap.size = W3.heap.size ∧
          Only T1 Wb (W3.putObj (w.heap.size + 1) (.loop (rec (if jump.isNone then .ready else .done) jump))) := fun jump W3 hk3 => by
        have hl3 := (hk3.block _ (by rw [hsz2]; omega) hnl).trans hl2
        have hk3' := (hk3.block _ (by rw [hsz2]; omega) hnd).trans hk2
        have := run_endRound (P := P) jump hl3
        rw [hrec] at this ⊢
        refine ⟨this, by rw [hrec] at hl3; exact hl3, World.putObj_heap_same (Array.getElem?_eq_some_iff.1 hl3).1, (World.putObj_heap_other (by omega)).trans hk3', by simp [World.putObj], ?_⟩
        refine ((hoa.trans hq2).trans (hk3.mono (fun b _ hb => (hT1 b).2 (.inl hb)))).trans ⟨rfl, rfl, rfl, by simp [World.putObj], fun i hi hn => World.putObj_heap_other (fun e => hn ((hT1 i).2 (.inr e)))⟩
      have nxt : ∀ (T2 : Nat → Prop) (W3 : World), (∀ b, T2 b → T0 b ∨ ((W.putObj (w.heap.size + 1) (.loop { rec .ready none with state := .busy })).heap.size ≤ b ∧ b < W3.heap.size)) →
          ¬ T2 (w.heap.size + 1) ∧ ¬ T2 w.heap.size ∧ ∀ b, (T2 b ∨ b = w.heap.size + 1) → T1 b ∨ (Wb.heap.size ≤ b ∧ b < W3.heap.size) := fun T2 W3 h2 => by
        refine ⟨fun h => ?_, fun h => ?_, fun b h => ?_⟩
        · rcases h2 _ h with h | h
          · exact hnl h
          · rw [hsz2] at h; omega
        · rcases h2 _ h with h | h
          · exact hnd h
          · rw [hsz2] at h; omega
        · rcases h with h | h
          · rcases h2 _ h with h | h
            · exact .inl ((hT1 b).2 (.inl h))
            · rw [hsz2] at h; exact .inr ⟨by omega, h.2⟩
          · exact .inl ((hT1 b).2 (.inr h))
      rintro e a3 W3 hp
      cases e with
      | normal =>
        obtain ⟨T2, h2, hk3, hi3⟩ := hp
        obtain ⟨hr, hl3, hl4, hk4, hs4, ho4⟩ := fin none W3 hk3
        obtain ⟨n1, n2, n3⟩ := nxt T2 W3 h2
        exact ⟨_, _, hr, fun b => T2 b ∨ b = w.heap.size + 1, by rw [hs4]; exact n3, ho4, .inl ⟨rfl, T2, fun b => Iff.rfl, n1, n2, hI _ _ _ _ hi3 (Quiet.putObj W3 hl3 (by omega) rfl _), hl4, hk4⟩⟩
      | ret =>
        obtain ⟨T2, h2, hk3, hi3⟩ := hp
        obtain ⟨hr, hl3, hl4, hk4, hs4, ho4⟩ := fin (some .ret) W3 hk3
        obtain ⟨n1, n2, n3⟩ := nxt T2 W3 h2
        exact ⟨_, _, hr, fun b => T2 b ∨ b = w.heap.size + 1, by rw [hs4]; exact n3, ho4, .inr ⟨rfl, T2, .ret, fun b hb => .inl hb, hIx _ _ _ _ _ hi3 (Quiet.putObj W3 hl3 (by omega) rfl _), hl4, hk4⟩⟩
      | exit id =>
        obtain ⟨T2, h2, hk3, hi3⟩ := hp
        obtain ⟨hr, hl3, hl4, hk4, hs4, ho4⟩ := fin (some (.exit id)) W3 hk3
        obtain ⟨n1, n2, n3⟩ := nxt T2 W3 h2
        exact ⟨_, _, hr, fun b => T2 b ∨ b = w.heap.size + 1, by rw [hs4]; exact n3, ho4, .inr ⟨rfl, T2, .exit id, fun b hb => .inl hb, hIx _ _ _ _ _ hi3 (Quiet.putObj W3 hl3 (by omega) rfl _), hl4, hk4⟩⟩
      | goto t =>
        obtain ⟨T2, h2, hk3, hi3⟩ := hp
        obtain ⟨hr, hl3, hl4, hk4, hs4, ho4⟩ := fin (some (.goto t)) W3 hk3
        obtain ⟨n1, n2, n3⟩ := nxt T2 W3 h2
        exact ⟨_, _, hr, fun b => T2 b ∨ b = w.heap.size + 1, by rw [hs4]; exact n3, ho4, .inr ⟨rfl, T2, .goto t, fun b hb => .inl hb, hIx _ _ _ _ _ hi3 (Quiet.putObj W3 hl3 (by omega) rfl _), hl4, hk4⟩⟩
      | panic ch => exact hp.elim
      | outgrown => exact hp.elim
    · -- behind the iterator
      rintro e W2 ⟨⟨v, rfl⟩, T2, (⟨T0, _, hnl, hnd, hi, hl, hk⟩ | ⟨k, hkl, T0, c, _, hi, hl, hk⟩)⟩
      · exact ⟨none, _, by have := run_endLoop (P := P) hl (by rw [hrec]; simp); rw [hrec] at this; exact this,
          hdone _ T0 _ (Nat.le_refl _) (hI _ _ _ _ hi (Quiet.putObj W2 hl (by omega) rfl _)) ((World.putObj_heap_other (by omega)).trans hk)⟩
      · exact ⟨some c, _, by have := run_endLoop (P := P) hl (by rw [hrec]; simp); rw [hrec] at this; exact this,
          hstop _ c k T0 _ (Nat.le_refl _) hkl (hIx _ _ _ _ _ hi (Quiet.putObj W2 hl (by omega) rfl _)) ((World.putObj_heap_other (by omega)).trans hk)⟩

/-- The same where the assignment to the loop's variables moves values alone. -/
theorem range_wide {P : Program} {g : Operand} {ps : Array Tmp} {assign body : Code} {Q : Exit → Act → World → Prop} {a : Act} {w : World}
    {gf : Nat} {lb : Array Value} {ess : List (Array Value)} {foot : Nat → Prop} {w0 : World}
    (hg : a.eval g = .func (.func gf) #[] lb) (eg : ∀ args w, (callFunc gf args).run P w = .ok (.enter gf args) w)
    (hit : Iter P gf lb ess foot w0) (hb0 : Below w0.heap.size w0 w) (hps : ∀ (k : Nat) es, ess[k]? = some es → es.size = ps.size)
    (T : Nat → Prop) (hT : ∀ b, T b → b < w.heap.size ∧ ¬ foot b) (hfoot : ∀ b, foot b → b < w.heap.size)
    (I : Nat → (Nat → Prop) → World → Prop) (Ix : Code → Nat → (Nat → Prop) → World → Prop)
    (hI : ∀ k T A B, I k T A → Quiet w.heap.size T A B → I k T B) (hIx : ∀ c k T A B, Ix c k T A → Quiet w.heap.size T A B → Ix c k T B)
    (h0 : I 0 T w) (a₁ : Nat → Act)
    (hassign : ∀ (l k : Nat) (es : Array Value) (W : World) (K : Act → World → Prop), ess[k]? = some es → K (a₁ k) W →
      assign.wpIn (Fence.wide.inRound l) 0 P (Exit.then K (fun _ _ _ => False)) { tmps := (ps.zip es).foldl (fun t (p, v) => t.setIfInBounds p v) a.tmps, defers := [] } W)
    (hbody : ∀ (l k : Nat) (es : Array Value) (T1 : Nat → Prop) (W : World), ess[k]? = some es → I k T1 W → (∀ b, T1 b → b < W.heap.size) →
      body.wpIn (Fence.wide.inRound l) 0 P (bodyEnd I Ix k T1 W) (a₁ k) W)
    (hdone : ∀ (D : Nat) (T1 : Nat → Prop) (W : World), w.heap.size ≤ D → I ess.length T1 W → W.heap[D]? = some (.deferred (some [])) →
      Q .normal { a with defers := { target := .collected D, args := #[] } :: a.defers } W)
    (hstop : ∀ (D : Nat) (c : Code) (k : Nat) (T1 : Nat → Prop) (W : World), w.heap.size ≤ D → k ≤ ess.length → Ix c k T1 W → W.heap[D]? = some (.deferred (some [])) →
      c.wpIn Fence.wide 0 P Q { a with defers := { target := .collected D, args := #[] } :: a.defers } W) :
    (Code.rangeFunc g ps assign body).wpIn Fence.wide 0 P Q a w :=
  range_gen hg eg hit hb0 hps T hT hfoot I Ix hI hIx h0 (fun k a' _ => a' = a₁ k) (fun _ _ _ _ _ _ h _ _ => h)
    (fun l k es W K hes _ hK => hassign l k es W K hes (hK _ _ (Below.refl _ _) rfl)) (fun l k es a' T1 W hes ha hi ht => by subst ha; exact hbody l k es T1 W hes hi ht) hdone hstop

/-! A scope (a function that holds labels), at the wide fence. -/
theorem wpIn_scope_wide {n : Nat} {P : Program} {c : Code} {Q : Exit → Act → World → Prop} {a : Act} {w : World} (h : c.wpIn Fence.wide n P (Exit.noGoto Q) a w) : (Code.scope c).wpIn Fence.wide n P Q a w :=
  wpIn_wide.2 (wp_scope_straight (wpIn_wide.1 h))

/-- By a goto to label l: on with what stands behind it, without a further goto. -/
def Exit.fwd (P : Program) (l : Nat) (rest : Code) (Q : Exit → Act → World → Prop) : Exit → Act → World → Prop
  | .goto l', a, w => l' = l ∧ rest.wp P (Exit.noGoto Q) a w
  | e, a, w => Q e a w

theorem wp_scope_fwd {P : Program} {c rest : Code} {Q : Exit → Act → World → Prop} {a : Act} {w : World} (l : Nat) (hf : findLabel c l = some rest) (h : c.wp P (Exit.fwd P l rest Q) a w) : (Code.scope c).wp P Q a w := by
  refine wp_scope_jumps l (fun a w => rest.wp P (Exit.noGoto Q) a w) (fun _ _ => 0) hf (wp_mono h ?_) (fun a w hr => wp_mono hr ?_)
  · rintro e a w hq; cases e <;> exact hq
  · rintro e a w hq; cases e <;> first | exact hq | exact hq.elim
theorem wpIn_scope_fwd {n : Nat} {P : Program} {c rest : Code} {Q : Exit → Act → World → Prop} {a : Act} {w : World} (l : Nat) (hf : findLabel c l = some rest) (h : c.wpIn Fence.wide n P (Exit.fwd P l rest Q) a w) : (Code.scope c).wpIn Fence.wide n P Q a w :=
  wpIn_wide.2 (wp_scope_fwd l hf (wpIn_wide.1 h))

/-! The end of a function that holds ranges over functions: its marks are taken up. -/
theorem leaves_marks {P : Program} {fn : Func} {tmps : Array Value} {R : Ending → World → Prop} {B : Nat} : ∀ (Ds : List Nat) (w : World),
    (∀ D ∈ Ds, B ≤ D ∧ w.heap[D]? = some (.deferred (some []))) → Ds.Nodup → (∀ w', Quiet B (fun _ => True) w w' → ∃ v, (results fn tmps).run P w' = .ok v w' ∧ R (.returned v) w') →
    LeavesInM Fence.wide 0 P fn tmps R (Ds.map fun D => { target := .collected D, args := #[] }) .returning w := by
  intro Ds
  induction Ds with
  | nil => intro w _ _ h; exact h w (Quiet.refl _ _ _)
  | cons D Ds ih =>
    intro w hD hn h
    obtain ⟨hB, hw⟩ := hD D (List.mem_cons_self ..)
    refine ⟨by simp, .inl ⟨D, _, rfl, run_takeDeferred hw, ih _ (fun D' hD' => ?_) (List.nodup_cons.1 hn).2 (fun w' hq => h w' ((Quiet.putObj w hw hB rfl _).trans hq))⟩⟩
    obtain ⟨h1, h2⟩ := hD D' (List.mem_cons_of_mem _ hD')
    exact ⟨h1, (World.putObj_heap_other (fun e => (List.nodup_cons.1 hn).1 (by rw [← e]; exact hD'))).trans h2⟩
theorem end_marks {P : Program} {fn : Func} {a : Act} {w : World} {R : Ending → World → Prop} {B : Nat} (Ds : List Nat) (hds : a.defers = Ds.map fun D => { target := .collected D, args := #[] })
    (hD : ∀ D ∈ Ds, B ≤ D ∧ w.heap[D]? = some (.deferred (some []))) (hn : Ds.Nodup) (h : ∀ w', Quiet B (fun _ => True) w w' → ∃ v, (results fn a.tmps).run P w' = .ok v w' ∧ R (.returned v) w') :
    bodyPostM Fence.wide 0 P fn R .ret a w := by
  show LeavesInM Fence.wide 0 P fn a.tmps R a.defers .returning w
  rw [hds]; exact leaves_marks Ds w hD hn h
theorem end_plain {P : Program} {fn : Func} {a : Act} {w : World} {R : Ending → World → Prop} (hds : a.defers = []) (h : ∃ v, (results fn a.tmps).run P w = .ok v w ∧ R (.returned v) w) :
    bodyPostM Fence.wide 0 P fn R .ret a w := by
  show LeavesInM Fence.wide 0 P fn a.tmps R a.defers .returning w
  rw [hds]; exact h
/-- One mark, behind the one loop of a function. -/
theorem end_mark {P : Program} {fn : Func} {tmps : Array Value} {D : Nat} {w : World} {R : Ending → World → Prop} {B : Nat} (hB : B ≤ D) (hD : w.heap[D]? = some (.deferred (some [])))
    (h : ∀ w', Quiet B (fun _ => True) w w' → ∃ v, (results fn tmps).run P w' = .ok v w' ∧ R (.returned v) w') :
    bodyPostM Fence.wide 0 P fn R .ret { tmps := tmps, defers := [{ target := .collected D, args := #[] }] } w :=
  end_marks [D] rfl (fun D' hD' => by cases List.mem_singleton.1 hD'; exact ⟨hB, hD⟩) (by simp) h

/-- A box among new blocks. -/
theorem box_new (w : World) (t : TypeId) (v : Value) : Boxed (w.alloc (.cells #[v] t)) w.heap.size t v := Boxed.new w t v
theorem box_kept {w w' : World} {b : Nat} {t : TypeId} {v : Value} (h : Boxed w b t v) (hb : Below w.heap.size w w') : Boxed w' b t v := (hb.block _ h.lt).trans h
theorem box_only {S : Nat → Prop} {w w' : World} {b : Nat} {t : TypeId} {v : Value} (h : Boxed w b t v) (hb : Only S w w') (hS : ¬ S b) : Boxed w' b t v := (hb.block _ h.lt hS).trans h
theorem kept_trans {a b c : World} (h : Below a.heap.size a b) (k : Below b.heap.size b c) : Below a.heap.size a c := h.trans (k.mono h.size)
theorem kept_alloc {a b : World} (h : Below a.heap.size a b) (o : Obj) : Below a.heap.size a (b.alloc o) := h.alloc h.size o
theorem kept_set {a b : World} (h : Below a.heap.size a b) {p : Addr} (hp : a.heap.size ≤ p.block) (u : Value) : Below a.heap.size a (b.setCell p u) := h.setCell hp u

end Go.Sel
