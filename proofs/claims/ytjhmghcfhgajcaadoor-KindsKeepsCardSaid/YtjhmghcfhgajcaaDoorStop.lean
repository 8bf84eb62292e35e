/- Ranges over a function that are left in the first round: the iterator's contract (IterS) and their law; the contract that serves both kinds (IterW). -/
import Derived.Test.YtjhmghcfhgajcaaDoorRange
namespace Go.Sel
open Go Go.RowKit
/-- An iterator's contract for a loop that never goes on behind its first round. -/
def IterS (P : Program) (gf : Nat) (lb : Array Value) (ess : List (Array Value)) (w : World) : Prop :=
  ∀ (l : Nat) (J Jx : Nat → (Nat → Prop) → World → Prop) (T : Nat → Prop) (W : World), Below w.heap.size w W →
    (∀ k T A B, J k T A → Only (fun b => W.heap.size ≤ b ∧ ¬ T b) A B → J k T B) → (∀ k T A B, Jx k T A → Only (fun b => W.heap.size ≤ b ∧ ¬ T b) A B → Jx k T B) →
    (∀ b, T b → b < W.heap.size) → (∀ k T A, ¬ J (k + 1) T A) →
    (∀ (k : Nat) (T1 : Nat → Prop) (W1 : World) (es : Array Value), ess[k]? = some es → J k T1 W1 → (∀ b, T1 b → b < W1.heap.size) → YieldAt Fence.wide 0 P l es W1 fun e W' =>
      ∃ T2 : Nat → Prop, (∀ b, T2 b → T1 b ∨ (W1.heap.size ≤ b ∧ b < W'.heap.size)) ∧ Only T1 W1 W' ∧
        ((e = .returned (.bool true) ∧ J (k + 1) T2 W') ∨ (e = .returned (.bool false) ∧ Jx (k + 1) T2 W'))) →
    J 0 T W →
    CallsIn Fence.wide 0 P gf (#[.func (.yield l) #[] #[]] ++ lb) W fun e W' => (∃ v, e = .returned v) ∧ ∃ T2 : Nat → Prop, (J ess.length T2 W' ∨ ∃ k, k ≤ ess.length ∧ Jx k T2 W')


/-- The contract from which both come. -/
def IterW (P : Program) (gf : Nat) (lb : Array Value) (ess : List (Array Value)) (foot : Nat → Prop) (w : World) : Prop :=
  ∀ (l : Nat) (J Jx : Nat → (Nat → Prop) → World → Prop) (T : Nat → Prop) (W : World), Below w.heap.size w W →
    (∀ k T A B, J k T A → Only (fun b => W.heap.size ≤ b ∧ ¬ T b) A B → J k T B) → (∀ k T A B, Jx k T A → Only (fun b => W.heap.size ≤ b ∧ ¬ T b) A B → Jx k T B) →
    (∀ b, T b → b < W.heap.size ∧ (foot b → ∀ k T A, ¬ J (k + 1) T A)) →
    (∀ (k : Nat) (T1 : Nat → Prop) (W1 : World) (es : Array Value), ess[k]? = some es → J k T1 W1 → (∀ b, T1 b → b < W1.heap.size) → YieldAt Fence.wide 0 P l es W1 fun e W' =>
      ∃ T2 : Nat → Prop, (∀ b, T2 b → T1 b ∨ (W1.heap.size ≤ b ∧ b < W'.heap.size)) ∧ Only T1 W1 W' ∧
        ((e = .returned (.bool true) ∧ J (k + 1) T2 W') ∨ (e = .returned (.bool false) ∧ Jx (k + 1) T2 W'))) →
    J 0 T W →
    CallsIn Fence.wide 0 P gf (#[.func (.yield l) #[] #[]] ++ lb) W fun e W' => (∃ v, e = .returned v) ∧ ∃ T2 : Nat → Prop, (J ess.length T2 W' ∨ ∃ k, k ≤ ess.length ∧ Jx k T2 W')


theorem IterW.iter {P : Program} {gf : Nat} {lb : Array Value} {ess : List (Array Value)} {foot : Nat → Prop} {w : World} (h : IterW P gf lb ess foot w) : Iter P gf lb ess foot w :=
  fun l J Jx T W hW hJ hJx hT hY h0 => h l J Jx T W hW hJ hJx (fun b hb => ⟨(hT b hb).1, fun hf => absurd hf (hT b hb).2⟩) hY h0
theorem IterW.iterS {P : Program} {gf : Nat} {lb : Array Value} {ess : List (Array Value)} {foot : Nat → Prop} {w : World} (h : IterW P gf lb ess foot w) : IterS P gf lb ess w :=
  fun l J Jx T W hW hJ hJx hT hno hY h0 => h l J Jx T W hW hJ hJx (fun b hb => ⟨hT b hb, fun _ => hno⟩) hY h0
theorem range_genS {P : Program} {g : Operand} {ps : Array Tmp} {assign body : Code} {Q : Exit → Act → World → Prop} {a : Act} {w : World}
    {gf : Nat} {lb : Array Value} {ess : List (Array Value)} {w0 : World}
    (hg : a.eval g = .func (.func gf) #[] lb) (eg : ∀ args w, (callFunc gf args).run P w = .ok (.enter gf args) w)
    (hit : IterS P gf lb ess w0) (hb0 : Below w0.heap.size w0 w) (hps : ∀ (k : Nat) es, ess[k]? = some es → es.size = ps.size)
    (T : Nat → Prop) (hT : ∀ b, T b → b < w.heap.size)
    (I : Nat → (Nat → Prop) → World → Prop) (Ix : Code → Nat → (Nat → Prop) → World → Prop)
    (hI : ∀ k T A B, I k T A → Quiet w.heap.size T A B → I k T B) (hIx : ∀ c k T A B, Ix c k T A → Quiet w.heap.size T A B → Ix c k T B)
    (hno : ∀ k T A, ¬ I (k + 1) T A) (h0 : I 0 T w) (Ax : Nat → Act → World → Prop) (hAx : ∀ k a' A l o o', Ax k a' A → A.heap[l]? = some o → o.isCells = false → Ax k a' (A.putObj l o'))
    (hassign : ∀ (l k : Nat) (es : Array Value) (W : World) (K : Act → World → Prop), ess[k]? = some es → w.heap.size ≤ W.heap.size → (∀ a' W', Below W.heap.size W W' → Ax k a' W' → K a' W') →
      assign.wpIn (Fence.wide.inRound l) 0 P (Exit.then K (fun _ _ _ => False)) { tmps := (ps.zip es).foldl (fun t (p, v) => t.setIfInBounds p v) a.tmps, defers := [] } W)
    (hbody : ∀ (l k : Nat) (es : Array Value) (a' : Act) (T1 : Nat → Prop) (W : World), ess[k]? = some es → Ax k a' W → I k T1 W → (∀ b, T1 b → b < W.heap.size) →
      body.wpIn (Fence.wide.inRound l) 0 P (bodyEnd I Ix k T1 W) a' W)
    (hdone : ∀ (D : Nat) (T1 : Nat → Prop) (W : World), w.heap.size ≤ D → I ess.length T1 W → W.heap[D]? = some (.deferred (some [])) →
      Q .normal { a with defers := { target := .collected D, args := #[] } :: a.defers } W)
    (hstop : ∀ (D : Nat) (c : Code) (k : Nat) (T1 : Nat → Prop) (W : World), w.heap.size ≤ D → k ≤ ess.length → Ix c k T1 W → W.heap[D]? = some (.deferred (some [])) →
      c.wpIn Fence.wide 0 P Q { a with defers := { target := .collected D, args := #[] } :: a.defers } W) :
    (Code.rangeFunc g ps assign body).wpIn Fence.wide 0 P Q a w := by
  refine wpIn_rangeFunc ?_
  intro fn hfn
  obtain ⟨rec, hrec⟩ : ∃ rec : LoopState → Option Code → Loop, rec = fun st pe => { state := st, pending := pe, fn, tmps := a.tmps, params := ps, assign, body, defers := w.heap.size } := ⟨_, rfl⟩
  obtain ⟨W1, hW1⟩ : ∃ W1, (w.alloc (.deferred (some []))).alloc (.loop (rec .ready none)) = W1 := ⟨_, rfl⟩
  have hL1 : W1.heap[w.heap.size + 1]? = some (.loop (rec .ready none)) := by
    rw [← hW1]; have := World.alloc_heap_new (w.alloc (.deferred (some []))) (.loop (rec .ready none)); rwa [World.size_alloc] at this
  have hK1 : W1.heap[w.heap.size]? = some (.deferred (some [])) := by
    rw [← hW1]; exact (Below.heap_alloc _ _ _ (by simp)).trans (World.alloc_heap_new w _)
  have hbw : Below w.heap.size w W1 := by
    rw [← hW1]; exact (((Below.refl _ w).alloc (Nat.le_refl _) _).alloc (by simp) _)
  have hs1 : W1.heap.size = w.heap.size + 2 := by rw [← hW1]; simp
  have hI1 : I 0 T W1 := hI _ _ _ _ h0 (Quiet.of_below hbw)
  have hb1 : Below w0.heap.size w0 W1 := hb0.trans (hbw.mono hb0.size)
  refine ⟨w.heap.size + 1, [{ target := .collected w.heap.size, args := #[] }], W1, { target := .fn (.func gf) lb, args := #[.func (.yield (w.heap.size + 1)) #[] #[]] }, W1, gf,
    #[.func (.yield (w.heap.size + 1)) #[] #[]] ++ lb, W1, ?_, ?_, ?_, ?_, wide_depth, ?_⟩
  · rw [← hW1, hrec]; exact run_enterLoop_outer _ _ _ _ _
  · simp only [resolve, hg]
    simp [go_sem]
  · intro f' _; trivial
  · simp [invoke, go_sem, eg]
  · refine (hit (w.heap.size + 1)
      (fun k T1 W => ∃ T0 : Nat → Prop, (∀ b, T1 b ↔ T0 b ∨ b = w.heap.size + 1) ∧ ¬ T0 (w.heap.size + 1) ∧ ¬ T0 w.heap.size ∧ I k T0 W ∧
        W.heap[w.heap.size + 1]? = some (.loop (rec .ready none)) ∧ W.heap[w.heap.size]? = some (.deferred (some [])))
      (fun k T1 W => ∃ (T0 : Nat → Prop) (c : Code), (∀ b, T0 b → T1 b) ∧ Ix c k T0 W ∧
        W.heap[w.heap.size + 1]? = some (.loop (rec .done (some c))) ∧ W.heap[w.heap.size]? = some (.deferred (some [])))
      (fun b => T b ∨ b = w.heap.size + 1) W1 hb1 ?_ ?_ ?_ ?_ ?_ ⟨T, fun b => Iff.rfl, fun h => by have := hT _ h; omega, fun h => by have := hT _ h; omega, hI1, hL1, hK1⟩).mono ?_
    · rintro k T1 A B ⟨T0, h1, h2, h3, h4, h5, h6⟩ hAB
      exact ⟨T0, h1, h2, h3, hI _ _ _ _ h4 (Quiet.of_only hAB (fun k hk hS => by have := hS.1; omega) (fun k hk hS => hS.2 ((h1 k).2 (.inl hk)))), (hAB.block _ (Array.getElem?_eq_some_iff.1 h5).1 (fun hS => by have := hS.1; omega)).trans h5, (hAB.block _ (Array.getElem?_eq_some_iff.1 h6).1 (fun hS => by have := hS.1; omega)).trans h6⟩
    · rintro k T1 A B ⟨T0, c, h3, h4, h5, h6⟩ hAB
      exact ⟨T0, c, h3, hIx _ _ _ _ _ h4 (Quiet.of_only hAB (fun k hk hS => by have := hS.1; omega) (fun k hk hS => hS.2 (h3 k hk))), (hAB.block _ (Array.getElem?_eq_some_iff.1 h5).1 (fun hS => by have := hS.1; omega)).trans h5, (hAB.block _ (Array.getElem?_eq_some_iff.1 h6).1 (fun hS => by have := hS.1; omega)).trans h6⟩
    · rintro b (h | rfl)
      · have := hT b h; omega
      · omega
    · rintro k T1 A ⟨T0, _, _, _, h4, _⟩
      exact hno _ _ _ h4
    · -- one round
      rintro k T1 W es hes ⟨T0, hT1, hnl, hnd, hi, hl, hk⟩ hlt1
      have hlt : w.heap.size + 1 < W.heap.size := (Array.getElem?_eq_some_iff.1 hl).1
      have hy := run_yield (P := P) (args := es) hl (by rw [hrec]; exact hps k es hes)
      rw [hrec] at hy
      refine ⟨fn, _, assign, body, hy, roundIn_of_wpIn hfn (hassign _ k es W _ hes (by omega) ?_)⟩
      clear hy
      intro a' Wa hba hax
      replace hl := (hba.block _ hlt).trans hl
      replace hk := (hba.block _ (by omega)).trans hk
      replace hi := hI _ _ _ _ hi (Quiet.of_below hba)
      have hsa := hba.size
      replace hlt : w.heap.size + 1 < Wa.heap.size := by omega
      replace hlt1 : ∀ b, T1 b → b < Wa.heap.size := fun b hb => Nat.lt_of_lt_of_le (hlt1 b hb) hsa
      have hoa : Only T1 W Wa := Only.of_below hba
      clear hba
      revert hoa hsa
      generalize W = Wb
      intro hsa hoa
      obtain ⟨W, rfl⟩ : ∃ W, W = Wa := ⟨_, rfl⟩
      refine ⟨_, run_beginRound hl (by rw [hrec]), ?_⟩
      have hl2 : (W.putObj (w.heap.size + 1) (.loop { rec .ready none with state := .busy })).heap[w.heap.size + 1]? = some (.loop { rec .ready none with state := .busy }) := World.putObj_heap_same hlt
      have hk2 : (W.putObj (w.heap.size + 1) (.loop { rec .ready none with state := .busy })).heap[w.heap.size]? = some (.deferred (some [])) := (World.putObj_heap_other (by omega)).trans hk
      have hsz2 : (W.putObj (w.heap.size + 1) (.loop { rec .ready none with state := .busy })).heap.size = W.heap.size := by simp [World.putObj]
      have hq2 : Only T1 W (W.putObj (w.heap.size + 1) (.loop { rec .ready none with state := .busy })) :=
        ⟨rfl, rfl, rfl, by rw [hsz2]; exact Nat.le_refl _, fun i hi hn => World.putObj_heap_other (fun e => hn ((hT1 i).2 (.inr e)))⟩
      refine wpIn_mono (hbody _ k es a' T0 _ hes (hAx _ _ _ _ _ _ hax hl rfl) (hI _ _ _ _ hi (Quiet.putObj W hl (by omega) rfl _)) (fun b hb => by rw [hsz2]; exact hlt1 b ((hT1 b).2 (.inl hb)))) ?_
      have fin : ∀ (jump : Option Code) (W3 : World), Only T0 (W.putObj (w.heap.size + 1) (.loop { rec .ready none with state := .busy })) W3 →
          (Instr.endRound (w.heap.size + 1) jump).run P W3 = .ok (.bool jump.isNone) (W3.putObj (w.heap.size + 1) (.loop (rec (if jump.isNone then .ready else .done) jump))) ∧
          W3.heap[w.heap.size + 1]? = some (.loop { rec .ready none with state := .busy }) ∧
          (W3.putObj (w.heap.size + 1) (.loop (rec (if jump.isNone then .ready else .done) jump))).heap[w.heap.size + 1]? = some (.loop (rec (if jump.isNone then .ready else .done) jump)) ∧
          (W3.putObj (w.heap.size + 1) (.loop (rec (if jump.isNone then .ready else .done) jump))).heap[w.heap.size]? = some (.deferred (some [])) ∧
          (W3.putObj (w.heap.size + 1) (.loop (rec (if jump.isNone then .ready else .done) jump))).heap.size = W3.heap.size ∧
          Only T1 Wb (W3.putObj (w.heap.size + 1) (.loop (rec (if jump.isNone then .ready else .done) jump))) := fun jump W3 hk3 => by
        have hl3 := (hk3.block _ (by rw [hsz2]; omega) hnl).trans hl2
        have hk3' := (hk3.block _ (by rw [hsz2]; omega) hnd).trans hk2
        have := run_endRound (P := P) jump hl3
        rw [hrec] at this ⊢
        refine ⟨this, by rw [hrec] at hl3; exact hl3, World.putObj_heap_same (Array.getElem?_eq_some_iff.1 hl3).1, (World.putObj_heap_other (by omega)).trans hk3', by simp [World.putObj], ?_⟩
        refine ((hoa.trans hq2).trans (hk3.mono (fun b _ hb => (hT1 b).2 (.inl hb)))).trans ⟨rfl, rfl, rfl, by simp [World.putObj], fun i hi hn => World.putObj_heap_other (fun e => hn ((hT1 i).2 (.inr e)))⟩
      have nxt : ∀ (T2 : Nat → Prop) (W3 : World), (∀ b, T2 b → T0 b ∨ ((W.putObj (w.heap.size + 1) (.loop { rec .ready none with state := .busy })).heap.size ≤ b ∧ b < W3.heap.size)) →
          ¬ T2 (w.heap.size + 1) ∧ ¬ T2 w.heap.size ∧ ∀ b, (T2 b ∨ b = w.heap.size + 1) → T1 b ∨ (Wb.heap.size ≤ b ∧ b < W3.heap.size) := fun T2 W3 h2 => by
        refine ⟨fun h => ?_, fun h => ?_, fun b h => ?_⟩
        · rcases h2 _ h with h | h
          · exact hnl h
          · rw [hsz2] at h; omega
        · rcases h2 _ h with h | h
          · exact hnd h
          · rw [hsz2] at h; omega
        · rcases h with h | h
          · rcases h2 _ h with h | h
            · exact .inl ((hT1 b).2 (.inl h))
            · rw [hsz2] at h; exact .inr ⟨by omega, h.2⟩
          · exact .inl ((hT1 b).2 (.inr h))
      rintro e a3 W3 hp
      cases e with
      | normal =>
        obtain ⟨T2, h2, hk3, hi3⟩ := hp
        obtain ⟨hr, hl3, hl4, hk4, hs4, ho4⟩ := fin none W3 hk3
        obtain ⟨n1, n2, n3⟩ := nxt T2 W3 h2
        exact ⟨_, _, hr, fun b => T2 b ∨ b = w.heap.size + 1, by rw [hs4]; exact n3, ho4, .inl ⟨rfl, T2, fun b => Iff.rfl, n1, n2, hI _ _ _ _ hi3 (Quiet.putObj W3 hl3 (by omega) rfl _), hl4, hk4⟩⟩
      | ret =>
        obtain ⟨T2, h2, hk3, hi3⟩ := hp
        obtain ⟨hr, hl3, hl4, hk4, hs4, ho4⟩ := fin (some .ret) W3 hk3
        obtain ⟨n1, n2, n3⟩ := nxt T2 W3 h2
        exact ⟨_, _, hr, fun b => T2 b ∨ b = w.heap.size + 1, by rw [hs4]; exact n3, ho4, .inr ⟨rfl, T2, .ret, fun b hb => .inl hb, hIx _ _ _ _ _ hi3 (Quiet.putObj W3 hl3 (by omega) rfl _), hl4, hk4⟩⟩
      | exit id =>
        obtain ⟨T2, h2, hk3, hi3⟩ := hp
        obtain ⟨hr, hl3, hl4, hk4, hs4, ho4⟩ := fin (some (.exit id)) W3 hk3
        obtain ⟨n1, n2, n3⟩ := nxt T2 W3 h2
        exact ⟨_, _, hr, fun b => T2 b ∨ b = w.heap.size + 1, by rw [hs4]; exact n3, ho4, .inr ⟨rfl, T2, .exit id, fun b hb => .inl hb, hIx _ _ _ _ _ hi3 (Quiet.putObj W3 hl3 (by omega) rfl _), hl4, hk4⟩⟩
      | goto t =>
        obtain ⟨T2, h2, hk3, hi3⟩ := hp
        obtain ⟨hr, hl3, hl4, hk4, hs4, ho4⟩ := fin (some (.goto t)) W3 hk3
        obtain ⟨n1, n2, n3⟩ := nxt T2 W3 h2
        exact ⟨_, _, hr, fun b => T2 b ∨ b = w.heap.size + 1, by rw [hs4]; exact n3, ho4, .inr ⟨rfl, T2, .goto t, fun b hb => .inl hb, hIx _ _ _ _ _ hi3 (Quiet.putObj W3 hl3 (by omega) rfl _), hl4, hk4⟩⟩
      | panic ch => exact hp.elim
      | outgrown => exact hp.elim
    · -- behind the iterator
      rintro e W2 ⟨⟨v, rfl⟩, T2, (⟨T0, _, hnl, hnd, hi, hl, hk⟩ | ⟨k, hkl, T0, c, _, hi, hl, hk⟩)⟩
      · exact ⟨none, _, by have := run_endLoop (P := P) hl (by rw [hrec]; simp); rw [hrec] at this; exact this,
          hdone _ T0 _ (Nat.le_refl _) (hI _ _ _ _ hi (Quiet.putObj W2 hl (by omega) rfl _)) ((World.putObj_heap_other (by omega)).trans hk)⟩
      · exact ⟨some c, _, by have := run_endLoop (P := P) hl (by rw [hrec]; simp); rw [hrec] at this; exact this,
          hstop _ c k T0 _ (Nat.le_refl _) hkl (hIx _ _ _ _ _ hi (Quiet.putObj W2 hl (by omega) rfl _)) ((World.putObj_heap_other (by omega)).trans hk)⟩


section
variable {P : Program} {g : Operand} {assign body : Code} {Q : Exit → Act → World → Prop} {a : Act} {w : World}
  {gf : Nat} {lb : Array Value} {w0 : World}
/-- One loop variable, in slot s. -/
theorem range_oneS {p : Tmp} (s : Tmp) {xs : List Value}
    (hg : a.eval g = .func (.func gf) #[] lb) (eg : ∀ args w, (callFunc gf args).run P w = .ok (.enter gf args) w)
    (hit : IterS P gf lb (xs.map fun x => #[x]) w0) (hb0 : Below w0.heap.size w0 w)
    (T : Nat → Prop) (hT : ∀ b, T b → b < w.heap.size)
    (I : Nat → (Nat → Prop) → World → Prop) (Ix : Code → Nat → (Nat → Prop) → World → Prop)
    (hI : ∀ k T A B, I k T A → Quiet w.heap.size T A B → I k T B) (hIx : ∀ c k T A B, Ix c k T A → Quiet w.heap.size T A B → Ix c k T B)
    (hno : ∀ k T A, ¬ I (k + 1) T A) (h0 : I 0 T w)
    (hassign : ∀ (l k : Nat) (x : Value) (W : World) (K : Act → World → Prop), xs[k]? = some x → K { tmps := (a.tmps.setIfInBounds p x).setIfInBounds s x, defers := [] } W →
      assign.wpIn (Fence.wide.inRound l) 0 P (Exit.then K (fun _ _ _ => False)) { tmps := a.tmps.setIfInBounds p x, defers := [] } W)
    (hbody : ∀ (l k : Nat) (x : Value) (T1 : Nat → Prop) (W : World), xs[k]? = some x → I k T1 W → (∀ b, T1 b → b < W.heap.size) →
      body.wpIn (Fence.wide.inRound l) 0 P (bodyEnd I Ix k T1 W) { tmps := (a.tmps.setIfInBounds p x).setIfInBounds s x, defers := [] } W)
    (hdone : ∀ (D : Nat) (T1 : Nat → Prop) (W : World), w.heap.size ≤ D → I xs.length T1 W → W.heap[D]? = some (.deferred (some [])) →
      Q .normal { a with defers := { target := .collected D, args := #[] } :: a.defers } W)
    (hstop : ∀ (D : Nat) (c : Code) (k : Nat) (T1 : Nat → Prop) (W : World), w.heap.size ≤ D → k ≤ xs.length → Ix c k T1 W → W.heap[D]? = some (.deferred (some [])) →
      c.wpIn Fence.wide 0 P Q { a with defers := { target := .collected D, args := #[] } :: a.defers } W) :
    (Code.rangeFunc g #[p] assign body).wpIn Fence.wide 0 P Q a w := by
  have hes : ∀ (k : Nat) es, (xs.map fun x => #[x])[k]? = some es → ∃ x, xs[k]? = some x ∧ es = #[x] := fun k es h => by
    rw [List.getElem?_map] at h
    cases hx : xs[k]? with
    | none => rw [hx] at h; cases h
    | some x => rw [hx] at h; cases h; exact ⟨x, rfl, rfl⟩
  refine range_genS hg eg hit hb0 (fun k es h => by obtain ⟨x, _, rfl⟩ := hes k es h; rfl) T hT I Ix hI hIx hno h0
    (fun k a' _ => ∃ x, xs[k]? = some x ∧ a' = { tmps := (a.tmps.setIfInBounds p x).setIfInBounds s x, defers := [] }) (fun _ _ _ _ _ _ h _ _ => h)
    (fun l k es W K h _ hK => ?_) (fun l k es a' T1 W h ha hi ht => ?_) (by simpa using hdone) (by simpa using hstop)
  · obtain ⟨x, hx, rfl⟩ := hes k es h
    rw [zip_one]
    exact hassign l k x W K hx (hK _ _ (Below.refl _ _) ⟨x, hx, rfl⟩)
  · obtain ⟨x, hx, rfl⟩ := ha
    exact hbody l k x T1 W hx hi ht


end
end Go.Sel
