/- A region that draws its order: reads taken first under a class of worlds; some operations (Z) need not keep the class, if they wait for all reads that are taken. -/
import Derived.Test.YtjhmghcfhgajcaaDoorDraw
namespace Go.Sel
open Go Go.RowKit
variable {P : Program} {ops : Array Oper} {Q : Exit → Act → World → Prop} {md : Region.Mode} {C : World → Prop}
/-- wpAny, each step but those of Z ending in the class. -/
def wpAnyZ (P : Program) (md : Region.Mode) (ops : Array Oper) (C : World → Prop) (Z : Nat → Bool) (Q : Exit → Act → World → Prop) : Nat → Array Bool → Act → World → Prop
  | 0, listed, a, w => Region.ready md ops listed = [] ∧ Q .normal a w
  | fuel + 1, listed, a, w =>
    (Region.ready md ops listed = [] → Q .normal a w) ∧
    ∀ i ∈ Region.ready md ops listed, wpOp P ops Q i (fun a' w' => (Z i = false → C w') ∧ wpAnyZ P md ops C Z Q fuel (listed.setIfInBounds i true) a' w') a w
theorem wpAnyZ.any {Z : Nat → Bool} : ∀ {fuel : Nat} {listed : Array Bool} {a : Act} {w : World}, wpAnyZ P md ops C Z Q fuel listed a w → wpAny P md ops Q fuel listed a w
  | 0, _, _, _, h => h
  | _ + 1, _, _, _, h => ⟨h.1, fun i hi => wpOp_mono (fun _ _ h => h.2.any) (h.2 i hi)⟩
theorem wpAnyZ_first {i : Nat} {Z : Nat → Bool} {oi : Oper} {v : Value} (hi : ops[i]? = some oi) (hsel : ∀ (j : Nat) (o : Oper) cs b, ops[j]? = some o → o.op ≠ .select cs b)
    (hQ : ∀ c a w, Q (.panic c) (a.put oi.dst v) w → Q (.panic c) a w) (hz : ∀ listed : Array Bool, i ∈ Region.ready md ops listed → ∀ z ∈ Region.ready md ops listed, Z z = false) :
    ∀ (fuel : Nat) (listed : Array Bool) (a : Act) (w : World), C w →
      (∀ j oj, ops[j]? = some oj → j ≠ i → listed.getD j true = false → (∀ e ∈ oj.after, Region.binds md e = true → e.on ≠ i) → oi.apart ops oj = true) →
      i ∈ Region.ready md ops listed → YieldsC P ops C oi v a →
      wpAnyZ P md ops C Z Q fuel (listed.setIfInBounds i true) (a.put oi.dst v) w → wpAnyZ P md ops C Z Q (fuel + 1) listed a w := by
  intro fuel
  induction fuel with
  | zero =>
    intro listed a w hC _ hr hy H
    refine ⟨fun h => (by rw [h] at hr; cases hr), fun j hj => ?_⟩
    by_cases hji : j = i
    · subst hji; exact hy.wpOp hi hC ⟨fun _ => hC, H⟩
    · have := ready_mono hj hji
      rw [H.1] at this
      cases this
  | succ fuel ih =>
    intro listed a w hC hfree hr hy H
    refine ⟨fun h => (by rw [h] at hr; cases hr), fun j hj => ?_⟩
    by_cases hji : j = i
    · subst hji; exact hy.wpOp hi hC ⟨fun _ => hC, H⟩
    · have h1 := H.2 j (ready_mono hj hji)
      have hjz : Z j = false := hz listed hr j hj
      obtain ⟨hjun, oj, hoj, hall⟩ := mem_ready.1 hj
      have hnot : ∀ e ∈ oj.after, Region.binds md e = true → e.on ≠ i := fun e he hb heq => by
        have h1 := hall e he hb
        have h0 := (mem_ready.1 hr).1
        rw [heq] at h1
        rcases Nat.lt_or_ge i listed.size with h' | h'
        · simp [h'] at h0 h1; rw [h0] at h1; cases h1
        · simp [Array.getElem?_eq_none h'] at h1
      have h2 := wpOp_putC hoj (hfree j oj hoj hji hjun hnot) (fun cs b => hsel i oi cs b hi) (fun cs b => hsel j oj cs b hoj) hQ hy h1
      have hfree' : ∀ k ok, ops[k]? = some ok → k ≠ i → (listed.setIfInBounds j true).getD k true = false →
          (∀ e ∈ ok.after, Region.binds md e = true → e.on ≠ i) → oi.apart ops ok = true := fun k ok hk hki hun hno => by
        refine hfree k ok hk hki ?_ hno
        by_cases hjk : j = k
        · subst hjk; exact hjun
        · rw [getD_set_ne true hjk] at hun; exact hun
      refine wpOp_mono (fun a' w' h3 => ⟨h3.2.1, ih (listed.setIfInBounds j true) a' w' (h3.2.1 hjz) hfree' (ready_mono hr (Ne.symm hji)) h3.1 ?_⟩) h2
      rw [Array.setIfInBounds_comm _ _ hji]
      exact h3.2.2

/-- All of Z wait for i. -/
def allWait (md : Region.Mode) (ops : Array Oper) (Z : Nat → Bool) (i : Nat) : Bool := (List.range ops.size).all fun j => !Z j || waits md ops j i
theorem allWait_spec {Z : Nat → Bool} {i : Nat} (h : allWait md ops Z i = true) (listed : Array Bool) (hr : i ∈ Region.ready md ops listed) : ∀ z ∈ Region.ready md ops listed, Z z = false := fun z hz => by
  obtain ⟨_, o, ho, _⟩ := mem_ready.1 hz
  have hlt : z < ops.size := (Array.getElem?_eq_some_iff.1 ho).1
  have := List.all_eq_true.1 h z (List.mem_range.2 hlt)
  cases hZ : Z z with
  | false => rfl
  | true =>
    rw [hZ] at this
    exact absurd hz (waits_spec (by simpa using this) listed hr)
/-- A read is taken first. -/
theorem wpAnyZ_take (i : Nat) {Z : Nat → Bool} {oi : Oper} (v : Value) {fuel : Nat} {listed : Array Bool} {a : Act} {w : World} (hi : ops[i]? = some oi)
    (hs : (Region.noSelect ops && Region.free md ops listed i && (Region.ready md ops listed).contains i && allWait md ops Z i) = true) (hg : Region.wanted oi (yielded ops a.tmps) = true)
    (hQ : ∀ c a w, Q (.panic c) (a.put oi.dst v) w → Q (.panic c) a w) (hC : C w) (hy : ∀ w, C w → (execOp a.eval oi).run P w = .ok (.value v) w)
    (h : wpAnyZ P md ops C Z Q fuel (listed.setIfInBounds i true) (a.put oi.dst v) w) : wpAnyZ P md ops C Z Q (fuel + 1) listed a w := by
  simp only [Bool.and_eq_true] at hs
  obtain ⟨⟨⟨hs, hf⟩, hr⟩, hwt⟩ := hs
  exact wpAnyZ_first hi (Region.noSelect_spec hs) hQ (allWait_spec hwt) fuel listed a w hC (Region.free_spec hi hf) (by simpa using hr) (.inl ⟨hg, hy⟩) h
/-- An operation whose guard does not let it, passed over. -/
theorem wpAnyZ_skip (i : Nat) {Z : Nat → Bool} {oi : Oper} {fuel : Nat} {listed : Array Bool} {a : Act} {w : World} (hi : ops[i]? = some oi)
    (hs : (Region.noSelect ops && Region.free md ops listed i && (Region.ready md ops listed).contains i && allWait md ops Z i) = true) (hg : Region.wanted oi (yielded ops a.tmps) = false)
    (hQ : ∀ c a w, Q (.panic c) (a.put oi.dst undef) w → Q (.panic c) a w) (hC : C w)
    (h : wpAnyZ P md ops C Z Q fuel (listed.setIfInBounds i true) (a.put oi.dst undef) w) : wpAnyZ P md ops C Z Q (fuel + 1) listed a w := by
  simp only [Bool.and_eq_true] at hs
  obtain ⟨⟨⟨hs, hf⟩, hr⟩, hwt⟩ := hs
  exact wpAnyZ_first hi (Region.noSelect_spec hs) hQ (allWait_spec hwt) fuel listed a w hC (Region.free_spec hi hf) (by simpa using hr) (.inr ⟨hg, rfl⟩) h
/-- The one operation that may come up. -/
theorem wpAnyZ_act (i : Nat) {Z : Nat → Bool} {oi : Oper} {fuel : Nat} {listed : Array Bool} {a : Act} {w : World} (hi : ops[i]? = some oi)
    (hr : Region.ready md ops listed = [i]) (hg : Region.wanted oi (yielded ops a.tmps) = true)
    (h : oi.wp P a w (fun a' w' => (Z i = false → C w') ∧ wpAnyZ P md ops C Z Q fuel (listed.setIfInBounds i true) a' w') Q) : wpAnyZ P md ops C Z Q (fuel + 1) listed a w := by
  refine ⟨fun h0 => (by rw [hr] at h0; cases h0), fun j hj => ?_⟩
  rw [hr] at hj
  obtain rfl := List.mem_singleton.1 hj
  unfold wpOp
  rw [hi]
  simp only []
  rw [if_pos hg]
  exact .inl h
theorem wpAnyZ_done {Z : Nat → Bool} {fuel : Nat} {listed : Array Bool} {a : Act} {w : World} (hr : Region.ready md ops listed = []) (h : Q .normal a w) : wpAnyZ P md ops C Z Q fuel listed a w := by
  cases fuel with
  | zero => exact ⟨hr, h⟩
  | succ n => exact ⟨fun _ => h, by rw [hr]; simp⟩
theorem wp_regionZ {id : Nat} {a : Act} {w : World} (C : World → Prop) (Z : Nat → Bool) (hm : P.follows .mixedOrders = true)
    (h : wpAnyZ P .any ops C Z Q ops.size (Array.replicate ops.size false) a w.drew) : (Code.region id ops true).wp P Q a w := wp_region_any hm h.any
end Go.Sel
