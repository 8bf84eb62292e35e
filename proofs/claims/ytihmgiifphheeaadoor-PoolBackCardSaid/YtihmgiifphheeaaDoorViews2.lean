/- Contracts of Drop, Close, Set where they give back what was taken. -/
import Derived.Test.YtihmgiifphheeaaDoorViews
import Derived.Test.YtihmgiifphheeaaDoorDraw2
namespace Go.Proofs.YtihmgiifphheeaaDoor
open Go.RowKit Go.Sel
/-- A pool and numbers. -/
def BackPost (xs : List Int) (s : List Int) (t : List (List Int)) (w : World) (e : Ending) (w' : World) : Prop :=
  Below w.heap.size w w' ∧ ∃ (a1 a2 : Option Addr) (l1 c1 l2 c2 : Nat), e = .returned (.tuple (#[.agg #[.slice a1 l1 c1, .slice a2 l2 c2]] ++ (xs.map (Value.int .i64)).toArray)) ∧ PoolIn w.heap.size w'.heap.size w' (.agg #[.slice a1 l1 c1, .slice a2 l2 c2]) s t
theorem drop_back {W : World} {a0 a1 : Addr} {v : Value} {s s' : List Int} {t t' : List (List Int)} {k : Int} {b : Nat} (h : IsPool W.heap.size W v s' t') (hE : RunErrs a0 a1 W.heap.size W)
    (hA : rightP s t = true ∧ (∃ h : Nat × Nat, firstL s k = some h ∧ b = h.1 ∧ s' = putRow s h.1 k.toNat) ∧ t' = t) :
    Calls Tryd.prog 25 #[v, .int .i64 b] W (BackPost [k, 0] s t W) := by
  obtain ⟨hr, ⟨p, hf, rfl, rfl⟩, rfl⟩ := hA
  obtain ⟨k1, k2, _⟩ := firstL_zeros hf
  have hc := cut_put hr hf
  have h32 := (rightP_states hr).2.1
  have hm := must_put (s := s) k1 k2
  refine (drop_any (p.1 : Int) (by unfold I64; omega) h hE (Nat.le_refl _)).mono ?_
  rintro e w' ⟨hb, ⟨hno, _⟩ | ⟨_, hno, _⟩ | ⟨_, _, v', rfl, hP⟩⟩
  · rw [rightP_put hr hf] at hno; cases hno
  · rw [hm] at hno; cases hno
  · rw [Int.toNat_natCast, hc.1, hc.2] at hP
    obtain ⟨b1, c1, b2, c2, rfl⟩ := IsPool.open hP.pool
    refine ⟨hb, b1, b2, _, c1, _, c2, ?_, hP⟩
    rw [Int.toNat_natCast, hc.1]
    have e : ((k.toNat : Nat) : Int) = k := by omega
    rw [e]
    rfl
theorem close_ok {W : World} {v : Value} {s : List Int} {t : List (List Int)} {b : Nat} (h : IsPool W.heap.size W v s t) (hE : ErrT W.heap.size W) (hb : b ≤ 1048576) (hk : blockE s t (b : Int) [5] = none) :
    Calls Tryd.prog 26 #[v, .int .i64 b] W (BackPost [0] (s.set b 2) t W) := by
  refine (close_any (b : Int) (by unfold I64; omega) h hE (Nat.le_refl _)).mono ?_
  rintro e w' ⟨hb, ⟨x, hno, _⟩ | ⟨v', _, rfl, hP⟩⟩
  · rw [hk] at hno; cases hno
  · rw [Int.toNat_natCast] at hP
    obtain ⟨b1, c1, b2, c2, rfl⟩ := IsPool.open hP.pool
    exact ⟨hb, b1, b2, _, c1, _, c2, rfl, hP⟩
theorem set_ok {W : World} {v vx : Value} {s x : List Int} {t : List (List Int)} {b : Nat} (h : IsPool W.heap.size W v s t) (hx : IsInts W.heap.size W vx x) (hE : ErrT W.heap.size W) (hb : b ≤ 1048576) (hk : setE s t (b : Int) x = none) :
    Calls Tryd.prog 24 #[v, .int .i64 b, vx] W (BackPost [0] (s.set b (stateL x)) (t.set b x) W) := by
  refine (set_any (b : Int) (by unfold I64; omega) h hx hE (Nat.le_refl _)).mono ?_
  rintro e w' ⟨hb, ⟨x', hno, _⟩ | ⟨v', _, rfl, hP⟩⟩
  · rw [hk] at hno; cases hno
  · rw [Int.toNat_natCast] at hP
    obtain ⟨b1, c1, b2, c2, rfl⟩ := IsPool.open hP.pool
    exact ⟨hb, b1, b2, _, c1, _, c2, rfl, hP⟩
/-- A table of zeros, new. -/
theorem zeros_new {w : World} {g : Nat} (h : w.heap[g]? = some (.cells ((List.replicate 32 0).map (Value.int .i64)).toArray 3 (0, 0))) : IsInts w.heap.size w (.slice (some ⟨g, 0, none⟩) 32 32) (List.replicate 32 0) := by
  have hr : w.ownsRow g 3 1 (.slice (some ⟨g, 0, none⟩) 32 32) (List.replicate 32 (0 : Int)).length ((List.replicate 32 (0 : Int)).map (Value.int .i64)) :=
    ⟨by simp, .inr ⟨g, 32, _, rfl, Nat.le_refl _, h, by decide, by decide, by simp, by simp⟩⟩
  exact IsInts.of_owns (xs := List.replicate 32 0) hr (by simp [big]) (by intro x hx; rw [(List.mem_replicate.1 hx).2]; unfold I64; omega)
end Go.Proofs.YtihmgiifphheeaaDoor
