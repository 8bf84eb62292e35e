/- The answers of New and Counts, the program's and the references', as one form. -/
import Derived.Test.YtihmgiifphheeaaDoorRef4
import Derived.Test.YtihmgiifphheeaaDoorViews2
namespace Go.Proofs.YtihmgiifphheeaaDoor
open Go.RowKit Go.Sel
/-- A pool whose blocks lie before n or from B on. -/
def PoolOut (n B : Nat) (v : Value) (s : List Int) (t : List (List Int)) (W : World) : Prop := ∀ w2, AgreeOut n B W w2 → W.heap.size ≤ w2.heap.size → IsPool w2.heap.size w2 v s t
theorem agreeOut_below {n B : Nat} {w w' : World} (h : Below w.heap.size w w') : AgreeOut n B w w' := fun _ _ _ _ h4 => (h.block _ (Array.getElem?_eq_some_iff.1 h4).1).trans h4
theorem agreeOut_only {n B : Nat} {S : Nat → Prop} {w w' : World} (h : Only S w w') (hS : ∀ k, S k → n ≤ k ∧ k < B) : AgreeOut n B w w' := fun k _ h1 _ h4 =>
  (h.block k (Array.getElem?_eq_some_iff.1 h4).1 (fun hk => by have := hS k hk; omega)).trans h4
theorem agreeOut_trans {n B : Nat} {a b c : World} (h : AgreeOut n B a b) (k : AgreeOut n B b c) : AgreeOut n B a c := fun i o h1 h2 h3 => k i o h1 h2 (h i o h1 h2 h3)
theorem PoolOut.up {n B : Nat} {v : Value} {s : List Int} {t : List (List Int)} {w w' : World} (h : PoolOut n B v s t w) (hb : Below w.heap.size w w') : PoolOut n B v s t w' :=
  fun w2 ha hs => h w2 (agreeOut_trans (agreeOut_below hb) ha) (Nat.le_trans hb.size hs)
theorem PoolOut.only {n B : Nat} {S : Nat → Prop} {v : Value} {s : List Int} {t : List (List Int)} {w w' : World} (h : PoolOut n B v s t w) (ho : Only S w w') (hS : ∀ k, S k → n ≤ k ∧ k < B) : PoolOut n B v s t w' :=
  fun w2 ha hs => h w2 (agreeOut_trans (agreeOut_only ho hS) ha) (Nat.le_trans ho.size hs)
theorem PoolOut.pool {n B : Nat} {v : Value} {s : List Int} {t : List (List Int)} {w : World} (h : PoolOut n B v s t w) : IsPool w.heap.size w v s t := h w (fun _ _ _ _ h => h) (Nat.le_refl _)
theorem PoolOut.of_cut {n B : Nat} {v : Value} {s : List Int} {t : List (List Int)} {w : World} (h : ∀ w2, AgreeOut n B w w2 → IsPool w.heap.size w2 v s t) : PoolOut n B v s t w := fun w2 ha hs => (h w2 ha).wider hs
/-- A new pool's states, its tables, its number. -/
def newS (n : Int) : List Int := if 1 ≤ n ∧ n ≤ 32 then List.replicate n.toNat 0 else []
def newT (n : Int) : List (List Int) := if 1 ≤ n ∧ n ≤ 32 then List.replicate n.toNat (List.replicate 32 0) else []
def newX (n : Int) : Int := if 1 ≤ n ∧ n ≤ 32 then 0 else 2
/-- A pool and a number. -/
def NumPost (x : Int) (s : List Int) (t : List (List Int)) (w : World) (e : Ending) (w' : World) : Prop :=
  Below w.heap.size w w' ∧ ∃ (a1 a2 : Option Addr) (l1 c1 l2 c2 : Nat), e = .returned (.tuple #[.agg #[.slice a1 l1 c1, .slice a2 l2 c2], .int .i64 x]) ∧ IsPool w'.heap.size w' (.agg #[.slice a1 l1 c1, .slice a2 l2 c2]) s t
theorem new_num (n : Int) (hn : I64 n) (w : World) : Calls Tryd.prog 16 #[.int .i64 n] w (NumPost (newX n) (newS n) (newT n) w) :=
  (new_any n hn w).mono fun e w' ⟨hb, h⟩ => by
    rcases h with ⟨hno, rfl⟩ | ⟨h1, h2, v, rfl, hP⟩
    · refine ⟨hb, none, none, 0, 0, 0, 0, by unfold newX; rw [if_neg hno], ?_⟩
      unfold newS newT
      rw [if_neg hno, if_neg hno]
      exact emptyPool _
    · obtain ⟨a1, c1, a2, c2, rfl⟩ := IsPool.open hP.pool
      refine ⟨hb, a1, a2, _, c1, _, c2, by unfold newX; rw [if_pos ⟨h1, h2⟩], ?_⟩
      unfold newS newT
      rw [if_pos ⟨h1, h2⟩, if_pos ⟨h1, h2⟩]
      exact hP.pool
theorem refNew_num (n : Int) (hn : I64 n) (w : World) : Calls Tryd.prog 17 #[.int .i64 n] w (NumPost (newX n) (newS n) (newT n) w) :=
  (ref10New_any n hn w).mono fun e w' ⟨hb, h⟩ => by
    rcases h with ⟨hno, rfl⟩ | ⟨h1, h2, a1, a2, l1, c1, l2, c2, rfl, hP⟩
    · refine ⟨hb, none, none, 0, 0, 0, 0, by unfold newX; rw [if_neg hno], ?_⟩
      unfold newS newT
      rw [if_neg hno, if_neg hno]
      exact emptyPool _
    · refine ⟨hb, a1, a2, l1, c1, l2, c2, by unfold newX; rw [if_pos ⟨h1, h2⟩], ?_⟩
      unfold newS newT
      rw [if_pos ⟨h1, h2⟩, if_pos ⟨h1, h2⟩]
      exact hP
theorem CV.num {s : List Int} {t : List (List Int)} {a : Option Addr} {l c : Nat} {x : Int} {W : World} (h : CV s t a l c x W) : x = if rightP s t = true then 0 else 100 := by
  rcases h.2 with ⟨h1, h2⟩ | ⟨h1, h2⟩
  · rw [if_neg (by rw [h1]; decide), h2]
  · rw [if_pos h1, h2]
theorem refSame_true {W : World} {v v' : Value} {s s' : List Int} {t t' : List (List Int)} (h : IsPool W.heap.size W v s t) (h' : IsPool W.heap.size W v' s' t') (hr : s = s' ∧ t = t') :
    Calls Tryd.prog 19 #[v, v'] W fun e w' => e = .returned (.bool true) ∧ Below W.heap.size W w' := by
  have := ref10Same_any h h' (Nat.le_refl _); rwa [decide_eq_true hr] at this
theorem ints_true {W : World} {v v' : Value} {xs : List Int} (h : IsInts W.heap.size W v xs) (h' : IsInts W.heap.size W v' xs) :
    Calls Tryd.prog 21 #[v, v'] W fun e w' => e = .returned (.bool true) ∧ Below W.heap.size W w' := by
  refine (refInts_any h h').mono ?_
  rintro e w' ⟨rfl, q, rfl⟩
  exact ⟨by rw [decide_eq_true rfl], below_drewN (Below.refl _ _) q⟩
end Go.Proofs.YtihmgiifphheeaaDoor
