/- The answers of the pool's functions as one form: a pool of two slices, a place, a flag or number; what holds of them stays where nothing old is turned. -/
import Derived.Test.YtihmgiifphheeaaDoorPlain2
namespace Go.Proofs.YtihmgiifphheeaaDoor
open Go.RowKit Go.Sel
theorem ErrT.up {w w' : World} (h : ErrT w.heap.size w) (hb : Below w.heap.size w w') : ErrT w'.heap.size w' := ⟨(h.below hb).1, Nat.lt_of_lt_of_le h.2 hb.size⟩
theorem RunErrs.up {a0 a1 : Addr} {w w' : World} (h : RunErrs a0 a1 w.heap.size w) (hb : Below w.heap.size w w') : RunErrs a0 a1 w'.heap.size w' := by
  have := h.below hb
  obtain ⟨⟨g1, g2, g3, g4⟩, ⟨j1, j2, j3, j4⟩, r⟩ := this
  have := hb.size
  exact ⟨⟨g1, by omega, by omega, g4⟩, ⟨j1, by omega, by omega, j4⟩, r⟩
theorem emptyPool (w : World) : IsPool w.heap.size w (.agg #[.slice none 0 0, .slice none 0 0]) [] [] := ⟨_, _, rfl, IsSl.nil, IsSl.nil⟩
theorem rightP_nil : rightP [] [] = false := by decide +kernel
/-- A pool and a flag: N where it is not set; R of the pool where it is. -/
def TV (N : Prop) (R : List Int → List (List Int) → Prop) (ok : Bool) (V : Value) (W : World) : Prop :=
  ∃ s t, IsPool W.heap.size W V s t ∧ ((ok = false ∧ N ∧ s = [] ∧ t = []) ∨ (ok = true ∧ R s t))
theorem TV.up {N : Prop} {R : List Int → List (List Int) → Prop} {ok : Bool} {V : Value} {W W' : World} (h : TV N R ok V W) (hb : Below W.heap.size W W') : TV N R ok V W' := by
  obtain ⟨s, t, h1, h2⟩ := h
  exact ⟨s, t, (h1.below hb).wider hb.size, h2⟩
theorem take_view {s sts : List Int} {t : List (List Int)} {w : World} {e : Ending} {w' : World} (h : TakePost s t sts w e w') :
    Below w.heap.size w w' ∧ ∃ (a1 a2 : Option Addr) (l1 c1 l2 c2 b : Nat) (ok : Bool), e = .returned (.tuple #[.agg #[.slice a1 l1 c1, .slice a2 l2 c2], .int .i64 ((b : Nat) : Int), .bool ok]) ∧
      TV (rightP s t = false ∨ takeB s sts = none) (fun s' t' => rightP s t = true ∧ takeB s sts = some b ∧ s' = s.set b 5 ∧ t' = t) ok (.agg #[.slice a1 l1 c1, .slice a2 l2 c2]) w' := by
  obtain ⟨hb, ⟨hno, rfl⟩ | ⟨b, v, hr, hB, rfl, hP⟩⟩ := h
  · exact ⟨hb, none, none, 0, 0, 0, 0, 0, false, rfl, [], [], emptyPool _, .inl ⟨rfl, hno, rfl, rfl⟩⟩
  · obtain ⟨a1, c1, a2, c2, rfl⟩ := IsPool.open hP.pool
    exact ⟨hb, a1, a2, _, c1, _, c2, b, true, rfl, _, _, hP.pool, .inr ⟨rfl, hr, hB, rfl, rfl⟩⟩
theorem takeRun_view {k : Int} {s : List Int} {t : List (List Int)} {w : World} {e : Ending} {w' : World} (h : TakeRunPost k s t w e w') :
    Below w.heap.size w w' ∧ ∃ (a1 a2 : Option Addr) (l1 c1 l2 c2 b : Nat) (ok : Bool), e = .returned (.tuple #[.agg #[.slice a1 l1 c1, .slice a2 l2 c2], .int .i64 ((b : Nat) : Int), .bool ok]) ∧
      TV (firstL s k = none ∨ rightP s t = false) (fun s' t' => rightP s t = true ∧ (∃ h : Nat × Nat, firstL s k = some h ∧ b = h.1 ∧ s' = putRow s h.1 k.toNat) ∧ t' = t) ok (.agg #[.slice a1 l1 c1, .slice a2 l2 c2]) w' := by
  obtain ⟨hb, ⟨hno, rfl⟩ | ⟨hh, v, hf, hr, rfl, hP⟩⟩ := h
  · exact ⟨hb, none, none, 0, 0, 0, 0, 0, false, rfl, [], [], emptyPool _, .inl ⟨rfl, hno, rfl, rfl⟩⟩
  · obtain ⟨a1, c1, a2, c2, rfl⟩ := IsPool.open hP.pool
    exact ⟨hb, a1, a2, _, c1, _, c2, hh.1, true, rfl, _, _, hP.pool, .inr ⟨rfl, hr, ⟨hh, hf, rfl, rfl⟩, rfl⟩⟩
/-- A pool and a number. -/
def GV (E : Option Int) (s0 : List Int) (t0 : List (List Int)) (x : Int) (V : Value) (W : World) : Prop :=
  ∃ s t, IsPool W.heap.size W V s t ∧ ((E = some x ∧ s = [] ∧ t = []) ∨ (E = none ∧ x = 0 ∧ s = s0 ∧ t = t0))
theorem GV.up {E : Option Int} {s0 : List Int} {t0 : List (List Int)} {x : Int} {V : Value} {W W' : World} (h : GV E s0 t0 x V W) (hb : Below W.heap.size W W') : GV E s0 t0 x V W' := by
  obtain ⟨s, t, h1, h2⟩ := h
  exact ⟨s, t, (h1.below hb).wider hb.size, h2⟩
theorem give_view {E : Option Int} {s : List Int} {t : List (List Int)} {w : World} {e : Ending} {w' : World} (h : GivePost E s t w e w') :
    Below w.heap.size w w' ∧ ∃ (a1 a2 : Option Addr) (l1 c1 l2 c2 : Nat) (x : Int), e = .returned (.tuple #[.agg #[.slice a1 l1 c1, .slice a2 l2 c2], .int .i64 x]) ∧
      GV E s t x (.agg #[.slice a1 l1 c1, .slice a2 l2 c2]) w' := by
  obtain ⟨hb, ⟨x, hE, rfl⟩ | ⟨v, hE, rfl, hP⟩⟩ := h
  · exact ⟨hb, none, none, 0, 0, 0, 0, x, rfl, [], [], emptyPool _, .inl ⟨hE, rfl, rfl⟩⟩
  · obtain ⟨a1, c1, a2, c2, rfl⟩ := IsPool.open hP.pool
    exact ⟨hb, a1, a2, _, c1, _, c2, 0, rfl, _, _, hP.pool, .inr ⟨hE, rfl, rfl, rfl⟩⟩
/-- Counts and a number. -/
def CV (s : List Int) (t : List (List Int)) (a : Option Addr) (l c : Nat) (x : Int) (W : World) : Prop :=
  IsInts W.heap.size W (.slice a l c) (if rightP s t = true then countsP s else []) ∧ ((rightP s t = false ∧ x = 100) ∨ (rightP s t = true ∧ x = 0))
theorem CV.up {s : List Int} {t : List (List Int)} {a : Option Addr} {l c : Nat} {x : Int} {W W' : World} (h : CV s t a l c x W) (hb : Below W.heap.size W W') : CV s t a l c x W' :=
  ⟨(h.1.below hb).wider hb.size, h.2⟩
theorem counts_range {s : List Int} {t : List (List Int)} (hr : rightP s t = true) : ∀ x ∈ countsP s, I64 x := by
  intro x hx
  unfold countsP at hx
  obtain ⟨i, _, rfl⟩ := List.mem_map.1 hx
  have := counts_le hr (i : Int)
  unfold I64
  omega
theorem counts_view {s : List Int} {t : List (List Int)} {w : World} {e : Ending} {w' : World} (h : CountsPost s t w e w') :
    Below w.heap.size w w' ∧ ∃ (a : Option Addr) (l c : Nat) (x : Int), e = .returned (.tuple #[.slice a l c, .int .i64 x]) ∧ CV s t a l c x w' := by
  obtain ⟨hb, ⟨hno, rfl⟩ | ⟨hr, v, rfl, hrow⟩⟩ := h
  · exact ⟨hb, none, 0, 0, 100, rfl, by rw [if_neg (by rw [hno]; decide)]; exact IsSl.nil, .inl ⟨hno, rfl⟩⟩
  · obtain ⟨a, c, rfl, _⟩ := owns_open hrow
    exact ⟨hb, a, _, c, 0, rfl, by rw [if_pos hr]; exact IsInts.of_owns (xs := countsP s) hrow (by simp [countsP, big]) (counts_range hr), .inr ⟨hr, rfl⟩⟩
/-- Counts of a right pool, cell by cell. -/
theorem CV.cells {s : List Int} {t : List (List Int)} {a : Option Addr} {l c : Nat} {x : Int} {W : World} {x0 x1 x2 x3 x4 x5 : Int} (h : CV s t a l c x W) (hr : rightP s t = true) (hc : countsP s = [x0, x1, x2, x3, x4, x5]) :
    x = 0 ∧ l = 6 ∧ ∃ g o, a = some ⟨g, o, none⟩ ∧ 6 ≤ c ∧ W.cell? ⟨g, o, none⟩ = some (.int .i64 x0) ∧ W.cell? ⟨g, o + 1, none⟩ = some (.int .i64 x1) ∧ W.cell? ⟨g, o + 2, none⟩ = some (.int .i64 x2) ∧
      W.cell? ⟨g, o + 3, none⟩ = some (.int .i64 x3) ∧ W.cell? ⟨g, o + 4, none⟩ = some (.int .i64 x4) ∧ W.cell? ⟨g, o + 5, none⟩ = some (.int .i64 x5) := by
  obtain ⟨h1, h2⟩ := h
  rw [if_pos hr, hc] at h1
  obtain ⟨a', c', he, hle⟩ := h1.open
  cases he
  have k := fun (j : Nat) (hj : j < 6) => h1.at (k := j) hj
  obtain ⟨y0, b, o, e0, rfl, _, k0, _⟩ := k 0 (by omega)
  obtain ⟨y1, b1, o1, e1, f1, _, k1, _⟩ := k 1 (by omega)
  obtain ⟨y2, b2, o2, e2, f2, _, k2, _⟩ := k 2 (by omega)
  obtain ⟨y3, b3, o3, e3, f3, _, k3, _⟩ := k 3 (by omega)
  obtain ⟨y4, b4, o4, e4, f4, _, k4, _⟩ := k 4 (by omega)
  obtain ⟨y5, b5, o5, e5, f5, _, k5, _⟩ := k 5 (by omega)
  cases f1; cases f2; cases f3; cases f4; cases f5
  cases e0; cases e1; cases e2; cases e3; cases e4; cases e5
  refine ⟨?_, rfl, b, o, rfl, hle, k0, k1, k2, k3, k4, k5⟩
  rcases h2 with h2 | h2
  · rw [hr] at h2; cases h2.1
  · exact h2.2
theorem right_true {W : World} {v : Value} {s : List Int} {t : List (List Int)} (h : IsPool W.heap.size W v s t) (hr : rightP s t = true) : Calls Tryd.prog 13 #[v] W fun e w' => e = .returned (.bool true) ∧ Below W.heap.size W w' := by
  have := poolRight_any h (Nat.le_refl _); rwa [hr] at this
theorem right_false {W : World} {v : Value} {s : List Int} {t : List (List Int)} (h : IsPool W.heap.size W v s t) (hr : rightP s t = false) : Calls Tryd.prog 13 #[v] W fun e w' => e = .returned (.bool false) ∧ Below W.heap.size W w' := by
  have := poolRight_any h (Nat.le_refl _); rwa [hr] at this
theorem others_true {W : World} {v v' : Value} {s s' : List Int} {t t' : List (List Int)} (f m : Nat) (hf : f ≤ 1048576) (hm : m ≤ 1048576) (h : IsPool W.heap.size W v s t) (h' : IsPool W.heap.size W v' s' t') (hr : othersP s s' t t' f m = true) :
    Calls Tryd.prog 14 #[v, v', .int .i64 f, .int .i64 m] W fun e w' => e = .returned (.bool true) ∧ Below W.heap.size W w' := by
  have := others_any f m hf hm h h' (Nat.le_refl _); rwa [hr] at this
theorem same_true {W : World} {v v' : Value} {s s' : List Int} {t t' : List (List Int)} (h : IsPool W.heap.size W v s t) (h' : IsPool W.heap.size W v' s' t') (hr : s = s' ∧ t = t') :
    Calls Tryd.prog 22 #[v, v'] W fun e w' => e = .returned (.bool true) ∧ Below W.heap.size W w' := by
  have := poolSame_any h h' (Nat.le_refl _); rwa [decide_eq_true hr] at this
/-- What a block taken leaves. -/
theorem take_keeps {s : List Int} {t : List (List Int)} {a : Int} {b : Nat} {s' : List Int} {t' : List (List Int)} (ha : a = 0 ∨ a = 1) (h : rightP s t = true ∧ takeB s [a] = some b ∧ s' = s.set b 5 ∧ t' = t) :
    rightP s' t' = true ∧ othersP s s' t t' b 1 = true ∧ b ≤ 1048576 := by
  obtain ⟨hr, hb, rfl, rfl⟩ := h
  have := (takeB_spec hb).1
  have := (rightP_states hr).2.1
  exact ⟨rightP_taken hr hb ha, othersP_taken (rightP_len hr), by omega⟩
theorem run_keeps {s : List Int} {t : List (List Int)} {k : Int} {b : Nat} {s' : List Int} {t' : List (List Int)} (h : rightP s t = true ∧ (∃ h : Nat × Nat, firstL s k = some h ∧ b = h.1 ∧ s' = putRow s h.1 k.toNat) ∧ t' = t) :
    rightP s' t' = true ∧ othersP s s' t t' b k.toNat = true ∧ b ≤ 1048576 ∧ 1 ≤ k ∧ k ≤ 32 := by
  obtain ⟨hr, ⟨p, hf, rfl, rfl⟩, rfl⟩ := h
  obtain ⟨k1, k2, _⟩ := firstL_zeros hf
  have := (rightP_states hr).2.1
  exact ⟨rightP_put hr hf, othersP_put k1 k2 (rightP_len hr), by omega, by omega, by omega⟩
end Go.Proofs.YtihmgiifphheeaaDoor
