/- How data lie in a world: slices of integers, slices of slices, slices of pairs; over any program. -/
import Derived.Test.YtjhmghcfhgajcaaDoorBase
namespace Go.Sel
open Go Go.RowKit

/-- An int of Go's. -/
def I64 (x : Int) : Prop := -9223372036854775808 ≤ x ∧ x ≤ 9223372036854775807
/-- No list that is met is longer. -/
def big : Nat := 1048576

/-- A slice whose elements (sz cells each, said of by R) lie in blocks before n. -/
def IsSl {α : Type} (n sz : Nat) (R : World → Nat → Nat → α → Prop) (w : World) (v : Value) (xs : List α) : Prop :=
  ∃ (a : Option Addr) (c : Nat), v = .slice a xs.length c ∧ xs.length ≤ c ∧ xs.length ≤ big ∧
    ∀ (j : Nat) (x : α), xs[j]? = some x → ∃ b o, a = some ⟨b, o, none⟩ ∧ b < n ∧ R w b (o + j * sz) x

def Stable {α : Type} (n : Nat) (R : World → Nat → Nat → α → Prop) : Prop :=
  ∀ (w w' : World) (b p : Nat) (x : α), b < n → (∀ k, k < n → w'.heap[k]? = w.heap[k]?) → R w b p x → R w' b p x

theorem IsSl.same {α : Type} {n sz : Nat} {R : World → Nat → Nat → α → Prop} {w w' : World} {v : Value} {xs : List α} (h : IsSl n sz R w v xs) (hR : Stable n R) (hb : ∀ k, k < n → w'.heap[k]? = w.heap[k]?) : IsSl n sz R w' v xs := by
  obtain ⟨a, c, rfl, h1, h2, h3⟩ := h
  refine ⟨a, c, rfl, h1, h2, fun j x hx => ?_⟩
  obtain ⟨b, o, rfl, h4, h5⟩ := h3 j x hx
  exact ⟨b, o, rfl, h4, hR _ _ _ _ _ h4 hb h5⟩
theorem IsSl.wider {α : Type} {n n' sz : Nat} {R R' : World → Nat → Nat → α → Prop} {w : World} {v : Value} {xs : List α} (h : IsSl n sz R w v xs) (hn : n ≤ n') (hR : ∀ b p x, R w b p x → R' w b p x) : IsSl n' sz R' w v xs := by
  obtain ⟨a, c, rfl, h1, h2, h3⟩ := h
  refine ⟨a, c, rfl, h1, h2, fun j x hx => ?_⟩
  obtain ⟨b, o, rfl, h4, h5⟩ := h3 j x hx
  exact ⟨b, o, rfl, Nat.lt_of_lt_of_le h4 hn, hR _ _ _ h5⟩
theorem IsSl.len {α : Type} {n sz : Nat} {R : World → Nat → Nat → α → Prop} {w : World} {v : Value} {xs : List α} (h : IsSl n sz R w v xs) : xs.length ≤ big := by
  obtain ⟨a, c, rfl, h1, h2, h3⟩ := h; exact h2
theorem IsSl.nil {α : Type} {n sz : Nat} {R : World → Nat → Nat → α → Prop} {w : World} : IsSl n sz R w (.slice none 0 0) ([] : List α) :=
  ⟨none, 0, rfl, Nat.le_refl _, Nat.zero_le _, fun j x hx => by simp at hx⟩

/-- An integer in a cell. -/
def RInt (w : World) (b p : Nat) (x : Int) : Prop := w.cell? ⟨b, p, none⟩ = some (.int .i64 x) ∧ I64 x
theorem RInt.stable (n : Nat) : Stable n RInt := fun w w' b p _ hb hk h => ⟨(World.cell?_of_block (w := w) (w' := w') (a := ⟨b, p, none⟩) (hk b hb)).trans h.1, h.2⟩

/-- A slice of integers. -/
def IsInts (n : Nat) (w : World) (v : Value) (xs : List Int) : Prop := IsSl n 1 RInt w v xs
theorem IsInts.below {n : Nat} {w w' : World} {v : Value} {xs : List Int} (h : IsInts n w v xs) (hb : Below n w w') : IsInts n w' v xs := IsSl.same h (RInt.stable n) hb.block
theorem IsInts.quiet {n B : Nat} {T : Nat → Prop} {w w' : World} {v : Value} {xs : List Int} (h : IsInts n w v xs) (hb : Quiet B T w w') (hn : n ≤ B) (hs : n ≤ w.heap.size) : IsInts n w' v xs := h.below (hb.upto hn hs)
theorem IsInts.wider {n n' : Nat} {w : World} {v : Value} {xs : List Int} (h : IsInts n w v xs) (hn : n ≤ n') : IsInts n' w v xs := IsSl.wider h hn (fun _ _ _ h => h)
theorem IsInts.len {n : Nat} {w : World} {v : Value} {xs : List Int} (h : IsInts n w v xs) : xs.length ≤ big := IsSl.len h
theorem IsInts.at {n : Nat} {w : World} {a : Option Addr} {l c : Nat} {xs : List Int} (h : IsInts n w (.slice a l c) xs) {k : Nat} (hk : k < xs.length) :
    ∃ x b o, xs[k]? = some x ∧ a = some ⟨b, o, none⟩ ∧ b < n ∧ w.cell? ⟨b, o + k, none⟩ = some (.int .i64 x) ∧ I64 x := by
  obtain ⟨a', c', he, h1, h2, h3⟩ := h
  cases he
  obtain ⟨b, o, rfl, h4, h5⟩ := h3 k xs[k] (List.getElem?_eq_getElem hk)
  exact ⟨xs[k], b, o, List.getElem?_eq_getElem hk, rfl, h4, by simpa using h5.1, h5.2⟩
theorem IsInts.range {n : Nat} {w : World} {v : Value} {xs : List Int} (h : IsInts n w v xs) {x : Int} (hx : x ∈ xs) : I64 x := by
  obtain ⟨a', c', he, h1, h2, h3⟩ := h
  obtain ⟨j, hj, rfl⟩ := List.getElem_of_mem hx
  obtain ⟨b, o, _, _, h5⟩ := h3 j xs[j] (List.getElem?_eq_getElem hj)
  exact h5.2
theorem IsInts.open {n : Nat} {w : World} {v : Value} {xs : List Int} (h : IsInts n w v xs) : ∃ a c, v = .slice a xs.length c ∧ xs.length ≤ c := by
  obtain ⟨a', c', he, h1, h2, h3⟩ := h
  exact ⟨a', c', he, h1⟩
theorem IsInts.of_owns {w : World} {base : Nat} {e : TypeId} {v : Value} {xs : List Int} (h : w.ownsRow base e 1 v xs.length (xs.map (Value.int .i64))) (hl : xs.length ≤ big) (hx : ∀ x ∈ xs, I64 x) : IsInts w.heap.size w v xs := by
  have hc := h
  obtain ⟨h1, h2⟩ := h
  rcases h2 with ⟨rfl, h2⟩ | ⟨g, cap, cur, rfl, hg, hh, h3, h4, h5, h6⟩
  · have : xs = [] := List.length_eq_zero_iff.1 h2
    subst this
    exact IsSl.nil
  · refine ⟨_, _, rfl, h3, hl, fun j x hx' => ⟨g, 0, rfl, (Array.getElem?_eq_some_iff.1 hh).1, ?_, hx x (List.mem_of_getElem? hx')⟩⟩
    have := hc.cells (g := g) rfl j (.int .i64 x) (by simp [hx'])
    have hadd : (⟨g, 0, none⟩ : Addr).add j = ⟨g, j, none⟩ := by unfold Addr.add; split <;> simp_all
    rw [hadd] at this
    simpa using this

theorem owns_open {w : World} {base : Nat} {e : TypeId} {size : Nat} {v : Value} {k : Nat} {xs : List Value} (h : w.ownsRow base e size v k xs) : ∃ a c, v = .slice a k c ∧ k ≤ c := by
  rcases h.2 with ⟨rfl, rfl⟩ | ⟨g, cap, cur, rfl, _, _, h3, _⟩
  · exact ⟨none, 0, rfl, Nat.le_refl _⟩
  · exact ⟨_, _, rfl, h3⟩

/-- A slice of integers in a cell. -/
def RInts (n : Nat) (w : World) (b p : Nat) (xs : List Int) : Prop := ∃ v, w.cell? ⟨b, p, none⟩ = some v ∧ IsInts n w v xs
theorem RInts.stable (n : Nat) : Stable n (RInts n) := fun w w' b p _ hb hk ⟨v, h1, h2⟩ => ⟨v, (World.cell?_of_block (w := w) (w' := w') (a := ⟨b, p, none⟩) (hk b hb)).trans h1, IsSl.same h2 (RInt.stable n) hk⟩
/-- A slice of slices of integers. -/
def IsTabs (n : Nat) (w : World) (v : Value) (tt : List (List Int)) : Prop := IsSl n 1 (RInts n) w v tt
theorem IsTabs.below {n : Nat} {w w' : World} {v : Value} {xs : List (List Int)} (h : IsTabs n w v xs) (hb : Below n w w') : IsTabs n w' v xs := IsSl.same h (RInts.stable n) hb.block
theorem IsTabs.quiet {n B : Nat} {T : Nat → Prop} {w w' : World} {v : Value} {xs : List (List Int)} (h : IsTabs n w v xs) (hb : Quiet B T w w') (hn : n ≤ B) (hs : n ≤ w.heap.size) : IsTabs n w' v xs := h.below (hb.upto hn hs)
theorem IsTabs.wider {n n' : Nat} {w : World} {v : Value} {xs : List (List Int)} (h : IsTabs n w v xs) (hn : n ≤ n') : IsTabs n' w v xs :=
  IsSl.wider h hn (fun _ _ _ ⟨v, h1, h2⟩ => ⟨v, h1, h2.wider hn⟩)
theorem IsTabs.len {n : Nat} {w : World} {v : Value} {xs : List (List Int)} (h : IsTabs n w v xs) : xs.length ≤ big := IsSl.len h
theorem IsTabs.at {n : Nat} {w : World} {a : Option Addr} {l c : Nat} {xs : List (List Int)} (h : IsTabs n w (.slice a l c) xs) {k : Nat} (hk : k < xs.length) :
    ∃ x b o v, xs[k]? = some x ∧ a = some ⟨b, o, none⟩ ∧ b < n ∧ w.cell? ⟨b, o + k, none⟩ = some v ∧ IsInts n w v x := by
  obtain ⟨a', c', he, h1, h2, h3⟩ := h
  cases he
  obtain ⟨b, o, rfl, h4, v, h5, h6⟩ := h3 k xs[k] (List.getElem?_eq_getElem hk)
  exact ⟨xs[k], b, o, v, List.getElem?_eq_getElem hk, rfl, h4, by simpa using h5, h6⟩
theorem IsTabs.open {n : Nat} {w : World} {v : Value} {xs : List (List Int)} (h : IsTabs n w v xs) : ∃ a c, v = .slice a xs.length c ∧ xs.length ≤ c := by
  obtain ⟨a', c', he, h1, h2, h3⟩ := h
  exact ⟨a', c', he, h1⟩
/-! lists, as a loop goes through them -/
theorem take_same_step {α : Type} {xs ys : List α} {k : Nat} {x : α} (h : xs.take k = ys.take k) (hx : xs[k]? = some x) (hy : ys[k]? = some x) : xs.take (k + 1) = ys.take (k + 1) := by
  rw [List.take_add_one, List.take_add_one, h, hx, hy]
theorem ne_of_at {α : Type} {xs ys : List α} {k : Nat} {x y : α} (hx : xs[k]? = some x) (hy : ys[k]? = some y) (hne : ¬ x = y) : ¬ xs = ys := fun e => by
  subst e; rw [hx] at hy; cases hy; exact hne rfl
theorem same_of_take {α : Type} {xs ys : List α} {k : Nat} (h : xs.take k = ys.take k) (h1 : ¬ k < xs.length) (h2 : xs.length = ys.length) : xs = ys := by
  rwa [List.take_of_length_le (by omega), List.take_of_length_le (by omega)] at h
theorem ne_of_len {α : Type} {xs ys : List α} (h : ¬ xs.length = ys.length) : ¬ xs = ys := fun e => h (by rw [e])
theorem take_snoc {α : Type} {xs : List α} {k : Nat} {x : α} (hx : xs[k]? = some x) : xs.take (k + 1) = xs.take k ++ [x] := by
  rw [List.take_add_one, hx]; rfl
theorem take_all {α : Type} {xs : List α} {k : Nat} (h1 : ¬ k < xs.length) : xs.take k = xs := List.take_of_length_le (by omega)
/-- The place of the first one of which p holds; -1: there is none. -/
def idx {α : Type} (p : α → Bool) (xs : List α) : Int := match xs.findIdx? p with | some i => (i : Int) | none => -1
theorem none_step {α : Type} {p : α → Bool} {xs : List α} {k : Nat} {x : α} (h : ∀ y ∈ xs.take k, p y = false) (hx : xs[k]? = some x) (hp : p x = false) : ∀ y ∈ xs.take (k + 1), p y = false := by
  rw [List.take_add_one, hx]
  intro y hy
  rcases List.mem_append.1 hy with hy | hy
  · exact h y hy
  · simp at hy; subst hy; exact hp
theorem idx_hit {α : Type} {p : α → Bool} {xs : List α} {k : Nat} {x : α} (h : ∀ y ∈ xs.take k, p y = false) (hx : xs[k]? = some x) (hp : p x = true) : idx p xs = (k : Int) := by
  have hk : k < xs.length := (List.getElem?_eq_some_iff.1 hx).1
  have : xs.findIdx? p = some k := by
    rw [List.findIdx?_eq_some_iff_getElem]
    refine ⟨hk, by rw [(List.getElem?_eq_some_iff.1 hx).2]; exact hp, fun j hj => ?_⟩
    have := h (xs[j]'(by omega)) (List.mem_take_iff_getElem.2 ⟨j, by omega, rfl⟩)
    rw [this]; exact Bool.false_ne_true
  simp [idx, this]
theorem idx_none {α : Type} {p : α → Bool} {xs : List α} {k : Nat} (h : ∀ y ∈ xs.take k, p y = false) (h1 : ¬ k < xs.length) : idx p xs = -1 := by
  rw [take_all h1] at h
  have : xs.findIdx? p = none := by rw [List.findIdx?_eq_none_iff]; exact fun x hx => h x hx
  simp [idx, this]
theorem idx_ge {α : Type} {p : α → Bool} {xs : List α} : (0 : Int) ≤ idx p xs ↔ xs.any p = true := by
  unfold idx
  cases h : xs.findIdx? p with
  | none =>
    rw [List.findIdx?_eq_none_iff] at h
    simp only [List.any_eq_true]
    refine ⟨fun h' => absurd h' (by decide), fun ⟨x, hx, hp⟩ => by rw [h x hx] at hp; cases hp⟩
  | some i =>
    rw [List.findIdx?_eq_some_iff_getElem] at h
    obtain ⟨hi, hp, _⟩ := h
    refine ⟨fun _ => List.any_eq_true.2 ⟨_, List.getElem_mem hi, hp⟩, fun _ => by simp⟩
theorem idx_lt {α : Type} {p : α → Bool} {xs : List α} : -1 ≤ idx p xs ∧ idx p xs < (xs.length : Int) := by
  unfold idx
  cases h : xs.findIdx? p with
  | none => exact ⟨Int.le_refl _, by show (-1 : Int) < _; omega⟩
  | some i =>
    rw [List.findIdx?_eq_some_iff_getElem] at h
    obtain ⟨hi, _⟩ := h
    exact ⟨by show (-1 : Int) ≤ (i : Int); omega, by show (i : Int) < _; omega⟩
theorem any_eq {α : Type} [DecidableEq α] {xs : List α} {x : α} : xs.any (fun y => decide (x = y)) = decide (x ∈ xs) := by
  rw [Bool.eq_iff_iff]; simp
theorem ret_eq {a b : Value} (h : a = b) : Ending.returned a = Ending.returned b := by rw [h]
theorem ret_bool {a b : Bool} (h : a = b) : Ending.returned (.bool a) = Ending.returned (.bool b) := by rw [h]
theorem ret_int {k : IntKind} {a b : Int} (h : a = b) : Ending.returned (.int k a) = Ending.returned (.int k b) := by rw [h]
end Go.Sel
