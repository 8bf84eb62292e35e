/- Slices of any length, by their first elements. -/
import Derived.Test.YtjhmghcfhgajcaaDoorData
namespace Go.Sel
open Go Go.RowKit
/-- A slice of ints of any length, by its first ones (at most thirty-four). -/
def HeadInts (n : Nat) (w : World) (v : Value) (xs : List Int) : Prop :=
  ∃ a l c, v = .slice a l c ∧ l ≤ c ∧ c ≤ maxLen ∧ xs.length = min l 34 ∧ (a = none → c = 0) ∧
    ∀ (j : Nat) (x : Int), xs[j]? = some x → ∃ b o, a = some ⟨b, o, none⟩ ∧ b < n ∧ w.cell? ⟨b, o + j, none⟩ = some (.int .i64 x) ∧ I64 x
theorem HeadInts.below {n : Nat} {w w' : World} {v : Value} {xs : List Int} (h : HeadInts n w v xs) (hb : Below n w w') : HeadInts n w' v xs := by
  obtain ⟨a, l, c, rfl, h1, h2, h3, h4, h6⟩ := h
  refine ⟨a, l, c, rfl, h1, h2, h3, h4, fun j x hx => ?_⟩
  obtain ⟨b, o, rfl, k0, k1, k2⟩ := h6 j x hx
  exact ⟨b, o, rfl, k0, (hb.cell (p := ⟨b, o + j, none⟩) k0).trans k1, k2⟩
/-- A slice of slices of ints, by its first ones, of each the first ones. -/
def HeadTabs (n : Nat) (w : World) (v : Value) (t : List (List Int)) : Prop :=
  ∃ a l c, v = .slice a l c ∧ l ≤ c ∧ c ≤ maxLen ∧ t.length = min l 34 ∧
    ∀ (j : Nat) (x : List Int), t[j]? = some x → ∃ b o tv, a = some ⟨b, o, none⟩ ∧ b < n ∧ w.cell? ⟨b, o + j, none⟩ = some tv ∧ HeadInts n w tv x
theorem HeadTabs.below {n : Nat} {w w' : World} {v : Value} {t : List (List Int)} (h : HeadTabs n w v t) (hb : Below n w w') : HeadTabs n w' v t := by
  obtain ⟨a, l, c, rfl, h1, h2, h3, h6⟩ := h
  refine ⟨a, l, c, rfl, h1, h2, h3, fun j x hx => ?_⟩
  obtain ⟨b, o, tv, rfl, k0, k1, k2⟩ := h6 j x hx
  exact ⟨b, o, tv, rfl, k0, (hb.cell (p := ⟨b, o + j, none⟩) k0).trans k1, k2.below hb⟩
/-- A slice of any length, by its first twenty. -/
def Head20 (n : Nat) (w : World) (v : Value) (xs : List Int) : Prop :=
  ∃ a l c, v = .slice a l c ∧ l ≤ c ∧ c ≤ maxLen ∧ xs.length = min l 20 ∧ (a = none → c = 0) ∧
    ∀ (j : Nat) (x : Int), xs[j]? = some x → ∃ b o, a = some ⟨b, o, none⟩ ∧ b < n ∧ w.cell? ⟨b, o + j, none⟩ = some (.int .i64 x) ∧ I64 x
theorem Head20.ints {n l c : Nat} {w w' : World} {a : Option Addr} {xs : List Int} (hm : xs.length = min l 20) (hlc : l ≤ c) (hb : Below n w w')
    (h : ∀ (j : Nat) (x : Int), xs[j]? = some x → ∃ b o, a = some ⟨b, o, none⟩ ∧ b < n ∧ w.cell? ⟨b, o + j, none⟩ = some (.int .i64 x) ∧ I64 x) : IsInts n w' (.slice a xs.length c) xs := by
  refine ⟨a, c, rfl, by omega, by unfold big; omega, fun j x hx => ?_⟩
  obtain ⟨b, o, rfl, k0, k1, k2⟩ := h j x hx
  exact ⟨b, o, rfl, k0, by rw [Nat.mul_one]; exact (hb.cell (p := ⟨b, o + j, none⟩) k0).trans k1, k2⟩
theorem Head20.len {n : Nat} {w : World} {v : Value} {xs : List Int} (h : Head20 n w v xs) : xs.length ≤ 20 := by
  obtain ⟨a, l, c, rfl, h1, h2, h3, h4, h6⟩ := h
  omega
theorem HeadInts.to20 {n : Nat} {w : World} {v : Value} {xs : List Int} (h : HeadInts n w v xs) : Head20 n w v (xs.take 20) := by
  obtain ⟨a, l, c, rfl, h1, h2, h3, h4, h6⟩ := h
  refine ⟨a, l, c, rfl, h1, h2, by rw [List.length_take]; omega, h4, fun j x hx => h6 j x ?_⟩
  have hj : j < 20 := by have := (List.getElem?_eq_some_iff.1 hx).1; rw [List.length_take] at this; omega
  rwa [List.getElem?_take_of_lt hj] at hx
theorem Head20.below {n : Nat} {w w' : World} {v : Value} {xs : List Int} (h : Head20 n w v xs) (hb : Below n w w') : Head20 n w' v xs := by
  obtain ⟨a, l, c, rfl, h1, h2, h3, h4, h6⟩ := h
  refine ⟨a, l, c, rfl, h1, h2, h3, h4, fun j x hx => ?_⟩
  obtain ⟨b, o, rfl, k0, k1, k2⟩ := h6 j x hx
  exact ⟨b, o, rfl, k0, (hb.cell (p := ⟨b, o + j, none⟩) k0).trans k1, k2⟩
end Go.Sel
