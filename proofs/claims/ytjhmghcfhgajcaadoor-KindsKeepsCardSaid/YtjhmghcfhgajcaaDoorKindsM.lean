/- Kinds as lists of descriptors: which are right, what is added, their texts, and what a text parses as; the plain laws of these. -/
import Derived.Test.YtjhmghcfhgajcaaDoorDescM
namespace Go.Sel
open Go
/-! ## Kinds -/
theorem desc_eq {a b : DescL} (h1 : a.size = b.size) (h2 : a.ptrs = b.ptrs) (h3 : a.elem = b.elem) (h4 : a.eptrs = b.eptrs) : a = b := by
  cases a; cases b; cases h1; cases h2; cases h3; cases h4; rfl
def eqD (a b : DescL) : Bool := decide (a.size = b.size) && decide (a.elem = b.elem) && decide (a.ptrs = b.ptrs) && decide (a.eptrs = b.eptrs)
theorem eqD_iff {a b : DescL} : eqD a b = true ↔ a = b := by
  unfold eqD
  simp only [Bool.and_eq_true, decide_eq_true_eq]
  constructor
  · rintro ⟨⟨⟨h1, h2⟩, h3⟩, h4⟩; exact desc_eq h1 h3 h2 h4
  · rintro rfl; exact ⟨⟨⟨rfl, rfl⟩, rfl⟩, rfl⟩
theorem eqD_refl (a : DescL) : eqD a a = true := eqD_iff.2 rfl
/-- Each is right and like none ahead. -/
def okFrom : List DescL → List DescL → Bool
  | _, [] => true
  | p, d :: r => rightD d && !(p.any fun x => eqD x d) && okFrom (p ++ [d]) r
def rightK (l : List DescL) : Bool := okFrom [] l && decide (l.length ≤ 60)
/-- The place of the first one that is the same, or the length. -/
def placeN (d : DescL) : List DescL → Nat
  | [] => 0
  | x :: r => if eqD x d = true then 0 else placeN d r + 1
def hasK (l : List DescL) (d : DescL) : Bool := l.any fun x => eqD x d
theorem hasK_iff {l : List DescL} {d : DescL} : hasK l d = true ↔ d ∈ l := by
  unfold hasK
  simp only [List.any_eq_true, eqD_iff]
  constructor
  · rintro ⟨x, h, rfl⟩; exact h
  · intro h; exact ⟨d, h, rfl⟩
theorem placeN_lt {l : List DescL} {d : DescL} : placeN d l < l.length ↔ d ∈ l := by
  induction l with
  | nil => simp [placeN]
  | cons x r ih =>
    unfold placeN
    split
    · rename_i h; rw [eqD_iff] at h; subst h; simp
    · rename_i h
      have : ¬ d = x := fun e => h (by rw [e]; exact eqD_refl x)
      simp [ih, this]
theorem placeN_get {l : List DescL} {d : DescL} (h : d ∈ l) : l[placeN d l]? = some d := by
  induction l with
  | nil => cases h
  | cons x r ih =>
    unfold placeN
    split
    · rename_i h1; rw [eqD_iff] at h1; subst h1; rfl
    · rename_i h1
      rcases List.mem_cons.1 h with e | h2
      · exact absurd (by rw [e]; exact eqD_refl x) h1
      · rw [List.getElem?_cons_succ]; exact ih h2
theorem placeN_le (l : List DescL) (d : DescL) : placeN d l ≤ l.length := by
  induction l with
  | nil => exact Nat.le_refl _
  | cons x r ih => unfold placeN; split; exact Nat.zero_le _; rw [List.length_cons]; omega
theorem okFrom_iff : ∀ {l p : List DescL}, okFrom p l = true ↔ (∀ d ∈ l, rightD d = true) ∧ (∀ d ∈ l, d ∉ p) ∧ l.Nodup
  | [], p => by simp [okFrom]
  | d :: r, p => by
    unfold okFrom
    have hh : (p.any fun x => eqD x d) = false ↔ d ∉ p := by
      have := hasK_iff (l := p) (d := d)
      unfold hasK at this
      rw [← this, Bool.not_eq_true]
    simp only [Bool.and_eq_true, Bool.not_eq_true', hh, okFrom_iff (l := r), List.mem_append, List.nodup_cons, List.mem_cons, List.not_mem_nil, or_false]
    constructor
    · rintro ⟨⟨h1, h2⟩, h3, h4, h5⟩
      refine ⟨?_, ?_, fun hm => ?_, h5⟩
      · rintro x (rfl | hx); exact h1; exact h3 x hx
      · rintro x (rfl | hx); exact h2; exact fun hp => h4 x hx (.inl hp)
      · exact h4 d hm (.inr rfl)
    · rintro ⟨h1, h2, h3, h4⟩
      refine ⟨⟨h1 d (.inl rfl), h2 d (.inl rfl)⟩, fun x hx => h1 x (.inr hx), fun x hx hp => ?_, h4⟩
      rcases hp with hp | rfl
      · exact h2 x (.inr hx) hp
      · exact h3 hx
theorem rightK_iff {l : List DescL} : rightK l = true ↔ (∀ d ∈ l, rightD d = true) ∧ l.Nodup ∧ l.length ≤ 60 := by
  unfold rightK
  rw [Bool.and_eq_true, okFrom_iff, decide_eq_true_eq]
  constructor
  · rintro ⟨⟨h1, _, h2⟩, h3⟩; exact ⟨h1, h2, h3⟩
  · rintro ⟨h1, h2, h3⟩; exact ⟨⟨h1, (fun _ _ h => by cases h), h2⟩, h3⟩
/-- What is added: the kinds then, the number, what is told. -/
def addK (l : List DescL) (d : DescL) : List DescL × Int × Int :=
  if rightK l = true then (if rightD d = true then (if hasK l d = true then (l, (placeN d l : Int) + 1, 0) else if l.length = 60 then ([], 0, 53) else (l ++ [d], (l.length : Int) + 1, 0)) else ([], 0, 40)) else ([], 0, 50)
def ofK (l : List DescL) (k : Int) : Option DescL × Int :=
  if rightK l = true then (if k < 1 ∨ (l.length : Int) < k then (none, 51) else (l[(k - 1).toNat]?, 0)) else (none, 50)
theorem rightK_snoc {l : List DescL} {d : DescL} (h : rightK l = true) (hd : rightD d = true) (hn : ¬ hasK l d = true) (hl : l.length ≠ 60) : rightK (l ++ [d]) = true := by
  obtain ⟨h1, h2, h3⟩ := rightK_iff.1 h
  refine rightK_iff.2 ⟨fun x hx => ?_, ?_, ?_⟩
  · rcases List.mem_append.1 hx with hx | hx
    · exact h1 x hx
    · rw [List.mem_singleton.1 hx]; exact hd
  · refine List.nodup_append.2 ⟨h2, by simp, fun x hx y hy e => ?_⟩
    rw [List.mem_singleton.1 hy] at e
    exact hn (hasK_iff.2 (e ▸ hx))
  · rw [List.length_append, List.length_singleton]; omega
theorem placeN_nodup {l : List DescL} (h : l.Nodup) : ∀ {i : Nat} {d : DescL}, l[i]? = some d → placeN d l = i := by
  induction l with
  | nil => intro i d hi; simp at hi
  | cons x r ih =>
    intro i d hi
    obtain ⟨h1, h2⟩ := List.nodup_cons.1 h
    unfold placeN
    cases i with
    | zero => cases hi; rw [if_pos (eqD_refl _)]
    | succ i =>
      rw [List.getElem?_cons_succ] at hi
      rw [if_neg, ih h2 hi]
      intro e
      rw [eqD_iff] at e
      exact h1 (e ▸ List.mem_of_getElem? hi)
theorem placeN_snoc {l : List DescL} {d : DescL} (h : ¬ hasK l d = true) : placeN d (l ++ [d]) = l.length := by
  induction l with
  | nil => simp [placeN, eqD_refl]
  | cons x r ih =>
    have h1 : ¬ eqD x d = true := fun e => h (hasK_iff.2 (by rw [eqD_iff] at e; subst e; simp))
    have h2 : ¬ hasK r d = true := fun e => h (hasK_iff.2 (List.mem_cons_of_mem _ (hasK_iff.1 e)))
    rw [List.cons_append, placeN, if_neg h1, ih h2, List.length_cons]

/-! ## Texts -/
def printK (l : List DescL) : List UInt8 := l.flatMap fun d => printD d ++ [10]
/-- Lines, as they are read: what has come, how many lines; the kinds, the line, what is told. -/
def readK : List DescL → Nat → List (List UInt8) → List DescL × Int × Int
  | out, _, [] => (out, 0, 0)
  | out, n, t :: r =>
    if t = [] then (out, 0, 0) else
    match (if Lib.hasSuffix t [10] = true then parseL (Lib.trimSuffix t [10]) else none) with
    | none => ([], (n : Int) + 1, 40)
    | some d => if hasK out d = true then ([], (n : Int) + 1, 52) else if out.length = 60 then ([], (n : Int) + 1, 53) else readK (out ++ [d]) (n + 1) r
end Go.Sel
