/- Descriptors as lists: which are right, what is at a place, their texts, and what a text parses as; the plain laws of these. -/
import Derived.Lib.ItoaNum
import Derived.Lib.Split
namespace Go.Sel
open Go

/-- A descriptor: fixed bytes, pointers in them, an element's bytes, pointers in these. -/
structure DescL where
  size : Int
  ptrs : List Int
  elem : Int
  eptrs : List Int
def isSizeP (n most : Int) : Bool := decide (0 ≤ n) && (decide (n ≤ most) && decide (n % 4 = 0))
def areFrom (last size : Int) : List Int → Bool
  | [] => true
  | a :: r => !decide (a ≤ last) && isSizeP a (size - 4) && areFrom a size r
def rightD (d : DescL) : Bool := isSizeP d.size 1024 && isSizeP d.elem 256 && areFrom (-1) d.size d.ptrs && areFrom (-1) d.elem d.eptrs
/-- Up to a multiple of 8. -/
def roundI (n : Int) : Int := ((n + 7) / 8) * 8
/-- What is wrong with a descriptor and a length. -/
def shapeE (d : DescL) (n : Int) : Option Int :=
  if rightD d = true then (if n < 0 ∨ 131072 < n ∨ (0 < n ∧ d.elem = 0) then some 41 else if 131072 < 8 + d.size + n * d.elem then some 41 else none) else some 40
def bytesD (d : DescL) (n : Int) : Int := roundI (8 + d.size + n * d.elem)
def pointersL (d : DescL) (n : Nat) : List Int := d.ptrs ++ (List.range n).flatMap fun (i : Nat) => d.eptrs.map fun a => d.size + (i : Int) * d.elem + a
def kindP (d : DescL) (n : Nat) (at' : Int) : Int := if isSizeP at' (d.size + (n : Int) * d.elem - 4) = true then (if at' ∈ pointersL d n then 2 else 1) else 0

theorem isSizeP_iff {n m : Int} : isSizeP n m = true ↔ 0 ≤ n ∧ n ≤ m ∧ n % 4 = 0 := by unfold isSizeP; simp
theorem areFrom_mem {size : Int} : ∀ {l : List Int} {last : Int}, areFrom last size l = true → ∀ a ∈ l, last < a ∧ 0 ≤ a ∧ a ≤ size - 4
  | [], _, _, _, h => by cases h
  | b :: r, last, h, a, ha => by
    unfold areFrom at h
    simp only [Bool.and_eq_true, Bool.not_eq_true', decide_eq_false_iff_not] at h
    obtain ⟨⟨h1, h2⟩, h3⟩ := h
    have h4 := isSizeP_iff.1 h2
    rcases List.mem_cons.1 ha with rfl | ha
    · omega
    · have := areFrom_mem h3 a ha
      omega
theorem rightD_parts {d : DescL} (h : rightD d = true) : (0 ≤ d.size ∧ d.size ≤ 1024 ∧ d.size % 4 = 0) ∧ (0 ≤ d.elem ∧ d.elem ≤ 256 ∧ d.elem % 4 = 0) ∧ (∀ a ∈ d.ptrs, 0 ≤ a ∧ a ≤ 1020) ∧ (∀ a ∈ d.eptrs, 0 ≤ a ∧ a ≤ 252) := by
  unfold rightD at h
  simp only [Bool.and_eq_true] at h
  obtain ⟨⟨⟨h1, h2⟩, h3⟩, h4⟩ := h
  have h1 := isSizeP_iff.1 h1
  have h2 := isSizeP_iff.1 h2
  exact ⟨h1, h2, fun a ha => by have := areFrom_mem h3 a ha; omega, fun a ha => by have := areFrom_mem h4 a ha; omega⟩
theorem shapeE_none {d : DescL} {n : Int} (h : shapeE d n = none) : rightD d = true ∧ 0 ≤ n ∧ n ≤ 131072 ∧ (n = 0 ∨ d.elem ≠ 0) ∧ 8 + d.size + n * d.elem ≤ 131072 := by
  unfold shapeE at h
  split at h
  · rename_i hr
    split at h
    · cases h
    · split at h
      · cases h
      · exact ⟨hr, by omega, by omega, by omega, by omega⟩
  · cases h
theorem shapeE_some {d : DescL} {n e : Int} (h : shapeE d n = some e) : (rightD d = false ∧ e = 40) ∨ (rightD d = true ∧ e = 41) := by
  unfold shapeE at h
  split at h
  · rename_i hr
    split at h
    · exact .inr ⟨hr, (Option.some.inj h).symm⟩
    · split at h
      · exact .inr ⟨hr, (Option.some.inj h).symm⟩
      · cases h
  · rename_i hr
    exact .inl ⟨by simpa using hr, (Option.some.inj h).symm⟩
/-- A longer object: what was a field is the same. -/
theorem kindP_grows {d : DescL} {n : Nat} (hr : rightD d = true) (at' : Int) (hk : kindP d n at' ≠ 0) : kindP d (n + 1) at' = kindP d n at' := by
  obtain ⟨h1, h2, h3, h4⟩ := rightD_parts hr
  unfold kindP at hk ⊢
  split at hk
  · rename_i hs
    have hq := isSizeP_iff.1 hs
    have hm : ((n + 1 : Nat) : Int) * d.elem = (n : Int) * d.elem + d.elem := by push_cast; rw [Int.add_mul]; omega
    have hs' : isSizeP at' (d.size + ((n + 1 : Nat) : Int) * d.elem - 4) = true := isSizeP_iff.2 ⟨hq.1, by omega, hq.2.2⟩
    rw [if_pos hs', if_pos hs]
    have : (at' ∈ pointersL d (n + 1)) ↔ (at' ∈ pointersL d n) := by
      unfold pointersL
      rw [List.range_succ, List.flatMap_append]
      simp only [List.mem_append, List.flatMap_cons, List.flatMap_nil, List.append_nil, List.mem_map]
      constructor
      · rintro (h | h | ⟨a, ha, e⟩)
        · exact .inl h
        · exact .inr h
        · have := h4 a ha
          omega
      · rintro (h | h)
        · exact .inl h
        · exact .inr (.inl h)
    simp only [this]
  · exact absurd rfl hk
theorem kindP_field {d : DescL} {n : Nat} (hr : rightD d = true) (at' : Int) : kindP d n at' ≠ 0 ↔ (0 ≤ at' ∧ at' % 4 = 0 ∧ at' < d.size + (n : Int) * d.elem) := by
  obtain ⟨h1, h2, h3, h4⟩ := rightD_parts hr
  have h5 : ((n : Int) * d.elem) % 4 = 0 := by
    obtain ⟨q, hq⟩ := Int.dvd_of_emod_eq_zero h2.2.2
    rw [hq, ← Int.mul_assoc, Int.mul_comm (n : Int) 4, Int.mul_assoc]
    exact Int.mul_emod_right _ _
  unfold kindP
  generalize (n : Int) * d.elem = ne at *
  constructor
  · intro h
    split at h
    · rename_i hs
      have := isSizeP_iff.1 hs
      omega
    · exact absurd rfl h
  · rintro ⟨a1, a2, a3⟩
    rw [if_pos (isSizeP_iff.2 ⟨a1, by omega, a2⟩)]
    split <;> decide
theorem roundI_mod (n : Int) : roundI n % 8 = 0 := by unfold roundI; exact Int.mul_emod_left _ _
theorem roundI_mono {a b : Int} (h : a ≤ b) : roundI a ≤ roundI b := by unfold roundI; omega

/-! ## Texts -/
def partL (size : Int) (l : List Int) : List UInt8 := Lib.itoa size ++ 58 :: l.flatMap fun a => 32 :: Lib.itoa a
def printD (d : DescL) : List UInt8 := partL d.size d.ptrs ++ 59 :: 32 :: partL d.elem d.eptrs
def numberF : Int → List UInt8 → Option Int
  | n, [] => some n
  | n, b :: r => if b < 48 ∨ 57 < b ∨ 131072 < n then none else numberF (n * 10 + ((b.toNat : Int) - 48)) r
def numberL (s : List UInt8) : Int × Bool :=
  match numberF 0 s with
  | none => (0, false)
  | some n => (n, decide (s = [48]) || (!s.isEmpty && !decide (s.head? = some 48)))
def numsOf (tail : List UInt8) : List (List UInt8) := if tail.isEmpty = true then [] else (Lib.split tail [32]).tail
def numbersL (s : List UInt8) : List Int × Bool :=
  (((Lib.cut s [58]).1 :: numsOf (Lib.cut s [58]).2.1).map fun t => (numberL t).1, (Lib.cut s [58]).2.2 && ((Lib.cut s [58]).1 :: numsOf (Lib.cut s [58]).2.1).all fun t => (numberL t).2)
def descOf (a b : List Int) : DescL := ⟨a.headD 0, a.tail, b.headD 0, b.tail⟩
def parseL (s : List UInt8) : Option DescL :=
  if ((Lib.cut s [59, 32]).2.2 && (numbersL (Lib.cut s [59, 32]).1).2 && (numbersL (Lib.cut s [59, 32]).2.1).2) = true then
    (if (rightD (descOf (numbersL (Lib.cut s [59, 32]).1).1 (numbersL (Lib.cut s [59, 32]).2.1).1) && decide (printD (descOf (numbersL (Lib.cut s [59, 32]).1).1 (numbersL (Lib.cut s [59, 32]).2.1).1) = s)) = true then
      some (descOf (numbersL (Lib.cut s [59, 32]).1).1 (numbersL (Lib.cut s [59, 32]).2.1).1) else none)
  else none
theorem parseL_some {s : List UInt8} {d : DescL} (h : parseL s = some d) : rightD d = true ∧ printD d = s := by
  unfold parseL at h
  split at h
  · split at h
    · rename_i hq
      cases h
      simpa using hq
    · cases h
  · cases h

theorem decDigits_dig (u : Nat) : ∀ b ∈ Lib.decDigits u, 48 ≤ b ∧ b ≤ 57 := by
  induction u using Nat.strongRecOn with
  | _ u ih =>
    intro b hb
    rw [Lib.decDigits] at hb
    split at hb
    · rename_i h
      have hb : b = UInt8.ofNat (48 + u) := by simpa using hb
      subst hb
      have : (UInt8.ofNat (48 + u)).toNat = 48 + u := by simp; omega
      exact ⟨UInt8.le_iff_toNat_le.2 (by rw [this]; simp), UInt8.le_iff_toNat_le.2 (by rw [this]; simp; omega)⟩
    · rename_i h
      rcases List.mem_append.1 hb with hb | hb
      · exact ih (u / 10) (by omega) b hb
      · have hb : b = UInt8.ofNat (48 + u % 10) := by simpa using hb
        subst hb
        have : (UInt8.ofNat (48 + u % 10)).toNat = 48 + u % 10 := by simp; omega
        exact ⟨UInt8.le_iff_toNat_le.2 (by rw [this]; simp), UInt8.le_iff_toNat_le.2 (by rw [this]; simp; omega)⟩
theorem itoa_dig {n : Int} (h : 0 ≤ n) : ∀ b ∈ Lib.itoa n, 48 ≤ b ∧ b ≤ 57 := by
  unfold Lib.itoa
  rw [if_neg (by omega)]
  exact decDigits_dig _
theorem numberF_digits (u : Nat) : u ≤ 1310720 → ∀ r, numberF 0 (Lib.decDigits u ++ r) = numberF (u : Int) r := by
  induction u using Nat.strongRecOn with
  | _ u ih =>
    intro hu r
    have hstep : ∀ (n : Int) (d : Nat) (r : List UInt8), d < 10 → n ≤ 131072 → numberF n (UInt8.ofNat (48 + d) :: r) = numberF (n * 10 + d) r := fun n d r hd hn => by
      have ht : (UInt8.ofNat (48 + d)).toNat = 48 + d := by simp; omega
      rw [numberF, if_neg, ht]
      · congr 1; omega
      · rintro (h | h | h)
        · have := UInt8.lt_iff_toNat_lt.1 h; rw [ht] at this; simp at this; omega
        · have := UInt8.lt_iff_toNat_lt.1 h; rw [ht] at this; simp at this; omega
        · omega
    rw [Lib.decDigits]
    split
    · rename_i h
      rw [List.cons_append, List.nil_append, hstep 0 u r h (by omega)]
      congr 1; omega
    · rename_i h
      rw [List.append_assoc, ih (u / 10) (by omega) (by omega), List.cons_append, List.nil_append, hstep _ _ _ (by omega) (by omega)]
      congr 1; omega
theorem decDigits_ne (u : Nat) : Lib.decDigits u ≠ [] := by
  rw [Lib.decDigits]
  split <;> simp
theorem decDigits_head (u : Nat) : 1 ≤ u → (Lib.decDigits u).head? ≠ some 48 := by
  induction u using Nat.strongRecOn with
  | _ u ih =>
    intro h1 he
    rw [Lib.decDigits] at he
    split at he
    · rename_i h
      have : UInt8.ofNat (48 + u) = 48 := by simpa using he
      have := congrArg UInt8.toNat this
      simp at this
      omega
    · rename_i h
      rw [List.head?_append, Option.or_of_isSome (by rw [List.isSome_head?]; simpa using decDigits_ne _)] at he
      exact ih (u / 10) (by omega) (by omega) he
theorem numberL_itoa {n : Int} (h : 0 ≤ n) (h2 : n ≤ 1310720) : numberL (Lib.itoa n) = (n, true) := by
  obtain ⟨u, rfl⟩ := Int.eq_ofNat_of_zero_le h
  have e : Lib.itoa (u : Int) = Lib.decDigits u := by unfold Lib.itoa; rw [if_neg (by omega)]; rfl
  have hd := numberF_digits u (by omega) []
  rw [List.append_nil] at hd
  rw [e]
  unfold numberL
  rw [hd]
  simp only [numberF]
  congr 1
  by_cases h0 : u = 0
  · subst h0
    have : Lib.decDigits 0 = [48] := by rw [Lib.decDigits]; rfl
    rw [this]; rfl
  · have h1 := decDigits_head u (by omega)
    have h3 := decDigits_ne u
    simp [h1, h3]

theorem index_app {b : UInt8} {Y R : List UInt8} : ∀ {A : List UInt8}, b ∉ A → Lib.index (A ++ b :: (Y ++ R)) (b :: Y) = A.length
  | [], _ => by
    rw [List.nil_append, Lib.index, if_pos]
    · rfl
    · rw [List.isPrefixOf_iff_prefix]; exact ⟨R, rfl⟩
  | a :: A, h => by
    have h1 : b ≠ a := fun e => h (by rw [e]; simp)
    have ih := index_app (b := b) (Y := Y) (R := R) (A := A) (fun hm => h (by simp [hm]))
    rw [List.cons_append, Lib.index, if_neg, ih, if_neg]
    · simp
    · simp
    · simp [List.isPrefixOf, h1]
theorem index_not {b : UInt8} {Y : List UInt8} : ∀ {A : List UInt8}, b ∉ A → Lib.index A (b :: Y) = -1
  | [], _ => rfl
  | a :: A, h => by
    have h1 : b ≠ a := fun e => h (by rw [e]; simp)
    have ih := index_not (b := b) (Y := Y) (A := A) (fun hm => h (by simp [hm]))
    rw [Lib.index, if_neg, ih, if_pos]
    · rfl
    · simp [List.isPrefixOf, h1]
theorem cut_app {b : UInt8} {Y R A : List UInt8} (h : b ∉ A) : Lib.cut (A ++ b :: (Y ++ R)) (b :: Y) = (A, R, true) := by
  unfold Lib.cut
  rw [index_app h, if_pos (by omega)]
  have e1 : (A ++ b :: (Y ++ R)).take A.length = A := by simp
  have e2 : (A ++ b :: (Y ++ R)).drop (A.length + (b :: Y).length) = R := by
    rw [← List.drop_drop, List.drop_left, ← List.cons_append, List.drop_left]
  rw [Int.toNat_natCast, e1, e2]
/-- The places' text. -/
def placesL (l : List Int) : List UInt8 := l.flatMap fun a => 32 :: Lib.itoa a
theorem placesL_cons (a : Int) (l : List Int) : placesL (a :: l) = 32 :: ([] ++ (Lib.itoa a ++ placesL l)) := by unfold placesL; simp
theorem no32 {n : Int} (h : 0 ≤ n) : (32 : UInt8) ∉ Lib.itoa n := fun hm => absurd (itoa_dig h _ hm).1 (by decide)
theorem split_places : ∀ {l : List Int} {A : List UInt8}, (32 : UInt8) ∉ A → (∀ a ∈ l, 0 ≤ a) → Lib.splitK [32] 0 l.length (A ++ placesL l) = A :: l.map Lib.itoa
  | [], A, _, _ => by simp [placesL, Lib.splitK]
  | a :: l, A, hA, h => by
    have ih := split_places (l := l) (A := Lib.itoa a) (no32 (h a (by simp))) (fun b hb => h b (by simp [hb]))
    rw [placesL_cons, List.length_cons, Lib.splitK, index_app hA, if_neg (by simp), Int.toNat_natCast]
    have e1 : (A ++ (32 : UInt8) :: ([] ++ (Lib.itoa a ++ placesL l))).take (A.length + 0) = A := by simp
    have e2 : (A ++ (32 : UInt8) :: ([] ++ (Lib.itoa a ++ placesL l))).drop (A.length + [(32 : UInt8)].length) = Lib.itoa a ++ placesL l := by
      rw [← List.drop_drop, List.drop_left]; rfl
    rw [e1, e2, ih]
    rfl
theorem count_places : ∀ {l : List Int} {A : List UInt8} {fuel : Nat}, (32 : UInt8) ∉ A → (∀ a ∈ l, 0 ≤ a) → (A ++ placesL l).length < fuel → Lib.countFrom [32] fuel (A ++ placesL l) = l.length
  | l, A, 0, _, _, hf => absurd hf (Nat.not_lt_zero _)
  | [], A, fuel + 1, hA, _, hf => by
    have e : A ++ placesL [] = A := by simp [placesL]
    rw [e, Lib.countFrom, index_not hA, if_pos (by decide)]; rfl
  | a :: l, A, fuel + 1, hA, h, hf => by
    rw [placesL_cons] at hf
    simp only [List.length_append, List.length_cons, List.length_nil] at hf
    have ih := count_places (l := l) (A := Lib.itoa a) (fuel := fuel) (no32 (h a (by simp))) (fun b hb => h b (by simp [hb])) (by rw [List.length_append]; omega)
    rw [placesL_cons, Lib.countFrom, index_app hA, if_neg (by simp), Int.toNat_natCast]
    have e2 : (A ++ (32 : UInt8) :: ([] ++ (Lib.itoa a ++ placesL l))).drop (A.length + [(32 : UInt8)].length) = Lib.itoa a ++ placesL l := by
      rw [← List.drop_drop, List.drop_left]; rfl
    rw [e2, ih, List.length_cons]
    omega
theorem numsOf_places {l : List Int} (h : ∀ a ∈ l, 0 ≤ a) : numsOf (placesL l) = l.map Lib.itoa := by
  unfold numsOf
  split
  · cases l with
    | nil => rfl
    | cons a l => rename_i hq; rw [placesL_cons] at hq; cases hq
  · have e : Lib.split (placesL l) [32] = [] :: l.map Lib.itoa := by
      have h1 := split_places (l := l) (A := []) (by simp) h
      have h2 := count_places (l := l) (A := []) (fuel := (placesL l).length + 1) (by simp) h (by simp)
      rw [List.nil_append] at h1 h2
      unfold Lib.split Lib.count
      rw [h2, h1]
    rw [e]; rfl
theorem numbersL_part {size : Int} {l : List Int} (h1 : 0 ≤ size ∧ size ≤ 1310720) (h2 : ∀ a ∈ l, 0 ≤ a ∧ a ≤ 1310720) : numbersL (partL size l) = (size :: l, true) := by
  have e : partL size l = Lib.itoa size ++ 58 :: ([] ++ placesL l) := rfl
  have hn : (58 : UInt8) ∉ Lib.itoa size := fun hm => absurd (itoa_dig h1.1 _ hm).2 (by decide)
  unfold numbersL
  rw [e, cut_app hn]
  simp only []
  rw [numsOf_places (fun a ha => (h2 a ha).1)]
  have hm : ∀ (r : List Int), (∀ a ∈ r, 0 ≤ a ∧ a ≤ 1310720) → (r.map Lib.itoa).map (fun t => (numberL t).1) = r ∧ (r.map Lib.itoa).all (fun t => (numberL t).2) = true := fun r hr => by
    induction r with
    | nil => exact ⟨rfl, rfl⟩
    | cons a r ih =>
      have ha := numberL_itoa (hr a (by simp)).1 (hr a (by simp)).2
      obtain ⟨i1, i2⟩ := ih (fun b hb => hr b (by simp [hb]))
      exact ⟨by rw [List.map_cons, List.map_cons, ha, i1], by rw [List.map_cons, List.all_cons, ha, i2]; rfl⟩
  obtain ⟨i1, i2⟩ := hm (size :: l) (fun a ha => by rcases List.mem_cons.1 ha with rfl | ha; exact h1; exact h2 a ha)
  rw [List.map_cons] at i1 i2
  rw [i1, i2]
  rfl
theorem part_no59 {size : Int} {l : List Int} (h1 : 0 ≤ size) (h2 : ∀ a ∈ l, 0 ≤ a) : (59 : UInt8) ∉ partL size l := by
  unfold partL
  intro hm
  rcases List.mem_append.1 hm with hm | hm
  · exact absurd (itoa_dig h1 _ hm).2 (by decide)
  · rcases List.mem_cons.1 hm with hm | hm
    · cases hm
    · obtain ⟨a, ha, hm⟩ := List.mem_flatMap.1 hm
      rcases List.mem_cons.1 hm with hm | hm
      · cases hm
      · exact absurd (itoa_dig (h2 a ha) _ hm).2 (by decide)
/-- What is printed is parsed as it was. -/
theorem parseL_print {d : DescL} (h : rightD d = true) : parseL (printD d) = some d := by
  obtain ⟨h1, h2, h3, h4⟩ := rightD_parts h
  have hc : Lib.cut (printD d) [59, 32] = (partL d.size d.ptrs, partL d.elem d.eptrs, true) := cut_app (Y := [32]) (part_no59 h1.1 (fun a ha => (h3 a ha).1))
  have n1 := numbersL_part (size := d.size) (l := d.ptrs) ⟨h1.1, by omega⟩ (fun a ha => ⟨(h3 a ha).1, by have := h3 a ha; omega⟩)
  have n2 := numbersL_part (size := d.elem) (l := d.eptrs) ⟨h2.1, by omega⟩ (fun a ha => ⟨(h4 a ha).1, by have := h4 a ha; omega⟩)
  unfold parseL
  rw [hc]
  simp only [n1, n2]
  have e : descOf (d.size :: d.ptrs) (d.elem :: d.eptrs) = d := rfl
  rw [e, h]
  simp
end Go.Sel
