/- Kinds' texts: what is printed is parsed as it was, and what is parsed has that text; the plain laws. -/
import Derived.Test.YtjhmghcfhgajcaaDoorKindsC
import Derived.Test.YtjhmghcfhgajcaaDoorDesc17
import Derived.Test.YtjhmghcfhgajcaaDoorKinds9
namespace Go.Sel
open Go Go.RowKit
/-- The lines, as lists. -/
def linesL (l : List UInt8) : List (List UInt8) := (Lib.splitK [10] 1 (Lib.count l [10]) l).takeWhile fun t => !t.isEmpty
theorem linesB_eq (s : ByteArray) : linesB s = linesL s.data.toList := by
  unfold linesB lineB linesL piecesB
  have h : (Lib.splitB ⟨#[10]⟩ 1 (Lib.countB s ⟨#[10]⟩) s).map (·.data.toList) = Lib.splitK [10] 1 (Lib.count s.data.toList [10]) s.data.toList := by
    rw [Lib.splitB_data]
  rw [← h, List.takeWhile_map]
  rfl
theorem index_le {l : List UInt8} {b : UInt8} : Lib.index l [b] = -1 ∨ ∃ i : Nat, Lib.index l [b] = i ∧ i < l.length := by
  induction l with
  | nil => exact .inl rfl
  | cons a r ih =>
    rw [Lib.index]
    split
    · exact .inr ⟨0, rfl, by simp⟩
    · rcases ih with h | ⟨i, h, hi⟩
      · exact .inl (by rw [h]; rfl)
      · refine .inr ⟨i + 1, ?_, by rw [List.length_cons]; omega⟩
        rw [h, if_neg (by simp)]
        push_cast; rfl
theorem flat_lines : ∀ (k : Nat) (l : List UInt8), ((Lib.splitK [10] 1 k l).takeWhile fun t => !t.isEmpty).flatten = l
  | 0, l => by
    cases l with
    | nil => rfl
    | cons a r => simp [Lib.splitK]
  | k + 1, l => by
    rw [Lib.splitK]
    rcases index_le (l := l) (b := 10) with h | ⟨i, h, hi⟩
    · rw [h]
      cases l with
      | nil => rfl
      | cons a r => simp
    · rw [h, if_neg (by simp)]
      have e1 : ((i : Int)).toNat = i := by omega
      rw [e1, List.takeWhile_cons_of_pos (by
        cases l with
        | nil => simp at hi
        | cons a r => rw [List.take_succ_cons]; rfl)]
      rw [List.flatten_cons, flat_lines k, show [(10 : UInt8)].length = 1 from rfl, List.take_append_drop]
theorem flat_linesL (l : List UInt8) : (linesL l).flatten = l := flat_lines _ l
theorem linesL_ne {l t : List UInt8} (h : t ∈ linesL l) : t ≠ [] := fun e => by
  have : ∀ (ps : List (List UInt8)), t ∈ ps.takeWhile (fun t => !t.isEmpty) → t ≠ [] := fun ps => by
    induction ps with
    | nil => intro h; cases h
    | cons p r ih =>
      intro h
      by_cases hp : (!p.isEmpty) = true
      · rw [List.takeWhile_cons_of_pos (by exact hp)] at h
        rcases List.mem_cons.1 h with rfl | h
        · intro e; rw [e] at hp; cases hp
        · exact ih h
      · rw [List.takeWhile_cons_of_neg (by exact hp)] at h
        cases h
  exact this _ h e
theorem suffix_cut {t : List UInt8} (h : Lib.hasSuffix t [10] = true) : Lib.trimSuffix t [10] ++ [10] = t := by
  have h' := h
  unfold Lib.hasSuffix at h
  rw [List.isSuffixOf_iff_suffix] at h
  obtain ⟨p, rfl⟩ := h
  unfold Lib.trimSuffix
  rw [if_pos h']
  simp
theorem suffix_of (p : List UInt8) : Lib.hasSuffix (p ++ [10]) [10] = true ∧ Lib.trimSuffix (p ++ [10]) [10] = p := by
  have h : Lib.hasSuffix (p ++ [10]) [10] = true := by
    unfold Lib.hasSuffix
    rw [List.isSuffixOf_iff_suffix]
    exact ⟨p, rfl⟩
  refine ⟨h, ?_⟩
  unfold Lib.trimSuffix
  rw [if_pos h]
  simp
theorem lineK_inl {out : List DescL} {t : List UInt8} {d : DescL} (h : lineK out t = .inl d) : rightD d = true ∧ printD d ++ [10] = t ∧ ¬ hasK out d = true ∧ out.length ≠ 60 := by
  unfold lineK at h
  split at h
  · cases h
  · rename_i d' hq
    split at h
    · cases h
    · rename_i h1
      split at h
      · cases h
      · rename_i h2
        cases h
        split at hq
        · rename_i hs
          obtain ⟨g1, g2⟩ := parseL_some hq
          exact ⟨g1, by rw [g2]; exact suffix_cut hs, h1, h2⟩
        · cases hq
theorem lineK_inr {out : List DescL} {t : List UInt8} {e : Int} (h : lineK out t = .inr e) : e = 40 ∨ e = 52 ∨ e = 53 := by
  unfold lineK at h
  split at h
  · cases h; exact .inl rfl
  · split at h
    · cases h; exact .inr (.inl rfl)
    · split at h
      · cases h; exact .inr (.inr rfl)
      · cases h
/-- What reading gives. -/
theorem readK_spec : ∀ (L : List (List UInt8)) (out : List DescL) (n : Nat), (∀ t ∈ L, t ≠ []) → rightK out = true →
    (∃ ds, readK out n L = (out ++ ds, 0, 0) ∧ rightK (out ++ ds) = true ∧ printK ds = L.flatten) ∨ (∃ x y, readK out n L = ([], x, y) ∧ 0 < x ∧ (y = 40 ∨ y = 52 ∨ y = 53))
  | [], out, n, _, hr => .inl ⟨[], by rw [readK, List.append_nil], by rw [List.append_nil]; exact hr, rfl⟩
  | t :: L, out, n, hL, hr => by
    rw [readK_cons (hL t (by simp))]
    cases h : lineK out t with
    | inr e => exact .inr ⟨_, _, rfl, by omega, lineK_inr h⟩
    | inl d =>
      obtain ⟨h1, h2, h3, h4⟩ := lineK_inl h
      rcases readK_spec L (out ++ [d]) (n + 1) (fun t ht => hL t (by simp [ht])) (rightK_snoc hr h1 h3 h4) with ⟨ds, e1, e2, e3⟩ | h'
      · rw [List.append_assoc, List.singleton_append] at e1 e2
        refine .inl ⟨d :: ds, e1, e2, ?_⟩
        unfold printK at e3 ⊢
        rw [List.flatMap_cons, e3, h2, List.flatten_cons]
      · exact .inr h'
theorem rightK_nil : rightK [] = true := by decide
/-- What is parsed has that text. -/
theorem parseKB_spec (s : ByteArray) : ((parseKB s).2 = (0, 0) ∧ rightK (parseKB s).1 = true ∧ printK (parseKB s).1 = s.data.toList) ∨ ((parseKB s).1 = [] ∧ 0 < (parseKB s).2.1 ∧ ((parseKB s).2.2 = 40 ∨ (parseKB s).2.2 = 52 ∨ (parseKB s).2.2 = 53)) := by
  have hne : ∀ t ∈ linesB s, t ≠ [] := fun t ht => by rw [linesB_eq] at ht; exact linesL_ne ht
  rcases readK_spec (linesB s) [] 0 hne rightK_nil with ⟨ds, e1, e2, e3⟩ | ⟨x, y, e1, e2, e3⟩
  · rw [List.nil_append] at e1 e2
    refine .inl ?_
    unfold parseKB
    rw [e1]
    exact ⟨rfl, e2, by rw [e3, linesB_eq, flat_linesL]⟩
  · refine .inr ?_
    unfold parseKB
    rw [e1]
    exact ⟨rfl, e2, e3⟩
theorem printD_no10 {d : DescL} (hr : rightD d = true) : (10 : UInt8) ∉ printD d := by
  obtain ⟨p1, p2, p3, p4⟩ := rightD_parts hr
  have h10 : ∀ {n : Int}, 0 ≤ n → (10 : UInt8) ∉ Lib.itoa n := fun h hm => absurd (itoa_dig h _ hm).1 (by decide)
  have hp : ∀ {l : List Int}, (∀ a ∈ l, 0 ≤ a) → (10 : UInt8) ∉ (l.flatMap fun a => 32 :: Lib.itoa a) := fun h hm => by
    obtain ⟨a, ha, hm⟩ := List.mem_flatMap.1 hm
    rcases List.mem_cons.1 hm with hm | hm
    · cases hm
    · exact h10 (h a ha) hm
  unfold printD partL
  simp only [List.mem_append, List.mem_cons]
  rintro ((h | h | h) | h | h | (h | h | h))
  · exact h10 p1.1 h
  · cases h
  · exact hp (fun a ha => (p3 a ha).1) h
  · cases h
  · cases h
  · exact h10 p2.1 h
  · cases h
  · exact hp (fun a ha => (p4 a ha).1) h
theorem count_printK : ∀ {l : List DescL} {fuel : Nat}, (∀ d ∈ l, rightD d = true) → (printK l).length < fuel → Lib.countFrom [10] fuel (printK l) = l.length
  | _, 0, _, hf => absurd hf (Nat.not_lt_zero _)
  | [], fuel + 1, _, _ => by rw [show printK [] = [] from rfl, Lib.countFrom, if_pos (by decide)]; rfl
  | d :: r, fuel + 1, h, hf => by
    have e : printK (d :: r) = printD d ++ 10 :: ([] ++ printK r) := by unfold printK; simp
    rw [e] at hf ⊢
    simp only [List.length_append, List.length_cons, List.length_nil] at hf
    have ih := count_printK (l := r) (fuel := fuel) (fun x hx => h x (by simp [hx])) (by omega)
    rw [Lib.countFrom, index_app (printD_no10 (h d (by simp))), if_neg (by simp), Int.toNat_natCast]
    have e2 : (printD d ++ (10 : UInt8) :: ([] ++ printK r)).drop ((printD d).length + [(10 : UInt8)].length) = printK r := by
      rw [← List.drop_drop, List.drop_left]; rfl
    rw [e2, ih, List.length_cons]
    omega
theorem split_printK : ∀ {l : List DescL}, (∀ d ∈ l, rightD d = true) → Lib.splitK [10] 1 l.length (printK l) = (l.map fun d => printD d ++ [10]) ++ [[]]
  | [], _ => rfl
  | d :: r, h => by
    have e : printK (d :: r) = printD d ++ 10 :: ([] ++ printK r) := by unfold printK; simp
    rw [e, List.length_cons, Lib.splitK, index_app (printD_no10 (h d (by simp))), if_neg (by simp), Int.toNat_natCast]
    have e1 : (printD d ++ (10 : UInt8) :: ([] ++ printK r)).take ((printD d).length + 1) = printD d ++ [10] := by
      rw [List.take_append, List.take_of_length_le (by omega)]
      simp
    have e2 : (printD d ++ (10 : UInt8) :: ([] ++ printK r)).drop ((printD d).length + [(10 : UInt8)].length) = printK r := by
      rw [← List.drop_drop, List.drop_left]; rfl
    rw [e1, e2, split_printK (fun x hx => h x (by simp [hx]))]
    rfl
theorem linesL_printK {l : List DescL} (h : ∀ d ∈ l, rightD d = true) : linesL (printK l) = l.map fun d => printD d ++ [10] := by
  unfold linesL Lib.count
  rw [count_printK h (Nat.lt_succ_self _), split_printK h]
  have : ∀ (ps : List (List UInt8)), (∀ t ∈ ps, t ≠ []) → (ps ++ [[]]).takeWhile (fun t => !t.isEmpty) = ps := fun ps => by
    induction ps with
    | nil => intro _; rfl
    | cons p r ih =>
      intro hp
      rw [List.cons_append, List.takeWhile_cons_of_pos (by have := hp p (by simp); simpa using this), ih (fun t ht => hp t (by simp [ht]))]
  exact this _ (fun t ht => by obtain ⟨d, _, rfl⟩ := List.mem_map.1 ht; simp)
theorem read_print : ∀ (r p : List DescL) (n : Nat), rightK (p ++ r) = true → readK p n (r.map fun d => printD d ++ [10]) = (p ++ r, 0, 0)
  | [], p, n, _ => by rw [List.map_nil, readK, List.append_nil]
  | d :: r, p, n, h => by
    obtain ⟨h1, h2, h3⟩ := rightK_iff.1 h
    have hd := h1 d (by simp)
    obtain ⟨s1, s2⟩ := suffix_of (printD d)
    have hl : lineK p (printD d ++ [10]) = .inl d := by
      unfold lineK
      rw [s1, s2, if_pos rfl, parseL_print hd]
      simp only []
      rw [if_neg (fun e => by
        have := hasK_iff.1 e
        exact (List.nodup_append.1 h2).2.2 d this d (by simp) rfl), if_neg (by rw [List.length_append, List.length_cons] at h3; omega)]
    rw [List.map_cons, readK_cons (by simp), hl]
    simp only []
    rw [read_print r (p ++ [d]) (n + 1) (by rw [List.append_assoc, List.singleton_append]; exact h), List.append_assoc, List.singleton_append]
/-- What is printed is parsed as it was. -/
theorem parse_printK {l : List DescL} (h : rightK l = true) : parseKB ⟨(printK l).toArray⟩ = (l, 0, 0) := by
  unfold parseKB
  rw [linesB_eq]
  show readK [] 0 (linesL (printK l)) = _
  rw [linesL_printK (rightK_iff.1 h).1]
  exact read_print l [] 0 h
end Go.Sel

/- Contracts of selionlaw05.cut and Few. -/
namespace Go.Sel
open Go Go.RowKit
/-- A slice of descriptors of any length, by its first ones (at most sixty-two), of each the first places. -/
def HeadDescs (n : Nat) (w : World) (v : Value) (ds : List DescL) : Prop :=
  ∃ a l c, v = .slice a l c ∧ l ≤ c ∧ c ≤ maxLen ∧ ds.length = min l 62 ∧
    ∀ (j : Nat) (d : DescL), ds[j]? = some d → ∃ b o v1 v2, a = some ⟨b, o, none⟩ ∧ b < n ∧ w.cell? ⟨b, o + j * 4, none⟩ = some (.int .i64 d.size) ∧ w.cell? ⟨b, o + j * 4 + 1, none⟩ = some v1 ∧ w.cell? ⟨b, o + j * 4 + 2, none⟩ = some (.int .i64 d.elem) ∧ w.cell? ⟨b, o + j * 4 + 3, none⟩ = some v2 ∧ I64 d.size ∧ I64 d.elem ∧ Head20 n w v1 d.ptrs ∧ Head20 n w v2 d.eptrs
theorem HeadDescs.below {n : Nat} {w w' : World} {v : Value} {ds : List DescL} (h : HeadDescs n w v ds) (hb : Below n w w') : HeadDescs n w' v ds := by
  obtain ⟨a, l, c, rfl, h1, h2, h3, h6⟩ := h
  refine ⟨a, l, c, rfl, h1, h2, h3, fun j x hx => ?_⟩
  obtain ⟨b, o, v1, v2, rfl, k0, k1, k2, k3, k4, i1, i2, g1, g2⟩ := h6 j x hx
  exact ⟨b, o, v1, v2, rfl, k0, (hb.cell (p := ⟨b, o + j * 4, none⟩) k0).trans k1, (hb.cell (p := ⟨b, o + j * 4 + 1, none⟩) k0).trans k2, (hb.cell (p := ⟨b, o + j * 4 + 2, none⟩) k0).trans k3, (hb.cell (p := ⟨b, o + j * 4 + 3, none⟩) k0).trans k4, i1, i2, g1.below hb, g2.below hb⟩
theorem Head20.wider {n n' : Nat} {w : World} {v : Value} {xs : List Int} (h : Head20 n w v xs) (hn : n ≤ n') : Head20 n' w v xs := by
  obtain ⟨a, l, c, rfl, h1, h2, h3, h4, h6⟩ := h
  refine ⟨a, l, c, rfl, h1, h2, h3, h4, fun j x hx => ?_⟩
  obtain ⟨b, o, rfl, k0, k1, k2⟩ := h6 j x hx
  exact ⟨b, o, rfl, Nat.lt_of_lt_of_le k0 hn, k1, k2⟩
theorem HeadDescs.wider {n n' : Nat} {w : World} {v : Value} {ds : List DescL} (h : HeadDescs n w v ds) (hn : n ≤ n') : HeadDescs n' w v ds := by
  obtain ⟨a, l, c, rfl, h1, h2, h3, h6⟩ := h
  refine ⟨a, l, c, rfl, h1, h2, h3, fun j x hx => ?_⟩
  obtain ⟨b, o, v1, v2, rfl, k0, k1, k2, k3, k4, i1, i2, g1, g2⟩ := h6 j x hx
  exact ⟨b, o, v1, v2, rfl, Nat.lt_of_lt_of_le k0 hn, k1, k2, k3, k4, i1, i2, g1.wider hn, g2.wider hn⟩
theorem HeadDescs.len {n : Nat} {w : World} {v : Value} {ds : List DescL} (h : HeadDescs n w v ds) : ds.length ≤ 62 := by
  obtain ⟨a, l, c, rfl, h1, h2, h3, h6⟩ := h
  omega
theorem Head20.open {n : Nat} {w : World} {v : Value} {xs : List Int} (h : Head20 n w v xs) : ∃ a l c, v = .slice a l c := by
  obtain ⟨a, l, c, rfl, _⟩ := h
  exact ⟨a, l, c, rfl⟩
end Go.Sel
namespace Go.Proofs.YtjhmghcfhgajcaaDoor
open Go.RowKit Go.Sel
/-- Descriptors that were appended one by one, whose places lie below n. -/
def FewDs (n B : Nat) (ov : Value) (ds : List DescL) (w : World) : Prop :=
  ∃ cells, w.ownsRow B 24 4 ov ds.length cells ∧ ∀ (j : Nat) (d : DescL), ds[j]? = some d → ∃ s1 s2, cells[j * 4]? = some (.int .i64 d.size) ∧ cells[j * 4 + 1]? = some s1 ∧ cells[j * 4 + 2]? = some (.int .i64 d.elem) ∧ cells[j * 4 + 3]? = some s2 ∧ IsDesc n w (.agg #[.int .i64 d.size, s1, .int .i64 d.elem, s2]) d
theorem FewDs.nil (n B : Nat) (w : World) : FewDs n B (.slice none 0 0) [] w := ⟨[], World.ownsRow_nil _ _ _ _, fun j d h => by cases h⟩
theorem FewDs.is {n B : Nat} {ov : Value} {ds : List DescL} {w : World} (h : FewDs n B ov ds w) (hn : n ≤ w.heap.size) (hl : ds.length ≤ big) : IsDescs w.heap.size w ov ds := by
  obtain ⟨cells, hr, he⟩ := h
  obtain ⟨a, c, rfl, hc⟩ := owns_open hr
  refine ⟨a, c, rfl, hc, hl, fun j d hj => ?_⟩
  have hp : 0 < ds.length := by have := (List.getElem?_eq_some_iff.1 hj).1; omega
  obtain ⟨g, c', e1, _, _, hg⟩ := owns_some hr hp
  cases e1
  have hcell := hr.cells (g := g) rfl
  have hc' : ∀ (i : Nat) (u : Value), cells[i]? = some u → w.cell? ⟨g, 0 + i, none⟩ = some u := fun i u hi => by
    have := hcell i u hi
    rwa [add_plain] at this
  obtain ⟨s1, s2, k0, k1, k2, k3, hD⟩ := he j d hj
  obtain ⟨v1, v2, e2, i1, i2, h1, h2⟩ := hD
  simp only [Value.agg.injEq] at e2
  cases e2
  exact ⟨g, 0, rfl, hg, s1, s2, hc' _ _ k0, by rw [Nat.add_assoc]; exact hc' _ _ k1, by rw [Nat.add_assoc]; exact hc' _ _ k2, by rw [Nat.add_assoc]; exact hc' _ _ k3, i1, i2, h1.wider hn, h2.wider hn⟩
theorem FewDs.push {n B : Nat} {ov' s1 s2 : Value} {ds : List DescL} {d : DescL} {w w' : World} {cells : List Value} (hl : cells.length = ds.length * 4)
    (he : ∀ (j : Nat) (d : DescL), ds[j]? = some d → ∃ s1 s2, cells[j * 4]? = some (.int .i64 d.size) ∧ cells[j * 4 + 1]? = some s1 ∧ cells[j * 4 + 2]? = some (.int .i64 d.elem) ∧ cells[j * 4 + 3]? = some s2 ∧ IsDesc n w (.agg #[.int .i64 d.size, s1, .int .i64 d.elem, s2]) d)
    (hd : IsDesc n w (.agg #[.int .i64 d.size, s1, .int .i64 d.elem, s2]) d) (hb : Below n w w')
    (hown : w'.ownsRow B 24 4 ov' (ds.length + 1) (cells ++ [.int .i64 d.size, s1, .int .i64 d.elem, s2])) : FewDs n B ov' (ds ++ [d]) w' := by
  refine ⟨_, by rw [List.length_append]; exact hown, fun j x hj => ?_⟩
  rcases Nat.lt_or_ge j ds.length with hlt' | hge
  · rw [List.getElem?_append_left hlt'] at hj
    obtain ⟨t1, t2, k0, k1, k2, k3, hD⟩ := he j x hj
    exact ⟨t1, t2, by rw [List.getElem?_append_left (by omega)]; exact k0, by rw [List.getElem?_append_left (by omega)]; exact k1, by rw [List.getElem?_append_left (by omega)]; exact k2, by rw [List.getElem?_append_left (by omega)]; exact k3, hD.below hb⟩
  · rw [List.getElem?_append_right hge] at hj
    have hj0 : j - ds.length = 0 := by have := (List.getElem?_eq_some_iff.1 hj).1; simp at this; omega
    rw [hj0] at hj
    cases hj
    obtain rfl : j = ds.length := by omega
    refine ⟨s1, s2, ?_, ?_, ?_, ?_, hd.below hb⟩
    · rw [List.getElem?_append_right (by omega), hl, Nat.sub_self]; rfl
    · rw [List.getElem?_append_right (by omega), hl, show ds.length * 4 + 1 - ds.length * 4 = 1 by omega]; rfl
    · rw [List.getElem?_append_right (by omega), hl, show ds.length * 4 + 2 - ds.length * 4 = 2 by omega]; rfl
    · rw [List.getElem?_append_right (by omega), hl, show ds.length * 4 + 3 - ds.length * 4 = 3 by omega]; rfl

set_option maxHeartbeats 1000000 in
theorem cut05_any (s : ByteArray) (w : World) : Calls Tryd.prog 29 #[.string s] w fun e w' => e = .returned (.string (s.extract 0 (min s.size 800))) ∧ w = w' := by
  go_enter Tryd.func29, Tryd.ntmps29
  have h : (min (s.size : Int) 800).toNat = min s.size 800 := by omega
  have H := Lib.hid h
  clear h
  go_wp2
  go_ret
  exact ⟨by rw [← H.out]; rfl, rfl⟩

set_option maxRecDepth 100000 in
set_option maxHeartbeats 2000000 in
theorem few05_own {n : Nat} {v : Value} {ds : List DescL} {w : World} (h : HeadDescs n w v ds) (hn : n ≤ w.heap.size) : Calls Tryd.prog 21 #[v] w fun e w' => ∃ v, e = .returned v ∧ FewDs n w.heap.size v ds w' ∧ Below w.heap.size w w' := by
  have hlen := h.len
  obtain ⟨a, l, c, rfl, m1, m2, m3, m5⟩ := h
  unfold maxLen at m2
  have M3 := Lib.hid m3
  have M5 := Lib.hid m5
  obtain ⟨i0, hi, hz0, hz1, hz2⟩ := parts_info infoDesc
  have hd1 : ds.length ≤ l := by omega
  have hd2 : l ≤ ds.length ∨ 62 ≤ ds.length := by omega
  clear m3 m5
  go_enter Tryd.func21, Tryd.ntmps21
  go_wp2
  go_loopw [3, 4] (fun ov i wr => ∃ k : Nat, k ≤ ds.length ∧ i = .int .i64 k ∧ FewDs n w.heap.size ov (ds.take k) wr ∧ Below w.heap.size w wr) (fun _ i _ => ds.length - (intOf i).toNat)
  case atStart => exact ⟨0, Nat.zero_le _, rfl, FewDs.nil _ _ _, Below.refl _ _⟩
  case round =>
    obtain ⟨k, hk, rfl, hown, hb⟩ := hrel
    by_cases hlt : k < ds.length
    · obtain ⟨x, hx⟩ : ∃ x, ds[k]? = some x := ⟨_, List.getElem?_eq_getElem hlt⟩
      obtain ⟨b, o, v1, v2, rfl, hbn, z0, z1, z2, z3, i1, i2, g1, g2⟩ := M5.out k x hx
      have HX := Lib.hid (take_snoc hx)
      clear hx
      replace z0 := ((hb.mono hn).cell (p := ⟨b, o + k * 4, none⟩) hbn).trans z0
      replace z1 := ((hb.mono hn).cell (p := ⟨b, o + k * 4 + 1, none⟩) hbn).trans z1
      replace z2 := ((hb.mono hn).cell (p := ⟨b, o + k * 4 + 2, none⟩) hbn).trans z2
      replace z3 := ((hb.mono hn).cell (p := ⟨b, o + k * 4 + 3, none⟩) hbn).trans z3
      have hCut := descCut_any (w := wr) x.size x.elem i1 i2 (g1.below (hb.mono hn)) (g2.below (hb.mono hn)) (Nat.le_trans hn hb.size)
      obtain ⟨a1, l1, c1, rfl⟩ := g1.open
      obtain ⟨a2, l2, c2, rfl⟩ := g2.open
      have hkl : k < l := by omega
      have hk62 : (k : Int) < 62 := by omega
      have hlk : (ds.take k).length = k := by rw [List.length_take]; omega
      have HK := Lib.hid hlk
      obtain ⟨cells, hr, he⟩ := id hown
      obtain ⟨oa, oc, rfl, hoc⟩ := owns_open hr
      rw [hlk] at hoc ⊢
      have HR := Lib.hid hr
      have HE := Lib.hid he
      clear g1 g2 hown hlk he hr
      go_wp2_with fail
      refine hCut.mono ?_
      clear hCut z0 z1 z2 z3
      rintro e w2 ⟨⟨v', rfl, hD⟩, hb2⟩
      obtain ⟨s1, s2, rfl, j1, j2, q1, q2⟩ := id hD
      obtain ⟨oa1, oc1, rfl, -⟩ := q1.open
      obtain ⟨oa2, oc2, rfl, -⟩ := q2.open
      have hbw2 := kept_trans hb hb2
      have hba : Below w2.heap.size w2 (w2.alloc (Obj.cells #[.int .i64 x.size, .slice oa1 x.ptrs.length oc1, .int .i64 x.elem, .slice oa2 x.eptrs.length oc2] 24)) := kept_alloc (Below.refl _ _) _
      have hbc := kept_trans hb2 hba
      have hrow : (w2.alloc (Obj.cells #[.int .i64 x.size, .slice oa1 x.ptrs.length oc1, .int .i64 x.elem, .slice oa2 x.eptrs.length oc2] 24)).ownsRow w.heap.size 24 4 (.slice oa k oc) k cells := by have := owns_kept HR.out hbc; rw [HK.out] at this; exact this
      have HA := Lib.hid (show ∀ (j : Nat) (d : DescL), (ds.take k)[j]? = some d → ∃ s1 s2, cells[j * 4]? = some (.int .i64 d.size) ∧ cells[j * 4 + 1]? = some s1 ∧ cells[j * 4 + 2]? = some (.int .i64 d.elem) ∧ cells[j * 4 + 3]? = some s2 ∧ IsDesc n (w2.alloc (Obj.cells #[.int .i64 x.size, .slice oa1 x.ptrs.length oc1, .int .i64 x.elem, .slice oa2 x.eptrs.length oc2] 24)) (.agg #[.int .i64 d.size, s1, .int .i64 d.elem, s2]) d from fun j d hj => by
        obtain ⟨t1, t2, k0, k1, k2, k3, ho⟩ := HE.out j d hj
        exact ⟨t1, t2, k0, k1, k2, k3, ho.below (hbc.mono (Nat.le_trans hn hb.size))⟩)
      have HO := Lib.hid (hD.below (hba.mono (Nat.le_trans hn hbw2.size)))
      have HCl := Lib.hid (show cells.length = (ds.take k).length * 4 from HR.out.1)
      have hsz2 := hbw2.size
      clear HR HE hD q1 q2 j1 j2
      go_wp2_with (at_builtin; refine wpList_append_own _ rfl _ _ 41 rfl w.heap.size 24 i0 (.agg #[.int .i64 0, .slice none 0 0, .int .i64 0, .slice none 0 0]) 4 64 Tryd.underlying41 hi hz0 hz1 hz2 rfl (by decide) _ _ _ rfl hrow ⟨w2.heap.size, 0, none⟩ 1 1 [.int .i64 x.size, .slice oa1 x.ptrs.length oc1, .int .i64 x.elem, .slice oa2 x.eptrs.length oc2] rfl rfl (cells_new_add _) (by simp [Value.oneCell']) (by unfold maxLen; omega) (by omega) (by simp; omega) ?_; intro v' w4 hown4 hgrow4 hnil4)
      have hBB : Below w.heap.size w w4 := (kept_alloc hbw2 _).grown hgrow4 (by simp; omega) (fun j hj => (hrow.lt j hj).1)
      have hB4 : Below w.heap.size (w2.alloc (Obj.cells #[.int .i64 x.size, .slice oa1 x.ptrs.length oc1, .int .i64 x.elem, .slice oa2 x.eptrs.length oc2] 24)) w4 := (Below.refl _ _).grown hgrow4 (by simp; omega) (fun j hj => (hrow.lt j hj).1)
      have hP : FewDs n w.heap.size v' (ds.take (k + 1)) w4 := by
        rw [HX.out]
        exact FewDs.push HCl.out HA.out HO.out (hB4.mono hn) (by rw [HK.out]; exact hown4)
      go_roundw
      case rel => exact ⟨k + 1, by omega, by go_num, hP, hBB⟩
      case measure => simp [intOf]; omega
    · rw [List.take_of_length_le (by omega)] at hown
      have hI := hown
      obtain ⟨cells, hr, he⟩ := id hown
      obtain ⟨oa, oc, rfl, hoc⟩ := owns_open hr
      clear hr he hown
      obtain rfl : k = ds.length := by omega
      rcases hd2 with hd2 | hd2
      · obtain rfl : l = ds.length := by omega
        go_wp2
        go_ret
        exact ⟨_, rfl, hI, hb⟩
      · have hno : ¬ ((ds.length : Int) < 62) := by omega
        by_cases hll : ds.length < l
        · go_wp2
          go_ret
          exact ⟨_, rfl, hI, hb⟩
        · go_wp2
          go_ret
          exact ⟨_, rfl, hI, hb⟩
def FewPost (ds : List DescL) (w : World) (e : Ending) (w' : World) : Prop := ∃ v, e = .returned v ∧ IsDescs w'.heap.size w' v ds ∧ Below w.heap.size w w'
theorem few05_any {v : Value} {ds : List DescL} {w : World} (h : HeadDescs w.heap.size w v ds) : Calls Tryd.prog 21 #[v] w (FewPost ds w) :=
  (few05_own h (Nat.le_refl _)).mono fun e w' ⟨v', he, hf, hb⟩ => ⟨v', he, hf.is hb.size (by have := h.len; unfold big; omega), hb⟩
end Go.Proofs.YtjhmghcfhgajcaaDoor

/- Contract of selionlaw05.shown. -/
namespace Go.Sel
open Go Go.RowKit
def kdA : DescL := ⟨8, [4], 0, []⟩
def kdB : DescL := ⟨8, [], 0, []⟩
theorem kd_add1 : addK [] kdA = ([kdA], 1, 0) := Prod.ext (sameK_iff.1 (by decide +kernel)) (by decide +kernel)
theorem kd_add2 : addK [kdA] kdB = ([kdA, kdB], 2, 0) := Prod.ext (sameK_iff.1 (by decide +kernel)) (by decide +kernel)
theorem kd_add3 : addK [kdA, kdB] kdA = ([kdA, kdB], 1, 0) := Prod.ext (sameK_iff.1 (by decide +kernel)) (by decide +kernel)
theorem kd_right : rightK [kdA, kdB] = true := by decide +kernel
theorem kd_of : ofK [kdA, kdB] 1 = (some kdA, 0) := by
  unfold ofK
  rw [if_pos kd_right, if_neg (by decide)]
  rfl
theorem kd_parse : (parseKB ⟨#[56, 58, 32, 52, 59, 32, 48, 58, 10, 56, 58, 32, 52, 59, 32, 48, 58, 10]⟩).2 = (2, 52) := by
  unfold parseKB
  rw [linesB_eq]
  decide +kernel
end Go.Sel
namespace Go.Proofs.YtjhmghcfhgajcaaDoor
open Go.RowKit Go.Sel
theorem kd_print : prKS [kdA, kdB] = [56, 58, 32, 52, 59, 32, 48, 58, 10, 56, 58, 59, 32, 48, 58, 10] ∧ prKE [kdA, kdB] = 0 := by decide +kernel
set_option maxRecDepth 100000 in
set_option maxHeartbeats 4000000 in
theorem shown05_any {w : World} (hR : ErrT w.heap.size w) (hT : TextOk w) :
    Calls Tryd.prog 20 #[] w fun e w' => e = .returned (.bool true) ∧ Below w.heap.size w w' := by
  obtain ⟨W0, hW0⟩ : ∃ y, y = w.alloc (Obj.cells #[.int .i64 4] 3) := ⟨_, rfl⟩
  obtain ⟨W1, hW1⟩ : ∃ y, y = W0.alloc (Obj.cells #[.int .i64 8, .slice (some ⟨w.heap.size, 0, none⟩) 1 1, .int .i64 0, .slice none 0 0] 24) := ⟨_, rfl⟩
  have hb0 : Below w.heap.size w W0 := by rw [hW0]; exact kept_alloc (Below.refl _ _) _
  have hb01 : Below W0.heap.size W0 W1 := by rw [hW1]; exact kept_alloc (Below.refl _ _) _
  have hI0 : IsInts W0.heap.size W0 (.slice (some ⟨w.heap.size, 0, none⟩) 1 1) [4] := by
    rw [hW0]
    exact IsInts.of_owns (base := w.heap.size) (e := 3) ⟨rfl, .inr ⟨w.heap.size, 1, _, rfl, Nat.le_refl _, World.alloc_heap_new _ _, Nat.le_refl _, by decide, rfl, rfl⟩⟩ (by decide) (by intro x hx; unfold I64; simp at hx; omega)
  have hs0 : W0.heap.size = w.heap.size + 1 := by rw [hW0]; simp
  have hx : HasBlk (w.heap.size + 1) #[.int .i64 8, .slice (some ⟨w.heap.size, 0, none⟩) 1 1, .int .i64 0, .slice none 0 0] 24 W1 := by rw [hW1, ← hs0]; exact HasBlk.new W0 _ _
  have hD : IsDesc W1.heap.size W1 (.agg #[.int .i64 8, .slice (some ⟨w.heap.size, 0, none⟩) 1 1, .int .i64 0, .slice none 0 0]) kdA :=
    ⟨_, _, rfl, by unfold I64 kdA; decide, by unfold I64 kdA; decide, (hI0.below hb01).wider hb01.size, IsSl.nil⟩
  have hB1 := kept_trans hb0 hb01
  rw [hW0] at hW1
  clear hI0 hb01 hb0 hs0 hW0 W0
  have hA1 := addK_any ((IsSl.nil : IsDescs W1.heap.size W1 (.slice none 0 0) [])) hD (Nat.le_refl _)
  unfold AddPost at hA1
  rw [kd_add1] at hA1
  simp only [] at hA1
  obtain ⟨z0, z1, z2, z3⟩ := four_cells hx.out
  go_enter Tryd.func20, Tryd.ntmps20
  rw [hW1] at z0 z1 z2 z3
  go_wp2_with fail
  rw [← hW1]
  clear hW1 z0 z1 z2 z3
  refine hA1.mono ?_
  clear hA1
  rintro e w2 ⟨v1, rfl, hL1, hb2⟩
  replace hx := hx.below hb2 (Array.getElem?_eq_some_iff.1 hx.out).1
  replace hD := hD.up hb2
  replace hB1 := kept_trans hB1 hb2
  clear hb2
  obtain ⟨q1, c1, rfl, -⟩ := hL1.open
  have hA2 := addK_any hL1 (d := kdB) (vd := .agg #[.int .i64 8, .slice none 0 0, .int .i64 0, .slice none 0 0]) ⟨_, _, rfl, by unfold I64 kdB; decide, by unfold I64 kdB; decide, IsSl.nil, IsSl.nil⟩ (Nat.le_refl _)
  unfold AddPost at hA2
  rw [kd_add2] at hA2
  simp only [] at hA2
  obtain ⟨z0, z1, z2, z3⟩ := four_cells hx.out
  clear hL1
  go_wp2_with fail
  refine hA2.mono ?_
  clear hA2 z0 z1 z2 z3
  rintro e w3 ⟨v2, rfl, hL2, hb2⟩
  replace hx := hx.below hb2 (Array.getElem?_eq_some_iff.1 hx.out).1
  replace hD := hD.up hb2
  replace hB1 := kept_trans hB1 hb2
  clear hb2
  obtain ⟨q2, c2, rfl, -⟩ := hL2.open
  have hA3 := addK_any hL2 hD (Nat.le_refl _)
  unfold AddPost at hA3
  rw [kd_add3] at hA3
  simp only [] at hA3
  obtain ⟨z0, z1, z2, z3⟩ := four_cells hx.out
  go_wp2_with fail
  refine hA3.mono ?_
  clear hA3 z0 z1 z2 z3
  rintro e w4 ⟨v3, rfl, hL3, hb2⟩
  replace hx := hx.below hb2 (Array.getElem?_eq_some_iff.1 hx.out).1
  replace hD := hD.up hb2
  replace hB1 := kept_trans hB1 hb2
  replace hL2 := hL2.up hb2
  clear hb2
  obtain ⟨q3, c3, rfl, -⟩ := hL3.open
  clear hL3
  have hP := printK_any hL2 (Nat.le_refl _) (hT.up hB1)
  rw [kd_print.1, kd_print.2] at hP
  go_wp2_with fail
  refine hP.mono ?_
  clear hP
  rintro e w5 ⟨rfl, hb2⟩
  replace hx := hx.below hb2 (Array.getElem?_eq_some_iff.1 hx.out).1
  replace hD := hD.up hb2
  replace hB1 := kept_trans hB1 hb2
  replace hL2 := hL2.up hb2
  clear hb2
  have hQ := parseK_any ⟨#[56, 58, 32, 52, 59, 32, 48, 58, 10, 56, 58, 32, 52, 59, 32, 48, 58, 10]⟩ w5 (by decide) (hT.up hB1) (hR.up hB1)
  unfold ParseKPost at hQ
  rw [kd_parse] at hQ
  simp only [] at hQ
  go_wp2_with fail
  refine hQ.mono ?_
  clear hQ
  rintro e w6 ⟨v6, rfl, -, hb2⟩
  replace hx := hx.below hb2 (Array.getElem?_eq_some_iff.1 hx.out).1
  replace hD := hD.up hb2
  replace hB1 := kept_trans hB1 hb2
  replace hL2 := hL2.up hb2
  clear hb2
  have hO := ofK_any 1 (by unfold I64; decide) hL2 (Nat.le_refl _)
  unfold OfPost at hO
  rw [kd_of] at hO
  simp only [Option.getD_some] at hO
  go_wp2_with fail
  refine hO.mono ?_
  clear hO
  rintro e w7 ⟨v7, rfl, hO7, hb2⟩
  replace hx := hx.below hb2 (Array.getElem?_eq_some_iff.1 hx.out).1
  replace hD := hD.up hb2
  replace hB1 := kept_trans hB1 hb2
  clear hb2 hL2
  obtain ⟨v1, v2, rfl, -, -, h1, h2⟩ := id hO7
  obtain ⟨a1, d1, rfl, -⟩ := h1.open
  obtain ⟨a2, d2, rfl, -⟩ := h2.open
  clear h1 h2
  obtain ⟨W8, hW8⟩ : ∃ y, y = w7.alloc (Obj.cells #[.int .i64 kdA.size, .slice a1 kdA.ptrs.length d1, .int .i64 kdA.elem, .slice a2 kdA.eptrs.length d2] 24) := ⟨_, rfl⟩
  have hb8 : Below w7.heap.size w7 W8 := by rw [hW8]; exact kept_alloc (Below.refl _ _) _
  have hy : HasBlk w7.heap.size #[.int .i64 kdA.size, .slice a1 kdA.ptrs.length d1, .int .i64 kdA.elem, .slice a2 kdA.eptrs.length d2] 24 W8 := by rw [hW8]; exact HasBlk.new w7 _ _
  replace hx := hx.below hb8 (Array.getElem?_eq_some_iff.1 hx.out).1
  have hS := descSame_any (hO7.up hb8) (hD.up hb8) (Nat.le_refl _)
  replace hB1 := kept_trans hB1 hb8
  obtain ⟨z0, z1, z2, z3⟩ := four_cells hx.out
  obtain ⟨y0, y1, y2, y3⟩ := four_cells hy.out
  rw [sameD_eqD, eqD_refl] at hS
  clear hx hy hb8 hD hO7 hR hT
  rw [hW8] at z0 z1 z2 z3 y0 y1 y2 y3
  go_wp2_with fail
  rw [← hW8]
  clear hW8 z0 z1 z2 z3 y0 y1 y2 y3
  refine hS.mono ?_
  clear hS
  rintro e w9 ⟨rfl, hb9⟩
  replace hB1 := kept_trans hB1 hb9
  clear hb9
  go_wp2
  go_ret
  exact ⟨rfl, hB1⟩
end Go.Proofs.YtjhmghcfhgajcaaDoor
