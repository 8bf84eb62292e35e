/- Contracts of kinds.told, known.isNew. -/
import Derived.Test.YtjhmghcfhgajcaaDoorAsKinds
import Derived.Test.YtjhmghcfhgajcaaDoorKinds9
import Derived.Test.YtjhmghcfhgajcaaDoorDesc4
import Derived.Maps.Own
import Derived.Maps.OwnSet
import Derived.Maps.Views
import Derived.Test.YtjhmghcfhgajcaaDoorRange
namespace Go.Proofs.YtjhmghcfhgajcaaDoor
open Go.RowKit Go.Sel Go.Maps Go.WideMaps Go.WideElems
set_option maxHeartbeats 1000000 in
theorem kindsTold_any {n : Nat} {w : World} (line x : Int) (h : ErrT n w) (hn : n ≤ w.heap.size) :
    Calls Tryd.prog 52 #[.iface 120 (.agg #[.int .i64 line, .int .i64 x])] w fun e w' => e = .returned (.tuple #[.int .i64 line, .int .i64 x]) ∧ Below w.heap.size w w' := by
  obtain ⟨w1, hw1⟩ : ∃ x, x = w.alloc (.cells #[.int .i64 0, .int .i64 0] 120) := ⟨_, rfl⟩
  have hb1 : Below w.heap.size w w1 := by rw [hw1]; exact kept_alloc (Below.refl _ _) _
  have hx1 : w1.heap[w.heap.size]? = some (.cells #[.int .i64 0, .int .i64 0] 120 (0, 0)) := by rw [hw1]; exact World.alloc_heap_new w _
  have hs := AsKinds.as_any #[.int .i64 line, .int .i64 x] #[.int .i64 0, .int .i64 0] w.heap.size 120 w1 rfl rfl (by simp [Value.oneCell']) (h.below (hb1.mono hn)).1 hx1
  clear h
  go_enter Tryd.func52, Tryd.ntmps52
  go_wp2_with fail
  rw [← hw1]
  refine hs.mono ?_
  rintro e w2 ⟨rfl, hx2, hO⟩
  have hb2 : Below w.heap.size w w2 := hb1.trans (hO.below hb1.size (fun k hk e => by omega))
  have hc : w2.cell? ⟨w.heap.size, 0, none⟩ = some (.int .i64 line) := by simp [World.cell?, hx2]
  have hc1 : w2.cell? ⟨w.heap.size, 1, none⟩ = some (.int .i64 x) := by simp [World.cell?, hx2]
  clear hs hw1 hx1 hO
  go_wp2_with fail
  go_quiet (fail)
  go_wp2
  go_ret2
  exact ⟨rfl, below_drewN hb2 nq⟩

theorem strKey : Keyed Tryd.prog 9 := string_keyed Tryd.underlying9
theorem zeroInt (w : World) : (zeroValue 3).run Tryd.prog w = .ok (.int .i64 0) w := by kernel_rfl
/-- A map of texts: each that was met once has 1. -/
def SeenMap (b n : Nat) (seen : List (List UInt8)) (w : World) : Prop :=
  ∃ D : DataW Unit, w.ownsMap Tryd.prog 9 (plainElem Tryd.prog 3) b n D ∧ ∀ l : List UInt8, D.atKey (.string l) (.lit (.int .i64 0)) = .lit (.int .i64 (if l ∈ seen then 1 else 0))
theorem SeenMap.made (w : World) : SeenMap w.heap.size 0 [] (w.alloc (.map #[] 0)) :=
  ⟨.map [], World.ownsMap_made _ _ _ _, fun l => by simp [DataW.atKey]⟩
theorem SeenMap.only {b n : Nat} {seen : List (List UInt8)} {w w' : World} {S : Nat → Prop} (h : SeenMap b n seen w) (hO : Only S w w') (hS : ¬ S b) : SeenMap b n seen w' := by
  obtain ⟨D, h1, h2⟩ := h
  refine ⟨D, ?_, h2⟩
  have hlt := h1.lt
  obtain ⟨es, clock, hb, r⟩ := h1
  exact ⟨es, clock, (hO.block b hlt hS).trans hb, r⟩
set_option maxRecDepth 100000 in
set_option maxHeartbeats 1000000 in
theorem isNew_any {b n B o : Nat} {seen : List (List UInt8)} {w : World} (s : ByteArray) (hs : s.size ≤ maxLen) (h : SeenMap b n seen w) (hn : n < 1000) (hc : w.cell? ⟨B, o, none⟩ = some (.map (some b))) (hB : B ≠ b) :
    Calls Tryd.prog 69 #[.pointer (some ⟨B, o, none⟩), .string s] w fun e w' => e = .returned (.bool (!decide (s.data.toList ∈ seen))) ∧ Only (fun k => k = b) w w' ∧ (s.data.toList ∉ seen → SeenMap b (n + 1) (s.data.toList :: seen) w') := by
  obtain ⟨D, hown, hat⟩ := h
  have hkey : keyOf Tryd.prog 9 (.string s) = some (.string s.data.toList) := keyOf_string_mk Tryd.underlying9 hs
  obtain ⟨c, hrun, hat1, _⟩ := hown.lookup_int strKey Tryd.underlying88 Tryd.underlying3 (zeroInt _) hkey
  rw [hat] at hat1
  have hcv : c = if s.data.toList ∈ seen then 1 else 0 := by cases hat1; rfl
  have hc01 : 0 ≤ c ∧ c ≤ 1 := by rw [hcv]; split <;> omega
  obtain ⟨c0, c1⟩ := hc01
  have HC := Lib.hid hcv
  have HA := Lib.hid hat
  have wc : IntKind.i64.wrap (c + 1) = c + 1 := IntWalk.i64_in _ (by omega)
  have HK := Lib.hid hkey
  have hlt := hown.lt
  clear hcv hat hat1 hkey
  go_enter Tryd.func69, Tryd.ntmps69
  by_cases hin : s.data.toList ∈ seen
  · have hcc : c = 1 := by rw [HC.out, if_pos hin]
    have hq : (c + 1 == 1) = false := by rw [hcc]; rfl
    clear hcc
    have hd := decide_eq_true hin
    have HD := Lib.hid hd
    clear hd
    go_wp2_with (at_mapUpdate; refine wpList_mapUpdate_own _ rfl _ _ _ 88 rfl 9 3 strKey Tryd.underlying88 _ b n D rfl hown (by unfold maxLen; omega) _ _ _ rfl rfl HK.out _ [] (plainElem_int Tryd.underlying3 (WalkArith.wf_i64 (by omega))) ?_; intro w1 hown1 hgrow1; have hO : Only (fun k => k = b) w w1 := (Only.refl _ _).grown hgrow1 (fun k hk => .inl (Option.some.inj hk).symm); have hc1 : w1.cell? ⟨B, o, none⟩ = some (.map (some b)) := (hO.cell (p := ⟨B, o, none⟩) (World.block_lt_of_cell? _ _ hc) hB).trans hc; have hat' := fun z => atKey_put_same (k := .string s.data.toList) (hown.isMap) (by trivial) (.lit (.int .i64 (c + 1))) z; obtain ⟨c', hrun1, hat1, _⟩ := hown1.lookup_int strKey Tryd.underlying88 Tryd.underlying3 (zeroInt _) HK.out; rw [hat'] at hat1; obtain rfl : c' = c + 1 := (Lit.int.inj (DataW.lit.inj hat1)).2.symm; have HO1 := Lib.hid hown1; have HO1b := Lib.hid hown.isMap; clear hat1 hat' hgrow1 hown hown1)
    go_ret
    exact ⟨by rw [HD.out]; rfl, hO, fun h => absurd hin h⟩
  · have hcc : c = 0 := by rw [HC.out, if_neg hin]
    have hq : (c + 1 == 1) = true := by rw [hcc]; rfl
    have HZ := Lib.hid hcc
    clear hcc
    have HD := Lib.hid (decide_eq_false hin)
    go_wp2_with (at_mapUpdate; refine wpList_mapUpdate_own _ rfl _ _ _ 88 rfl 9 3 strKey Tryd.underlying88 _ b n D rfl hown (by unfold maxLen; omega) _ _ _ rfl rfl HK.out _ [] (plainElem_int Tryd.underlying3 (WalkArith.wf_i64 (by omega))) ?_; intro w1 hown1 hgrow1; have hO : Only (fun k => k = b) w w1 := (Only.refl _ _).grown hgrow1 (fun k hk => .inl (Option.some.inj hk).symm); have hc1 : w1.cell? ⟨B, o, none⟩ = some (.map (some b)) := (hO.cell (p := ⟨B, o, none⟩) (World.block_lt_of_cell? _ _ hc) hB).trans hc; have hat' := fun z => atKey_put_same (k := .string s.data.toList) (hown.isMap) (by trivial) (.lit (.int .i64 (c + 1))) z; obtain ⟨c', hrun1, hat1, _⟩ := hown1.lookup_int strKey Tryd.underlying88 Tryd.underlying3 (zeroInt _) HK.out; rw [hat'] at hat1; obtain rfl : c' = c + 1 := (Lit.int.inj (DataW.lit.inj hat1)).2.symm; have HO1 := Lib.hid hown1; have HO1b := Lib.hid hown.isMap; clear hat1 hat' hgrow1 hown hown1)
    go_ret
    refine ⟨by rw [HD.out]; rfl, hO, fun _ => ⟨_, HO1.out, fun l => ?_⟩⟩
    by_cases hl : l = s.data.toList
    · subst hl
      rw [if_pos (by simp)]
      rw [atKey_put_same (k := .string s.data.toList) (HO1b.out) (by trivial) _ _, HZ.out]
      rfl
    · rw [atKey_put_other (fun e => hl (by cases e; rfl)), HA.out]
      simp [hl]
end Go.Proofs.YtjhmghcfhgajcaaDoor

/- Contracts of strings.SplitAfter at a line's end, kinds.lines: the iterator over a text's lines. -/
namespace Go.Sel
open Go Go.RowKit
/-- A text's pieces, each with its end. -/
def piecesB (s : ByteArray) : List ByteArray := Lib.splitB ⟨#[10]⟩ 1 (Lib.countB s ⟨#[10]⟩) s
/-- Those ahead of the first empty one. -/
def lineB (ps : List ByteArray) : List ByteArray := ps.takeWhile fun t => !t.data.toList.isEmpty
/-- What the rounds get. -/
def lineVals (ls : List ByteArray) : List (Array Value) := ls.zipIdx.map fun p => #[.int .i64 ((p.2 : Int) + 1), .string p.1]
theorem lineVals_at {ls : List ByteArray} {k : Nat} {es : Array Value} (h : (lineVals ls)[k]? = some es) : ∃ t, ls[k]? = some t ∧ es = #[.int .i64 ((k : Int) + 1), .string t] := by
  unfold lineVals at h
  rw [List.getElem?_map, Option.map_eq_some_iff] at h
  obtain ⟨p, hp, rfl⟩ := h
  rw [List.getElem?_zipIdx, Option.map_eq_some_iff] at hp
  obtain ⟨t, ht, rfl⟩ := hp
  exact ⟨t, ht, by simp⟩
theorem lineVals_of {ls : List ByteArray} {k : Nat} {t : ByteArray} (h : ls[k]? = some t) : (lineVals ls)[k]? = some #[.int .i64 ((k : Int) + 1), .string t] := by
  unfold lineVals
  rw [List.getElem?_map, List.getElem?_zipIdx, h]
  simp
theorem lineVals_len (ls : List ByteArray) : (lineVals ls).length = ls.length := by simp [lineVals]
theorem lineB_at : ∀ {ps : List ByteArray} {m : Nat} {t : ByteArray}, m ≤ (lineB ps).length → ps[m]? = some t → ¬ t.data.toList = [] → (lineB ps)[m]? = some t
  | [], m, t, _, h, _ => by simp at h
  | p :: ps, 0, t, _, h, hn => by
    cases h
    unfold lineB
    rw [List.takeWhile_cons_of_pos (by simpa using hn)]
    rfl
  | p :: ps, m + 1, t, hm, h, hn => by
    by_cases hp : (!p.data.toList.isEmpty) = true
    · unfold lineB at hm ⊢
      rw [List.takeWhile_cons_of_pos (by exact hp)] at hm ⊢
      rw [List.getElem?_cons_succ]
      rw [List.getElem?_cons_succ] at h
      exact lineB_at (ps := ps) (by simpa [lineB] using hm) h hn
    · unfold lineB at hm
      rw [List.takeWhile_cons_of_neg (by exact hp)] at hm
      simp at hm
theorem lineB_stop : ∀ {ps : List ByteArray} {m : Nat}, m ≤ (lineB ps).length → (∀ t, ps[m]? = some t → t.data.toList = []) → (lineB ps).length = m
  | [], m, hm, _ => by simp [lineB] at hm ⊢; omega
  | p :: ps, 0, _, h => by
    have := h p rfl
    unfold lineB
    rw [List.takeWhile_cons_of_neg (by simp [this])]
    rfl
  | p :: ps, m + 1, hm, h => by
    by_cases hp : (!p.data.toList.isEmpty) = true
    · unfold lineB at hm ⊢
      rw [List.takeWhile_cons_of_pos (by exact hp)] at hm ⊢
      have := lineB_stop (ps := ps) (m := m) (by simpa [lineB] using hm) (fun t ht => h t (by simpa using ht))
      unfold lineB at this
      rw [List.length_cons, this]
    · unfold lineB at hm
      rw [List.takeWhile_cons_of_neg (by exact hp)] at hm
      simp at hm
end Go.Sel
namespace Go.Proofs.YtjhmghcfhgajcaaDoor
open Go.RowKit Go.Sel
attribute [local go_sem] Oper.semAt_some
theorem splitAfter_any (s : ByteArray) {w : World} (hs : s.size < 4294967200) (hT : TextOk w) : Calls Tryd.prog 67 #[.string s, .string ⟨#[10]⟩] w fun e w' =>
    e = .returned (.slice (some ⟨w.heap.size, 0, none⟩) (piecesB s).length (piecesB s).length) ∧ w' = w.alloc (.cells ((piecesB s).map Value.string).toArray 9) := by
  obtain ⟨_, m, hm⟩ := hT
  have hcb := Lib.countB_le ⟨#[10]⟩ (Nat.le_refl 1) s.size s (Nat.le_refl _)
  have hl : (piecesB s).length = Lib.countB s ⟨#[10]⟩ + 1 := Lib.splitB_all ⟨#[10]⟩ (Nat.le_refl 1) 1 _ s rfl
  have hG := Tryd.strings_genSplit s ⟨#[10]⟩ 1 (-1) (Lib.countB s ⟨#[10]⟩ + 1) m w (by omega) hm (Nat.le_refl 1) (Nat.le_refl 1) (by decide) (by decide) (by
    rw [if_pos (by decide)]
    omega)
  rw [Nat.add_sub_cancel] at hG
  have hc : Lib.cellsOf (piecesB s) (Lib.countB s ⟨#[10]⟩ + 1) = ((piecesB s).map Value.string).toArray := by
    unfold Lib.cellsOf
    rw [hl, Nat.sub_self]
    simp
  change Calls _ _ _ _ (fun e w' => e = .returned (.slice (some ⟨w.heap.size, 0, none⟩) (piecesB s).length (Lib.countB s ⟨#[10]⟩ + 1)) ∧ w' = w.alloc (.cells (Lib.cellsOf (piecesB s) (Lib.countB s ⟨#[10]⟩ + 1)) _)) at hG
  rw [hc, ← hl] at hG
  have HG := Lib.hid hG
  clear hG hc hl hcb hm
  go_enter Tryd.func67, Tryd.ntmps67
  go_wp2_with fail
  refine HG.out.mono ?_
  rintro e w' ⟨rfl, rfl⟩
  go_wp2
  go_ret
  exact ⟨rfl, rfl⟩

/-- What holds between two rounds of the iterator over lines. -/
def LinesInv (g : Nat) (ps : List ByteArray) (J : Nat → (Nat → Prop) → World → Prop) (m : Nat) (T1 : Nat → Prop) (wr : World) : Prop :=
  StrsAt wr g 0 ps ∧ g < wr.heap.size ∧ J m T1 wr ∧ (∀ b, T1 b → b < wr.heap.size ∧ b ≠ g) ∧ m ≤ (lineB ps).length
set_option maxRecDepth 100000 in
set_option maxHeartbeats 2000000 in
theorem lines_iter {s : ByteArray} {w : World} {B1 : Nat} (hs : s.size < 4294967200) (hB1 : Boxed w B1 9 (.string s)) (hT0 : TextOk w) :
    Iter Tryd.prog 66 #[.pointer (some ⟨B1, 0, none⟩)] (lineVals (lineB (piecesB s))) (fun b => b = B1) w := by
  intro lp J Jx T W hW hJ hJx hT hY h0
  have HY := Lib.hid hY
  have hsp := splitAfter_any s (w := W) hs (hT0.up hW)
  obtain ⟨ps, hps⟩ : ∃ ps, ps = piecesB s := ⟨_, rfl⟩
  rw [← hps] at hsp HY ⊢
  have hpl : ps.length < 4294967290 := by
    rw [hps]
    have hcb := Lib.countB_le ⟨#[10]⟩ (Nat.le_refl 1) s.size s (Nat.le_refl _)
    have hl : (piecesB s).length = Lib.countB s ⟨#[10]⟩ + 1 := Lib.splitB_all ⟨#[10]⟩ (Nat.le_refl 1) 1 _ s rfl
    omega
  have H0 : ∀ W2, W2 = W.alloc (.cells (ps.map Value.string).toArray 9) → LinesInv W.heap.size ps J 0 T W2 := fun W2 e => by
    have hb : Below W.heap.size W W2 := by rw [e]; exact kept_alloc (Below.refl _ _) _
    refine ⟨fun j t hj => ?_, by rw [e]; simp, hJ _ _ _ _ h0 (Only.of_below hb), fun b hb' => ?_, Nat.zero_le _⟩
    · rw [e, Nat.zero_add]; exact cell_new_cells W (by simp [hj])
    · have := (hT b hb').1; have := hb.size; omega
  have hsq := hsp.mono (fun e w' (h : _ ∧ _) => (⟨h.1, Lib.hid (H0 w' h.2), by rw [h.2]; simp⟩ : e = .returned (.slice (some ⟨W.heap.size, 0, none⟩) ps.length ps.length) ∧ Hid (LinesInv W.heap.size ps J 0 T w') ∧ W.heap.size < w'.heap.size))
  have c1 := (box_kept hB1 hW).cell
  clear hJ hJx hY hT hB1 hW h0 H0 hps hT0 hsp
  refine callsIn_of_wp Tryd.func66 rfl trivial ?_ rfl
  simp only [Tryd.ntmps66, List.size_toArray, List.length_cons, List.length_nil, Nat.reduceAdd, Nat.reduceSub, Array.replicate_succ, Array.replicate_zero, List.push_toArray, List.append_toArray, List.nil_append, List.cons_append]
  apply wpIn_scope_wide
  gi_wp2
  apply wpIn_label
  gi_wp2_with (gi_at_call 67; refine (callsIn_wide.2 hsq).mono ?_; rintro e w2 ⟨rfl, H0, hg⟩)
  obtain ⟨g, hgg⟩ : ∃ g, g = W.heap.size := ⟨_, rfl⟩
  rw [← hgg] at H0 hg ⊢
  clear c1 hsq hgg
  gi_loopw [3, 5, 9] (fun nv _ i wr => ∃ (m : Nat) (T1 : Nat → Prop), nv = .int .i64 m ∧ i = .int .i64 m ∧ m ≤ ps.length ∧ Hid (LinesInv g ps J m T1 wr)) (fun _ _ i _ => ps.length - (intOf i).toNat)
  case atStart => exact ⟨0, T, rfl, rfl, by omega, H0⟩
  case round =>
    obtain ⟨m, T1, rfl, rfl, hm, hh⟩ := hrel
    clear H0
    by_cases hlt : m < ps.length
    · obtain ⟨t, ht⟩ : ∃ t, ps[m]? = some t := ⟨_, List.getElem?_eq_getElem hlt⟩
      have hcell : wr.cell? ⟨g, m, none⟩ = some (.string t) := by have := hh.out.1 m t ht; rwa [Nat.zero_add] at this
      have hwm : IntKind.i64.wrap ((m : Int) + 1) = (m : Int) + 1 := IntWalk.i64_in _ (by omega)
      by_cases hk : t.data.toList = []
      · have hst := lineB_stop hh.out.2.2.2.2 (fun u hu => by rw [ht] at hu; cases hu; exact hk)
        have q1 : t.toList = [] := by rw [ByteArray.toList_eq]; exact hk
        have hJ := hh.out.2.2.1
        have HK := Lib.hid hst
        clear hk hh HY ht hst
        gi_wp2
        try rw [Exit.noGoto_normal]
        go_end0
        exact ⟨⟨_, rfl⟩, T1, .inl (by rw [lineVals_len, HK.out]; exact hJ)⟩
      · have q1 : (t.toList == []) = false := by rw [beq_eq_false_iff_ne, ByteArray.toList_eq]; exact hk
        have hline := lineB_at hh.out.2.2.2.2 ht hk
        have hln := (List.getElem?_eq_some_iff.1 hline).1
        obtain ⟨fn, tmps, assign, body, hy, hR⟩ := HY.out m T1 wr _ (lineVals_of hline) hh.out.2.2.1 (fun b hb => (hh.out.2.2.2.1 b hb).1)
        have E3 := Lib.hid (show ∀ (T2 : Nat → Prop) (W' : World), (∀ b, T2 b → T1 b ∨ (wr.heap.size ≤ b ∧ b < W'.heap.size)) → Only T1 wr W' → J (m + 1) T2 W' → LinesInv g ps J (m + 1) T2 W' from fun T2 W' hT2 hO hJ' => by
          obtain ⟨h1, h2, h3, h4, h5⟩ := hh.out
          have hs := hO.size
          refine ⟨fun j u hj => (hO.cell (p := ⟨g, 0 + j, none⟩) h2 (fun hT => (h4 g hT).2 rfl)).trans (h1 j u hj), by omega, hJ', fun b hb => ?_, hln⟩
          rcases hT2 b hb with h | h
          · have := h4 b h; exact ⟨by omega, this.2⟩
          · exact ⟨h.2, by omega⟩)
        clear hk hh HY ht hline
        gi_wp2
        refine hR.mono ?_
        rintro e W' ⟨T2, hT2, hO, (⟨rfl, hJ'⟩ | ⟨rfl, hJx'⟩)⟩
        · have HQ := Lib.hid (E3.out T2 W' hT2 hO hJ')
          clear hR hy hT2 hO hJ' E3
          gi_wp2
          exact ⟨⟨m + 1, T2, by go_num, by go_num, by omega, HQ⟩, by simp [intOf]; omega⟩
        · clear hR hy hT2 hO E3
          gi_wp2
          try rw [Exit.noGoto_normal]
          go_end0
          exact ⟨⟨_, rfl⟩, T2, .inr ⟨m + 1, by rw [lineVals_len]; exact hln, hJx'⟩⟩
    · have hst := lineB_stop hh.out.2.2.2.2 (fun u hu => by rw [List.getElem?_eq_none (by omega)] at hu; cases hu)
      have hJ := hh.out.2.2.1
      have HK := Lib.hid hst
      clear hh HY hst
      gi_wp2
      try rw [Exit.noGoto_normal]
      go_end0
      exact ⟨⟨_, rfl⟩, T1, .inl (by rw [lineVals_len, HK.out]; exact hJ)⟩
theorem linesMaker_any (s : ByteArray) (w : World) :
    Calls Tryd.prog 50 #[.string s] w fun e w' => e = .returned (.func (.func 66) #[] #[.pointer (some ⟨w.heap.size, 0, none⟩)]) ∧ w' = w.alloc (.cells #[.string s] 9) := by
  go_enter Tryd.func50, Tryd.ntmps50
  go_wp2
  go_ret
  exact ⟨rfl, rfl⟩
end Go.Proofs.YtjhmghcfhgajcaaDoor

/- Descriptors that are gathered in a field; the plain law of a line. -/
namespace Go.Sel
open Go Go.RowKit
theorem ints_only2 {n : Nat} {w w' : World} {v : Value} {xs : List Int} {S : Nat → Prop} (h : IsInts n w v xs) (hO : Only S w w') (hn : n ≤ w.heap.size) (hS : ∀ b, v.ownBlock = some b → ¬ S b) : IsInts n w' v xs := by
  obtain ⟨a, c, rfl, h1, h2, h3⟩ := h
  refine ⟨a, c, rfl, h1, h2, fun j x hx => ?_⟩
  obtain ⟨b, o, rfl, h4, h5, h6⟩ := h3 j x hx
  exact ⟨b, o, rfl, h4, (World.cell?_of_block (hO.block b (by omega) (hS b rfl))).trans h5, h6⟩
/-- What a line says: the descriptor, or why not. -/
def lineK (out : List DescL) (t : List UInt8) : DescL ⊕ Int :=
  match (if Lib.hasSuffix t [10] = true then parseL (Lib.trimSuffix t [10]) else none) with
  | none => .inr 40
  | some d => if hasK out d = true then .inr 52 else if out.length = 60 then .inr 53 else .inl d
theorem readK_cons {out : List DescL} {n : Nat} {t : List UInt8} {r : List (List UInt8)} (h : t ≠ []) : readK out n (t :: r) = match lineK out t with | .inl d => readK (out ++ [d]) (n + 1) r | .inr e => ([], (n : Int) + 1, e) := by
  rw [readK, if_neg h]
  unfold lineK
  generalize (if Lib.hasSuffix t [10] = true then parseL (Lib.trimSuffix t [10]) else none) = q
  cases q with
  | none => rfl
  | some d =>
    by_cases h1 : hasK out d = true
    · simp only [if_pos h1]
    · by_cases h2 : out.length = 60
      · simp only [if_neg h1, if_pos h2]
      · simp only [if_neg h1, if_neg h2]
theorem printD_inj {a b : DescL} (ha : rightD a = true) (hb : rightD b = true) (h : printD a = printD b) : a = b := by
  have h1 := parseL_print ha
  rw [h, parseL_print hb] at h1
  exact (Option.some.inj h1).symm
theorem seen_has {out : List DescL} {d : DescL} (ho : ∀ x ∈ out, rightD x = true) (hd : rightD d = true) : (printD d ∈ (out.map printD).reverse) ↔ hasK out d = true := by
  rw [List.mem_reverse, List.mem_map, hasK_iff]
  constructor
  · rintro ⟨x, hx, e⟩
    rw [← printD_inj (ho x hx) hd e]
    exact hx
  · intro h
    exact ⟨d, h, rfl⟩
end Go.Sel
namespace Go.Proofs.YtjhmghcfhgajcaaDoor
open Go.RowKit Go.Sel
theorem FreshB.not {B : Nat} {v : Value} {S : Nat → Prop} (h : FreshB B v) (hS : ∀ b, B ≤ b → ¬ S b) (b : Nat) (hb : v.ownBlock = some b) : ¬ S b := hS b (h b hb)
theorem desc_only {w w' : World} {s1 s2 : Value} {d : DescL} {S : Nat → Prop} (h : IsDesc w.heap.size w (.agg #[.int .i64 d.size, s1, .int .i64 d.elem, s2]) d) (hO : Only S w w') (h1 : ∀ b, s1.ownBlock = some b → ¬ S b) (h2 : ∀ b, s2.ownBlock = some b → ¬ S b) :
    IsDesc w'.heap.size w' (.agg #[.int .i64 d.size, s1, .int .i64 d.elem, s2]) d := by
  obtain ⟨v1, v2, e, i1, i2, g1, g2⟩ := h
  simp only [Value.agg.injEq] at e
  cases e
  exact ⟨s1, s2, rfl, i1, i2, (ints_only2 g1 hO (Nat.le_refl _) h1).wider hO.size, (ints_only2 g2 hO (Nat.le_refl _) h2).wider hO.size⟩
/-- Descriptors that were appended one by one, in memory from block B on. -/
def OutDs (T : Nat → Prop) (B : Nat) (ov : Value) (ds : List DescL) (w : World) : Prop :=
  ∃ cells, w.ownsRow B 24 4 ov ds.length cells ∧ (∀ b, ov.ownBlock = some b → T b) ∧ ∀ (j : Nat) (d : DescL), ds[j]? = some d → ∃ s1 s2, cells[j * 4]? = some (.int .i64 d.size) ∧ cells[j * 4 + 1]? = some s1 ∧ cells[j * 4 + 2]? = some (.int .i64 d.elem) ∧ cells[j * 4 + 3]? = some s2 ∧
    IsDesc w.heap.size w (.agg #[.int .i64 d.size, s1, .int .i64 d.elem, s2]) d ∧ FreshB B s1 ∧ FreshB B s2 ∧ (∀ b, ov.ownBlock = some b → s1.ownBlock ≠ some b ∧ s2.ownBlock ≠ some b) ∧ (∀ b, (s1.ownBlock = some b ∨ s2.ownBlock = some b) → b < w.heap.size ∧ T b)
theorem OutDs.nil (T : Nat → Prop) (B : Nat) (w : World) : OutDs T B (.slice none 0 0) [] w := ⟨[], World.ownsRow_nil _ _ _ _, (fun b h => by cases h), fun j d h => by cases h⟩
theorem OutDs.is {T : Nat → Prop} {B : Nat} {ov : Value} {ds : List DescL} {w : World} (h : OutDs T B ov ds w) (hl : ds.length ≤ big) : IsDescs w.heap.size w ov ds := by
  obtain ⟨cells, hr, -, he⟩ := h
  obtain ⟨a, c, rfl, hc⟩ := owns_open hr
  refine ⟨a, c, rfl, hc, hl, fun j d hj => ?_⟩
  have hp : 0 < ds.length := by have := (List.getElem?_eq_some_iff.1 hj).1; omega
  obtain ⟨g, c', e1, _, _, hg⟩ := owns_some hr hp
  cases e1
  have hcell := hr.cells (g := g) rfl
  have hc' : ∀ (i : Nat) (u : Value), cells[i]? = some u → w.cell? ⟨g, 0 + i, none⟩ = some u := fun i u hi => by
    have := hcell i u hi
    rwa [add_plain] at this
  obtain ⟨s1, s2, k0, k1, k2, k3, hD, _⟩ := he j d hj
  obtain ⟨v1, v2, e2, i1, i2, h1, h2⟩ := hD
  simp only [Value.agg.injEq] at e2
  cases e2
  exact ⟨g, 0, rfl, hg, s1, s2, hc' _ _ k0, by rw [Nat.add_assoc]; exact hc' _ _ k1, by rw [Nat.add_assoc]; exact hc' _ _ k2, by rw [Nat.add_assoc]; exact hc' _ _ k3, i1, i2, h1, h2⟩
theorem OutDs.only {T : Nat → Prop} {B : Nat} {ov : Value} {ds : List DescL} {w w' : World} {S : Nat → Prop} (h : OutDs T B ov ds w) (hO : Only S w w') (hS : ∀ b, B ≤ b → b < w.heap.size → ¬ S b) : OutDs T B ov ds w' := by
  obtain ⟨cells, hr, ht, he⟩ := h
  have hO' : Only (fun b => S b ∧ b < w.heap.size) w w' := ⟨hO.os, hO.tape, hO.output, hO.size, fun k hk hn => hO.block k hk (fun h => hn ⟨h, hk⟩)⟩
  have hS' : ∀ b, B ≤ b → ¬ (S b ∧ b < w.heap.size) := fun b hb h => hS b hb h.2 h.1
  refine ⟨cells, owns_only hr hO' (fun g hg e => hS' g (hr.lt g e).1 hg), ht, fun j d hj => ?_⟩
  obtain ⟨s1, s2, k0, k1, k2, k3, hD, f1, f2, ha, hl⟩ := he j d hj
  exact ⟨s1, s2, k0, k1, k2, k3, desc_only hD hO' (f1.not hS') (f2.not hS'), f1, f2, ha, fun b hb => ⟨Nat.lt_of_lt_of_le (hl b hb).1 hO.size, (hl b hb).2⟩⟩
/-- One more, behind an append. -/
theorem OutDs.mono {T T' : Nat → Prop} {B : Nat} {ov : Value} {ds : List DescL} {w : World} (h : OutDs T B ov ds w) (hT : ∀ b, T b → T' b) : OutDs T' B ov ds w := by
  obtain ⟨cells, hr, ht, he⟩ := h
  refine ⟨cells, hr, fun b hb => hT b (ht b hb), fun j d hj => ?_⟩
  obtain ⟨s1, s2, k0, k1, k2, k3, hD, f1, f2, ha, hl⟩ := he j d hj
  exact ⟨s1, s2, k0, k1, k2, k3, hD, f1, f2, ha, fun b hb => ⟨(hl b hb).1, hT b (hl b hb).2⟩⟩
theorem ints_quiet {n q : Nat} {T : Nat → Prop} {w w' : World} {v : Value} {xs : List Int} (h : IsInts n w v xs) (hq : Quiet q T w w') (hT : ∀ b, v.ownBlock = some b → b < q ∨ T b) : IsInts n w' v xs := by
  obtain ⟨a, c, rfl, h1, h2, h3⟩ := h
  refine ⟨a, c, rfl, h1, h2, fun j x hx => ?_⟩
  obtain ⟨b, o, rfl, h4, h5, h6⟩ := h3 j x hx
  refine ⟨b, o, rfl, h4, ?_, h6⟩
  unfold World.cell? at h5 ⊢
  cases ho : w.heap[b]? with
  | none => rw [ho] at h5; cases h5
  | some o' =>
    cases o' with
    | cells c t f => rw [hq.cells ho (hT b rfl)]; rw [ho] at h5; exact h5
    | _ => rw [ho] at h5; cases h5
theorem OutDs.quiet {T : Nat → Prop} {B q : Nat} {ov : Value} {ds : List DescL} {w w' : World} (h : OutDs T B ov ds w) (hq : Quiet q T w w') : OutDs T B ov ds w' := by
  obtain ⟨cells, hr, ht, he⟩ := h
  refine ⟨cells, hq.ownsRow hr (fun g hg => .inr (ht g hg)), ht, fun j d hj => ?_⟩
  obtain ⟨s1, s2, k0, k1, k2, k3, hD, f1, f2, ha, hl⟩ := he j d hj
  refine ⟨s1, s2, k0, k1, k2, k3, ?_, f1, f2, ha, fun b hb => ⟨Nat.lt_of_lt_of_le (hl b hb).1 hq.size, (hl b hb).2⟩⟩
  obtain ⟨v1, v2, e, i1, i2, g1, g2⟩ := hD
  simp only [Value.agg.injEq] at e
  cases e
  exact ⟨s1, s2, rfl, i1, i2, (ints_quiet g1 hq (fun b hb => .inr (hl b (.inl hb)).2)).wider hq.size, (ints_quiet g2 hq (fun b hb => .inr (hl b (.inr hb)).2)).wider hq.size⟩
theorem OutDs.push {T T' : Nat → Prop} {B : Nat} {ov ov' s1 s2 : Value} {ds : List DescL} {d : DescL} {w w' : World} {cells : List Value} (hr : w.ownsRow B 24 4 ov ds.length cells)
    (he : ∀ (j : Nat) (d : DescL), ds[j]? = some d → ∃ s1 s2, cells[j * 4]? = some (.int .i64 d.size) ∧ cells[j * 4 + 1]? = some s1 ∧ cells[j * 4 + 2]? = some (.int .i64 d.elem) ∧ cells[j * 4 + 3]? = some s2 ∧
      IsDesc w.heap.size w (.agg #[.int .i64 d.size, s1, .int .i64 d.elem, s2]) d ∧ FreshB B s1 ∧ FreshB B s2 ∧ (∀ b, ov.ownBlock = some b → s1.ownBlock ≠ some b ∧ s2.ownBlock ≠ some b) ∧ (∀ b, (s1.ownBlock = some b ∨ s2.ownBlock = some b) → b < w.heap.size ∧ T b))
    (hTT : ∀ b, T b → T' b) (hov : ∀ b, ov'.ownBlock = some b → T' b)
    (hd : IsDesc w.heap.size w (.agg #[.int .i64 d.size, s1, .int .i64 d.elem, s2]) d) (f1 : FreshB B s1) (f2 : FreshB B s2) (ha : ∀ b, ov.ownBlock = some b → s1.ownBlock ≠ some b ∧ s2.ownBlock ≠ some b) (hlt : ∀ b, (s1.ownBlock = some b ∨ s2.ownBlock = some b) → b < w.heap.size ∧ T' b)
    (hown : w'.ownsRow B 24 4 ov' (ds.length + 1) (cells ++ [.int .i64 d.size, s1, .int .i64 d.elem, s2])) (hgrow : w.grownBy w' ov.ownBlock) (hf : Fresh w ov ov') : OutDs T' B ov' (ds ++ [d]) w' := by
  have hl : cells.length = ds.length * 4 := hr.1
  have hO : Only (fun b => ov.ownBlock = some b) w w' := (Only.refl _ w).grown hgrow (fun k hk => .inl hk)
  have ap : ∀ (t1 t2 : Value), (∀ b, ov.ownBlock = some b → t1.ownBlock ≠ some b ∧ t2.ownBlock ≠ some b) → (∀ b, (t1.ownBlock = some b ∨ t2.ownBlock = some b) → b < w.heap.size) → ∀ b, ov'.ownBlock = some b → t1.ownBlock ≠ some b ∧ t2.ownBlock ≠ some b := fun t1 t2 h1 h2 b hb => by
    rcases hf with hf | ⟨g, hg, hge⟩
    · exact h1 b (hf ▸ hb)
    · rw [hg] at hb
      cases hb
      exact ⟨fun e => by have := h2 _ (.inl e); omega, fun e => by have := h2 _ (.inr e); omega⟩
  refine ⟨_, by rw [List.length_append]; exact hown, hov, fun j x hj => ?_⟩
  rcases Nat.lt_or_ge j ds.length with hlt' | hge
  · rw [List.getElem?_append_left hlt'] at hj
    obtain ⟨t1, t2, k0, k1, k2, k3, hD, g1, g2, g3, g4⟩ := he j x hj
    exact ⟨t1, t2, by rw [List.getElem?_append_left (by omega)]; exact k0, by rw [List.getElem?_append_left (by omega)]; exact k1, by rw [List.getElem?_append_left (by omega)]; exact k2, by rw [List.getElem?_append_left (by omega)]; exact k3,
      desc_only hD hO (fun b hb e => (g3 b e).1 hb) (fun b hb e => (g3 b e).2 hb), g1, g2, ap t1 t2 g3 (fun b hb => (g4 b hb).1), fun b hb => ⟨Nat.lt_of_lt_of_le (g4 b hb).1 hO.size, hTT b (g4 b hb).2⟩⟩
  · rw [List.getElem?_append_right hge] at hj
    have hj0 : j - ds.length = 0 := by have := (List.getElem?_eq_some_iff.1 hj).1; simp at this; omega
    rw [hj0] at hj
    cases hj
    obtain rfl : j = ds.length := by omega
    refine ⟨s1, s2, ?_, ?_, ?_, ?_, desc_only hd hO (fun b hb e => (ha b e).1 hb) (fun b hb e => (ha b e).2 hb), f1, f2, ap s1 s2 ha (fun b hb => (hlt b hb).1), fun b hb => ⟨Nat.lt_of_lt_of_le (hlt b hb).1 hO.size, (hlt b hb).2⟩⟩
    · rw [List.getElem?_append_right (by omega), hl, Nat.sub_self]; rfl
    · rw [List.getElem?_append_right (by omega), hl, show ds.length * 4 + 1 - ds.length * 4 = 1 by omega]; rfl
    · rw [List.getElem?_append_right (by omega), hl, show ds.length * 4 + 2 - ds.length * 4 = 2 by omega]; rfl
    · rw [List.getElem?_append_right (by omega), hl, show ds.length * 4 + 3 - ds.length * 4 = 3 by omega]; rfl
end Go.Proofs.YtjhmghcfhgajcaaDoor

/- Contract of reader.line. -/
namespace Go.Sel
open Go Go.RowKit
theorem write1 {W : World} {B t : Nat} {a b : Value} (h : W.heap[B]? = some (.cells #[a, b] t (0, 0))) (b' : Value) : (W.setCell ⟨B, 1, none⟩ b').heap[B]? = some (.cells #[a, b'] t (0, 0)) := by simp [World.setCell, Array.getElem?_modify, h]
end Go.Sel
namespace Go.Proofs.YtjhmghcfhgajcaaDoor
open Go.RowKit Go.Sel
/-- A reader of kinds: what it has gathered, which texts it has met. -/
structure ReadAt (T : Nat → Prop) (B Bk bm nb : Nat) (ov : Value) (out : List DescL) (W : World) : Prop where
  blk : HasBlk Bk #[.map (some bm), ov] 92 W
  outs : OutDs T B ov out W
  seen : SeenMap bm nb (out.map printD).reverse W
  lt1 : Bk < B
  lt2 : bm < B
  ne : Bk ≠ bm
  right : ∀ d ∈ out, rightD d = true
  len : out.length ≤ 60
  low : B ≤ W.heap.size
/-- The blocks that a line may write. -/
def LineT (Bk bm : Nat) (ov : Value) (b : Nat) : Prop := b = Bk ∨ b = bm ∨ ov.ownBlock = some b
def LinePost (T : Nat → Prop) (B Bk bm nb : Nat) (ov : Value) (out : List DescL) (n : Int) (t : List UInt8) (w : World) (e : Ending) (w' : World) : Prop :=
  Only (LineT Bk bm ov) w w' ∧ ((∃ d ov', lineK out t = .inl d ∧ e = .returned .nilIface ∧ ReadAt (fun b => T b ∨ (w.heap.size ≤ b ∧ b < w'.heap.size)) B Bk bm (nb + 1) ov' (out ++ [d]) w' ∧ Fresh w ov ov') ∨ (∃ x, lineK out t = .inr x ∧ e = .returned (.iface 120 (.agg #[.int .i64 n, .int .i64 x]))))
theorem ReadAt.below {T : Nat → Prop} {B Bk bm nb : Nat} {ov : Value} {out : List DescL} {w w' : World} (h : ReadAt T B Bk bm nb ov out w) (hb : Below w.heap.size w w') : ReadAt T B Bk bm nb ov out w' :=
  ⟨h.blk.below hb (Array.getElem?_eq_some_iff.1 h.blk.out).1, h.outs.only (Only.of_below (S := fun _ => False) hb) (fun _ _ _ h => h), h.seen.only (Only.of_below (S := fun _ => False) hb) (fun h => h), h.lt1, h.lt2, h.ne, h.right, h.len, Nat.le_trans h.low hb.size⟩
set_option maxRecDepth 100000 in
set_option maxHeartbeats 4000000 in
theorem line_any {T : Nat → Prop} {B Bk bm nb : Nat} {ov : Value} {out : List DescL} {w : World} (n : Int) (s : ByteArray) (hs : s.size ≤ 100000) (hnb : nb < 1000) (hR : ReadAt T B Bk bm nb ov out w) (hT : TextOk w) :
    Calls Tryd.prog 51 #[.pointer (some ⟨Bk, 0, none⟩), .int .i64 n, .string s] w (LinePost T B Bk bm nb ov out n s.data.toList w) := by
  have hC := Tryd.strings_CutSuffix s ⟨#[10]⟩ w (by omega)
  have e1 : (⟨#[10]⟩ : ByteArray).data.toList = [10] := rfl
  rw [e1] at hC
  obtain ⟨ok, hok⟩ : ∃ x, x = Lib.hasSuffix s.data.toList [10] := ⟨_, rfl⟩
  obtain ⟨t, ht⟩ : ∃ x : ByteArray, x = ⟨(Lib.trimSuffix s.data.toList [10]).toArray⟩ := ⟨_, rfl⟩
  have hL : lineK out s.data.toList = match (if ok = true then parseL t.data.toList else none) with
    | none => .inr 40
    | some d => if hasK out d = true then .inr 52 else if out.length = 60 then .inr 53 else .inl d := by rw [hok, ht]; rfl
  have htz : t.size ≤ 100000 := by
    rw [ht, ByteArray.size_mk', List.size_toArray]
    have := Lib.trimSuffix_le s.data.toList [10]
    have h4 : s.data.toList.length = s.size := rfl
    omega
  rw [← hok, ← ht] at hC
  have HL := Lib.hid hL
  clear hL e1 hok ht
  obtain ⟨ova, ovc, rfl, hovc⟩ : ∃ a c, ov = .slice a out.length c ∧ out.length ≤ c := by obtain ⟨cells, hr, _⟩ := hR.outs; exact owns_open hr
  go_enter Tryd.func51, Tryd.ntmps51
  go_wp2_with fail
  refine hC.mono ?_
  clear hC
  rintro e w0 ⟨rfl, hw0⟩
  obtain rfl : w = w0 := hw0.symm
  have hP := parse_own t w htz hT
  go_wp2_with fail
  refine hP.mono ?_
  clear hP
  rintro e w1 ⟨s1, s2, rfl, hD, f1, f2, fl, hb1⟩
  obtain ⟨d, hd⟩ : ∃ d, d = (parseL t.data.toList).getD zeroDesc := ⟨_, rfl⟩
  rw [← hd] at hD ⊢
  obtain ⟨v1, v2, e2, i1, i2, g1, g2⟩ := id hD
  simp only [Value.agg.injEq] at e2
  cases e2
  obtain ⟨q1, c1, rfl, hc1⟩ := g1.open
  obtain ⟨q2, c2, rfl, hc2⟩ := g2.open
  obtain ⟨w2, hw2⟩ : ∃ y, y = w1.alloc (Obj.cells #[.int .i64 d.size, .slice q1 d.ptrs.length c1, .int .i64 d.elem, .slice q2 d.eptrs.length c2] 24) := ⟨_, rfl⟩
  have hb2 : Below w1.heap.size w1 w2 := by rw [hw2]; exact kept_alloc (Below.refl _ _) _
  have hx : HasBlk w1.heap.size #[.int .i64 d.size, .slice q1 d.ptrs.length c1, .int .i64 d.elem, .slice q2 d.eptrs.length c2] 24 w2 := by rw [hw2]; exact HasBlk.new w1 _ _
  have hD2 := hD.up hb2
  have hbw := kept_trans hb1 hb2
  have hR2 := hR.below hbw
  have hs1 := hb1.size
  have hs2 := hb2.size
  have hlow := hR.low
  have hovl : ∀ b, (Value.slice ova out.length ovc).ownBlock = some b → b < w.heap.size := fun b hb => by obtain ⟨cells, hr, _⟩ := hR.outs; exact (hr.lt b hb).2
  have HD := Lib.hid hd
  have hO2 : Only (LineT Bk bm (.slice ova out.length ovc)) w w2 := Only.of_below hbw
  clear hd g1 g2 i1 i2 hD hc1 hc2 hb1 hR hT
  cases ok with
  | false =>
    have HE := Lib.hid (show lineK out s.data.toList = .inr 40 by rw [HL.out]; rfl)
    clear HL hD2 hR2 hx hb2
    go_wp2_with fail
    try rw [← hw2]
    go_ret
    exact ⟨hO2, .inr ⟨40, HE.out, rfl⟩⟩
  | true =>
    cases hp : parseL t.data.toList with
    | none =>
      have HE := Lib.hid (show lineK out s.data.toList = .inr 40 by rw [HL.out, if_pos rfl, hp])
      have hpe : parseE t.data.toList = 40 := by unfold parseE; rw [hp]; rfl
      rw [hpe]
      clear HL hD2 hR2 hx hb2 hp hpe
      go_wp2_with fail
      try rw [← hw2]
      go_ret
      exact ⟨hO2, .inr ⟨40, HE.out, rfl⟩⟩
    | some dd =>
      have hde : d = dd := by rw [HD.out, hp]; rfl
      have hpe : parseE t.data.toList = 0 := by unfold parseE; rw [hp]; rfl
      obtain ⟨hdr, hpt⟩ := parseL_some hp
      have HL2 := Lib.hid (show lineK out s.data.toList = if hasK out d = true then .inr 52 else if out.length = 60 then .inr 53 else .inl d by rw [HL.out, if_pos rfl, hp, hde])
      have hsn := seen_has hR2.right (d := d) (by rw [hde]; exact hdr)
      rw [hde, hpt, ← hde] at hsn
      rw [hpe]
      obtain ⟨b0, b1⟩ := pair_cells hR2.blk.out
      have hN := isNew_any (o := 0) t (by unfold maxLen; omega) hR2.seen hnb b0 hR2.ne
      have HR := Lib.hid (show rightD d = true by rw [hde]; exact hdr)
      have HPT := Lib.hid (show printD d = t.data.toList by rw [hde]; exact hpt)
      rw [hw2] at b0 b1
      clear HL hp hpe hde hdr hpt HD
      go_wp2_with fail
      rw [← hw2]
      clear hw2 b0 b1
      refine hN.mono ?_
      clear hN
      rintro e w3 ⟨rfl, hO3, hS3⟩
      have hO23 : Only (LineT Bk bm (.slice ova out.length ovc)) w w3 := hO2.trans (hO3.mono (fun k _ hk => .inr (.inl hk)))
      have hs3 := hO3.size
      cases hh : hasK out d with
      | true =>
        have hin := hsn.2 hh
        have HE := Lib.hid (show lineK out s.data.toList = .inr 52 by rw [HL2.out, if_pos hh])
        have hdd := decide_eq_true hin
        rw [hdd]
        clear HL2 hD2 hR2 hx hb2 hh hin hsn hS3 hdd hO3
        go_wp2_with fail
        go_ret
        exact ⟨hO23, .inr ⟨52, HE.out, rfl⟩⟩
      | false =>
        have hnin : t.data.toList ∉ (out.map printD).reverse := fun h => by have := hsn.1 h; rw [hh] at this; cases this
        have hdd := decide_eq_false hnin
        rw [hdd]
        have hseen := hS3 hnin
        have hblk : HasBlk Bk #[.map (some bm), .slice ova out.length ovc] 92 w3 := (hO3.block _ (Array.getElem?_eq_some_iff.1 hR2.blk.out).1 hR2.ne).trans hR2.blk.out
        have hlt1 := hR2.lt1
        have hlt2 := hR2.lt2
        have hout3 := hR2.outs.only hO3 (fun b hb _ e => by omega)
        have hx3 : HasBlk w1.heap.size #[.int .i64 d.size, .slice q1 d.ptrs.length c1, .int .i64 d.elem, .slice q2 d.eptrs.length c2] 24 w3 := (hO3.block _ (Array.getElem?_eq_some_iff.1 hx.out).1 (by omega)).trans hx.out
        have hD3 := desc_only hD2 hO3 (fun b hb e => by have := f1 b hb; omega) (fun b hb e => by have := f2 b hb; omega)
        have HRt := Lib.hid hR2.right
        have hl60 := hR2.len
        have hne := hR2.ne
        obtain ⟨b0, b1⟩ := pair_cells hblk.out
        by_cases h6 : out.length = 60
        · have HE := Lib.hid (show lineK out s.data.toList = .inr 53 by rw [HL2.out, if_neg (by rw [hh]; decide), if_pos h6])
          have h6' : (out.length : Int) = 60 := by omega
          clear HL2 hD2 hR2 hx hb2 hh hsn hS3 hdd hnin hseen hblk hout3 hx3 hD3 h6
          go_wp2_with fail
          go_ret
          exact ⟨hO23, .inr ⟨53, HE.out, rfl⟩⟩
        · have HE := Lib.hid (show lineK out s.data.toList = .inl d by rw [HL2.out, if_neg (by rw [hh]; decide), if_neg h6])
          have h6' : ((out.length : Int) == 60) = false := by rw [beq_eq_false_iff_ne]; omega
          have hl59 : out.length ≤ 59 := by omega
          clear HL2 hD2 hR2 hx hb2 hh hsn hS3 hdd hnin h6
          go_wp2_with fail
          refine wp_regionZ (fun W => HasBlk Bk #[.map (some bm), .slice ova out.length ovc] 92 W ∧ HasBlk w1.heap.size #[.int .i64 d.size, .slice q1 d.ptrs.length c1, .int .i64 d.elem, .slice q2 d.eptrs.length c2] 24 W) (fun j => decide (9 < j)) (by kernel_rfl) ?_
          have hC0 : (fun W => HasBlk Bk #[.map (some bm), .slice ova out.length ovc] 92 W ∧ HasBlk w1.heap.size #[.int .i64 d.size, .slice q1 d.ptrs.length c1, .int .i64 d.elem, .slice q2 d.eptrs.length c2] 24 W) w3.drew := ⟨hblk.drew, hx3.drew⟩
          refine wpAnyZ_take 0 (.pointer (some ⟨Bk, 0, none⟩)) rfl (by kernel_rfl) (by kernel_rfl) (fun _ _ _ h => h) hC0 (fun W hW => by go_simp) ?_
          go_simp
          refine wpAnyZ_take 1 (.pointer (some ⟨Bk, 0, none⟩)) rfl (by kernel_rfl) (by kernel_rfl) (fun _ _ _ h => h) hC0 (fun W hW => by go_simp) ?_
          go_simp
          refine wpAnyZ_take 2 (.pointer (some ⟨Bk, 0, none⟩)) rfl (by kernel_rfl) (by kernel_rfl) (fun _ _ _ h => h) hC0 (fun W hW => by obtain ⟨g1, g2⟩ := pair_cells hW.1.out; go_simp) ?_
          go_simp
          refine wpAnyZ_take 3 (.pointer (some ⟨Bk, 1, none⟩)) rfl (by kernel_rfl) (by kernel_rfl) (fun _ _ _ h => h) hC0 (fun W hW => by go_simp) ?_
          go_simp
          refine wpAnyZ_take 4 (.slice ova out.length ovc) rfl (by kernel_rfl) (by kernel_rfl) (fun _ _ _ h => h) hC0 (fun W hW => by obtain ⟨g1, g2⟩ := pair_cells hW.1.out; go_simp) ?_
          go_simp
          refine wpAnyZ_take 5 (.agg #[.int .i64 d.size, .slice q1 d.ptrs.length c1, .int .i64 d.elem, .slice q2 d.eptrs.length c2]) rfl (by kernel_rfl) (by kernel_rfl) (fun _ _ _ h => h) hC0 (fun W hW => by obtain ⟨g1, g2, g3, g4⟩ := four_cells hW.2.out; go_simp) ?_
          go_simp
          refine wpAnyZ_act 6 rfl (by kernel_rfl) (by kernel_rfl) ?_
          go_simp
          obtain ⟨w4, hw4⟩ : ∃ y, y = (w3.alloc (Obj.cells #[.int .i64 d.size, .slice q1 d.ptrs.length c1, .int .i64 d.elem, .slice q2 d.eptrs.length c2] 24)).drew := ⟨_, rfl⟩
          have hb4 : Below w3.heap.size w3 w4 := by rw [hw4]; exact (kept_alloc (Below.refl _ _) _).drew
          have hBB : HasBlk w3.heap.size #[.int .i64 d.size, .slice q1 d.ptrs.length c1, .int .i64 d.elem, .slice q2 d.eptrs.length c2] 24 w4 := by rw [hw4]; exact (HasBlk.new w3 _ _).drew
          rw [← hw4]
          have hblk4 := hblk.below hb4 (Array.getElem?_eq_some_iff.1 hblk.out).1
          have hx4 := hx3.below hb4 (Array.getElem?_eq_some_iff.1 hx3.out).1
          have hseen4 := hseen.only (Only.of_below (S := fun _ => False) hb4) (fun h => h)
          have hout4 := hout3.only (Only.of_below (S := fun _ => False) hb4) (fun _ _ _ h => h)
          have hD4 := desc_only hD3 (Only.of_below (S := fun _ => False) hb4) (fun _ _ h => h) (fun _ _ h => h)
          have hs4 := hb4.size
          refine ⟨⟨hblk4, hx4⟩, ?_⟩
          obtain ⟨cells, hr, hto, he⟩ := hout4
          obtain ⟨i0, hi, hz0, hz1, hz2⟩ := parts_info infoDesc
          have hnews : ∀ (j : Nat) (v : Value), [Value.int .i64 d.size, .slice q1 d.ptrs.length c1, .int .i64 d.elem, .slice q2 d.eptrs.length c2][j]? = some v → w4.cell? ((⟨w3.heap.size, 0, none⟩ : Addr).add j) = some v := fun j v hj => by
            rw [add_plain, Nat.zero_add]
            unfold World.cell?
            rw [hBB.out]
            simpa using hj
          obtain ⟨ov', w5, hrun, hown5, hgrow5, _⟩ := run_append_own (P := Tryd.prog) w4 B 41 41 24 i0 _ 4 64 Tryd.underlying41 hi hz0 hz1 hz2 rfl (by decide) _ _ _ hr ⟨w3.heap.size, 0, none⟩ 1 1 _ rfl hnews (by simp [Value.oneCell']) (by unfold maxLen; omega) (by omega) (by omega)
          have hf5 := run_append_where w4 B 41 41 24 i0 _ 4 64 Tryd.underlying41 hi hz0 hz1 hz2 _ _ _ hr ⟨w3.heap.size, 0, none⟩ 1 1 [Value.int .i64 d.size, .slice q1 d.ptrs.length c1, .int .i64 d.elem, .slice q2 d.eptrs.length c2] rfl hnews (by simp [Value.oneCell']) (by unfold maxLen; omega) (by omega) _ _ hrun
          have hrlt := hr.lt
          have hO5 : Only (fun b => (Value.slice ova out.length ovc).ownBlock = some b) w4 w5 := (Only.refl _ w4).grown hgrow5 (fun k hk => .inl hk)
          have hs45 := hO5.size
          have hovT : ∀ b, ov'.ownBlock = some b → T b ∨ (w.heap.size ≤ b ∧ b < w5.heap.size) := fun b hb => by
            have hlt := (hown5.lt b hb).2
            rcases hf5 with hF | ⟨g, h1, h2⟩
            · exact .inl (hto b (hF ▸ hb))
            · rw [h1] at hb
              cases hb
              exact .inr ⟨by omega, hlt⟩
          have hpush : OutDs (fun b => T b ∨ (w.heap.size ≤ b ∧ b < w5.heap.size)) B ov' (out ++ [d]) w5 := OutDs.push (T := T) hr
            (fun j y hj => by obtain ⟨t1, t2, k0, k1, k2, k3, hD, g1, g2, g3, g4⟩ := he j y hj; exact ⟨t1, t2, k0, k1, k2, k3, hD, g1, g2, g3, g4⟩)
            (fun b hb => .inl hb) hovT hD4 (fun b hb => Nat.le_trans hlow (f1 b hb)) (fun b hb => Nat.le_trans hlow (f2 b hb)) (fun b hb => ⟨fun e => by have := f1 b e; have := hovl b hb; omega, fun e => by have := f2 b e; have := hovl b hb; omega⟩) (fun b hb => ⟨by have h1 := fl b hb; omega, .inr ⟨by rcases hb with hb | hb; exact f1 b hb; exact f2 b hb, by have h1 := fl b hb; omega⟩⟩) hown5 hgrow5 hf5
          have hbk5 : HasBlk Bk #[.map (some bm), .slice ova out.length ovc] 92 w5 := (hO5.block _ (Array.getElem?_eq_some_iff.1 hblk4.out).1 (fun e => by have := (hrlt _ e).1; omega)).trans hblk4.out
          have hx5 : HasBlk w1.heap.size #[.int .i64 d.size, .slice q1 d.ptrs.length c1, .int .i64 d.elem, .slice q2 d.eptrs.length c2] 24 w5 := (hO5.block _ (Array.getElem?_eq_some_iff.1 hx4.out).1 (fun e => by have := hovl w1.heap.size e; omega)).trans hx4.out
          have hseen5 := hseen4.only hO5 (fun e => by have := (hrlt _ e).1; omega)
          have hs5 := hO5.size
          refine wpAnyZ_act 7 rfl (by kernel_rfl) (by kernel_rfl) ?_
          refine wp_append_run (.tmp 55) (.tmp 57) 41 rfl (.slice ova out.length ovc) (.slice (some ⟨w3.heap.size, 0, none⟩) 1 1) rfl rfl hrun ?_
          refine ⟨fun _ => ⟨hbk5, hx5⟩, ?_⟩
          obtain ⟨oa5, oc5, rfl, -⟩ := owns_open hown5
          replace hC0 : (fun W => HasBlk Bk #[.map (some bm), .slice ova out.length ovc] 92 W ∧ HasBlk w1.heap.size #[.int .i64 d.size, .slice q1 d.ptrs.length c1, .int .i64 d.elem, .slice q2 d.eptrs.length c2] 24 W) w5 := ⟨hbk5, hx5⟩
          have HP := Lib.hid hpush
          have HS := Lib.hid hseen5
          have HF := Lib.hid hf5
          have hOall : Only (LineT Bk bm (.slice ova out.length ovc)) w w5 := (hO23.kept hb4).trans (hO5.mono (fun k _ hk => .inr (.inr hk)))
          clear hr he hnews hrun hown5 hgrow5 hf5 hpush hseen5 hseen4 hseen hout3 hD3 hD4 hx4 hx3 hblk hblk4 hBB hb4 hw4 hO3 hx5
          obtain ⟨b0, b1⟩ := pair_cells hbk5.out
          have fz := Lib.frozen_of_heap hbk5.out 1
          go_simp
          refine wpAnyZ_act 8 rfl (by kernel_rfl) (by kernel_rfl) ?_
          go_simp
          refine wpAnyZ_act 9 rfl (by kernel_rfl) (by kernel_rfl) ?_
          go_simp
          refine wpAnyZ_act 10 rfl (by kernel_rfl) (by kernel_rfl) ?_
          go_simp
          refine wpAnyZ_done (by kernel_rfl) ?_
          obtain ⟨w6, hw6⟩ : ∃ y, y = w5.setCell ⟨Bk, 1, none⟩ (.slice oa5 (out.length + 1) oc5) := ⟨_, rfl⟩
          have hO6 : Only (fun b => b = Bk) w5 w6 := by rw [hw6]; exact (Only.refl (fun b => b = Bk) _).setCell (p := ⟨Bk, 1, none⟩) (.inl rfl) _
          have hbk6 : HasBlk Bk #[.map (some bm), .slice oa5 (out.length + 1) oc5] 92 w6 := by rw [hw6]; exact write1 hbk5.out _
          rw [← hw6]
          have HB := Lib.hid hbk6
          have HO6 := Lib.hid hO6
          clear hbk5 hbk6 hO6 hw6 b0 b1 fz hC0
          go_wp2
          go_ret
          refine ⟨hOall.trans (HO6.out.mono (fun k _ hk => .inl hk)), .inl ⟨d, _, HE.out, rfl, ⟨HB.out, (HP.out.only HO6.out (fun b hb _ e => by have e' : b = Bk := e; omega)).mono (fun b hb => hb.imp id (fun h => ⟨h.1, Nat.lt_of_lt_of_le h.2 HO6.out.size⟩)), ?_, hlt1, hlt2, hne, ?_, ?_, ?_⟩, ?_⟩⟩
          · rw [List.map_append, List.reverse_append]
            have := HS.out.only HO6.out (fun e => hne e.symm)
            rw [← HPT.out] at this
            exact this
          · intro y hy
            rcases List.mem_append.1 hy with hy | hy
            · exact HRt.out y hy
            · rw [List.mem_singleton.1 hy]; exact HR.out
          · rw [List.length_append, List.length_singleton]; omega
          · have := HO6.out.size; omega
          · rcases HF.out with hF | ⟨g, h1, h2⟩
            · exact .inl hF
            · exact .inr ⟨g, h1, by omega⟩
end Go.Proofs.YtjhmghcfhgajcaaDoor

/- Contract of kinds.Parse. -/
namespace Go.Sel
open Go Go.RowKit
/-- A text's lines, as they are read. -/
def linesB (s : ByteArray) : List (List UInt8) := (lineB (piecesB s)).map (·.data.toList)
/-- What a text parses as: the kinds, the line, what is told. -/
def parseKB (s : ByteArray) : List DescL × Int × Int := readK [] 0 (linesB s)
theorem piece_size (sep : ByteArray) (save : Nat) : ∀ (k : Nat) (s t : ByteArray), t ∈ Lib.splitB sep save k s → t.size ≤ s.size
  | 0, s, t, h => by rw [Lib.splitB_zero] at h; rw [List.mem_singleton.1 h]; exact Nat.le_refl _
  | k + 1, s, t, h => by
    unfold Lib.splitB at h
    split at h
    · rw [List.mem_singleton.1 h]; exact Nat.le_refl _
    · rcases List.mem_cons.1 h with rfl | h
      · rw [ByteArray.size_extract]; omega
      · have := piece_size sep save k _ t h
        rw [ByteArray.size_extract] at this
        omega
theorem lineB_mem {ps : List ByteArray} {t : ByteArray} (h : t ∈ lineB ps) : t ∈ ps ∧ t.data.toList ≠ [] := by
  unfold lineB at h
  exact ⟨(List.takeWhile_sublist _).subset h, fun e => by
    induction ps with
    | nil => cases h
    | cons p r ih =>
      by_cases hp : (!p.data.toList.isEmpty) = true
      · rw [List.takeWhile_cons_of_pos (by exact hp)] at h
        rcases List.mem_cons.1 h with rfl | h
        · rw [e] at hp; cases hp
        · exact ih h
      · rw [List.takeWhile_cons_of_neg (by exact hp)] at h
        cases h⟩
theorem box_set_other {w : World} {b : Nat} {t : TypeId} {u v : Value} {p : Addr} (h : Boxed w b t u) (hp : p.block ≠ b) : Boxed (w.setCell p v) b t u := (Below.heap_setCell _ _ _ _ (fun e => hp e.symm)).trans h
/-- The pairs that the rounds get. -/
def linePairs (ls : List ByteArray) : List (Value × Value) := ls.zipIdx.map fun p => (.int .i64 ((p.2 : Int) + 1), .string p.1)
theorem linePairs_vals (ls : List ByteArray) : lineVals ls = (linePairs ls).map fun x => #[x.1, x.2] := by
  unfold lineVals linePairs
  rw [List.map_map]
  rfl
theorem linePairs_at {ls : List ByteArray} {k : Nat} {x : Value × Value} (h : (linePairs ls)[k]? = some x) : ∃ t, ls[k]? = some t ∧ x = (.int .i64 ((k : Int) + 1), .string t) := by
  unfold linePairs at h
  rw [List.getElem?_map, Option.map_eq_some_iff] at h
  obtain ⟨p, hp, rfl⟩ := h
  rw [List.getElem?_zipIdx, Option.map_eq_some_iff] at hp
  obtain ⟨t, ht, rfl⟩ := hp
  exact ⟨t, ht, by simp⟩
theorem linePairs_len (ls : List ByteArray) : (linePairs ls).length = ls.length := by simp [linePairs]
end Go.Sel
namespace Go.Proofs.YtjhmghcfhgajcaaDoor
open Go.RowKit Go.Sel
attribute [local go_sem] Oper.semAt_some
theorem SeenMap.quiet {b n q : Nat} {T : Nat → Prop} {seen : List (List UInt8)} {w w' : World} (h : SeenMap b n seen w) (hq : Quiet q T w w') (hb : b < q) : SeenMap b n seen w' := by
  obtain ⟨D, h1, h2⟩ := h
  obtain ⟨es, clock, hk, r⟩ := h1
  exact ⟨D, ⟨es, clock, hq.block b _ hk (.inl hb), r⟩, h2⟩
theorem ReadAt.quiet {T : Nat → Prop} {B Bk bm nb q : Nat} {ov : Value} {out : List DescL} {w w' : World} (h : ReadAt T B Bk bm nb ov out w) (hq : Quiet q T w w') (h1 : Bk < q) (h2 : bm < q) : ReadAt T B Bk bm nb ov out w' :=
  ⟨hq.cells h.blk.out (.inl h1), h.outs.quiet hq, h.seen.quiet hq h2, h.lt1, h.lt2, h.ne, h.right, h.len, Nat.le_trans h.low hq.size⟩
/-- Between two rounds. -/
def KindsI (R : Nat) (w : World) (L : List (List UInt8)) (j : Nat) (T1 : Nat → Prop) (W : World) : Prop :=
  ∃ ov out, ReadAt T1 (R + 1 + 1 + 1 + 1 + 1 + 1) (R + 1 + 1 + 1 + 1) (R + 1 + 1 + 1) j ov out W ∧ T1 R ∧ T1 (R + 1) ∧ T1 (R + 1 + 1) ∧ T1 (R + 1 + 1 + 1) ∧ T1 (R + 1 + 1 + 1 + 1) ∧ (∀ b, T1 b → R ≤ b ∧ b ≠ R + 1 + 1 + 1 + 1 + 1) ∧
    Boxed W R 41 (.slice none 0 0) ∧ Boxed W (R + 1) 3 (.int .i64 0) ∧ Boxed W (R + 1 + 1) 27 (.int .i64 0) ∧ Boxed W (R + 1 + 1 + 1 + 1 + 1) 87 (.pointer (some ⟨R + 1 + 1 + 1 + 1, 0, none⟩)) ∧ Below R w W ∧ Hid (readK [] 0 L = readK out j (L.drop j) ∧ out.length = j)
/-- Where one has returned. -/
def KindsX (R : Nat) (w : World) (L : List (List UInt8)) (c : Code) (_ : Nat) (_ : Nat → Prop) (W : World) : Prop :=
  c = .ret ∧ ∃ x y, Hid (readK [] 0 L = ([], x, y)) ∧ Boxed W R 41 (.slice none 0 0) ∧ Boxed W (R + 1) 3 (.int .i64 x) ∧ Boxed W (R + 1 + 1) 27 (.int .i64 y) ∧ Below R w W
def ParseKPost (s : ByteArray) (w : World) (e : Ending) (w' : World) : Prop :=
  ∃ v, e = .returned (.tuple #[v, .int .i64 (parseKB s).2.1, .int .i64 (parseKB s).2.2]) ∧ IsDescs w'.heap.size w' v (parseKB s).1 ∧ Below w.heap.size w w'
set_option maxRecDepth 100000 in
set_option maxHeartbeats 4000000 in
theorem parseK_any (s : ByteArray) (w : World) (hs : s.size ≤ 100000) (hT : TextOk w) (hE : ErrT w.heap.size w) : Calls Tryd.prog 28 #[.string s] w (ParseKPost s w) := by
  have hmm := @run_makeMap Tryd.prog
  refine callsIn_wide.1 (callsIn_of_wp_marks (n := 0) Tryd.func28 rfl trivial ?_)
  simp only [Tryd.ntmps28, List.size_toArray, List.length_cons, List.length_nil, Nat.reduceAdd, Nat.reduceSub, Array.replicate_succ, Array.replicate_zero, List.push_toArray, List.append_toArray, List.nil_append, List.cons_append]
  gi_wp2_with fail
  obtain ⟨w6, hw6⟩ : ∃ y, y = ((((((w.alloc (Obj.cells #[Value.slice none 0 0] 41)).alloc (Obj.cells #[Value.int .i64 0] 3)).alloc (Obj.cells #[Value.int .i64 0] 27)).alloc (Obj.map #[] 0)).alloc (Obj.cells #[Value.map (some (w.heap.size + 1 + 1 + 1)), Value.slice none 0 0] 92)).alloc (Obj.cells #[Value.pointer (some ⟨w.heap.size + 1 + 1 + 1 + 1, 0, none⟩)] 87)) := ⟨_, rfl⟩
  rw [← hw6]
  obtain ⟨g0, g1, g2, g3, g4, g5, hs6, hb6⟩ : Boxed w6 w.heap.size 41 (.slice none 0 0) ∧ Boxed w6 (w.heap.size + 1) 3 (.int .i64 0) ∧ Boxed w6 (w.heap.size + 1 + 1) 27 (.int .i64 0) ∧ SeenMap (w.heap.size + 1 + 1 + 1) 0 [] w6 ∧ HasBlk (w.heap.size + 1 + 1 + 1 + 1) #[.map (some (w.heap.size + 1 + 1 + 1)), .slice none 0 0] 92 w6 ∧ Boxed w6 (w.heap.size + 1 + 1 + 1 + 1 + 1) 87 (.pointer (some ⟨w.heap.size + 1 + 1 + 1 + 1, 0, none⟩)) ∧ w6.heap.size = w.heap.size + 1 + 1 + 1 + 1 + 1 + 1 ∧ Below w.heap.size w w6 := by
    obtain ⟨w1, e1⟩ : ∃ y, y = w.alloc (Obj.cells #[Value.slice none 0 0] 41) := ⟨_, rfl⟩
    obtain ⟨w2, e2⟩ : ∃ y, y = w1.alloc (Obj.cells #[Value.int .i64 0] 3) := ⟨_, rfl⟩
    obtain ⟨w3, e3⟩ : ∃ y, y = w2.alloc (Obj.cells #[Value.int .i64 0] 27) := ⟨_, rfl⟩
    obtain ⟨w4, e4⟩ : ∃ y, y = w3.alloc (Obj.map #[] 0) := ⟨_, rfl⟩
    obtain ⟨w5, e5⟩ : ∃ y, y = w4.alloc (Obj.cells #[Value.map (some (w.heap.size + 1 + 1 + 1)), Value.slice none 0 0] 92) := ⟨_, rfl⟩
    have e6 : w6 = w5.alloc (Obj.cells #[Value.pointer (some ⟨w.heap.size + 1 + 1 + 1 + 1, 0, none⟩)] 87) := by rw [hw6, e5, e4, e3, e2, e1]
    have s1 : w1.heap.size = w.heap.size + 1 := by rw [e1]; simp
    have s2 : w2.heap.size = w.heap.size + 1 + 1 := by rw [e2, ← s1]; simp
    have s3 : w3.heap.size = w.heap.size + 1 + 1 + 1 := by rw [e3, ← s2]; simp
    have s4 : w4.heap.size = w.heap.size + 1 + 1 + 1 + 1 := by rw [e4, ← s3]; simp
    have s5 : w5.heap.size = w.heap.size + 1 + 1 + 1 + 1 + 1 := by rw [e5, ← s4]; simp
    have s6 : w6.heap.size = w.heap.size + 1 + 1 + 1 + 1 + 1 + 1 := by rw [e6, ← s5]; simp
    have c1 : Below w.heap.size w w1 := by rw [e1]; exact kept_alloc (Below.refl _ _) _
    have c2 : Below w1.heap.size w1 w2 := by rw [e2]; exact kept_alloc (Below.refl _ _) _
    have c3 : Below w2.heap.size w2 w3 := by rw [e3]; exact kept_alloc (Below.refl _ _) _
    have c4 : Below w3.heap.size w3 w4 := by rw [e4]; exact kept_alloc (Below.refl _ _) _
    have c5 : Below w4.heap.size w4 w5 := by rw [e5]; exact kept_alloc (Below.refl _ _) _
    have c6 : Below w5.heap.size w5 w6 := by rw [e6]; exact kept_alloc (Below.refl _ _) _
    have n0 : Boxed w1 w.heap.size 41 (.slice none 0 0) := by rw [e1]; exact Boxed.new _ _ _
    have n1 : Boxed w2 w1.heap.size 3 (.int .i64 0) := by rw [e2]; exact Boxed.new _ _ _
    have n2 : Boxed w3 w2.heap.size 27 (.int .i64 0) := by rw [e3]; exact Boxed.new _ _ _
    have n3 : SeenMap w3.heap.size 0 [] w4 := by rw [e4]; exact SeenMap.made _
    have n4 : HasBlk w4.heap.size #[.map (some (w.heap.size + 1 + 1 + 1)), .slice none 0 0] 92 w5 := by rw [e5]; exact HasBlk.new _ _ _
    have n5 : Boxed w6 w5.heap.size 87 (.pointer (some ⟨w.heap.size + 1 + 1 + 1 + 1, 0, none⟩)) := by rw [e6]; exact Boxed.new _ _ _
    rw [s1] at n1
    rw [s2] at n2
    rw [s3] at n3
    rw [s4] at n4
    rw [s5] at n5
    have d26 := kept_trans (kept_trans (kept_trans c3 c4) c5) c6
    exact ⟨box_kept n0 (kept_trans c2 d26), box_kept n1 d26, box_kept n2 (kept_trans (kept_trans c4 c5) c6), n3.only (Only.of_below (S := fun _ => False) (kept_trans c5 c6)) (fun h => h), n4.below c6 (by omega), n5, s6, kept_trans c1 (kept_trans c2 d26)⟩
  clear hw6 hmm
  have HL := Lib.hid (rfl : linesB s = linesB s)
  have hM := linesMaker_any s w6
  obtain ⟨w7, hw7⟩ : ∃ y, y = w6.alloc (.cells #[.string s] 9) := ⟨_, rfl⟩
  have hb7 : Below w6.heap.size w6 w7 := by rw [hw7]; exact kept_alloc (Below.refl _ _) _
  have hbs : Boxed w7 w6.heap.size 9 (.string s) := by rw [hw7]; exact Boxed.new _ _ _
  have hs7 : w7.heap.size = w6.heap.size + 1 := by rw [hw7]; simp
  have hT7 := hT.up (kept_trans hb6 hb7)
  have h0 : ReadAt (fun b => w.heap.size ≤ b ∧ b < w.heap.size + 1 + 1 + 1 + 1 + 1) (w.heap.size + 1 + 1 + 1 + 1 + 1 + 1) (w.heap.size + 1 + 1 + 1 + 1) (w.heap.size + 1 + 1 + 1) 0 (.slice none 0 0) [] w7 :=
    ⟨g4.below hb7 (by omega), OutDs.nil _ _ _, g3.only (Only.of_below (S := fun _ => False) hb7) (fun h => h), by omega, by omega, by omega, (fun d h => by cases h), Nat.zero_le _, by omega⟩
  replace g0 := box_kept g0 hb7
  replace g1 := box_kept g1 hb7
  replace g2 := box_kept g2 hb7
  replace g5 := box_kept g5 hb7
  have hB7 := kept_trans hb6 hb7
  have HIT := lines_iter (by omega) hbs hT7
  rw [linePairs_vals] at HIT
  refine (callsIn_wide.2 hM).mono ?_
  clear hM
  rintro e w' ⟨rfl, he⟩
  rw [← hw7] at he
  obtain rfl : w7 = w' := he.symm
  have HS7 := Lib.hid (show w7.heap.size = w.heap.size + 1 + 1 + 1 + 1 + 1 + 1 + 1 by rw [hs7, hs6])
  have HS6 := Lib.hid hs6
  have H0 := Lib.hid h0
  have HB7 := Lib.hid hB7
  have HT := Lib.hid hT
  have HE := Lib.hid hE
  have HSZ := Lib.hid hs
  clear hs
  clear hw7 hb7 g3 g4 hb6 hT7 hs7 hs6 h0 hB7 hT hE
  gi_wp2_with fail
  have hs6 := HS6.out
  have hs7 := HS7.out
  obtain ⟨R, hR⟩ : ∃ R, R = w.heap.size := ⟨_, rfl⟩
  rw [← hR] at g0 g1 g2 g5 hs6 hs7 H0 HB7 HE ⊢
  have HR := Lib.hid hR
  clear hR
  refine range_two 6 7 rfl (enters_of Tryd.func66 (by kernel_rfl) rfl) HIT (Below.refl _ _)
    (fun b => R ≤ b ∧ b < R + 1 + 1 + 1 + 1 + 1) (fun b hb => ⟨by omega, fun hf => by omega⟩) (fun b hb => by omega)
    (KindsI R w (linesB s)) (KindsX R w (linesB s)) ?hI ?hIx ?h0 ?assign ?body ?done ?stop
  case hI =>
    rintro j T1 A B ⟨ov, out, h1, t1, t2, t3, t4, t5, t6, i0, i1, i2, i3, i4, i5⟩ hq
    exact ⟨ov, out, h1.quiet hq (by omega) (by omega), t1, t2, t3, t4, t5, t6, hq.boxed i0 (.inl (by omega)), hq.boxed i1 (.inl (by omega)), hq.boxed i2 (.inl (by omega)), hq.boxed i3 (.inl (by omega)), hq.below i4 (by omega) (Nat.le_of_eq HR.out), i5⟩
  case hIx =>
    rintro c j T1 A B ⟨rfl, x, y, i5, i0, i1, i2, i4⟩ hq
    exact ⟨rfl, x, y, i5, hq.boxed i0 (.inl (by omega)), hq.boxed i1 (.inl (by omega)), hq.boxed i2 (.inl (by omega)), hq.below i4 (by omega) (Nat.le_of_eq HR.out)⟩
  case h0 => exact ⟨_, _, H0.out, by omega, by omega, by omega, by omega, by omega, fun b hb => by omega, g0, g1, g2, g5, HB7.out, Lib.hid ⟨rfl, rfl⟩⟩
  case assign =>
    rintro lp j ⟨x1, x2⟩ W K hx hK
    clear hx hs6 hs7
    gi_wp2
    first | exact hK | (simp at hK ⊢; exact hK)
  case body =>
    rintro lp j x T1 W hx ⟨ov, out, h1, t1, t2, t3, t4, t5, t6, i0, i1, i2, i3, i4, i5⟩ ht
    obtain ⟨t, htl, rfl⟩ := linePairs_at hx
    have hmem := lineB_mem (List.mem_of_getElem? htl)
    have htz : t.size ≤ 100000 := Nat.le_trans (piece_size _ _ _ _ _ hmem.1) HSZ.out
    have hln : (linesB s)[j]? = some t.data.toList := by unfold linesB; rw [List.getElem?_map, htl]; rfl
    have hdrop : (linesB s).drop j = t.data.toList :: (linesB s).drop (j + 1) := by
      rw [List.drop_eq_getElem_cons (List.getElem?_eq_some_iff.1 hln).1]
      rw [(List.getElem?_eq_some_iff.1 hln).2]
    have HS := Lib.hid (show readK [] 0 (linesB s) = match lineK out t.data.toList with | .inl d => readK (out ++ [d]) (j + 1) ((linesB s).drop (j + 1)) | .inr e => ([], (j : Int) + 1, e) by
      rw [i5.out.1, hdrop, readK_cons hmem.2]
      try (cases lineK out t.data.toList <;> rfl))
    have hjl : j < 1000 := by have := h1.len; have := i5.out.2; omega
    have hLi := line_any ((j : Int) + 1) t htz hjl h1 (HT.out.up (by rw [← HR.out]; exact i4))
    have T6 := Lib.hid t6
    have I4 := Lib.hid i4
    have hlow := h1.low
    have hovT : ∀ b, ov.ownBlock = some b → T1 b := by obtain ⟨_, _, hto, _⟩ := h1.outs; exact hto
    have HOV := Lib.hid hovT
    have HNO := Lib.hid (show ∀ b, ov.ownBlock = some b → R + 1 + 1 + 1 + 1 + 1 + 1 ≤ b by obtain ⟨_, hr, _⟩ := h1.outs; exact fun b hb => (hr.lt b hb).1)
    have HTT := Lib.hid ht
    have c3 := i3.cell
    have c0 := i0.cell
    have c1 := i1.cell
    have c2 := i2.cell
    have f0 := i0.frozen
    have f1 := i1.frozen
    have f2 := i2.frozen
    clear hx hmem htz hln hdrop h1 ht t6 i4 hovT htl hs6 hs7
    have HJL := Lib.hid i5.out.2
    clear i5
    gi_wp2_with fail
    refine (callsIn_wide.2 hLi).mono ?_
    clear hLi
    rintro e W2 ⟨hO, (⟨d, ov', hl, rfl, hR2, hf⟩ | ⟨x, hl, rfl⟩)⟩
    · have hsz2 := hO.size
      have hOT : Only T1 W W2 := hO.mono (fun k _ hk => by rcases hk with rfl | rfl | hk; exact t5; exact t4; exact HOV.out k hk)
      have j0 : Boxed W2 R 41 (.slice none 0 0) := box_only i0 hO (fun hk => by rcases hk with hk | hk | hk; omega; omega; have := HNO.out _ hk; omega)
      have j1 : Boxed W2 (R + 1) 3 (.int .i64 0) := box_only i1 hO (fun hk => by rcases hk with hk | hk | hk; omega; omega; have := HNO.out _ hk; omega)
      have j2 : Boxed W2 (R + 1 + 1) 27 (.int .i64 0) := box_only i2 hO (fun hk => by rcases hk with hk | hk | hk; omega; omega; have := HNO.out _ hk; omega)
      have j3 := box_only i3 hO (fun hk => by rcases hk with hk | hk | hk; omega; omega; have := HNO.out _ hk; omega)
      have jb : Below R w W2 := I4.out.trans (hO.below (by have := i0.lt; omega) (fun k hk hS => by rcases hS with hS | hS | hS; omega; omega; have := HNO.out _ hS; omega))
      have HQ := Lib.hid (show KindsI R w (linesB s) (j + 1) (fun b => T1 b ∨ (W.heap.size ≤ b ∧ b < W2.heap.size)) W2 from
        ⟨ov', out ++ [d], hR2, .inl t1, .inl t2, .inl t3, .inl t4, .inl t5, fun b hb => by rcases hb with hb | hb; exact T6.out b hb; omega, j0, j1, j2, j3, jb, Lib.hid ⟨by rw [HS.out, hl], by rw [List.length_append, List.length_singleton, HJL.out]⟩⟩)
      have HOT := Lib.hid hOT
      clear j0 j1 j2 j3 jb hR2 hf hl hO hOT c0 c1 c2 c3 f0 f1 f2 i0 i1 i2 i3
      gi_wp2
      exact ⟨_, fun b hb => hb, HOT.out, HQ.out⟩
    · have hsz2 := hO.size
      have hOT : Only T1 W W2 := hO.mono (fun k _ hk => by rcases hk with rfl | rfl | hk; exact t5; exact t4; exact HOV.out k hk)
      have j0 : Boxed W2 R 41 (.slice none 0 0) := box_only i0 hO (fun hk => by rcases hk with hk | hk | hk; omega; omega; have := HNO.out _ hk; omega)
      have j1 : Boxed W2 (R + 1) 3 (.int .i64 0) := box_only i1 hO (fun hk => by rcases hk with hk | hk | hk; omega; omega; have := HNO.out _ hk; omega)
      have j2 : Boxed W2 (R + 1 + 1) 27 (.int .i64 0) := box_only i2 hO (fun hk => by rcases hk with hk | hk | hk; omega; omega; have := HNO.out _ hk; omega)
      have jb : Below R w W2 := I4.out.trans (hO.below (by have := i0.lt; omega) (fun k hk hS => by rcases hS with hS | hS | hS; omega; omega; have := HNO.out _ hS; omega))
      have hTo := kindsTold_any (n := R) (w := W2) ((j : Int) + 1) x (HE.out.below jb) (by have := i0.lt; omega)
      have HX := Lib.hid (show readK [] 0 (linesB s) = ([], (j : Int) + 1, x) by rw [HS.out, hl])
      have HOT := Lib.hid hOT
      clear hl hO hOT c0 c1 c2 c3 f0 f1 f2 i0 i1 i2 i3
      gi_wp2_with fail
      refine (callsIn_wide.2 hTo).mono ?_
      clear hTo
      rintro e W3 ⟨rfl, hb3⟩
      have k0 := box_kept j0 hb3
      have k1 := box_kept j1 hb3
      have k2 := box_kept j2 hb3
      have kb := jb.trans (hb3.mono (by have := j0.lt; omega))
      have HOT3 := Lib.hid (HOT.out.kept hb3)
      clear j0 j1 j2 jb hb3
      have c0 := k0.cell
      have c1 := k1.cell
      have c2 := k2.cell
      have f0 := k0.frozen
      have f1 := k1.frozen
      have f2 := k2.frozen
      gi_wp2
      refine ⟨T1, fun b hb => .inl hb, ((HOT3.out.setCell (p := ⟨R, 0, none⟩) (.inl t1) _).setCell (p := ⟨R + 1, 0, none⟩) (.inl t2) _).setCell (p := ⟨R + 1 + 1, 0, none⟩) (.inl t3) _, rfl, _, _, HX, ?_, ?_, ?_, ?_⟩
      · exact box_set_other (box_set_other (k0.set _) (by simp <;> omega)) (by simp <;> omega)
      · exact box_set_other ((box_set_other k1 (by simp <;> omega)).set _) (by simp)
      · exact (box_set_other (box_set_other k2 (by simp <;> omega)) (by simp <;> omega)).set _
      · exact ((kb.setCell (p := ⟨R, 0, none⟩) (Nat.le_refl _) _).setCell (p := ⟨R + 1, 0, none⟩) (by simp) _).setCell (p := ⟨R + 1 + 1, 0, none⟩) (by simp; omega) _
  case done =>
    rintro D T1 W hD ⟨ov, out, h1, t1, t2, t3, t4, t5, t6, i0, i1, i2, i3, i4, i5⟩ hd
    have hRD : R ≤ D := by omega
    have hlow := h1.low
    obtain ⟨ova, ovc, rfl, -⟩ : ∃ a c, ov = .slice a out.length c ∧ out.length ≤ c := by obtain ⟨cells, hr, _⟩ := h1.outs; exact owns_open hr
    obtain ⟨b0, b1⟩ := pair_cells h1.blk.out
    have c3 := i3.cell
    have c0 := i0.cell
    have c1 := i1.cell
    have c2 := i2.cell
    have f0 := i0.frozen
    have f1 := i1.frozen
    have f2 := i2.frozen
    have HP := Lib.hid (show parseKB s = (out, 0, 0) by
      unfold parseKB
      rw [i5.out.1, linePairs_len, List.drop_of_length_le (by unfold linesB; rw [List.length_map]; exact Nat.le_refl _)]
      rfl)
    have H1 := Lib.hid h1
    have I4 := Lib.hid i4
    clear h1 i5 i4 hs6 hs7 t6
    gi_wp2
    have e0 := box_set_other (box_set_other (i0.set (.slice ova out.length ovc)) (p := ⟨R + 1, 0, none⟩) (v := .int .i64 0) (by simp <;> omega)) (p := ⟨R + 1 + 1, 0, none⟩) (v := .int .i64 0) (by simp <;> omega)
    have e1 := box_set_other ((box_set_other i1 (p := ⟨R, 0, none⟩) (v := .slice ova out.length ovc) (by simp <;> omega)).set (.int .i64 0)) (p := ⟨R + 1 + 1, 0, none⟩) (v := .int .i64 0) (by simp <;> omega)
    have e2 := (box_set_other (box_set_other i2 (p := ⟨R, 0, none⟩) (v := .slice ova out.length ovc) (by simp <;> omega)) (p := ⟨R + 1, 0, none⟩) (v := .int .i64 0) (by simp <;> omega)).set (.int .i64 0)
    refine end_mark (B := R) hRD (mark_set (mark_set (mark_set hd _ _) _ _) _ _) (fun w' hq => ?_)
    have d0 := (hq.boxed e0 (.inr trivial)).cell
    have d1 := (hq.boxed e1 (.inr trivial)).cell
    have d2 := (hq.boxed e2 (.inr trivial)).cell
    refine ⟨.tuple #[.slice ova out.length ovc, .int .i64 0, .int .i64 0], ?_, .slice ova out.length ovc, by rw [HP.out], ?_, ?_⟩
    · simp [results, Tryd.results28, go_sem, d0, d1, d2]
    · rw [HP.out]
      have hO : Only (fun b => R ≤ b ∧ b ≤ R + 1 + 1) W (((W.setCell ⟨R, 0, none⟩ (.slice ova out.length ovc)).setCell ⟨R + 1, 0, none⟩ (.int .i64 0)).setCell ⟨R + 1 + 1, 0, none⟩ (.int .i64 0)) :=
        (((Only.refl (fun b => R ≤ b ∧ b ≤ R + 1 + 1) _).setCell (p := ⟨R, 0, none⟩) (.inl ⟨Nat.le_refl _, by show R ≤ R + 1 + 1; omega⟩) _).setCell (p := ⟨R + 1, 0, none⟩) (.inl ⟨by show R ≤ R + 1; omega, by show R + 1 ≤ R + 1 + 1; omega⟩) _).setCell (p := ⟨R + 1 + 1, 0, none⟩) (.inl ⟨by show R ≤ R + 1 + 1; omega, Nat.le_refl _⟩) _
      exact ((((H1.out.outs.only hO (fun b hb _ e => by have e' : R ≤ b ∧ b ≤ R + 1 + 1 := e; omega)).mono (T' := fun _ => True) (fun _ _ => trivial)).quiet hq).is (by have := H1.out.len; unfold big; omega))
    · rw [← HR.out]
      exact hq.below (((I4.out.setCell (p := ⟨R, 0, none⟩) (Nat.le_refl _) _).setCell (p := ⟨R + 1, 0, none⟩) (by simp) _).setCell (p := ⟨R + 1 + 1, 0, none⟩) (by simp; omega) _) (Nat.le_refl _) (Nat.le_of_eq HR.out)
  case stop =>
    rintro D c j T1 W hD hj ⟨rfl, x, y, hx, i0, i1, i2, i4⟩ hd
    have hRD : R ≤ D := by omega
    clear hs6 hs7
    gi_wp2
    refine end_mark (B := R) hRD hd (fun w' hq => ?_)
    have d0 := (hq.boxed i0 (.inr trivial)).cell
    have d1 := (hq.boxed i1 (.inr trivial)).cell
    have d2 := (hq.boxed i2 (.inr trivial)).cell
    have HP : parseKB s = ([], x, y) := hx.out
    refine ⟨.tuple #[.slice none 0 0, .int .i64 x, .int .i64 y], ?_, .slice none 0 0, by rw [HP], by rw [HP]; exact IsSl.nil, ?_⟩
    · simp [results, Tryd.results28, go_sem, d0, d1, d2]
    · rw [← HR.out]
      exact hq.below i4 (Nat.le_refl _) (Nat.le_of_eq HR.out)
end Go.Proofs.YtjhmghcfhgajcaaDoor
