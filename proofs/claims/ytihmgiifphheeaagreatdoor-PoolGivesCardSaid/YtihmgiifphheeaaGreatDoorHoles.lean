/- Contracts of package hole: the iterator over holes. -/
import Derived.Test.YtihmgiifphheeaaGreatDoorHole
namespace Go.Sel
/-- A table's lines as states: 0 where a line is not kept. -/
def flagsL (t : List Int) : List Int := (List.range 32).map fun (i : Nat) => if keptAt t i then (1 : Int) else 0
/-- The holes of a table from a line on. -/
def holesF (t : List Int) (f : Nat) : List (Nat × Nat) := if rightT t then runsGo ((flagsL t).drop f) f f else []
theorem flagsL_len (t : List Int) : (flagsL t).length = 32 := by simp [flagsL]
theorem flagsL_at {t : List Int} {n : Nat} (hn : n < 32) : (flagsL t)[n]? = some (if keptAt t n then 1 else 0) := by simp [flagsL, hn]
theorem holes_bit {t : List Int} {n : Nat} {b : Bool} (hr : rightT t = true) (hn : n ≤ 32) (hb : (keptBits t)[n]? = some b) : (n < 32 ∧ (flagsL t)[n]? = some (if b then 1 else 0)) ∨ (n = 32 ∧ b = true) := by
  by_cases h : n < 32
  · rw [keptBits_at hr h] at hb
    cases hb
    exact .inl ⟨h, flagsL_at h⟩
  · have e : n = 32 := by omega
    subst e
    rw [keptBits_last] at hb
    cases hb
    exact .inr ⟨rfl, rfl⟩
/-- What is left behind line n: not kept · kept, with an open hole ahead, or without. -/
theorem holes_skip {t : List Int} {ess : List (Nat × Nat)} {f n k : Nat} (hr : rightT t = true) (hn : n ≤ 32) (hb : (keptBits t)[n]? = some false) (h : n ≤ 32 → ess.drop k = runsGo ((flagsL t).drop n) n f) : n < 32 ∧ (n + 1 ≤ 32 → ess.drop k = runsGo ((flagsL t).drop (n + 1)) (n + 1) f) := by
  rcases holes_bit hr hn hb with ⟨h1, h2⟩ | ⟨_, h2⟩
  · exact ⟨h1, fun _ => (h hn).trans (runsGo_zero h2)⟩
  · cases h2
theorem holes_shut {t : List Int} {ess : List (Nat × Nat)} {n k : Nat} (hr : rightT t = true) (hn : n ≤ 32) (hk : k ≤ ess.length) (hb : (keptBits t)[n]? = some true) (h : n ≤ 32 → ess.drop k = runsGo ((flagsL t).drop n) n n) :
    (n + 1 ≤ 32 → ess.drop k = runsGo ((flagsL t).drop (n + 1)) (n + 1) (n + 1)) ∧ (32 < n + 1 → k = ess.length) := by
  rcases holes_bit hr hn hb with ⟨h1, h2⟩ | ⟨h1, _⟩
  · exact ⟨fun _ => (h hn).trans (runsGo_miss h2 (by simp) (by omega)), fun e => by omega⟩
  · refine ⟨fun e => by omega, fun _ => left_nil ?_ hk⟩
    rw [h hn, h1]
    have := runsGo_end_miss (l := flagsL t) (f := 32) (by rw [flagsL_len]; omega)
    rwa [flagsL_len] at this
theorem holes_open {t : List Int} {ess : List (Nat × Nat)} {f n k : Nat} (hr : rightT t = true) (hn : n ≤ 32) (hf : f < n) (hb : (keptBits t)[n]? = some true) (h : n ≤ 32 → ess.drop k = runsGo ((flagsL t).drop n) n f) :
    ess[k]? = some (f, n) ∧ (n + 1 ≤ 32 → ess.drop (k + 1) = runsGo ((flagsL t).drop (n + 1)) (n + 1) (n + 1)) ∧ (32 < n + 1 → k + 1 = ess.length) := by
  rcases holes_bit hr hn hb with ⟨h1, h2⟩ | ⟨h1, _⟩
  · obtain ⟨e1, e2⟩ := left_cons ((h hn).trans (runsGo_hit h2 (by simp) hf))
    exact ⟨e1, fun _ => e2, fun e => by omega⟩
  · subst h1
    have := runsGo_end_hit (l := flagsL t) (f := f) (by rw [flagsL_len]; exact hf)
    rw [flagsL_len] at this
    obtain ⟨e1, e2⟩ := left_cons ((h hn).trans this)
    exact ⟨e1, fun e => by omega, fun _ => left_nil e2 (List.getElem?_eq_some_iff.1 e1).1⟩
end Go.Sel
namespace Go.Proofs.YtihmgiifphheeaaGreatDoor
open Go.RowKit Go.Sel
attribute [local go_sem] Oper.semAt_some

set_option maxHeartbeats 400000 in
theorem holesMaker_any (a : Option Addr) (f : Int) (w : World) : Calls Tryz.prog 86 #[.pointer a, .int .i64 f] w fun e w' => e = .returned (.func (.func 95) #[] #[.pointer (some ⟨w.heap.size, 0, none⟩), .pointer (some ⟨w.heap.size + 1, 0, none⟩)]) ∧ w' = (w.alloc (.cells #[.pointer a] 105)).alloc (.cells #[.int .i64 f] 3) := by
  go_enter Tryz.func86, Tryz.ntmps86
  go_wp2
  go_ret
  exact ⟨rfl, rfl⟩

/-- What holds between two rounds of the iterator over holes: n: the next line; f: where the open hole begins; k: how many have come; Bh, Bk: its own blocks. -/
def HolesInv (t : List Int) (ess : List (Nat × Nat)) (J : Nat → (Nat → Prop) → World → Prop) (s0 Bh Bk f n k : Nat) (T1 : Nat → Prop) (wr : World) : Prop :=
  (∃ to : Int, wr.heap[Bh]? = some (.cells #[.int .i64 f, .int .i64 to] 73 (0, 0))) ∧ wr.heap[Bk]? = some (.cells (boolCells (keptBits t)) 139 (0, 0)) ∧ J k T1 wr ∧
    (∀ b, T1 b → b < wr.heap.size ∧ ¬ (b = Bh ∨ b = Bk)) ∧ s0 ≤ Bh ∧ s0 ≤ Bk ∧ k ≤ ess.length ∧ (n ≤ 32 → ess.drop k = runsGo ((flagsL t).drop n) n f) ∧ (32 < n → k = ess.length)

section
variable {t : List Int} {ess : List (Nat × Nat)} {J : Nat → (Nat → Prop) → World → Prop} {s0 Bh Bk f n k : Nat} {T1 : Nat → Prop} {wr : World}
/-- The iterator has written its own block, and laid others. -/
theorem HolesInv.move {f' n' : Nat} {Y : World} {to' : Int} (h : HolesInv t ess J s0 Bh Bk f n k T1 wr) (hne : Bh ≠ Bk) (hJ : ∀ k T A B, J k T A → Only (fun b => s0 ≤ b ∧ ¬ T b) A B → J k T B) (hO : Only (fun b => b = Bh) wr Y)
    (hY : Y.heap[Bh]? = some (.cells #[.int .i64 f', .int .i64 to'] 73 (0, 0))) (h1 : n' ≤ 32 → ess.drop k = runsGo ((flagsL t).drop n') n' f') (h2 : 32 < n' → k = ess.length) : HolesInv t ess J s0 Bh Bk f' n' k T1 Y := by
  obtain ⟨e1, e2, e3, e4, e5, e6, e7, e8, e9⟩ := h
  exact ⟨⟨_, hY⟩, (hO.block _ (Array.getElem?_eq_some_iff.1 e2).1 (fun e => hne e.symm)).trans e2, hJ _ _ _ _ e3 (hO.mono (fun b _ e => by subst e; exact ⟨e5, fun hT => (e4 _ hT).2 (.inl rfl)⟩)),
    fun b hb => ⟨Nat.lt_of_lt_of_le (e4 b hb).1 hO.size, (e4 b hb).2⟩, e5, e6, e7, h1, h2⟩
/-- A round has gone over, and the iterator has written its own block. -/
theorem HolesInv.own {Y : World} (h : HolesInv t ess J s0 Bh Bk f n k T1 wr) (hO : Only T1 wr Y) : ∃ to : Int, Y.heap[Bh]? = some (.cells #[.int .i64 f, .int .i64 to] 73 (0, 0)) := by
  obtain ⟨⟨to, e1⟩, e2, e3, e4, _⟩ := h
  exact ⟨to, (hO.block _ (Array.getElem?_eq_some_iff.1 e1).1 (fun hT => (e4 _ hT).2 (.inl rfl))).trans e1⟩
theorem HolesInv.round {f' n' : Nat} {to' : Int} {T2 : Nat → Prop} {Y Z : World} (h : HolesInv t ess J s0 Bh Bk f n k T1 wr) (hne : Bh ≠ Bk) (hJs : ∀ k T A B, J k T A → Only (fun b => s0 ≤ b ∧ ¬ T b) A B → J k T B)
    (hT2 : ∀ b, T2 b → T1 b ∨ (wr.heap.size ≤ b ∧ b < Y.heap.size)) (hO : Only T1 wr Y) (hJ : J (k + 1) T2 Y) (hk : k < ess.length)
    (hZ : Only (fun b => b = Bh) Y Z) (hY : Z.heap[Bh]? = some (.cells #[.int .i64 f', .int .i64 to'] 73 (0, 0)))
    (h1 : n' ≤ 32 → ess.drop (k + 1) = runsGo ((flagsL t).drop n') n' f') (h2 : 32 < n' → k + 1 = ess.length) : HolesInv t ess J s0 Bh Bk f' n' (k + 1) T2 Z := by
  obtain ⟨⟨to, e1⟩, e2, e3, e4, e5, e6, e7, e8, e9⟩ := h
  have q1 := (Array.getElem?_eq_some_iff.1 e1).1
  have q2 := (Array.getElem?_eq_some_iff.1 e2).1
  have hs := hO.size
  have hs2 := hZ.size
  have hT : ∀ b, T2 b → b < Y.heap.size ∧ ¬ (b = Bh ∨ b = Bk) := fun b hb => by
    rcases hT2 b hb with h | h
    · have := e4 b h; exact ⟨by omega, this.2⟩
    · exact ⟨h.2, by omega⟩
  exact ⟨⟨_, hY⟩, (hZ.block _ (by omega) (fun e => hne e.symm)).trans ((hO.block _ q2 (fun hT => (e4 _ hT).2 (.inr rfl))).trans e2),
    hJs _ _ _ _ hJ (hZ.mono (fun b _ e => by subst e; exact ⟨e5, fun h => (hT _ h).2 (.inl rfl)⟩)), fun b hb => ⟨by have := (hT b hb).1; omega, (hT b hb).2⟩, e5, e6, hk, h1, h2⟩
end
theorem pair_set0 {W : World} {B : Nat} {u v u' : Value} {t : TypeId} (h : W.heap[B]? = some (.cells #[u, v] t (0, 0))) : (W.setCell ⟨B, 0, none⟩ u').heap[B]? = some (.cells #[u', v] t (0, 0)) := by
  simp [World.setCell, Array.getElem?_modify, h]
theorem pair_set1 {W : World} {B : Nat} {u v v' : Value} {t : TypeId} (h : W.heap[B]? = some (.cells #[u, v] t (0, 0))) : (W.setCell ⟨B, 1, none⟩ v').heap[B]? = some (.cells #[u, v'] t (0, 0)) := by
  simp [World.setCell, Array.getElem?_modify, h]
theorem heap_alloc_at {W : World} {B : Nat} {x : Obj} (h : W.heap[B]? = some x) (o : Obj) : (W.alloc o).heap[B]? = some x := (Below.heap_alloc W o B (Array.getElem?_eq_some_iff.1 h).1).trans h

set_option maxRecDepth 100000 in
set_option maxHeartbeats 2000000 in
theorem holes_iter {n0 B Bf Bn : Nat} {t : List Int} {w : World} (from' : Int) (hf : FinderAt B t n0 w) (hBf : Boxed w Bf 105 (.pointer (some ⟨B, 0, none⟩))) (hBn : Boxed w Bn 3 (.int .i64 from')) (hn0 : n0 ≤ w.heap.size) :
    Iter Tryz.prog 95 #[.pointer (some ⟨Bf, 0, none⟩), .pointer (some ⟨Bn, 0, none⟩)] (((holesF t (max from' 0).toNat).map encHole).map fun x => #[x]) (fun _ => False) w := by
  obtain ⟨f0, hf0⟩ : ∃ f0 : Nat, max from' 0 = (f0 : Int) := ⟨(max from' 0).toNat, by omega⟩
  rw [show (max from' 0).toNat = f0 from by omega]
  have HF0 := Lib.hid hf0
  clear hf0
  intro lp J Jx T W hW hJ hJx hT hY h0
  have HY := Lib.hid hY
  have HJ := Lib.hid hJ
  have HJx := Lib.hid hJx
  have b1 := box_kept hBf hW
  have b2 := box_kept hBn hW
  have hF : FinderAt B t n0 W := by
    obtain ⟨a, h1, h2⟩ := hf
    exact ⟨a, (hW.block _ (Array.getElem?_eq_some_iff.1 h1).1).trans h1, h2.below (hW.mono hn0)⟩
  have hsz : n0 ≤ W.heap.size := Nat.le_trans hn0 hW.size
  clear hJ hJx hY hW hf hBf hBn hn0
  have hF' := hF
  obtain ⟨a1, hB, hI⟩ := hF'
  obtain ⟨g1, g2⟩ := pair_cells hB
  have d1 := b1.cell
  have d2 := b2.cell
  refine callsIn_of_wp Tryz.func95 rfl trivial ?_ rfl
  simp only [Tryz.ntmps95, List.size_toArray, List.length_cons, List.length_nil, Nat.reduceAdd, Nat.reduceSub, Array.replicate_succ, Array.replicate_zero, List.push_toArray, List.append_toArray, List.nil_append, List.cons_append]
  apply wpIn_scope_wide
  cases hr : rightT t with
  | false =>
    rw [hr] at g2
    have he : holesF t f0 = [] := by unfold holesF; rw [hr]; rfl
    rw [he]
    clear HY HJ HJx hT
    gi_wp2
    rw [Exit.noGoto_ret]
    refine bodyPost_ret (results_none rfl _ _ _) rfl ?_
    exact ⟨⟨_, rfl⟩, T, .inl h0⟩
  | true =>
    rw [hr] at g2
    have HR := Lib.hid hr
    clear hr
    gi_wp2_with fail
    refine (callsIn_wide.2 (keptF_any hF hsz)).mono ?_
    rintro e W1 ⟨rfl, hb1⟩
    have hsz0 : (Tryz.prog.info? 139).map (·.size) = some (boolCells (keptBits t)).size := by rw [boolCells_size, keptBits_len]; kernel_rfl
    replace b1 := box_kept b1 hb1
    replace b2 := box_kept b2 hb1
    have e2 := b2.cell
    clear d1 d2 g1 g2 hB hI hF
    gi_wp2_with (refine wpListIn_store_row rfl 139 _ _ rfl W1.heap.size (boolCells (keptBits t)) rfl rfl 139 _ (World.alloc_heap_new W1 _) hsz0 (by rw [boolCells_size, keptBits_len]; rfl) (boolCells_one _) ?_; generalize hW2 : World.setRow _ _ _ = W2; have hk2 : Below W1.heap.size W1 W2 := (by rw [← hW2]; exact below_setRow (kept_alloc (Below.refl _ _) _) (Nat.le_refl _) _); have hr2 : W2.heap[W1.heap.size]? = some (.cells (boolCells (keptBits t)) 139 (0, 0)) := (by rw [← hW2]; exact setRow_heap _ _ _ _ _ _ (World.alloc_heap_new W1 _)); clear hW2; have e3 := (box_kept b2 hk2).cell)
    rw [HF0.out]
    have hk3 : Below W.heap.size W (W2.alloc (Obj.cells #[Value.int .i64 f0, Value.int .i64 0] 73)) := kept_alloc (kept_trans hb1 (hk2.mono (Nat.le_refl _))) _
    have hs1 := hb1.size
    have hs2 := (Array.getElem?_eq_some_iff.1 hr2).1
    have H0 : Hid (HolesInv t (holesF t f0) J W.heap.size W2.heap.size W1.heap.size f0 f0 0 T (W2.alloc (Obj.cells #[Value.int .i64 f0, Value.int .i64 0] 73))) := by
      refine ⟨⟨0, World.alloc_heap_new W2 _⟩, (Below.heap_alloc W2 _ _ hs2).trans hr2, HJ.out _ _ _ _ h0 (Only.of_below hk3), fun b hb => ?_, by omega, hs1, Nat.zero_le _, fun _ => ?_, fun h => ?_⟩
      · have := (hT b hb).1
        have := hk3.size
        exact ⟨by omega, by omega⟩
      · unfold holesF; rw [HR.out]; rfl
      · unfold holesF; rw [HR.out]
        rw [List.drop_eq_nil_iff.2 (by rw [flagsL_len]; omega)]
        simp [runsGo]
    have hbW : W.heap.size ≤ W2.heap.size := by omega
    clear h0 hT hk3 hr2 hk2 e3 e2 b1 b2 hb1 hsz0
    apply wpIn_label
    gi_wp2
    gi_loopw [6] (fun i wr => ∃ (f n k : Nat) (T1 : Nat → Prop), i = .int .i64 n ∧ (n ≤ 33 ∨ n = f0) ∧ f ≤ n ∧ Hid (HolesInv t (holesF t f0) J W.heap.size W2.heap.size W1.heap.size f n k T1 wr)) (fun i _ => 33 - (intOf i).toNat)
    case atStart => exact ⟨f0, f0, 0, T, rfl, .inr rfl, Nat.le_refl _, H0⟩
    case round =>
      obtain ⟨f, n, k, T1, rfl, hn, hfn, hh⟩ := hrel
      clear H0
      by_cases hlt : n ≤ 32
      · have hlt' : (n : Int) ≤ 32 := by omega
        have hlt2 : (n : Int) < 33 := by omega
        have hn0 : (0 : Int) ≤ (n : Int) := by omega
        obtain ⟨b, hb⟩ : ∃ b, (keptBits t)[n]? = some b := ⟨_, List.getElem?_eq_getElem (by rw [keptBits_len]; omega)⟩
        have hcell := boolRow_cell hh.out.2.1 hb
        cases b with
        | false =>
          have HN : Hid (HolesInv t (holesF t f0) J W.heap.size W2.heap.size W1.heap.size f (n + 1) k T1 wr) := by
            obtain ⟨e1, e2, e3, e4, e5, e6, e7, e8, e9⟩ := hh.out
            obtain ⟨q1, q2⟩ := holes_skip HR.out hlt hb e8
            exact ⟨e1, e2, e3, e4, e5, e6, e7, q2, fun e => by omega⟩
          clear hh HY hb
          gi_wp2
          exact ⟨⟨f, n + 1, k, T1, by go_num, by omega, by omega, HN⟩, by simp [intOf]; omega⟩
        | true =>
          obtain ⟨to, hH⟩ := hh.out.1
          obtain ⟨g1, g2⟩ := pair_cells hH
          have hlt3 : W2.heap.size < wr.heap.size := (Array.getElem?_eq_some_iff.1 hH).1
          have hne3 : ¬ W2.heap.size = wr.heap.size := by omega
          have z1 := row_frozen hH 0
          have z2 := row_frozen hH 1
          have hO1 : Only (fun b => b = W2.heap.size) wr (wr.setCell ⟨W2.heap.size, 1, none⟩ (.int .i64 n)) := (Only.refl (fun b => b = W2.heap.size) wr).setCell (p := ⟨W2.heap.size, 1, none⟩) (.inl rfl) _
          by_cases hf : f = n
          · subst hf
            have HN : Hid (HolesInv t (holesF t f0) J W.heap.size W2.heap.size W1.heap.size (f + 1) (f + 1) k T1 (((wr.setCell ⟨W2.heap.size, 1, none⟩ (.int .i64 f)).setCell ⟨W2.heap.size, 0, none⟩ (.int .i64 ((f : Int) + 1))).alloc (.cells #[.int .i64 f, .int .i64 f] 73))) := by
              obtain ⟨q1, q2⟩ := holes_shut HR.out hlt hh.out.2.2.2.2.2.2.1 hb hh.out.2.2.2.2.2.2.2.1
              refine hh.out.move (to' := (f : Int)) (by omega) HJ.out ((hO1.setCell (p := ⟨W2.heap.size, 0, none⟩) (.inl rfl) _).alloc _) (heap_alloc_at (x := .cells #[.int .i64 ((f + 1 : Nat) : Int), .int .i64 f] 73 (0, 0)) ?_ _) q1 q2
              have := pair_set0 (u' := .int .i64 ((f : Int) + 1)) (pair_set1 (v' := .int .i64 (f : Int)) hH)
              rwa [show ((f : Int) + 1) = ((f + 1 : Nat) : Int) from by omega] at this ⊢
            clear hh HY hb hO1 hH
            gi_wp2
            exact ⟨⟨f + 1, f + 1, k, T1, by go_num, by omega, by omega, HN⟩, by simp [intOf]; omega⟩
          · obtain ⟨e1, q1, q2⟩ := holes_open HR.out hlt (by omega : f < n) hb hh.out.2.2.2.2.2.2.2.1
            have hkl := (List.getElem?_eq_some_iff.1 e1).1
            have hX : HolesInv t (holesF t f0) J W.heap.size W2.heap.size W1.heap.size f n k T1 ((wr.setCell ⟨W2.heap.size, 1, none⟩ (.int .i64 n)).alloc (.cells #[.int .i64 n, .int .i64 n] 73)) :=
              hh.out.move (by omega) HJ.out (hO1.alloc _) (heap_alloc_at (pair_set1 (v' := .int .i64 (n : Int)) hH) _) hh.out.2.2.2.2.2.2.2.1 hh.out.2.2.2.2.2.2.2.2
            obtain ⟨fn, tmps, assign, body, hy, hR⟩ := HY.out k T1 _ _ (by rw [List.getElem?_map, List.getElem?_map, e1]; rfl) hX.2.2.1 (fun b hb => (hX.2.2.2.1 b hb).1)
            have HX := Lib.hid hX
            have HK := Lib.hid hkl
            have Q1 := Lib.hid q1
            have Q2 := Lib.hid q2
            clear hh HY hb hO1 hH hX hkl q1 q2 e1
            simp only [encHole] at hy
            gi_wp2
            refine hR.mono ?_
            rintro e W' ⟨T2, hT2, hO, (⟨rfl, hJ'⟩ | ⟨rfl, hJx'⟩)⟩
            · obtain ⟨to', hH'⟩ := HX.out.own hO
              obtain ⟨k1, k2⟩ := pair_cells hH'
              have y1 := row_frozen hH' 0
              have HN : Hid (HolesInv t (holesF t f0) J W.heap.size W2.heap.size W1.heap.size (n + 1) (n + 1) (k + 1) T2 (W'.setCell ⟨W2.heap.size, 0, none⟩ (.int .i64 ((n : Int) + 1)))) := by
                refine HX.out.round (by omega) HJ.out hT2 hO hJ' HK.out ((Only.refl (fun b => b = W2.heap.size) W').setCell (p := ⟨W2.heap.size, 0, none⟩) (.inl rfl) _) (to' := to') ?_ Q1.out Q2.out
                have := pair_set0 (u' := .int .i64 ((n : Int) + 1)) hH'
                rwa [show ((n : Int) + 1) = ((n + 1 : Nat) : Int) from by omega] at this ⊢
              clear hH' hR hy hT2 hO hJ' g1 g2 z1 z2 hcell
              gi_wp2
              exact ⟨⟨n + 1, n + 1, k + 1, T2, by go_num, by omega, by omega, HN⟩, by simp [intOf]; omega⟩
            · clear hR hy hT2 hO g1 g2 z1 z2 hcell
              gi_wp2
              try rw [Exit.noGoto_normal]
              go_end0
              exact ⟨⟨_, rfl⟩, T2, .inr ⟨k + 1, by simp only [List.length_map]; exact HK.out, hJx'⟩⟩
      · have hlt' : ¬ (n : Int) ≤ 32 := by omega
        have hk := hh.out.2.2.2.2.2.2.2.2 (by omega)
        have hJ := hh.out.2.2.1
        have HK := Lib.hid hk
        clear hk hh HY
        gi_wp2
        try rw [Exit.noGoto_normal]
        go_end0
        exact ⟨⟨_, rfl⟩, T1, .inl (by (try simp only [List.length_map]); rw [← HK.out]; exact hJ)⟩

end Go.Proofs.YtihmgiifphheeaaGreatDoor
