/- Contracts of run.Put and run.Cut. -/
import Derived.Test.YtihmgiifphheeaaGreatDoorRepeat
import Derived.Test.YtihmgiifphheeaaGreatDoorApp
import Derived.OwnWalk
namespace Go.Sel
open Go Go.RowKit
/-- A list with m places from f on turned to x. -/
def turnL (l : List Int) (f m : Nat) (x : Int) : List Int := l.take f ++ List.replicate m x ++ l.drop (f + m)
theorem turnL_zero (l : List Int) (f : Nat) (x : Int) : turnL l f 0 x = l := by simp [turnL]
theorem length_turnL {l : List Int} {f m : Nat} (x : Int) (h : f + m ≤ l.length) : (turnL l f m x).length = l.length := by simp [turnL]; omega
theorem turnL_step {l : List Int} {f m : Nat} (x : Int) (h : f + m < l.length) : (turnL l f m x).set (f + m) x = turnL l f (m + 1) x := by
  unfold turnL
  rw [List.set_append_right _ _ (by simp; omega)]
  have e : f + m - (l.take f ++ List.replicate m x).length = 0 := by simp; omega
  rw [e, List.drop_eq_getElem_cons h, List.set_cons_zero, List.replicate_succ']
  simp [Nat.add_assoc]
/-- How many places run.Cut frees. -/
def cutLen (l : List Int) (f : Nat) : Nat := 1 + ((l.drop (f + 1)).takeWhile (fun x => decide (x = 4))).length
theorem takeWhile_len {α : Type} {p : α → Bool} : ∀ {xs : List α} {m : Nat}, m ≤ xs.length → (∀ j x, j < m → xs[j]? = some x → p x = true) → (∀ x, xs[m]? = some x → p x = false) → (xs.takeWhile p).length = m
  | [], m, h, _, _ => by simp at h; simp [h]
  | x :: r, 0, _, _, h2 => by rw [List.takeWhile_cons, h2 x rfl]; rfl
  | x :: r, m + 1, h, h1, h2 => by
    rw [List.takeWhile_cons, h1 0 x (by omega) rfl]
    simp only [if_true, List.length_cons]
    rw [takeWhile_len (m := m) (by simpa using h) (fun j y hj hy => h1 (j + 1) y (by omega) (by simpa using hy)) (fun y hy => h2 y (by simpa using hy))]
/-- The places behind f up to m are tails. -/
def TailsTo (l : List Int) (f m : Nat) : Prop := ∀ j x, 1 ≤ j → j < m → l[f + j]? = some x → x = 4
theorem TailsTo.step {l : List Int} {f m : Nat} (h : TailsTo l f m) (hx : m = 0 ∨ l[f + m]? = some 4) : TailsTo l f (m + 1) := by
  intro j x h1 h2 h3
  by_cases e : j = m
  · subst e
    rcases hx with hx | hx
    · omega
    · rw [hx] at h3; cases h3; rfl
  · exact h j x h1 (by omega) h3
theorem TailsTo.len {l : List Int} {f m : Nat} (h : TailsTo l f m) (h1 : 1 ≤ m) (h2 : f + m ≤ l.length) (h3 : ∀ x, l[f + m]? = some x → ¬ x = 4) : cutLen l f = m := by
  unfold cutLen
  rw [takeWhile_len (m := m - 1) (by simp; omega) (fun j x hj hx => by
    rw [List.getElem?_drop] at hx
    exact decide_eq_true (h (j + 1) x (by omega) (by omega) (by rw [← hx]; congr 1; omega))) (fun x hx => by
    rw [List.getElem?_drop] at hx
    exact decide_eq_false (h3 x (by rw [← hx]; congr 1; omega)))]
  omega
/-- What run.Put lays. -/
def putRow (l : List Int) (f k : Nat) : List Int := (turnL l f k 4).set f 3
end Go.Sel
namespace Go.Proofs.YtihmgiifphheeaaGreatDoor
open Go.RowKit Go.Sel

def isFreeB (x : Int) : Bool := decide (x = 0)
def isHeadB (x : Int) : Bool := decide (x = 3)
theorem isFree_pred (w : World) : PredI Tryz.prog w 52 #[] isFreeB := by
  intro x W hx hW
  unfold I64 at hx
  unfold isFreeB
  show Calls Tryz.prog 52 #[.int .i64 x] W _
  go_enter Tryz.func52, Tryz.ntmps52
  go_wp2
  go_ret
  exact ⟨rfl, rfl⟩
theorem isHead_pred (w : World) : PredI Tryz.prog w 62 #[] isHeadB := by
  intro x W hx hW
  unfold I64 at hx
  unfold isHeadB
  show Calls Tryz.prog 62 #[.int .i64 x] W _
  go_enter Tryz.func62, Tryz.ntmps62
  go_wp2
  go_ret
  exact ⟨rfl, rfl⟩
theorem enters_isFree (args : Array Value) (w : World) : (callFunc 52 args).run Tryz.prog w = .ok (.enter 52 args) w := enters_of Tryz.func52 (by kernel_rfl) rfl args w
theorem enters_isHead (args : Array Value) (w : World) : (callFunc 62 args).run Tryz.prog w = .ok (.enter 62 args) w := enters_of Tryz.func62 (by kernel_rfl) rfl args w

/-- Put's answer. -/
def PutPost (l : List Int) (f : Int) (k : Int) (w : World) (e : Ending) (w' : World) : Prop :=
  Below w.heap.size w w' ∧ (
   (wholeL l = false ∧ e = .returned (.tuple #[.slice none 0 0, .int .i64 90])) ∨
   (wholeL l = true ∧ ¬ (1 ≤ k ∧ k ≤ l.length ∧ mustL l f k.toNat isFreeB = true) ∧ e = .returned (.tuple #[.slice none 0 0, .int .i64 91])) ∨
   (wholeL l = true ∧ 1 ≤ k ∧ k ≤ l.length ∧ mustL l f k.toNat isFreeB = true ∧ ∃ v, e = .returned (.tuple #[v, .int .i64 0]) ∧ w'.ownsRow w.heap.size 3 1 v l.length ((putRow l f.toNat k.toNat).map (Value.int .i64))))

set_option maxRecDepth 10000 in
set_option maxHeartbeats 1000000 in
theorem put_any {a0 a1 : Addr} {v : Value} {l : List Int} {w : World} (f k : Int) (hf : I64 f) (hk : I64 k) (h1 : IsInts w.heap.size w v l) (hE : RunErrs a0 a1 w.heap.size w) :
    Calls Tryz.prog 30 #[v, .int .i64 f, .int .i64 k] w (PutPost l f k w) := by
  have hc := clone_any h1
  obtain ⟨a, c, rfl, hac⟩ := h1.open
  have hl := h1.len
  unfold big at hl
  go_enter Tryz.func30, Tryz.ntmps30
  go_wp2_with fail
  refine wp_scope_fwd 0 rfl ?_
  go_wp2_with fail
  refine hc.mono ?_
  rintro e w1 ⟨o, rfl, hown, hb1⟩
  have hE1 := hE.below hb1
  have h2 := h1.below hb1
  have d0 := hE1.1.1
  have d1 := hE1.2.1.1
  have hW := whole_any h2
  clear hc h1 hE
  cases hw : wholeL l with
  | false =>
    rw [hw] at hW
    have hT := runTold_state hE1
    go_wp2_with fail
    refine hW.mono ?_
    rintro e w2 ⟨rfl, he⟩
    obtain rfl := he.symm
    go_wp2_with fail
    apply wp_goto
    refine ⟨rfl, ?_⟩
    go_wp2_with fail
    refine hT.mono ?_
    rintro e w2 ⟨rfl, he⟩
    obtain rfl := he.symm
    go_wp2_with fail
    rw [Exit.noGoto_ret]
    go_ret2
    exact ⟨hb1, .inl ⟨hw, rfl⟩⟩
  | true =>
    rw [hw] at hW
    by_cases k1 : k < 1
    · have hT := runTold_run hE1
      go_wp2_with fail
      refine hW.mono ?_
      rintro e w2 ⟨rfl, he⟩
      obtain rfl := he.symm
      go_wp2_with fail
      apply wp_goto
      refine ⟨rfl, ?_⟩
      go_wp2_with fail
      refine hT.mono ?_
      rintro e w2 ⟨rfl, he⟩
      obtain rfl := he.symm
      go_wp2_with fail
      rw [Exit.noGoto_ret]
      go_ret2
      exact ⟨hb1, .inr (.inl ⟨hw, fun h => by omega, rfl⟩)⟩
    · obtain ⟨k0, rfl⟩ := Int.eq_ofNat_of_zero_le (show 0 ≤ k by omega)
      by_cases k2 : (l.length : Int) < (k0 : Int)
      · have hT := runTold_run hE1
        go_wp2_with fail
        refine hW.mono ?_
        rintro e w2 ⟨rfl, he⟩
        obtain rfl := he.symm
        go_wp2_with fail
        apply wp_goto
        refine ⟨rfl, ?_⟩
        go_wp2_with fail
        refine hT.mono ?_
        rintro e w2 ⟨rfl, he⟩
        obtain rfl := he.symm
        go_wp2_with fail
        rw [Exit.noGoto_ret]
        go_ret2
        exact ⟨hb1, .inr (.inl ⟨hw, fun h => by omega, rfl⟩)⟩
      · have k3 : ¬ (l.length : Int) < (k0 : Int) := k2
        obtain ⟨w2, hw2⟩ : ∃ w2, w2 = w1.alloc (.cells #[.func (.func 52) #[] #[]] 77) := ⟨_, rfl⟩
        have hb2 : Below w1.heap.size w1 w2 := by rw [hw2]; exact (Below.refl _ w1).alloc (Nat.le_refl _) _
        have hs2 : w2.heap.size = w1.heap.size + 1 := by rw [hw2]; simp
        have hcell : w2.cell? ⟨w1.heap.size, 0, none⟩ = some (fnV 52) := by
          rw [hw2, cell_of_row _ _ 0 _ _ _ (World.alloc_heap_new w1 _)]; rfl
        have hRep := repeat_any (gf := 52) (b := w1.heap.size) (k := k0) (w := w2) (by omega) (by unfold big; omega) hcell (by omega)
        go_wp2_with fail
        refine hW.mono ?_
        rintro e w3 ⟨rfl, he⟩
        obtain rfl := he.symm
        go_wp2_with fail
        rw [← hw2]
        refine hRep.mono ?_
        rintro e w3 ⟨vf, rfl, hfns, hb3⟩
        clear hRep hcell hw2 hW
        have hb13 : Below w1.heap.size w1 w3 := hb2.trans (hb3.mono (by omega))
        have hs3 := hb3.size
        have hb03 : Below w.heap.size w w3 := hb1.trans (hb13.mono hb1.size)
        have hE3 := hE1.below (hb13.mono hb1.size)
        have h3 := h2.below (hb13.mono hb1.size)
        have hown3 := owns_kept hown hb13
        have hM := must_any f hf h3 hfns enters_isFree (isFree_pred w3)
        have d03 := hE3.1.1
        have d13 := hE3.2.1.1
        clear hown h2 hfns d0 d1
        cases hm : mustL l f k0 isFreeB with
        | false =>
          rw [hm] at hM
          have hT := runTold_run hE3
          go_wp2_with fail
          refine hM.mono ?_
          rintro e w4 ⟨rfl, he⟩
          obtain rfl := he.symm
          clear hM
          go_wp2_with fail
          apply wp_goto
          refine ⟨rfl, ?_⟩
          go_wp2_with fail
          refine hT.mono ?_
          rintro e w2 ⟨rfl, he⟩
          obtain rfl := he.symm
          go_wp2_with fail
          rw [Exit.noGoto_ret]
          go_ret2
          refine ⟨hb03, .inr (.inl ⟨hw, ?_, rfl⟩)⟩
          rintro ⟨_, _, h⟩
          rw [Int.toNat_natCast, hm] at h
          cases h
        | true =>
          rw [hm] at hM
          obtain ⟨hf0, hfk⟩ : 0 ≤ f ∧ f ≤ (l.length : Int) - (k0 : Int) := by
            unfold mustL at hm
            simp at hm
            exact ⟨hm.1.1, by omega⟩
          obtain ⟨f0, rfl⟩ := Int.eq_ofNat_of_zero_le hf0
          obtain ⟨g, cap, rfl⟩ : ∃ g cap, o = .slice (some ⟨g, 0, none⟩) l.length cap := by
            rcases hown3.2 with ⟨_, h0⟩ | ⟨g, cap, cur, rfl, _⟩
            · omega
            · exact ⟨g, cap, rfl⟩
          have H0 : Hid (w3.ownsRow w.heap.size 3 1 (.slice (some ⟨g, 0, none⟩) l.length cap) l.length ((turnL l f0 0 4).map (Value.int .i64)) ∧ Below w.heap.size w w3) := ⟨by rw [turnL_zero]; exact hown3, hb03⟩
          clear hown3
          go_wp2_with fail
          refine hM.mono ?_
          rintro e w4 ⟨rfl, he⟩
          obtain rfl := he.symm
          clear hM hE3 h3 hE1
          have HM := Lib.hid hm
          have HW := Lib.hid hw
          clear hm hw
          go_wp2
          go_loopw [11, 38] (fun _ i W => ∃ m : Nat, m ≤ k0 ∧ i = .int .i64 m ∧ Hid (W.ownsRow w.heap.size 3 1 (.slice (some ⟨g, 0, none⟩) l.length cap) l.length ((turnL l f0 m 4).map (Value.int .i64)) ∧ Below w.heap.size w W)) (fun _ i _ => k0 - (intOf i).toNat)
          case atStart => exact ⟨0, Nat.zero_le _, rfl, H0⟩
          case round =>
            obtain ⟨m, hm, rfl, hh⟩ := hrel
            by_cases hlt : m < k0
            · obtain ⟨q1, q2⟩ := hh.out
              have hg : w.heap.size ≤ g := (q1.lt g rfl).1
              obtain ⟨s1, s2⟩ := q1.stored (f0 + m) (.int .i64 4)
              have hcell := q1.cellAt (f0 + m) (by omega)
              rw [List.getElem?_eq_getElem (by rw [List.length_map, length_turnL _ (by omega)]; omega)] at hcell
              have hfz := q1.frozenAt (f0 + m)
              have HN : Hid ((wr.setCell ⟨g, f0 + m, none⟩ (.int .i64 4)).ownsRow w.heap.size 3 1 (.slice (some ⟨g, 0, none⟩) l.length cap) l.length ((turnL l f0 (m + 1) 4).map (Value.int .i64)) ∧ Below w.heap.size w (wr.setCell ⟨g, f0 + m, none⟩ (.int .i64 4))) := by
                rw [← List.map_set, turnL_step _ (by omega)] at s1
                exact ⟨s1, q2.setCell hg _⟩
              have hi1 : (f0 : Int) + (m : Int) < (l.length : Int) := by omega
              have hi0 : (0 : Int) ≤ (f0 : Int) + (m : Int) := by omega
              have hi2 : ((f0 : Int) + (m : Int)).toNat = f0 + m := by omega
              clear q1 q2 s1 s2 hh H0
              go_wp2
              go_roundw
              case rel => exact ⟨m + 1, by omega, by go_num, HN⟩
              case measure => simp [intOf]; omega
            · obtain rfl : m = k0 := by omega
              obtain ⟨q1, q2⟩ := hh.out
              have hg : w.heap.size ≤ g := (q1.lt g rfl).1
              obtain ⟨s1, s2⟩ := q1.stored f0 (.int .i64 3)
              have hcell := q1.cellAt f0 (by omega)
              rw [List.getElem?_eq_getElem (by rw [List.length_map, length_turnL _ (by omega)]; omega)] at hcell
              have hfz := q1.frozenAt f0
              have HN : Hid ((wr.setCell ⟨g, f0, none⟩ (.int .i64 3)).ownsRow w.heap.size 3 1 (.slice (some ⟨g, 0, none⟩) l.length cap) l.length ((putRow l f0 m).map (Value.int .i64)) ∧ Below w.heap.size w (wr.setCell ⟨g, f0, none⟩ (.int .i64 3))) := by
                rw [← List.map_set] at s1
                exact ⟨s1, q2.setCell hg _⟩
              have hi1 : (f0 : Int) < (l.length : Int) := by omega
              clear q1 q2 s1 s2 hh H0
              go_wp2
              go_ret2
              exact ⟨HN.out.2, .inr (.inr ⟨HW.out, by omega, by omega, HM.out, _, rfl, HN.out.1⟩)⟩

/-- Cut's answer. -/
def CutPost (l : List Int) (f : Int) (w : World) (e : Ending) (w' : World) : Prop :=
  Below w.heap.size w w' ∧ (
   (wholeL l = false ∧ e = .returned (.tuple #[.slice none 0 0, .int .i64 0, .int .i64 90])) ∨
   (wholeL l = true ∧ mustL l f 1 isHeadB = false ∧ e = .returned (.tuple #[.slice none 0 0, .int .i64 0, .int .i64 91])) ∨
   (wholeL l = true ∧ mustL l f 1 isHeadB = true ∧ ∃ v, e = .returned (.tuple #[v, .int .i64 (cutLen l f.toNat : Nat), .int .i64 0]) ∧ w'.ownsRow w.heap.size 3 1 v l.length ((turnL l f.toNat (cutLen l f.toNat) 0).map (Value.int .i64))))

set_option maxRecDepth 10000 in
set_option maxHeartbeats 1000000 in
theorem cut_any {a0 a1 : Addr} {v : Value} {l : List Int} {w : World} (f : Int) (hf : I64 f) (h1 : IsInts w.heap.size w v l) (hE : RunErrs a0 a1 w.heap.size w) :
    Calls Tryz.prog 37 #[v, .int .i64 f] w (CutPost l f w) := by
  have hc := clone_any h1
  obtain ⟨a, c, rfl, hac⟩ := h1.open
  have hl := h1.len
  unfold big at hl
  go_enter Tryz.func37, Tryz.ntmps37
  go_wp2_with fail
  refine wp_scope_fwd 0 rfl ?_
  go_wp2_with fail
  refine hc.mono ?_
  rintro e w1 ⟨o, rfl, hown, hb1⟩
  have hE1 := hE.below hb1
  have h2 := h1.below hb1
  have d0 := hE1.1.1
  have d1 := hE1.2.1.1
  have hW := whole_any h2
  clear hc h1 hE
  cases hw : wholeL l with
  | false =>
    rw [hw] at hW
    have hT := runTold_state hE1
    go_wp2_with fail
    refine hW.mono ?_
    rintro e w2 ⟨rfl, he⟩
    obtain rfl := he.symm
    go_wp2_with fail
    apply wp_goto
    refine ⟨rfl, ?_⟩
    go_wp2_with fail
    refine hT.mono ?_
    rintro e w2 ⟨rfl, he⟩
    obtain rfl := he.symm
    go_wp2_with fail
    rw [Exit.noGoto_ret]
    go_ret3
    exact ⟨hb1, .inl ⟨hw, rfl⟩⟩
  | true =>
    rw [hw] at hW
    obtain ⟨w2, hw2⟩ : ∃ w2, w2 = w1.alloc (.cells #[.func (.func 62) #[] #[]] 77) := ⟨_, rfl⟩
    have hb2 : Below w1.heap.size w1 w2 := by rw [hw2]; exact (Below.refl _ w1).alloc (Nat.le_refl _) _
    have hs2 : w2.heap.size = w1.heap.size + 1 := by rw [hw2]; simp
    have hrow : RepRow w1.heap.size 1 1 62 w2 := by
      unfold RepRow
      rw [hw2, World.alloc_heap_new]; rfl
    have hfns := hrow.isFns (by unfold big; omega)
    have hb02 : Below w.heap.size w w2 := hb1.trans (hb2.mono hb1.size)
    have hE3 := hE1.below (hb2.mono hb1.size)
    have h3 := h2.below (hb2.mono hb1.size)
    have hown3 := owns_kept hown hb2
    have hM := must_any f hf h3 hfns enters_isHead (isHead_pred w2)
    clear hown h2 hfns hrow
    go_wp2_with fail
    refine hW.mono ?_
    rintro e w3 ⟨rfl, he⟩
    obtain rfl := he.symm
    go_wp2_with fail
    rw [← hw2]
    clear hw2 hW d0 d1
    cases hm : mustL l f 1 isHeadB with
    | false =>
      rw [hm] at hM
      have hT := runTold_run hE3
      refine hM.mono ?_
      rintro e w4 ⟨rfl, he⟩
      obtain rfl := he.symm
      clear hM
      go_wp2_with fail
      apply wp_goto
      refine ⟨rfl, ?_⟩
      go_wp2_with fail
      refine hT.mono ?_
      rintro e w2 ⟨rfl, he⟩
      obtain rfl := he.symm
      go_wp2_with fail
      rw [Exit.noGoto_ret]
      go_ret3
      exact ⟨hb02, .inr (.inl ⟨hw, hm, rfl⟩)⟩
    | true =>
      rw [hm] at hM
      obtain ⟨hf0, hfk⟩ : 0 ≤ f ∧ f ≤ (l.length : Int) - ((1 : Nat) : Int) := by
        unfold mustL at hm
        simp at hm
        exact ⟨hm.1.1, by omega⟩
      obtain ⟨f0, rfl⟩ := Int.eq_ofNat_of_zero_le hf0
      obtain ⟨g, cap, rfl⟩ : ∃ g cap, o = .slice (some ⟨g, 0, none⟩) l.length cap := by
        rcases hown3.2 with ⟨_, h0⟩ | ⟨g, cap, cur, rfl, _⟩
        · omega
        · exact ⟨g, cap, rfl⟩
      have H0 : Hid (IsInts w.heap.size w2 (.slice a l.length c) l ∧ w2.ownsRow w.heap.size 3 1 (.slice (some ⟨g, 0, none⟩) l.length cap) l.length ((turnL l f0 0 0).map (Value.int .i64)) ∧ Below w.heap.size w w2 ∧ TailsTo l f0 0) := ⟨h3, by rw [turnL_zero]; exact hown3, hb02, fun j x _ h => by omega⟩
      clear hown3
      refine hM.mono ?_
      rintro e w4 ⟨rfl, he⟩
      obtain rfl := he.symm
      clear hM hE3 h3 hE1
      have HM := Lib.hid hm
      have HW := Lib.hid hw
      clear hm hw
      go_wp2
      go_loopw [7] (fun i W => ∃ m : Nat, f0 + m ≤ l.length ∧ i = .int .i64 m ∧ Hid (IsInts w.heap.size W (.slice a l.length c) l ∧ W.ownsRow w.heap.size 3 1 (.slice (some ⟨g, 0, none⟩) l.length cap) l.length ((turnL l f0 m 0).map (Value.int .i64)) ∧ Below w.heap.size w W ∧ TailsTo l f0 m)) (fun i _ => l.length - (intOf i).toNat)
      case atStart => exact ⟨0, by omega, rfl, H0⟩
      case round =>
        obtain ⟨m, hm, rfl, hh⟩ := hrel
        obtain ⟨q0, q1, q2, q3⟩ := hh.out
        have hg : w.heap.size ≤ g := (q1.lt g rfl).1
        by_cases hlt : f0 + m < l.length
        · obtain ⟨s1, s2⟩ := q1.stored (f0 + m) (.int .i64 0)
          have hcell := q1.cellAt (f0 + m) (by omega)
          rw [List.getElem?_eq_getElem (by rw [List.length_map, length_turnL _ (by omega)]; omega)] at hcell
          have hfz := q1.frozenAt (f0 + m)
          obtain ⟨x, b1, o1, hx, rfl, hb1', gx, hx64⟩ := q0.at hlt
          have hgb : ¬ b1 = g := by omega
          have hi1 : (f0 : Int) + (m : Int) < (l.length : Int) := by omega
          have hi0 : (0 : Int) ≤ (f0 : Int) + (m : Int) := by omega
          have hi2 : ((f0 : Int) + (m : Int)).toNat = f0 + m := by omega
          by_cases hgo : m = 0 ∨ x = 4
          · have HN : Hid (IsInts w.heap.size (wr.setCell ⟨g, f0 + m, none⟩ (.int .i64 0)) (.slice (some ⟨b1, o1, none⟩) l.length c) l ∧ (wr.setCell ⟨g, f0 + m, none⟩ (.int .i64 0)).ownsRow w.heap.size 3 1 (.slice (some ⟨g, 0, none⟩) l.length cap) l.length ((turnL l f0 (m + 1) 0).map (Value.int .i64)) ∧ Below w.heap.size w (wr.setCell ⟨g, f0 + m, none⟩ (.int .i64 0)) ∧ TailsTo l f0 (m + 1)) := by
              rw [← List.map_set, turnL_step _ (by omega)] at s1
              refine ⟨q0.below ((Below.refl _ wr).setCell hg _), s1, q2.setCell hg _, q3.step ?_⟩
              rcases hgo with h | h
              · exact .inl h
              · subst h; exact .inr hx
            clear q0 q1 q2 q3 s1 s2 hh H0 hx
            by_cases h : m = 0
            · subst h
              simp only [Nat.add_zero] at hcell hfz HN hlt
              have hi4 : (f0 : Int) < (l.length : Int) := by omega
              clear hgo hi0 hi1 hi2 gx
              go_wp2
              go_roundw
              case rel => exact ⟨1, by omega, by go_num, HN⟩
              case measure => simp [intOf]; omega
            · have hx4 : x = 4 := hgo.resolve_left h
              subst hx4
              have hm1 : ¬ (m : Int) = 0 := by omega
              clear hgo
              go_wp2
              go_roundw
              case rel => exact ⟨m + 1, by omega, by go_num, HN⟩
              case measure => simp [intOf]; omega
          · have hm0 : ¬ m = 0 := fun h => hgo (.inl h)
            have hm1 : ¬ (m : Int) = 0 := by omega
            have hx4 : ¬ x = 4 := fun h => hgo (.inr h)
            have hx5 : (x == 4) = false := by simp [hx4]
            have hlen := q3.len (by omega) hm (fun y hy => by rw [hx] at hy; cases hy; exact hx4)
            have HL := Lib.hid hlen
            clear q0 q1 q3 s1 s2 H0 hx hgo hlen
            go_wp2
            go_ret3
            refine ⟨q2, .inr (.inr ?_)⟩
            rw [Int.toNat_natCast, HL.out]
            exact ⟨HW.out, HM.out, _, rfl, hh.out.2.1⟩
        · have hme : f0 + m = l.length := by omega
          have hm0 : ¬ m = 0 := by omega
          have hm1 : ¬ (m : Int) = 0 := by omega
          have hi3 : ¬ ((f0 : Int) + (m : Int)) < (l.length : Int) := by omega
          have hlen := q3.len (by omega) hm (fun y hy => by
            have := (List.getElem?_eq_some_iff.1 hy).1
            omega)
          have HL := Lib.hid hlen
          clear q0 q1 q3 H0 hlen
          go_wp2
          go_ret3
          refine ⟨q2, .inr (.inr ?_)⟩
          rw [Int.toNat_natCast, HL.out]
          exact ⟨HW.out, HM.out, _, rfl, hh.out.2.1⟩

end Go.Proofs.YtihmgiifphheeaaGreatDoor
