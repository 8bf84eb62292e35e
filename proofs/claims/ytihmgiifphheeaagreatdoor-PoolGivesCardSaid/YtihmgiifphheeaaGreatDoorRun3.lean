/- Contracts of package run: Whole, Count. -/
import Derived.Test.YtihmgiifphheeaaGreatDoorRun2
import Derived.Maps.OwnOps
import Derived.Maps.Views
import Derived.Maps.OwnSet
namespace Go.Sel
/-- Are states whole, behind a last one? -/
def wholeGo : Int → List Int → Bool
  | _, [] => true
  | last, s :: r => if s = 4 ∧ ¬ last = 3 ∧ ¬ last = 4 then false else wholeGo s r
def wholeL (l : List Int) : Bool := wholeGo 0 l && rightS l
theorem wholeGo_bad {l : List Int} {k : Nat} {last : Int} (h : l[k]? = some 4) (h3 : ¬ last = 3) (h4 : ¬ last = 4) : wholeGo last (l.drop k) = false := by
  obtain ⟨hn, e⟩ := List.getElem?_eq_some_iff.1 h
  rw [List.drop_eq_getElem_cons hn, e]; simp [wholeGo, h3, h4]
theorem wholeGo_step {l : List Int} {k : Nat} {last s : Int} (h : l[k]? = some s) (hs : ¬ (s = 4 ∧ ¬ last = 3 ∧ ¬ last = 4)) : wholeGo last (l.drop k) = wholeGo s (l.drop (k + 1)) := by
  obtain ⟨hn, e⟩ := List.getElem?_eq_some_iff.1 h
  rw [List.drop_eq_getElem_cons hn, e]; rw [wholeGo, if_neg hs]
end Go.Sel
namespace Go.Proofs.YtihmgiifphheeaaGreatDoor
open Go.RowKit Go.Sel

set_option maxHeartbeats 1000000 in
theorem whole_any {n : Nat} {v : Value} {l : List Int} {w : World} (h1 : IsInts n w v l) :
    Calls Tryz.prog 51 #[v] w fun e w' => e = .returned (.bool (wholeL l)) ∧ w' = w := by
  have hR := runRight_any h1
  obtain ⟨a1, c1, rfl, hc1⟩ := h1.open
  have hl := h1.len
  unfold big at hl
  unfold wholeL
  generalize rightS l = rb at hR
  go_enter Tryz.func51, Tryz.ntmps51
  go_wp2
  go_loop [3, 5, 8] (fun q _ i => ∃ (k : Nat) (last : Int), k ≤ l.length ∧ i = .int .i64 k ∧ q = .int .i64 last ∧ Hid (wholeGo 0 l = wholeGo last (l.drop k))) (fun _ _ i => l.length - (intOf i).toNat)
  case atStart => exact ⟨0, 0, Nat.zero_le _, rfl, rfl, rfl⟩
  case round =>
    obtain ⟨k, last, hk, rfl, rfl, hh⟩ := hrel
    by_cases hlt : k < l.length
    · obtain ⟨x, b1, o1, hx, rfl, _, g1, _⟩ := h1.at hlt
      clear h1 hR
      by_cases hx4 : x = 4
      · subst hx4
        by_cases h3 : last = 3
        · subst h3
          have HN := Lib.hid (hh.out.trans (wholeGo_step hx (by simp)))
          clear hx hh
          go_wp2
          go_round
          case measure => simp [intOf]; omega
          case rel => exact ⟨k + 1, 4, by omega, by go_num, rfl, HN⟩
        · have h3' : (last != 3) = true := by simpa using h3
          by_cases h4 : last = 4
          · subst h4
            have HN := Lib.hid (hh.out.trans (wholeGo_step hx (by simp)))
            clear hx hh
            go_wp2
            go_round
            case measure => simp [intOf]; omega
            case rel => exact ⟨k + 1, 4, by omega, by go_num, rfl, HN⟩
          · have h4' : (last != 4) = true := by simpa using h4
            have HN := Lib.hid (hh.out.trans (wholeGo_bad hx h3 h4))
            clear hx hh h3 h4
            go_wp2
            go_ret
            exact ⟨by rw [HN.out]; rfl, rfl⟩
      · have hx4' : (x == 4) = false := by simpa using hx4
        have HN := Lib.hid (hh.out.trans (wholeGo_step hx (fun h => hx4 h.1)))
        clear hx hh
        go_wp2
        go_round
        case measure => simp [intOf]; omega
        case rel => exact ⟨k + 1, x, by omega, by go_num, rfl, HN⟩
    · have HN := Lib.hid (show wholeGo 0 l = true by rw [hh.out, List.drop_eq_nil_iff.2 (by omega)]; cases k <;> rfl)
      clear h1 hh
      go_wp2_with (go_at_call 48; refine hR.mono ?_; rintro e w' ⟨rfl, rfl⟩)
      go_ret
      exact ⟨by rw [HN.out]; rfl, rfl⟩

theorem keyedInt : Go.Maps.Keyed Tryz.prog 3 := Go.Maps.int_keyed Tryz.underlying3
theorem wf_i64 {x : Int} (h : I64 x) : (Lit.int .i64 x).wf = true := by
  unfold I64 at h
  simp [Lit.wf, IntKind.min, IntKind.max, IntKind.signed, IntKind.bits]
  omega
theorem zeroInt (w : World) : (zeroValue 3).run Tryz.prog w = .ok (.int .i64 0) w := by kernel_rfl

/-- A map that tells of each number how often it stands in a list. -/
def CountsAs (B n : Nat) (l : List Int) (w : World) : Prop :=
  ∃ D : DataW Unit, w.ownsMap Tryz.prog 3 (plainElem Tryz.prog 3) B n D ∧ ∀ s : Int, D.atKey (.int .i64 s) (.lit (.int .i64 0)) = .lit (.int .i64 (l.count s : Int))

set_option maxHeartbeats 1000000 in
theorem counts_any {n : Nat} {v : Value} {l : List Int} {w : World} (h1 : IsInts n w v l) (hn : n ≤ w.heap.size) :
    Calls Tryz.prog 69 #[v] w fun e w' => e = .returned (.map (some w.heap.size)) ∧ CountsAs w.heap.size l.length l w' ∧ Below w.heap.size w w' := by
  obtain ⟨a1, c1, rfl, hc1⟩ := h1.open
  have hl := h1.len
  unfold big at hl
  have hmm := @run_makeMap Tryz.prog
  go_enter Tryz.func69, Tryz.ntmps69
  go_wp2
  go_loopw [5, 9] (fun _ i wr => ∃ k : Nat, k ≤ l.length ∧ i = .int .i64 k ∧ CountsAs w.heap.size k (l.take k) wr ∧ Below w.heap.size w wr) (fun _ i _ => l.length - (intOf i).toNat)
  case atStart => exact ⟨0, Nat.zero_le _, rfl, ⟨_, World.ownsMap_made _ _ _ _, fun s => rfl⟩, (Below.refl _ _).alloc (Nat.le_refl _) _⟩
  case round =>
    obtain ⟨k, hk, rfl, ⟨D, hown, hD⟩, hnx⟩ := hrel
    by_cases hlt : k < l.length
    · obtain ⟨x, b1, o1, hx, rfl, _, g1, hx64⟩ := IsInts.at (h1.below (hnx.mono hn)) hlt
      have hkey := Go.Maps.keyOf_int_mk Tryz.underlying3 (wf_i64 hx64)
      have hcnt : (l.take k).count x ≤ 1048576 := Nat.le_trans List.count_le_length (by rw [List.length_take]; omega)
      have hx' := hD x
      have HD := Lib.hid hD
      have HX := Lib.hid (take_snoc hx)
      have HL := Lib.hid hx'
      generalize hc0 : (l.take k).count x = c0 at *
      have HC0 := Lib.hid hc0
      clear hc0
      clear hD hx hx' h1
      go_wp2_with (first
        | (at_lookup; refine wpList_lookup_own_int _ rfl _ _ 85 rfl 3 3 .i64 keyedInt Tryz.underlying85 Tryz.underlying3 (zeroInt _) w.heap.size k _ rfl hown _ _ rfl hkey ?_; intro c hat hwc; obtain rfl : c = (c0 : Int) := (by have := hat.symm.trans HL.out; simpa using this))
        | (at_mapUpdate; refine wpList_mapUpdate_own _ rfl _ _ _ 85 rfl 3 3 keyedInt Tryz.underlying85 _ w.heap.size k _ rfl hown (by unfold maxLen; omega) _ _ _ rfl rfl hkey _ [] (plainElem_int Tryz.underlying3 (wf_i64 (by unfold I64; omega))) ?_; intro w1 hown1 hgrow1))
      go_roundw
      case measure => simp [intOf]; omega
      case rel =>
        refine ⟨k + 1, by omega, by go_num, ⟨_, hown1, fun s => ?_⟩, hnx.grown hgrow1 hnx.size (fun j hj => by cases hj; exact Nat.le_refl _)⟩
        rw [HX.out, List.count_append]
        by_cases hs : s = x
        · subst hs
          rw [Go.Maps.atKey_put_same hown.isMap (k := .int .i64 s) trivial]
          rw [HC0.out]; simp
        · rw [Go.Maps.atKey_put_other (by intro e; cases e; exact hs rfl), HD.out s]
          simp [Ne.symm hs]
    · have HX := Lib.hid (take_all hlt)
      have he : k = l.length := by omega
      subst he
      clear h1
      go_wp2
      go_ret
      exact ⟨rfl, by have h := (⟨D, hown, hD⟩ : CountsAs w.heap.size l.length (l.take l.length) wr); rwa [HX.out] at h, hnx⟩

set_option maxHeartbeats 1000000 in
theorem runCount_any {n : Nat} {v : Value} {l : List Int} {w : World} (s : Int) (hs : I64 s) (h1 : IsInts n w v l) (hn : n ≤ w.heap.size) :
    Calls Tryz.prog 47 #[v, .int .i64 s] w fun e w' => e = .returned (.int .i64 (l.count s)) ∧ Below w.heap.size w w' := by
  have hc := counts_any h1 hn
  have hkey := Go.Maps.keyOf_int_mk Tryz.underlying3 (wf_i64 hs)
  go_enter Tryz.func47, Tryz.ntmps47
  go_wp2_with (first
    | (go_at_call 69; refine hc.mono ?_; rintro e w' ⟨rfl, ⟨D, hown, hD⟩, hb⟩; have hx := hD s; clear hD)
    | (at_lookup; refine wpList_lookup_own_int _ rfl _ _ 85 rfl 3 3 .i64 keyedInt Tryz.underlying85 Tryz.underlying3 (zeroInt _) w.heap.size l.length _ rfl hown _ _ rfl hkey ?_; intro c hat hwc; obtain rfl : c = (l.count s : Int) := (by have := hat.symm.trans hx; simpa using this)))
  go_ret
  exact ⟨rfl, hb⟩

end Go.Proofs.YtihmgiifphheeaaGreatDoor
