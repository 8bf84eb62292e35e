/- Contracts of the references: selionref09.Right, Whole, Count; selionref07.Make, Right. -/
import Derived.Test.YtihmgiifphheeaaGreatDoorLaw1
namespace Go.Sel
open Go Go.RowKit
theorem any_step {α : Type} {p : α → Bool} {xs : List α} {k : Nat} {x : α} (h : (xs.take k).any p = false) (hx : xs[k]? = some x) (hp : p x = false) : (xs.take (k + 1)).any p = false := by
  rw [take_snoc hx, List.any_append, h]; simp [hp]
theorem any_hit {α : Type} {p : α → Bool} {xs : List α} {k : Nat} {x : α} (hx : xs[k]? = some x) (hp : p x = true) : xs.any p = true := by
  rw [List.any_eq_true]; exact ⟨x, List.mem_of_getElem? hx, hp⟩
theorem rightS_of {l : List Int} (h : l.any noState = false) : rightS l = (decide (1 ≤ l.length) && decide (l.length ≤ 32)) := by unfold rightS; rw [h]; simp
theorem rightS_hit {l : List Int} (h : l.any noState = true) : rightS l = false := by unfold rightS; rw [h]; simp
theorem rightT_of {l : List Int} (h : l.any noLine = false) : rightT l = decide (l.length = 32) := by unfold rightT; rw [h]; simp
theorem rightT_hit {l : List Int} (h : l.any noLine = true) : rightT l = false := by unfold rightT; rw [h]; simp
end Go.Sel
namespace Go.Proofs.YtihmgiifphheeaaGreatDoor
open Go.RowKit Go.Sel

set_option maxHeartbeats 1000000 in
theorem ref09Right_any {n : Nat} {v : Value} {l : List Int} {w : World} (h1 : IsInts n w v l) :
    Calls Tryz.prog 56 #[v] w fun e w' => e = .returned (.bool (rightS l)) ∧ w' = w := by
  obtain ⟨a1, c1, rfl, hc1⟩ := h1.open
  have hl := h1.len
  unfold big at hl
  go_enter Tryz.func56, Tryz.ntmps56
  go_wp2
  go_loop [3] (fun i => ∃ k : Nat, k ≤ l.length ∧ i = .int .i64 k ∧ Hid ((l.take k).any noState = false)) (fun i => l.length - (intOf i).toNat)
  case atStart => exact ⟨0, Nat.zero_le _, rfl, Lib.hid rfl⟩
  case round =>
    obtain ⟨k, hk, rfl, hh⟩ := hrel
    by_cases hlt : k < l.length
    · obtain ⟨x, b1, o1, hx, rfl, _, g1, _⟩ := h1.at hlt
      clear h1
      cases hp : noState x with
      | true =>
        have HF := Lib.hid (rightS_hit (any_hit hx hp))
        unfold noState at hp
        simp only [Bool.or_eq_true, decide_eq_true_eq] at hp
        clear hx
        by_cases h0 : x < 0
        · clear hp
          go_wp2
          go_ret
          exact ⟨ret_bool HF.out.symm, rfl⟩
        · have h5 : 5 < x := by omega
          clear hp
          go_wp2
          go_ret
          exact ⟨ret_bool HF.out.symm, rfl⟩
      | false =>
        have HN := Lib.hid (any_step hh.out hx hp)
        unfold noState at hp
        simp only [Bool.or_eq_false_iff, decide_eq_false_iff_not] at hp
        obtain ⟨h0, h5⟩ := hp
        clear hx hh
        go_wp2
        go_round
        case measure => simp [intOf]; omega
        case rel => exact ⟨k + 1, by omega, by go_num, HN⟩
    · have HF := Lib.hid (rightS_of (by have := hh.out; rwa [take_all hlt] at this))
      clear h1 hh
      by_cases g1 : 1 ≤ l.length
      · have k1 : (1 : Int) ≤ (l.length : Int) := by omega
        by_cases g2 : l.length ≤ 32
        · have k2 : (l.length : Int) ≤ 32 := by omega
          go_wp2
          go_ret
          exact ⟨ret_bool (by rw [HF.out, decide_eq_true g1, decide_eq_true g2]; rfl), rfl⟩
        · have k2 : ¬ (l.length : Int) ≤ 32 := by omega
          go_wp2
          go_ret
          exact ⟨ret_bool (by rw [HF.out, decide_eq_false g2]; simp), rfl⟩
      · have k1 : ¬ (1 : Int) ≤ (l.length : Int) := by omega
        go_wp2
        go_ret
        exact ⟨ret_bool (by rw [HF.out, decide_eq_false g1]; simp), rfl⟩

set_option maxHeartbeats 1000000 in
theorem ref07Right_any {n : Nat} {v : Value} {l : List Int} {w : World} (h1 : IsInts n w v l) :
    Calls Tryz.prog 42 #[v] w fun e w' => e = .returned (.bool (rightT l)) ∧ w' = w := by
  obtain ⟨a1, c1, rfl, hc1⟩ := h1.open
  have hl := h1.len
  unfold big at hl
  go_enter Tryz.func42, Tryz.ntmps42
  go_wp2
  go_loop [3] (fun i => ∃ k : Nat, k ≤ l.length ∧ i = .int .i64 k ∧ Hid ((l.take k).any noLine = false)) (fun i => l.length - (intOf i).toNat)
  case atStart => exact ⟨0, Nat.zero_le _, rfl, Lib.hid rfl⟩
  case round =>
    obtain ⟨k, hk, rfl, hh⟩ := hrel
    by_cases hlt : k < l.length
    · obtain ⟨x, b1, o1, hx, rfl, _, g1, _⟩ := h1.at hlt
      clear h1
      cases hp : noLine x with
      | true =>
        have HF := Lib.hid (rightT_hit (any_hit hx hp))
        unfold noLine at hp
        simp only [Bool.or_eq_true, decide_eq_true_eq] at hp
        clear hx
        by_cases h0 : x < 0
        · clear hp
          go_wp2
          go_ret
          exact ⟨ret_bool HF.out.symm, rfl⟩
        · have h5 : 2 < x := by omega
          clear hp
          go_wp2
          go_ret
          exact ⟨ret_bool HF.out.symm, rfl⟩
      | false =>
        have HN := Lib.hid (any_step hh.out hx hp)
        unfold noLine at hp
        simp only [Bool.or_eq_false_iff, decide_eq_false_iff_not] at hp
        obtain ⟨h0, h5⟩ := hp
        clear hx hh
        go_wp2
        go_round
        case measure => simp [intOf]; omega
        case rel => exact ⟨k + 1, by omega, by go_num, HN⟩
    · have HF := Lib.hid (rightT_of (by have := hh.out; rwa [take_all hlt] at this))
      clear h1 hh
      by_cases g1 : l.length = 32
      · have k1 : ((l.length : Int) == 32) = true := by rw [beq_iff_eq]; omega
        have HG := Lib.hid g1
        clear g1
        go_wp2
        go_ret
        exact ⟨ret_bool (by rw [HF.out, decide_eq_true HG.out]), rfl⟩
      · have k1 : ((l.length : Int) == 32) = false := by rw [beq_eq_false_iff_ne]; omega
        go_wp2
        go_ret
        exact ⟨ret_bool (by rw [HF.out, decide_eq_false g1]), rfl⟩

/-- What stands ahead of place k; 0: nothing. -/
def lastOf (l : List Int) (k : Nat) : Int := if k = 0 then 0 else l[k - 1]?.getD 0
theorem lastOf_succ {l : List Int} {k : Nat} {x : Int} (h : l[k]? = some x) : lastOf l (k + 1) = x := by unfold lastOf; rw [if_neg (by omega), Nat.add_sub_cancel, h]; rfl

set_option maxHeartbeats 2000000 in
theorem ref09Whole_any {n : Nat} {v : Value} {l : List Int} {w : World} (h1 : IsInts n w v l) :
    Calls Tryz.prog 58 #[v] w fun e w' => e = .returned (.bool (wholeL l)) ∧ w' = w := by
  have hR := ref09Right_any h1
  obtain ⟨a1, c1, rfl, hc1⟩ := h1.open
  have hl := h1.len
  unfold big at hl
  go_enter Tryz.func58, Tryz.ntmps58
  go_wp2
  go_loop [3] (fun i => ∃ k : Nat, k ≤ l.length ∧ i = .int .i64 k ∧ Hid (wholeGo 0 l = wholeGo (lastOf l k) (l.drop k))) (fun i => l.length - (intOf i).toNat)
  case atStart => exact ⟨0, Nat.zero_le _, rfl, Lib.hid rfl⟩
  case round =>
    obtain ⟨k, hk, rfl, hh⟩ := hrel
    by_cases hlt : k < l.length
    · obtain ⟨x, b1, o1, hx, rfl, _, g1, _⟩ := h1.at hlt
      by_cases hx4 : x = 4
      · subst hx4
        by_cases hk0 : k = 0
        · have HF := Lib.hid (show wholeL l = false by unfold wholeL; rw [hh.out, wholeGo_bad hx (by simp [lastOf, hk0]) (by simp [lastOf, hk0])]; rfl)
          have e0 : ((k : Int) == 0) = true := by rw [beq_iff_eq]; omega
          clear hx hh h1 hR hk0
          go_wp2
          go_ret
          exact ⟨ret_bool HF.out.symm, rfl⟩
        · obtain ⟨j, rfl⟩ : ∃ j, k = j + 1 := ⟨k - 1, by omega⟩
          obtain ⟨y, b2, o2, hy, he, _, g2, _⟩ := h1.at (k := j) (by omega)
          cases he
          have hlast : lastOf l (j + 1) = y := lastOf_succ hy
          have e0 : (((j + 1 : Nat) : Int) == 0) = false := by rw [beq_eq_false_iff_ne]; omega
          have e1 : ((j + 1 : Nat) : Int) - 1 = (j : Int) := by omega
          by_cases hy3 : y = 3
          · subst hy3
            have HN := Lib.hid (show wholeGo 0 l = wholeGo (lastOf l (j + 1 + 1)) (l.drop (j + 1 + 1)) by rw [lastOf_succ hx]; exact hh.out.trans (wholeGo_step hx (by rw [hlast]; simp)))
            clear hx hh h1 hR hy hlast hk0
            go_wp2
            go_round
            case measure => simp [intOf]; omega
            case rel => exact ⟨j + 1 + 1, by omega, by go_num, HN⟩
          · by_cases hy4 : y = 4
            · subst hy4
              have HN := Lib.hid (show wholeGo 0 l = wholeGo (lastOf l (j + 1 + 1)) (l.drop (j + 1 + 1)) by rw [lastOf_succ hx]; exact hh.out.trans (wholeGo_step hx (by rw [hlast]; simp)))
              clear hx hh h1 hR hy hlast hk0
              go_wp2
              go_round
              case measure => simp [intOf]; omega
              case rel => exact ⟨j + 1 + 1, by omega, by go_num, HN⟩
            · have HF := Lib.hid (show wholeL l = false by unfold wholeL; rw [hh.out, wholeGo_bad hx (by rw [hlast]; exact hy3) (by rw [hlast]; exact hy4)]; rfl)
              have q3 : (y != 3) = true := by simpa using hy3
              have q4 : (y != 4) = true := by simpa using hy4
              clear hx hh h1 hR hy hlast hk0
              go_wp2
              go_ret
              exact ⟨ret_bool HF.out.symm, rfl⟩
      · have q4 : (x == 4) = false := by simpa using hx4
        have HN := Lib.hid (show wholeGo 0 l = wholeGo (lastOf l (k + 1)) (l.drop (k + 1)) by rw [lastOf_succ hx]; exact hh.out.trans (wholeGo_step hx (fun h => hx4 h.1)))
        clear hx hh h1 hR hx4
        go_wp2
        go_round
        case measure => simp [intOf]; omega
        case rel => exact ⟨k + 1, by omega, by go_num, HN⟩
    · have HF := Lib.hid (show wholeL l = rightS l by unfold wholeL; rw [hh.out, List.drop_of_length_le (by omega)]; simp [wholeGo])
      clear h1 hh
      go_wp2_with fail
      refine hR.mono ?_
      rintro e w' ⟨rfl, rfl⟩
      clear hR
      go_wp2
      go_ret
      exact ⟨ret_bool HF.out.symm, rfl⟩

theorem count_step {l : List Int} {k : Nat} {x s : Int} (hx : l[k]? = some x) : (l.take (k + 1)).count s = (l.take k).count s + if x = s then 1 else 0 := by
  rw [take_snoc hx, List.count_append, List.count_singleton]; simp

set_option maxHeartbeats 400000 in
theorem ref07Make_any (w : World) : Calls Tryz.prog 77 #[] w (OwnI w.heap.size (List.replicate 32 0) w) := by
  have hmk : ∀ w, (Instr.makeSlice 22 (.int .i64 32) (.int .i64 32)).run Tryz.prog w = .ok (.slice (some ⟨w.heap.size, 0, none⟩) 32 32) (w.alloc (.cells ((List.replicate 32 0).map (Value.int .i64)).toArray 3)) := fun _ => by kernel_rfl
  go_enter Tryz.func77, Tryz.ntmps77
  go_wp2
  go_ret
  refine ⟨_, rfl, ⟨by simp, .inr ⟨w.heap.size, 32, ((List.replicate 32 0).map (Value.int .i64)).toArray, ?_, Nat.le_refl _, ?_, by decide, by decide, by simp, by simp⟩⟩, (Below.refl _ w).alloc (Nat.le_refl _) _⟩
  · rfl
  · exact World.alloc_heap_new w _
end Go.Proofs.YtihmgiifphheeaaGreatDoor

/- Contracts of the references: selionref07.Kept, Lines, Count; selionref08.Room; selionref10.zero. -/
namespace Go.Sel
open Go Go.RowKit
/-- The kept lines ahead of line k. -/
def linesTo (t : List Int) (k : Nat) : List Int := if rightT t then ((List.range k).filter (keptAt t)).map Int.ofNat else []
theorem linesTo_full (t : List Int) : linesTo t 32 = linesL t := rfl
theorem linesTo_hit {t : List Int} {k : Nat} (h : (rightT t && keptAt t k) = true) : linesTo t (k + 1) = linesTo t k ++ [(k : Int)] := by
  simp only [Bool.and_eq_true] at h
  unfold linesTo
  rw [if_pos h.1, if_pos h.1, List.range_succ, List.filter_append, List.map_append]
  simp [h.2]
theorem linesTo_miss {t : List Int} {k : Nat} (h : (rightT t && keptAt t k) = false) : linesTo t (k + 1) = linesTo t k := by
  unfold linesTo
  cases hr : rightT t with
  | false => rfl
  | true =>
    rw [hr, Bool.true_and] at h
    rw [if_pos rfl, if_pos rfl, List.range_succ, List.filter_append, List.map_append]
    simp [h]
theorem linesTo_len (t : List Int) (k : Nat) : (linesTo t k).length ≤ k := by
  unfold linesTo
  split
  · rw [List.length_map]
    have := List.length_filter_le (keptAt t) (List.range k)
    simpa using this
  · exact Nat.zero_le _
theorem countL_le (t : List Int) : countL t ≤ 32 := by unfold countL; rw [← linesTo_full]; exact linesTo_len t 32
theorem filter_len_not {α : Type} (p : α → Bool) (l : List α) : (l.filter p).length + (l.filter (fun x => !p x)).length = l.length := by
  induction l with
  | nil => rfl
  | cons a r ih =>
    by_cases h : p a = true
    · simp [h]; omega
    · simp [h]; omega
theorem roomL_right {t : List Int} (h : rightT t = true) : roomL t + countL t = 32 := by
  unfold roomL holesF countL linesL
  rw [if_pos h, if_pos h, List.drop_zero, sumH_runsGo _ _ _ (Nat.le_refl _), List.length_map]
  have h1 := filter_len_not (keptAt t) (List.range 32)
  have h2 : ((flagsL t).filter fun x => decide (x = 0)).length = ((List.range 32).filter (fun i => !keptAt t i)).length := by
    unfold flagsL
    rw [List.filter_map, List.length_map]
    congr 1
    refine List.filter_congr (fun i _ => ?_)
    cases hk : keptAt t i <;> simp [hk]
  simp only [List.length_range] at h1
  unfold keptL
  omega
theorem roomL_wrong {t : List Int} (h : rightT t = false) : roomL t = 0 := by unfold roomL holesF; rw [if_neg (by rw [h]; decide)]; rfl
end Go.Sel
namespace Go.Proofs.YtihmgiifphheeaaGreatDoor
open Go.RowKit Go.Sel

set_option maxHeartbeats 2000000 in
theorem ref07Kept_any {n : Nat} {v : Value} {t : List Int} {w : World} (i : Nat) (hi : i < 32) (h1 : IsInts n w v t) :
    Calls Tryz.prog 87 #[v, .int .i64 i] w fun e w' => e = .returned (.bool (rightT t && keptAt t i)) ∧ w' = w := by
  have hR := ref07Right_any h1
  obtain ⟨a1, c1, rfl, hc1⟩ := h1.open
  have hl := h1.len
  unfold big at hl
  cases hr : rightT t with
  | false =>
    rw [hr] at hR
    clear hr h1
    go_enter Tryz.func87, Tryz.ntmps87
    go_wp2_with fail
    refine hR.mono ?_
    rintro e w' ⟨rfl, rfl⟩
    clear hR
    go_wp2
    go_ret
    exact ⟨rfl, rfl⟩
  | true =>
    rw [hr] at hR
    have hlen := rightT_len hr
    have i0 : (0 : Int) ≤ (i : Int) := by omega
    have i32 : (i : Int) < 32 := by omega
    have il : (i : Int) < (t.length : Int) := by omega
    obtain ⟨x, b1, o1, hx, rfl, _, g1, _⟩ := h1.at (k := i) (by omega)
    by_cases hx0 : x = 0
    · have q0 : (x != 0) = false := by simpa using hx0
      by_cases hi0 : i = 0
      · have HF := Lib.hid (show keptAt t i = false by unfold keptAt; rw [hx]; simp [hx0, hi0])
        have p0 : ¬ (0 : Int) < (i : Int) := by omega
        clear hr hlen hx hx0 hi0 h1
        go_enter Tryz.func87, Tryz.ntmps87
        go_wp2_with fail
        refine hR.mono ?_
        rintro e w' ⟨rfl, rfl⟩
        clear hR
        go_wp2
        go_ret
        exact ⟨ret_bool (by rw [HF.out]; rfl), rfl⟩
      · obtain ⟨j, rfl⟩ : ∃ j, i = j + 1 := ⟨i - 1, by omega⟩
        obtain ⟨y, b2, o2, hy, he, _, g2, _⟩ := h1.at (k := j) (by omega)
        cases he
        have p0 : (0 : Int) < ((j + 1 : Nat) : Int) := by omega
        have p1 : ((j + 1 : Nat) : Int) - 1 = (j : Int) := by omega
        have jl : (j : Int) < (t.length : Int) := by omega
        have HV := Lib.hid (show keptAt t (j + 1) = decide (y = 2) by unfold keptAt; rw [hx, Nat.add_sub_cancel, hy]; simp [hx0])
        clear hr hlen hx hx0 hi0 h1 hy
        by_cases hy2 : y = 2
        · have q2 : (y == 2) = true := by simpa using hy2
          have HY := Lib.hid (decide_eq_true hy2)
          clear hy2
          go_enter Tryz.func87, Tryz.ntmps87
          go_wp2_with fail
          refine hR.mono ?_
          rintro e w' ⟨rfl, rfl⟩
          clear hR
          go_wp2
          go_ret
          exact ⟨ret_bool (by rw [HV.out, HY.out]; rfl), rfl⟩
        · have q2 : (y == 2) = false := by simpa using hy2
          have HY := Lib.hid (decide_eq_false hy2)
          go_enter Tryz.func87, Tryz.ntmps87
          go_wp2_with fail
          refine hR.mono ?_
          rintro e w' ⟨rfl, rfl⟩
          clear hR
          go_wp2
          go_ret
          exact ⟨ret_bool (by rw [HV.out, HY.out]; rfl), rfl⟩
    · have q0 : (x != 0) = true := by simpa using hx0
      have HF := Lib.hid (show keptAt t i = true by unfold keptAt; rw [hx]; simp [hx0])
      clear hr hlen hx h1
      go_enter Tryz.func87, Tryz.ntmps87
      go_wp2_with fail
      refine hR.mono ?_
      rintro e w' ⟨rfl, rfl⟩
      clear hR
      go_wp2
      go_ret
      exact ⟨ret_bool (by rw [HF.out]; rfl), rfl⟩

set_option maxHeartbeats 2000000 in
theorem ref07Lines_any {n : Nat} {v : Value} {t : List Int} {w : World} (h1 : IsInts n w v t) (hn : n ≤ w.heap.size) :
    Calls Tryz.prog 67 #[v] w (OwnI w.heap.size (linesL t) w) := by
  obtain ⟨a1, c1, rfl, hc1⟩ := h1.open
  obtain ⟨i0, hi, hz0, hz1, hz2⟩ := info_parts infoInt
  go_enter Tryz.func67, Tryz.ntmps67
  go_wp2
  go_loopw [3, 4] (fun q i wr => ∃ (k m : Nat), k ≤ 32 ∧ m ≤ k ∧ i = .int .i64 k ∧ Hid ((linesTo t k).length = m) ∧ wr.ownsRow w.heap.size 3 1 q m ((linesTo t k).map (Value.int .i64)) ∧ Below w.heap.size w wr) (fun _ i _ => 32 - (intOf i).toNat)
  case atStart => exact ⟨0, 0, Nat.zero_le _, Nat.le_refl _, rfl, Lib.hid (by simp [linesTo]), by simpa [linesTo] using World.ownsRow_nil _ _ _ _, Below.refl _ _⟩
  case round =>
    obtain ⟨k, m, hk, hm, rfl, hlen, hown, hb⟩ := hrel
    have hsz := hb.size
    by_cases hlt : k < 32
    · have hK := ref07Kept_any k hlt (h1.below (hb.mono hn))
      have hlt' : (k : Int) < 32 := by omega
      obtain ⟨qa, qc, rfl, hqc⟩ := owns_open hown
      cases hc : (rightT t && keptAt t k) with
      | true =>
        rw [hc] at hK
        have HN := Lib.hid (linesTo_hit hc)
        have HO := Lib.hid hown
        clear hc
        go_wp2_with fail
        refine hK.mono ?_
        rintro e w' ⟨rfl, he⟩
        obtain rfl := he.symm
        clear hK
        go_wp2_with (at_builtin; refine wpList_append_own _ rfl _ _ 22 rfl w.heap.size 3 i0 (.int .i64 0) 1 8 Tryz.underlying22 hi hz0 hz1 hz2 rfl (by decide) _ _ _ rfl (hown.alloc _) ⟨wr.heap.size, 0, none⟩ 1 1 [.int .i64 k] rfl rfl (cell_one_new _ _ _) (by simp [Value.oneCell']) (by unfold maxLen; omega) (by omega) (by simp; omega) ?_)
        intro v' w1 hown' hgrow _
        have hb1 : Below w.heap.size w w1 := (hb.alloc hb.size _).grown hgrow (by simp; omega) (fun j hj => (HO.out.lt j hj).1)
        have HR := Lib.hid (show w1.ownsRow w.heap.size 3 1 v' (m + 1) ((linesTo t (k + 1)).map (Value.int .i64)) by rw [HN.out, List.map_append]; exact hown')
        have HL := Lib.hid (show (linesTo t (k + 1)).length = m + 1 by rw [HN.out, List.length_append, hlen.out]; rfl)
        clear hown hown' hgrow hlen h1
        go_wp2
        go_roundw
        case rel => exact ⟨k + 1, m + 1, by omega, by omega, by go_num, HL, HR.out, hb1⟩
        case measure => simp [intOf]; omega
      | false =>
        rw [hc] at hK
        have HN := Lib.hid (linesTo_miss hc)
        have HO := Lib.hid hown
        clear hc hown
        go_wp2_with fail
        refine hK.mono ?_
        rintro e w' ⟨rfl, he⟩
        obtain rfl := he.symm
        clear hK
        go_wp2
        go_roundw
        case rel => exact ⟨k + 1, m, by omega, by omega, by go_num, by rw [HN.out]; exact hlen, by rw [HN.out]; exact HO.out, hb⟩
        case measure => simp [intOf]; omega
    · have hlt' : ¬ (k : Int) < 32 := by omega
      obtain rfl : k = 32 := by omega
      have HO := Lib.hid hown
      clear hown h1
      go_wp2
      go_ret
      refine ⟨_, rfl, ?_, hb⟩
      have := HO.out
      rw [linesTo_full] at this
      have hl := hlen.out
      rw [linesTo_full] at hl
      rw [hl]
      exact this

set_option maxHeartbeats 400000 in
theorem ref07Count_any {n : Nat} {v : Value} {t : List Int} {w : World} (h1 : IsInts n w v t) (hn : n ≤ w.heap.size) :
    Calls Tryz.prog 43 #[v] w fun e w' => e = .returned (.int .i64 (countL t)) ∧ Below w.heap.size w w' := by
  have hL := ref07Lines_any h1 hn
  clear h1
  go_enter Tryz.func43, Tryz.ntmps43
  go_wp2_with fail
  refine hL.mono ?_
  rintro e w' ⟨v', rfl, hown, hb⟩
  obtain ⟨qa, qc, rfl, hqc⟩ := owns_open hown
  clear hL hown
  go_wp2
  go_ret
  exact ⟨rfl, hb⟩

set_option maxHeartbeats 400000 in
theorem ref08Room_any {n : Nat} {v : Value} {t : List Int} {w : World} (h1 : IsInts n w v t) (hn : n ≤ w.heap.size) :
    Calls Tryz.prog 44 #[v] w fun e w' => e = .returned (.int .i64 (roomL t)) ∧ Below w.heap.size w w' := by
  have hR := ref07Right_any h1
  cases hr : rightT t with
  | false =>
    rw [hr] at hR
    have HZ := Lib.hid (roomL_wrong hr)
    clear hr h1
    go_enter Tryz.func44, Tryz.ntmps44
    go_wp2_with fail
    refine hR.mono ?_
    rintro e w' ⟨rfl, rfl⟩
    clear hR
    go_wp2
    go_ret
    exact ⟨ret_int (by rw [HZ.out]; rfl), Below.refl _ _⟩
  | true =>
    rw [hr] at hR
    have hC := ref07Count_any h1 hn
    have hsum := roomL_right hr
    have HZ := Lib.hid (show (32 : Int) - (countL t : Int) = (roomL t : Int) by omega)
    have hcl := countL_le t
    clear hr h1 hsum
    generalize countL t = c at *
    go_enter Tryz.func44, Tryz.ntmps44
    go_wp2_with fail
    refine hR.mono ?_
    rintro e w' ⟨rfl, he⟩
    obtain rfl := he.symm
    clear hR
    go_wp2_with fail
    refine hC.mono ?_
    rintro e w2 ⟨rfl, hb⟩
    clear hC
    go_wp2
    go_ret
    exact ⟨ret_int HZ.out, hb⟩

set_option maxHeartbeats 400000 in
theorem ref10zero_any {n : Nat} {v : Value} {t : List Int} {w : World} (h1 : IsInts n w v t) (hn : n ≤ w.heap.size) :
    Calls Tryz.prog 59 #[v] w fun e w' => e = .returned (.bool (decide (t = List.replicate 32 0))) ∧ Below w.heap.size w w' := by
  have hm := ref07Make_any w
  obtain ⟨a1, c1, rfl, hc1⟩ := h1.open
  go_enter Tryz.func59, Tryz.ntmps59
  go_wp2_with fail
  refine hm.mono ?_
  rintro e w1 ⟨o, rfl, hown, hb1⟩
  have h2 : IsInts w1.heap.size w1 o (List.replicate 32 0) := IsInts.of_owns (xs := List.replicate 32 0) hown (by simp [big]) (by intro x hx; rw [(List.mem_replicate.1 hx).2]; unfold I64; omega)
  have hq := refInts_any ((h1.below (hb1.mono hn)).wider (Nat.le_trans hn hb1.size)) h2
  clear hm h1 hown h2
  go_wp2_with fail
  refine hq.mono ?_
  rintro e w2 ⟨rfl, q, rfl⟩
  go_wp2
  go_ret
  exact ⟨rfl, below_drewN hb1 q⟩
end Go.Proofs.YtihmgiifphheeaaGreatDoor
