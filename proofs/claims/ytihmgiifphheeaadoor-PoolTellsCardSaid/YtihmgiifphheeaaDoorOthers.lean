/- Contract of selionlaw10.others. -/
import Derived.Test.YtihmgiifphheeaaDoorShown
namespace Go.Sel
/-- Is block i of two pools the same, or within the blocks that may differ? -/
def sameAt (s s' : List Int) (t t' : List (List Int)) (f n i : Nat) : Bool := (decide (f ≤ i) && decide (i < f + n)) || (decide (s[i]?.getD 0 = s'[i]?.getD 0) && decide (t[i]? = t'[i]?))
/-- Are two pools the same but for n blocks from f on? -/
def othersP (s s' : List Int) (t t' : List (List Int)) (f n : Nat) : Bool :=
  decide (s.length = s'.length) && decide (t.length = t'.length) && decide (t.length = s.length) && (List.range s.length).all (sameAt s s' t t' f n)
theorem range_all_step {p : Nat → Bool} {k : Nat} (h : (List.range k).all p = true) (hk : p k = true) : (List.range (k + 1)).all p = true := by
  rw [List.range_succ, List.all_append, h]; simp [hk]
theorem range_all_fail {p : Nat → Bool} {k m : Nat} (hm : k < m) (hk : p k = false) : (List.range m).all p = false := by
  rw [List.all_eq_false]
  exact ⟨k, by simp [hm], by simp [hk]⟩
end Go.Sel
namespace Go.Proofs.YtihmgiifphheeaaDoor
open Go.RowKit Go.Sel

set_option maxHeartbeats 4000000 in
theorem others_any {n : Nat} {v v' : Value} {s s' : List Int} {t t' : List (List Int)} {w : World} (f m : Nat) (hf : f ≤ 1048576) (hm : m ≤ 1048576) (h : IsPool n w v s t) (h' : IsPool n w v' s' t') (hn : n ≤ w.heap.size) :
    Calls Tryd.prog 14 #[v, v', .int .i64 f, .int .i64 m] w fun e w' => e = .returned (.bool (othersP s s' t t' f m)) ∧ Below w.heap.size w w' := by
  have hls := h.ok.ls
  have hls' := h'.ok.ls
  have hlt := h.ok.lt
  have hlt' := h'.ok.lt
  unfold big at hls hls' hlt hlt'
  obtain ⟨v1, v2, rfl, h1, h2⟩ := h
  obtain ⟨v3, v4, rfl, h3, h4⟩ := h'
  obtain ⟨a1, c1, rfl, hc1⟩ := h1.open
  obtain ⟨a2, c2, rfl, hc2⟩ := h2.open
  obtain ⟨a3, c3, rfl, hc3⟩ := h3.open
  obtain ⟨a4, c4, rfl, hc4⟩ := h4.open
  obtain ⟨w1, hw1⟩ : ∃ x, x = (w.alloc (Obj.cells #[.slice a1 s.length c1, .slice a2 t.length c2] 25)).alloc (Obj.cells #[.slice a3 s'.length c3, .slice a4 t'.length c4] 25) := ⟨_, rfl⟩
  have hb1 : Below w.heap.size w w1 := by rw [hw1]; exact kept_alloc (kept_alloc (Below.refl _ _) _) _
  have hx1 : w1.heap[w.heap.size]? = some (.cells #[.slice a1 s.length c1, .slice a2 t.length c2] 25 (0, 0)) := by rw [hw1]; exact heap_alloc_at (World.alloc_heap_new w _) _
  have hx2 : w1.heap[w.heap.size + 1]? = some (.cells #[.slice a3 s'.length c3, .slice a4 t'.length c4] 25 (0, 0)) := by rw [hw1]; have := World.alloc_heap_new (w.alloc (Obj.cells #[.slice a1 s.length c1, .slice a2 t.length c2] 25)) (Obj.cells #[.slice a3 s'.length c3, .slice a4 t'.length c4] 25); rwa [World.size_alloc] at this
  obtain ⟨y1, y2⟩ := pair_cells hx1
  obtain ⟨y3, y4⟩ := pair_cells hx2
  replace h1 := h1.below (hb1.mono hn)
  replace h2 := h2.below (hb1.mono hn)
  replace h3 := h3.below (hb1.mono hn)
  replace h4 := h4.below (hb1.mono hn)
  have Y := Lib.hid (show w1.cell? ⟨w.heap.size, 0, none⟩ = some (.slice a1 s.length c1) ∧ w1.cell? ⟨w.heap.size, 1, none⟩ = some (.slice a2 t.length c2) ∧ w1.cell? ⟨w.heap.size + 1, 0, none⟩ = some (.slice a3 s'.length c3) ∧ w1.cell? ⟨w.heap.size + 1, 1, none⟩ = some (.slice a4 t'.length c4) from ⟨y1, y2, y3, y4⟩)
  rw [hw1] at y1 y2 y3 y4
  by_cases e1 : s.length = s'.length
  · by_cases e2 : t.length = t'.length
    · by_cases e3 : t.length = s.length
      · have HL := Lib.hid (show decide (s.length = s'.length) = true ∧ decide (t.length = t'.length) = true ∧ decide (t.length = s.length) = true from ⟨decide_eq_true e1, decide_eq_true e2, decide_eq_true e3⟩)
        have b1 : ((s.length : Int) != (s'.length : Int)) = false := by simp [e1]
        have b2 : ((t.length : Int) != (t'.length : Int)) = false := by simp [e2]
        have b3 : ((t.length : Int) != (s.length : Int)) = false := by simp [e3]
        have l1 : s.length ≤ s'.length := by omega
        have l2 : s.length ≤ t.length := by omega
        have l3 : s.length ≤ t'.length := by omega
        clear e1 e2 e3 hx1 hx2
        go_enter Tryd.func14, Tryd.ntmps14
        go_wp2
        rw [← hw1]
        clear hw1 y1 y2 y3 y4
        go_loopw [9] (fun i W => ∃ k q : Nat, k ≤ s.length ∧ i = .int .i64 k ∧ W = w1.drewN q ∧ Hid ((List.range k).all (sameAt s s' t t' f m) = true)) (fun i _ => s.length - (intOf i).toNat)
        case atStart => exact ⟨0, 0, Nat.zero_le _, rfl, rfl, Lib.hid rfl⟩
        case round =>
          obtain ⟨k, q, hk, rfl, hW, hh⟩ := hrel
          obtain ⟨y1, y2, y3, y4⟩ : wr.cell? ⟨w.heap.size, 0, none⟩ = some (.slice a1 s.length c1) ∧ wr.cell? ⟨w.heap.size, 1, none⟩ = some (.slice a2 t.length c2) ∧ wr.cell? ⟨w.heap.size + 1, 0, none⟩ = some (.slice a3 s'.length c3) ∧ wr.cell? ⟨w.heap.size + 1, 1, none⟩ = some (.slice a4 t'.length c4) := by rw [hW]; exact Y.out
          have hbq : Below n w1 wr := by rw [hW]; exact below_drewN (Below.refl n w1) q
          have hbw : Below w.heap.size w wr := by rw [hW]; exact below_drewN hb1 q
          have HW := Lib.hid hW
          clear hW
          by_cases hlt : k < s.length
          · obtain ⟨x, b1', o1, hx, rfl, _, g1, _⟩ := (h1.below hbq).at hlt
            obtain ⟨y, b3', o3, hy, rfl, _, g3, _⟩ := (h3.below hbq).at (k := k) (by omega)
            obtain ⟨X, b2', o2, tv, hX, rfl, _, g2, htv⟩ := (h2.below hbq).at (k := k) (by omega)
            obtain ⟨Y', b4', o4, tv', hY, rfl, _, g4, htv'⟩ := (h4.below hbq).at (k := k) (by omega)
            have k1 : (k : Int) < (s.length : Int) := by omega
            have k2 : (k : Int) < (s'.length : Int) := by omega
            have k3 : (k : Int) < (t.length : Int) := by omega
            have k4 : (k : Int) < (t'.length : Int) := by omega
            have hci := fun q => refInts_any (htv.below (below_drewN (Below.refl n wr) q)) (htv'.below (below_drewN (Below.refl n wr) q))
            have HCI := Lib.hid hci
            have hval : ∀ r, sameAt s s' t t' f m k = r ↔ ((decide (f ≤ k) && decide (k < f + m)) || (decide (x = y) && decide (X = Y'))) = r := fun r => by
              unfold sameAt; rw [hx, hy, hX, hY]; simp
            have HV := Lib.hid hval
            clear hx hy hX hY hci hval h1 h2 h3 h4 htv htv' b1 b2 b3
            by_cases hkf : k < f
            · have hkf1 : (k : Int) < (f : Int) := by omega
              by_cases hxy : x = y
              · subst hxy
                by_cases hXY : X = Y'
                · have hci2 : ∀ q, Calls Tryd.prog 21 #[tv, tv'] (wr.drewN q) fun e w' => e = .returned (.bool true) ∧ ∃ m, w' = (wr.drewN q).drewN m := fun q => by have := HCI.out q; rwa [decide_eq_true hXY] at this
                  have HC2 := Lib.hid hci2
                  have HN := Lib.hid (range_all_step hh.out ((HV.out true).2 (by simp [hXY])))
                  clear hXY HCI HV hci2 hh Y
                  go_wp2_with fail
                  go_quiet (refine Calls.quiet_of (HC2.out _))
                  go_wp2
                  go_roundw
                  case measure => simp [intOf]; omega
                  case rel => exact ⟨k + 1, _, by omega, by go_num, by rw [HW.out]; exact World.drewN_drewN _ _ _, HN⟩
                · have hci2 : ∀ q, Calls Tryd.prog 21 #[tv, tv'] (wr.drewN q) fun e w' => e = .returned (.bool false) ∧ ∃ m, w' = (wr.drewN q).drewN m := fun q => by have := HCI.out q; rwa [decide_eq_false hXY] at this
                  have HC2 := Lib.hid hci2
                  have HN := Lib.hid (range_all_fail hlt ((HV.out false).2 (by simp [hXY]; omega)))
                  clear hXY HCI HV hci2 hh Y
                  go_wp2_with fail
                  go_quiet (refine Calls.quiet_of (HC2.out _))
                  go_wp2
                  go_ret
                  exact ⟨ret_bool (by rw [othersP, HL.out.1, HL.out.2.1, HL.out.2.2, HN.out]; rfl), below_drewN hbw _⟩
              · have HN := Lib.hid (range_all_fail hlt ((HV.out false).2 (by simp [hxy]; omega)))
                have hxy' : (x != y) = true := by simp [hxy]
                clear hxy HCI HV hh Y
                go_wp2_with fail
                go_quiet (fail)
                go_wp2
                go_ret
                exact ⟨ret_bool (by rw [othersP, HL.out.1, HL.out.2.1, HL.out.2.2, HN.out]; rfl), below_drewN hbw _⟩
            · have hkf1 : ¬ (k : Int) < (f : Int) := by omega
              by_cases hkm : k < f + m
              · have hkm1 : ¬ (f : Int) + (m : Int) ≤ (k : Int) := by omega
                have hkm2 : decide ((f : Int) + (m : Int) ≤ (k : Int)) = false := decide_eq_false hkm1
                have hkm3 : decide (f + m ≤ k) = false := decide_eq_false (by omega)
                have hkm4 : ¬ f + m ≤ k := by omega
                have HN := Lib.hid (range_all_step hh.out ((HV.out true).2 (by simp [hkm]; omega)))
                clear HCI HV hh Y
                go_wp2_with fail
                go_quiet (fail)
                go_wp2
                go_roundw
                case measure => simp [intOf]; omega
                case rel => exact ⟨k + 1, _, by omega, by go_num, by rw [HW.out]; exact World.drewN_drewN _ _ _, HN⟩
              · have hkm1 : (f : Int) + (m : Int) ≤ (k : Int) := by omega
                by_cases hxy : x = y
                · subst hxy
                  by_cases hXY : X = Y'
                  · have hci2 : ∀ q, Calls Tryd.prog 21 #[tv, tv'] (wr.drewN q) fun e w' => e = .returned (.bool true) ∧ ∃ m, w' = (wr.drewN q).drewN m := fun q => by have := HCI.out q; rwa [decide_eq_true hXY] at this
                    have HC2 := Lib.hid hci2
                    have HN := Lib.hid (range_all_step hh.out ((HV.out true).2 (by simp [hXY])))
                    clear hXY HCI HV hci2 hh Y
                    go_wp2_with fail
                    go_quiet (refine Calls.quiet_of (HC2.out _))
                    go_wp2
                    go_roundw
                    case measure => simp [intOf]; omega
                    case rel => exact ⟨k + 1, _, by omega, by go_num, by rw [HW.out]; exact World.drewN_drewN _ _ _, HN⟩
                  · have hci2 : ∀ q, Calls Tryd.prog 21 #[tv, tv'] (wr.drewN q) fun e w' => e = .returned (.bool false) ∧ ∃ m, w' = (wr.drewN q).drewN m := fun q => by have := HCI.out q; rwa [decide_eq_false hXY] at this
                    have HC2 := Lib.hid hci2
                    have HN := Lib.hid (range_all_fail hlt ((HV.out false).2 (by simp [hXY]; omega)))
                    clear hXY HCI HV hci2 hh Y
                    go_wp2_with fail
                    go_quiet (refine Calls.quiet_of (HC2.out _))
                    go_wp2
                    go_ret
                    exact ⟨ret_bool (by rw [othersP, HL.out.1, HL.out.2.1, HL.out.2.2, HN.out]; rfl), below_drewN hbw _⟩
                · have HN := Lib.hid (range_all_fail hlt ((HV.out false).2 (by simp [hxy]; omega)))
                  have hxy' : (x != y) = true := by simp [hxy]
                  clear hxy HCI HV hh Y
                  go_wp2_with fail
                  go_quiet (fail)
                  go_wp2
                  go_ret
                  exact ⟨ret_bool (by rw [othersP, HL.out.1, HL.out.2.1, HL.out.2.2, HN.out]; rfl), below_drewN hbw _⟩
          · obtain rfl : k = s.length := by omega
            have HF := hh
            clear h1 h2 h3 h4
            go_wp2
            go_ret
            exact ⟨ret_bool (by rw [othersP, HL.out.1, HL.out.2.1, HL.out.2.2, HF.out]; rfl), hbw⟩
      · have HL := Lib.hid (decide_eq_false e3)
        have b1 : ((s.length : Int) != (s'.length : Int)) = false := by simp [e1]
        have b2 : ((t.length : Int) != (t'.length : Int)) = false := by simp [e2]
        have b3 : ((t.length : Int) != (s.length : Int)) = true := by simp; omega
        clear e1 e2 e3
        clear hx1 hx2 h1 h2 h3 h4 Y
        go_enter Tryd.func14, Tryd.ntmps14
        go_wp2
        rw [← hw1]
        go_ret
        exact ⟨ret_bool (by rw [othersP, HL.out]; simp), hb1⟩
    · have HL := Lib.hid (decide_eq_false e2)
      have b1 : ((s.length : Int) != (s'.length : Int)) = false := by simp [e1]
      have b2 : ((t.length : Int) != (t'.length : Int)) = true := by simp; omega
      clear e1 e2
      clear hx1 hx2 h1 h2 h3 h4 Y
      go_enter Tryd.func14, Tryd.ntmps14
      go_wp2
      rw [← hw1]
      go_ret
      exact ⟨ret_bool (by rw [othersP, HL.out]; simp), hb1⟩
  · have HL := Lib.hid (decide_eq_false e1)
    have b1 : ((s.length : Int) != (s'.length : Int)) = true := by simp; omega
    clear e1
    clear hx1 hx2 h1 h2 h3 h4 Y
    go_enter Tryd.func14, Tryd.ntmps14
    go_wp2
    rw [← hw1]
    go_ret
    exact ⟨ret_bool (by rw [othersP, HL.out]; simp), hb1⟩

end Go.Proofs.YtihmgiifphheeaaDoor
