/- Contracts of selionref10.Right, Counts, Same. -/
import Derived.Test.YtihmgiifphheeaaGreatDoorRef1
import Derived.Test.YtihmgiifphheeaaGreatDoorViews
namespace Go.Proofs.YtihmgiifphheeaaGreatDoor
open Go.RowKit Go.Sel

def RefRightI (B : Nat) (v1 v2 : Value) (w W : World) : Prop := W.heap[B]? = some (.cells #[v1, v2] 25 (0, 0)) ∧ Below B w W
theorem RefRightI.kept {B : Nat} {v1 v2 : Value} {w W W' : World} (h : RefRightI B v1 v2 w W) (hb : Below W.heap.size W W') : RefRightI B v1 v2 w W' := by
  obtain ⟨h1, h3⟩ := h
  have e1 := (Array.getElem?_eq_some_iff.1 h1).1
  exact ⟨(hb.block _ e1).trans h1, h3.trans (hb.mono (by omega))⟩

set_option maxRecDepth 10000 in
set_option maxHeartbeats 4000000 in
theorem ref10Right_any {n : Nat} {v : Value} {s : List Int} {t : List (List Int)} {w : World} (h : IsPool n w v s t) (hn : n ≤ w.heap.size) :
    Calls Tryz.prog 32 #[v] w fun e w' => e = .returned (.bool (rightP s t)) ∧ Below w.heap.size w w' := by
  obtain ⟨v1, v2, rfl, hs, ht⟩ := h
  obtain ⟨a1, c1, rfl, hc1⟩ := hs.open
  obtain ⟨a2, c2, rfl, hc2⟩ := ht.open
  have hl1 := hs.len
  have hl2 := ht.len
  unfold big at hl1 hl2
  obtain ⟨w1, hw1⟩ : ∃ w1, w1 = w.alloc (.cells #[.slice a1 s.length c1, .slice a2 t.length c2] 25) := ⟨_, rfl⟩
  have hb1 : Below w.heap.size w w1 := by rw [hw1]; exact (Below.refl _ w).alloc (Nat.le_refl _) _
  have hx1 : w1.heap[w.heap.size]? = some (.cells #[.slice a1 s.length c1, .slice a2 t.length c2] 25 (0, 0)) := by rw [hw1]; exact World.alloc_heap_new _ _
  have hW := ref09Whole_any (hs.below (hb1.mono hn))
  have HI := Lib.hid (show RefRightI w.heap.size (.slice a1 s.length c1) (.slice a2 t.length c2) w w1 from ⟨hx1, hb1⟩)
  obtain ⟨y1, y2⟩ := pair_cells hx1
  have z1 := y1
  have z2 := y2
  rw [hw1] at z1 z2
  go_enter Tryz.func32, Tryz.ntmps32
  go_wp2_with fail
  rw [← hw1]
  clear hw1 z1 z2 hx1
  cases hw : wholeL s with
  | false =>
    rw [hw] at hW
    have HW := Lib.hid hw
    clear hw hs ht
    refine hW.mono ?_
    rintro e w3 ⟨rfl, he⟩
    obtain rfl := he.symm
    clear hW
    go_wp2
    go_ret
    exact ⟨ret_bool (by rw [rightP, HW.out]; rfl), hb1⟩
  | true =>
    rw [hw] at hW
    have HW := Lib.hid hw
    clear hw
    refine hW.mono ?_
    rintro e w3 ⟨rfl, he⟩
    obtain rfl := he.symm
    clear hW
    by_cases hlen : t.length = s.length
    · have HL := Lib.hid (decide_eq_true hlen)
      have g1 : ((t.length : Int) != (s.length : Int)) = false := by rw [hlen]; simp
      have hle1 : t.length ≤ s.length := by omega
      have hle2 : s.length ≤ t.length := by omega
      clear hlen
      go_wp2
      go_loopw [3, 4] (fun i _ W => ∃ k : Nat, k ≤ s.length ∧ i = .int .i64 k ∧ Hid (RefRightI w.heap.size (.slice a1 s.length c1) (.slice a2 t.length c2) w W ∧ ((s.zip t).take k).all (fun p => rightT p.2 && askP p.1 p.2) = true)) (fun i _ _ => s.length - (intOf i).toNat)
      case atStart => exact ⟨0, Nat.zero_le _, rfl, HI.out, rfl⟩
      case round =>
        obtain ⟨k, hk, rfl, hh⟩ := hrel
        clear y1 y2 HI
        obtain ⟨q1, q2⟩ := hh.out
        obtain ⟨y1, y2⟩ := pair_cells q1.1
        by_cases hlt : k < s.length
        · obtain ⟨x, b2, o2, tv, hx, rfl, _, gt, htv⟩ := (ht.below (q1.2.mono hn)).at (k := k) (by omega)
          obtain ⟨st, b1, o1, hst, rfl, _, gs, hst64⟩ := (hs.below (q1.2.mono hn)).at hlt
          have hkk : (k : Int) < (t.length : Int) := by omega
          have hR := ref07Right_any htv
          have hsz := q1.2.size
          cases hr : rightT x with
          | false =>
            rw [hr] at hR
            have HF := Lib.hid (zip_all_fail (p := fun p => rightT p.2 && askP p.1 p.2) hst hx (by simp [hr]))
            have HB := Lib.hid q1.2
            clear q1 q2 hx hst hr hs ht
            go_wp2_with fail
            refine hR.mono ?_
            rintro e w3 ⟨rfl, he⟩
            obtain rfl := he.symm
            clear hR
            go_wp2
            go_ret
            exact ⟨ret_bool (by rw [rightP, HW.out, HL.out, HF.out]; rfl), HB.out⟩
          | true =>
            rw [hr] at hR
            have HQ := Lib.hid q1
            by_cases hq : st = 0 ∨ st = 3 ∨ st = 4
            · have hZ := ref10zero_any htv (Nat.le_trans hn hsz)
              cases hz : decide (x = List.replicate 32 0) with
              | true =>
                rw [hz] at hZ
                have HN := Lib.hid (zip_all_step (p := fun p => rightT p.2 && askP p.1 p.2) q2 hst hx (by simp only [hr, askP, if_pos hq, hz]; rfl))
                clear q1 q2 hx hst hr hs ht hz htv hh
                rcases hq with rfl | rfl | rfl
                all_goals
                  go_wp2_with fail
                  refine hR.mono ?_
                  rintro e w3 ⟨rfl, he⟩
                  obtain rfl := he.symm
                  go_wp2_with fail
                  refine hZ.mono ?_
                  rintro e w4 ⟨rfl, hb4⟩
                  clear y1 y2 gt gs hR hZ
                  go_wp2
                  go_roundw
                  case rel => exact ⟨k + 1, by omega, by go_num, HQ.out.kept hb4, HN.out⟩
                  case measure => simp [intOf]; omega
              | false =>
                rw [hz] at hZ
                have HF := Lib.hid (zip_all_fail (p := fun p => rightT p.2 && askP p.1 p.2) hst hx (by simp only [hr, askP, if_pos hq, hz]; rfl))
                clear q1 q2 hx hst hr hs ht hz htv hh
                rcases hq with rfl | rfl | rfl
                all_goals
                  go_wp2_with fail
                  refine hR.mono ?_
                  rintro e w3 ⟨rfl, he⟩
                  obtain rfl := he.symm
                  go_wp2_with fail
                  refine hZ.mono ?_
                  rintro e w4 ⟨rfl, hb4⟩
                  clear y1 y2 gt gs hR hZ
                  go_wp2
                  go_ret
                  exact ⟨ret_bool (by rw [rightP, HW.out, HL.out, HF.out]; rfl), (HQ.out.kept hb4).2⟩
            · have p0 : (st == 0) = false := by rw [beq_eq_false_iff_ne]; omega
              have p3 : (st == 3) = false := by rw [beq_eq_false_iff_ne]; omega
              have p4 : (st == 4) = false := by rw [beq_eq_false_iff_ne]; omega
              by_cases h1 : st = 1
              · subst h1
                have hC := ref08Room_any htv (Nat.le_trans hn hsz)
                have hro := roomL_le x
                have hco := countL_le x
                by_cases g1 : 0 < roomL x
                · have k1 : ((roomL x : Int) == 0) = false := by rw [beq_eq_false_iff_ne]; omega
                  have hD := fun W (hb : Below wr.heap.size wr W) => ref07Count_any (htv.below (hb.mono (Nat.le_trans hn hsz))) (Nat.le_trans (Nat.le_trans hn hsz) hb.size)
                  have HD := Lib.hid hD
                  by_cases g2 : 0 < countL x
                  · have k2 : ((countL x : Int) == 0) = false := by rw [beq_eq_false_iff_ne]; omega
                    have HN := Lib.hid (zip_all_step (p := fun p => rightT p.2 && askP p.1 p.2) q2 hst hx (by simp only [hr, askP, if_neg hq, if_pos]; simp [g1, g2]))
                    clear q1 q2 hx hst hr hs ht htv hh hD hq p0 p3 p4
                    go_wp2_with fail
                    refine hR.mono ?_
                    rintro e w3 ⟨rfl, he⟩
                    obtain rfl := he.symm
                    clear hR
                    go_wp2_with fail
                    refine hC.mono ?_
                    rintro e w4 ⟨rfl, hb4⟩
                    clear hC
                    go_wp2_with fail
                    refine (HD.out w4 hb4).mono ?_
                    rintro e w5 ⟨rfl, hb5⟩
                    clear y1 y2 gt gs
                    go_wp2
                    go_roundw
                    case rel => exact ⟨k + 1, by omega, by go_num, (HQ.out.kept hb4).kept hb5, HN.out⟩
                    case measure => simp [intOf]; omega
                  · have k2 : ((countL x : Int) == 0) = true := by rw [beq_iff_eq]; omega
                    have HF := Lib.hid (zip_all_fail (p := fun p => rightT p.2 && askP p.1 p.2) hst hx (by simp only [hr, askP, if_neg hq, if_pos]; simp [g2]))
                    clear q1 q2 hx hst hr hs ht htv hh hD hq p0 p3 p4
                    go_wp2_with fail
                    refine hR.mono ?_
                    rintro e w3 ⟨rfl, he⟩
                    obtain rfl := he.symm
                    clear hR
                    go_wp2_with fail
                    refine hC.mono ?_
                    rintro e w4 ⟨rfl, hb4⟩
                    clear hC
                    go_wp2_with fail
                    refine (HD.out w4 hb4).mono ?_
                    rintro e w5 ⟨rfl, hb5⟩
                    clear y1 y2 gt gs
                    go_wp2
                    go_ret
                    exact ⟨ret_bool (by rw [rightP, HW.out, HL.out, HF.out]; rfl), ((HQ.out.kept hb4).kept hb5).2⟩
                · have k1 : ((roomL x : Int) == 0) = true := by rw [beq_iff_eq]; omega
                  have HF := Lib.hid (zip_all_fail (p := fun p => rightT p.2 && askP p.1 p.2) hst hx (by simp only [hr, askP, if_neg hq, if_pos]; simp [g1]))
                  clear q1 q2 hx hst hr hs ht htv hh hq p0 p3 p4
                  go_wp2_with fail
                  refine hR.mono ?_
                  rintro e w3 ⟨rfl, he⟩
                  obtain rfl := he.symm
                  clear hR
                  go_wp2_with fail
                  refine hC.mono ?_
                  rintro e w4 ⟨rfl, hb4⟩
                  clear y1 y2 gt gs hC
                  go_wp2
                  go_ret
                  exact ⟨ret_bool (by rw [rightP, HW.out, HL.out, HF.out]; rfl), (HQ.out.kept hb4).2⟩
              · have p1 : (st == 1) = false := by rw [beq_eq_false_iff_ne]; omega
                have HN := Lib.hid (zip_all_step (p := fun p => rightT p.2 && askP p.1 p.2) q2 hst hx (by simp only [hr, askP, if_neg hq, if_neg h1]; rfl))
                clear q1 q2 hx hst hr hs ht htv hh
                go_wp2_with fail
                refine hR.mono ?_
                rintro e w3 ⟨rfl, he⟩
                obtain rfl := he.symm
                clear hR
                go_wp2
                go_roundw
                case rel => exact ⟨k + 1, by omega, by go_num, HQ.out, HN.out⟩
                case measure => simp [intOf]; omega
        · have HN := Lib.hid (show (s.zip t).all (fun p => rightT p.2 && askP p.1 p.2) = true by rw [← q2, List.take_of_length_le]; rw [List.length_zip]; omega)
          have HB := Lib.hid q1.2
          clear q1 q2 hh hs ht
          go_wp2
          go_ret
          exact ⟨ret_bool (by rw [rightP, HW.out, HL.out, HN.out]; rfl), HB.out⟩
    · have HL := Lib.hid (decide_eq_false hlen)
      have g1 : ((t.length : Int) != (s.length : Int)) = true := by simp; omega
      clear hlen hs ht
      go_wp2
      go_ret
      exact ⟨ret_bool (by rw [rightP, HW.out, HL.out]; rfl), hb1⟩

theorem take_step_eq {α : Type} {xs ys : List α} {k : Nat} {x y : α} (h : xs.take k = ys.take k) (hx : xs[k]? = some x) (hy : ys[k]? = some y) (hxy : x = y) : xs.take (k + 1) = ys.take (k + 1) := by
  subst hxy; exact take_same_step h hx hy

set_option maxHeartbeats 2000000 in
theorem ref10Same_any {n : Nat} {v v' : Value} {s s' : List Int} {t t' : List (List Int)} {w : World} (h : IsPool n w v s t) (h' : IsPool n w v' s' t') (hn : n ≤ w.heap.size) :
    Calls Tryz.prog 13 #[v, v'] w fun e w' => e = .returned (.bool (decide (s = s' ∧ t = t'))) ∧ Below w.heap.size w w' := by
  obtain ⟨v1, v2, rfl, h1, h2⟩ := h
  obtain ⟨v3, v4, rfl, h3, h4⟩ := h'
  obtain ⟨a2, c2, rfl, hc2⟩ := h2.open
  obtain ⟨a4, c4, rfl, hc4⟩ := h4.open
  have hl2 := h2.len
  have hl4 := h4.len
  unfold big at hl2 hl4
  obtain ⟨w1, hw1⟩ : ∃ x, x = (w.alloc (Obj.cells #[v1, .slice a2 t.length c2] 25)).alloc (Obj.cells #[v3, .slice a4 t'.length c4] 25) := ⟨_, rfl⟩
  have hb1 : Below w.heap.size w w1 := by rw [hw1]; exact kept_alloc (kept_alloc (Below.refl _ _) _) _
  have hx1 : w1.heap[w.heap.size]? = some (.cells #[v1, .slice a2 t.length c2] 25 (0, 0)) := by rw [hw1]; exact heap_alloc_at (World.alloc_heap_new w _) _
  have hx2 : w1.heap[w.heap.size + 1]? = some (.cells #[v3, .slice a4 t'.length c4] 25 (0, 0)) := by rw [hw1]; have := World.alloc_heap_new (w.alloc (Obj.cells #[v1, .slice a2 t.length c2] 25)) (Obj.cells #[v3, .slice a4 t'.length c4] 25); rwa [World.size_alloc] at this
  have hq := refInts_any (h1.below (hb1.mono hn)) (h3.below (hb1.mono hn))
  obtain ⟨y1, y2⟩ := pair_cells hx1
  obtain ⟨y3, y4⟩ := pair_cells hx2
  have i2 := h2.below (hb1.mono hn)
  have i4 := h4.below (hb1.mono hn)
  have z1 := y1
  have z2 := y3
  have Y := Lib.hid (show w1.cell? ⟨w.heap.size, 0, none⟩ = some v1 ∧ w1.cell? ⟨w.heap.size, 1, none⟩ = some (.slice a2 t.length c2) ∧ w1.cell? ⟨w.heap.size + 1, 0, none⟩ = some v3 ∧ w1.cell? ⟨w.heap.size + 1, 1, none⟩ = some (.slice a4 t'.length c4) from ⟨y1, y2, y3, y4⟩)
  rw [hw1] at z1 z2
  clear h1 h2 h3 h4
  go_enter Tryz.func13, Tryz.ntmps13
  go_wp2_with fail
  rw [← hw1]
  clear hw1 z1 z2
  by_cases hs : s = s'
  · rw [decide_eq_true hs] at hq
    refine hq.mono ?_
    rintro e w' ⟨rfl, q, rfl⟩
    have HS := Lib.hid hs
    clear hs hq
    by_cases hlen : t.length = t'.length
    · have g1 : ((t.length : Int) != (t'.length : Int)) = false := by rw [hlen]; simp
      have hle1 : t.length ≤ t'.length := by omega
      have HL := Lib.hid hlen
      clear hlen
      go_wp2
      go_loopw [5] (fun i W => ∃ k m : Nat, k ≤ t.length ∧ i = .int .i64 k ∧ W = w1.drewN m ∧ Hid (t.take k = t'.take k)) (fun i _ => t.length - (intOf i).toNat)
      case atStart => exact ⟨0, q, Nat.zero_le _, rfl, rfl, Lib.hid rfl⟩
      case round =>
        obtain ⟨k, m, hk, rfl, hW, hh⟩ := hrel
        obtain ⟨y1, y2, y3, y4⟩ : wr.cell? ⟨w.heap.size, 0, none⟩ = some v1 ∧ wr.cell? ⟨w.heap.size, 1, none⟩ = some (.slice a2 t.length c2) ∧ wr.cell? ⟨w.heap.size + 1, 0, none⟩ = some v3 ∧ wr.cell? ⟨w.heap.size + 1, 1, none⟩ = some (.slice a4 t'.length c4) := by rw [hW]; exact Y.out
        have hbq : Below n w1 wr := by rw [hW]; exact below_drewN (Below.refl n w1) m
        have hbw : Below w.heap.size w wr := by rw [hW]; exact below_drewN hb1 m
        have HW := Lib.hid hW
        clear hW
        by_cases hlt : k < t.length
        · obtain ⟨x, b1, o1, t1, hx, rfl, _, g1', ht1⟩ := (i2.below hbq).at hlt
          obtain ⟨y, b2, o2, t2, hy, rfl, _, g2', ht2⟩ := (i4.below hbq).at (k := k) (by omega)
          have hkk : (k : Int) < (t'.length : Int) := by omega
          have HX := Lib.hid hx
          have HY := Lib.hid hy
          have hci := fun q => refInts_any (ht1.below (below_drewN (Below.refl n wr) q)) (ht2.below (below_drewN (Below.refl n wr) q))
          by_cases hxy : x = y
          · have HC2 := Lib.hid (show ∀ q, Calls Tryz.prog 23 #[t1, t2] (wr.drewN q) fun e w' => e = .returned (.bool true) ∧ ∃ z, w' = (wr.drewN q).drewN z from fun q => by have := hci q; rwa [decide_eq_true hxy] at this)
            have HN := Lib.hid (take_step_eq hh.out HX.out HY.out hxy)
            clear hx hy hxy hci ht1 ht2 hh HX HY Y
            go_wp2_with fail
            go_quiet (refine Calls.quiet_of (HC2.out _))
            go_wp2
            go_roundw
            case measure => simp [intOf]; omega
            case rel => exact ⟨k + 1, _, by omega, by go_num, by rw [HW.out]; exact World.drewN_drewN _ _ _, HN⟩
          · have HC2 := Lib.hid (show ∀ q, Calls Tryz.prog 23 #[t1, t2] (wr.drewN q) fun e w' => e = .returned (.bool false) ∧ ∃ z, w' = (wr.drewN q).drewN z from fun q => by have := hci q; rwa [decide_eq_false hxy] at this)
            have HF := Lib.hid (ne_of_at HX.out HY.out hxy)
            clear hx hy hxy hci ht1 ht2 hh HX HY Y
            go_wp2_with fail
            go_quiet (refine Calls.quiet_of (HC2.out _))
            go_wp2
            go_ret
            exact ⟨ret_bool (by have := HF.out; simp [this]), below_drewN hbw _⟩
        · have HF := Lib.hid (same_of_take hh.out hlt HL.out)
          clear i2 i4 hh Y
          go_wp2
          go_ret
          exact ⟨ret_bool (by rw [decide_eq_true ⟨HS.out, HF.out⟩]), hbw⟩
    · have g1 : ((t.length : Int) != (t'.length : Int)) = true := by simp; omega
      have HF := Lib.hid (ne_of_len hlen)
      clear i2 i4 hlen
      go_wp2
      go_ret
      exact ⟨ret_bool (by have := HF.out; simp [this]), below_drewN hb1 q⟩
  · rw [decide_eq_false hs] at hq
    refine hq.mono ?_
    rintro e w' ⟨rfl, q, rfl⟩
    have HS := Lib.hid hs
    clear hs hq i2 i4
    go_wp2
    go_ret
    exact ⟨ret_bool (by have := HS.out; simp [this]), below_drewN hb1 q⟩
end Go.Proofs.YtihmgiifphheeaaGreatDoor
