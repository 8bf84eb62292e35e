/- Contract of pool.Right. -/
import Derived.Test.YtihmgiifphheeaaGreatDoorPool1
namespace Go.Sel
open Go Go.RowKit
theorem zip_all_step {α β : Type} {s : List α} {t : List β} {k : Nat} {a : α} {b : β} {p : α × β → Bool} (h : ((s.zip t).take k).all p = true) (ha : s[k]? = some a) (hb : t[k]? = some b) (hp : p (a, b) = true) : ((s.zip t).take (k + 1)).all p = true := by
  rw [take_snoc (x := (a, b)) (by rw [List.getElem?_zip_eq_some]; exact ⟨ha, hb⟩), List.all_append, h]; simp [hp]
theorem zip_all_fail {α β : Type} {s : List α} {t : List β} {k : Nat} {a : α} {b : β} {p : α × β → Bool} (ha : s[k]? = some a) (hb : t[k]? = some b) (hp : p (a, b) = false) : (s.zip t).all p = false := by
  rw [List.all_eq_false]
  exact ⟨(a, b), List.mem_of_getElem? (i := k) (by rw [List.getElem?_zip_eq_some]; exact ⟨ha, hb⟩), by rw [hp]; exact Bool.false_ne_true⟩
end Go.Sel
namespace Go.Proofs.YtihmgiifphheeaaGreatDoor
open Go.RowKit Go.Sel

theorem zeroAsk (w : World) : (zeroValue 60).run Tryz.prog w = .ok .nilFunc w := by kernel_rfl

/-- What pool.Right keeps in its loop. -/
def RightI (B : Nat) (v1 v2 : Value) (w W : World) : Prop := W.heap[B]? = some (.cells #[v1, v2] 25 (0, 0)) ∧ W.heap[B + 1]? = some (.map asksMap 4) ∧ Below B w W
theorem RightI.kept {B : Nat} {v1 v2 : Value} {w W W' : World} (h : RightI B v1 v2 w W) (hb : Below W.heap.size W W') : RightI B v1 v2 w W' := by
  obtain ⟨h1, h2, h3⟩ := h
  have e1 := (Array.getElem?_eq_some_iff.1 h1).1
  have e2 := (Array.getElem?_eq_some_iff.1 h2).1
  exact ⟨(hb.block _ e1).trans h1, (hb.block _ e2).trans h2, h3.trans (hb.mono (by omega))⟩

/-- What the map says at a state. -/
theorem ask_at {B : Nat} {v1 v2 : Value} {w W : World} (h : RightI B v1 v2 w W) (st : Int) :
    ((st = 0 ∨ st = 3 ∨ st = 4) ∧ (Instr.lookup 74 (.map (some (B + 1))) (.int .i64 st) true).run Tryz.prog W = .ok (.tuple #[.func (.func 72) #[] #[], .bool true]) W) ∨
    (st = 1 ∧ (Instr.lookup 74 (.map (some (B + 1))) (.int .i64 st) true).run Tryz.prog W = .ok (.tuple #[.func (.func 74) #[] #[], .bool true]) W) ∨
    (¬ (st = 0 ∨ st = 3 ∨ st = 4) ∧ ¬ st = 1 ∧ (Instr.lookup 74 (.map (some (B + 1))) (.int .i64 st) true).run Tryz.prog W = .ok (.tuple #[.nilFunc, .bool false]) W) := by
  have hm := Tryz.underlying74
  have hk := Tryz.underlying3
  by_cases h0 : st = 0
  · subst h0; exact .inl ⟨.inl rfl, mapGet hm hk h.2.1 (i := 0) rfl⟩
  · by_cases h3 : st = 3
    · subst h3; exact .inl ⟨.inr (.inl rfl), mapGet hm hk h.2.1 (i := 1) rfl⟩
    · by_cases h4 : st = 4
      · subst h4; exact .inl ⟨.inr (.inr rfl), mapGet hm hk h.2.1 (i := 2) rfl⟩
      · by_cases h1 : st = 1
        · subst h1; exact .inr (.inl ⟨rfl, mapGet hm hk h.2.1 (i := 3) rfl⟩)
        · refine .inr (.inr ⟨by omega, h1, mapMiss hm hk h.2.1 ?_ (zeroAsk W)⟩)
          have e0 : (st == 0) = false := by simp [h0]
          have e1 : (st == 1) = false := by simp [h1]
          have e3 : (st == 3) = false := by simp [h3]
          have e4 : (st == 4) = false := by simp [h4]
          simp [asksMap, Instr.findNow, Instr.sameNow, e0, e1, e3, e4]

set_option maxHeartbeats 4000000 in
theorem poolRight_any {n : Nat} {v : Value} {s : List Int} {t : List (List Int)} {w : World} (h : IsPool n w v s t) (hn : n ≤ w.heap.size) :
    Calls Tryz.prog 29 #[v] w fun e w' => e = .returned (.bool (rightP s t)) ∧ Below w.heap.size w w' := by
  obtain ⟨v1, v2, rfl, hs, ht⟩ := h
  obtain ⟨a1, c1, rfl, hc1⟩ := hs.open
  obtain ⟨a2, c2, rfl, hc2⟩ := ht.open
  have hl1 := hs.len
  have hl2 := ht.len
  unfold big at hl1 hl2
  obtain ⟨w1, hw1⟩ : ∃ w1, w1 = w.alloc (.cells #[.slice a1 s.length c1, .slice a2 t.length c2] 25) := ⟨_, rfl⟩
  have hb1 : Below w.heap.size w w1 := by rw [hw1]; exact (Below.refl _ w).alloc (Nat.le_refl _) _
  have hs1 : w1.heap.size = w.heap.size + 1 := by rw [hw1]; simp
  have hx1 : w1.heap[w.heap.size]? = some (.cells #[.slice a1 s.length c1, .slice a2 t.length c2] 25 (0, 0)) := by rw [hw1]; exact World.alloc_heap_new _ _
  have hA := asks_any w1
  have e1 : ∀ args w, (callFunc 72 args).run Tryz.prog w = .ok (.enter 72 args) w := enters_of Tryz.func72 (by kernel_rfl) rfl
  have e2 : ∀ args w, (callFunc 74 args).run Tryz.prog w = .ok (.enter 74 args) w := enters_of Tryz.func74 (by kernel_rfl) rfl
  go_enter Tryz.func29, Tryz.ntmps29
  go_wp2_with fail
  rw [← hw1]
  refine hA.mono ?_
  rintro e w2 ⟨rfl, hmap, hb2⟩
  rw [hs1] at hmap ⊢
  have hx2 := (hb2.block _ (by omega)).trans hx1
  have hb02 : Below w.heap.size w w2 := hb1.trans (hb2.mono (by omega))
  have HI := Lib.hid (show RightI w.heap.size (.slice a1 s.length c1) (.slice a2 t.length c2) w w2 from ⟨hx2, hmap, hb02⟩)
  obtain ⟨y1, y2⟩ := pair_cells hx2
  have hW := whole_any (hs.below (hb02.mono hn))
  clear hA hx1 hw1 hmap hx2
  cases hw : wholeL s with
  | false =>
    rw [hw] at hW
    have HW := Lib.hid hw
    clear hw hs ht
    go_wp2_with fail
    refine hW.mono ?_
    rintro e w3 ⟨rfl, he⟩
    obtain rfl := he.symm
    go_wp2
    go_ret
    exact ⟨ret_bool (by rw [rightP, HW.out]; rfl), hb02⟩
  | true =>
    rw [hw] at hW
    have HW := Lib.hid hw
    clear hw
    by_cases hlen : t.length = s.length
    · have HL := Lib.hid (decide_eq_true hlen)
      have g1 : ((t.length : Int) != (s.length : Int)) = false := by rw [hlen]; simp
      have hle1 : t.length ≤ s.length := by omega
      have hle2 : s.length ≤ t.length := by omega
      clear hlen
      go_wp2_with fail
      refine hW.mono ?_
      rintro e w3 ⟨rfl, he⟩
      obtain rfl := he.symm
      clear hW
      go_wp2
      go_loopw [25] (fun i W => ∃ k : Nat, k ≤ t.length ∧ i = .int .i64 k ∧ Hid (RightI w.heap.size (.slice a1 s.length c1) (.slice a2 t.length c2) w W ∧ ((s.zip t).take k).all (fun p => rightT p.2 && askP p.1 p.2) = true)) (fun i _ => t.length - (intOf i).toNat)
      case atStart => exact ⟨0, Nat.zero_le _, rfl, HI.out, rfl⟩
      case round =>
        obtain ⟨k, hk, rfl, hh⟩ := hrel
        clear y1 y2 HI
        obtain ⟨q1, q2⟩ := hh.out
        obtain ⟨y1, y2⟩ := pair_cells q1.1
        by_cases hlt : k < t.length
        · obtain ⟨x, b2, o2, tv, hx, rfl, _, gt, htv⟩ := (ht.below (q1.2.2.mono hn)).at hlt
          obtain ⟨st, b1, o1, hst, rfl, _, gs, hst64⟩ := (hs.below (q1.2.2.mono hn)).at (k := k) (by omega)
          have hkk : (k : Int) < (s.length : Int) := by omega
          have hR := marksRight_any htv
          have hsz := q1.2.2.size
          cases hr : rightT x with
          | false =>
            rw [hr] at hR
            have HF := Lib.hid (zip_all_fail (p := fun p => rightT p.2 && askP p.1 p.2) hst hx (by simp [hr]))
            have HB := Lib.hid q1.2.2
            rcases ask_at q1 st with ⟨-, hl⟩ | ⟨-, hl⟩ | ⟨-, -, hl⟩
            all_goals
              clear q1 q2 hx hst hr hs ht
              go_wp2_with fail
              refine hR.mono ?_
              rintro e w3 ⟨rfl, he⟩
              obtain rfl := he.symm
              go_wp2
              go_ret
              exact ⟨ret_bool (by rw [rightP, HW.out, HL.out, HF.out]; rfl), HB.out⟩
          | true =>
            rw [hr] at hR
            rcases ask_at q1 st with ⟨hq, hl⟩ | ⟨hq, hl⟩ | ⟨hq, hq1, hl⟩
            · have hA := ask1_any htv (Nat.le_trans hn hsz)
              have HQ := Lib.hid q1
              by_cases hz : x = List.replicate 32 0
              · rw [decide_eq_true hz] at hA
                have HN := Lib.hid (zip_all_step (p := fun p => rightT p.2 && askP p.1 p.2) q2 hst hx (by simp [hr, askP, if_pos hq]; exact hz))
                clear q1 q2 hx hst hr hs ht hz htv
                go_wp2_with fail
                refine hR.mono ?_
                rintro e w3 ⟨rfl, he⟩
                obtain rfl := he.symm
                go_wp2_with fail
                refine hA.mono ?_
                rintro e w4 ⟨rfl, hb4⟩
                clear hl y1 y2 gt gs hR hA hh
                go_wp2
                go_roundw
                case rel => exact ⟨k + 1, by omega, by go_num, HQ.out.kept hb4, HN.out⟩
                case measure => simp [intOf]; omega
              · rw [decide_eq_false hz] at hA
                have HF := Lib.hid (zip_all_fail (p := fun p => rightT p.2 && askP p.1 p.2) hst hx (by simp [hr, askP, if_pos hq]; exact hz))
                clear q1 q2 hx hst hr hs ht hz htv
                go_wp2_with fail
                refine hR.mono ?_
                rintro e w3 ⟨rfl, he⟩
                obtain rfl := he.symm
                go_wp2_with fail
                refine hA.mono ?_
                rintro e w4 ⟨rfl, hb4⟩
                clear hl y1 y2 gt gs hR hA hh
                go_wp2
                go_ret
                exact ⟨ret_bool (by rw [rightP, HW.out, HL.out, HF.out]; rfl), (HQ.out.kept hb4).2.2⟩
            · have hA := ask2_any htv (Nat.le_trans hn hsz)
              have HQ := Lib.hid q1
              have hnq : ¬ (st = 0 ∨ st = 3 ∨ st = 4) := by omega
              cases hz : (decide (0 < roomL x) && decide (0 < countL x)) with
              | true =>
                rw [hz] at hA
                have HN := Lib.hid (zip_all_step (p := fun p => rightT p.2 && askP p.1 p.2) q2 hst hx (by simp only [hr, askP, if_neg hnq, if_pos hq, hz]; rfl))
                clear hq hnq q1 q2 hx hst hr hs ht hz htv
                go_wp2_with fail
                refine hR.mono ?_
                rintro e w3 ⟨rfl, he⟩
                obtain rfl := he.symm
                go_wp2_with fail
                refine hA.mono ?_
                rintro e w4 ⟨rfl, hb4⟩
                clear hl y1 y2 gt gs hR hA hh
                go_wp2
                go_roundw
                case rel => exact ⟨k + 1, by omega, by go_num, HQ.out.kept hb4, HN.out⟩
                case measure => simp [intOf]; omega
              | false =>
                rw [hz] at hA
                have HF := Lib.hid (zip_all_fail (p := fun p => rightT p.2 && askP p.1 p.2) hst hx (by simp only [hr, askP, if_neg hnq, if_pos hq, hz]; rfl))
                clear hq hnq q1 q2 hx hst hr hs ht hz htv
                go_wp2_with fail
                refine hR.mono ?_
                rintro e w3 ⟨rfl, he⟩
                obtain rfl := he.symm
                go_wp2_with fail
                refine hA.mono ?_
                rintro e w4 ⟨rfl, hb4⟩
                clear hl y1 y2 gt gs hR hA hh
                go_wp2
                go_ret
                exact ⟨ret_bool (by rw [rightP, HW.out, HL.out, HF.out]; rfl), (HQ.out.kept hb4).2.2⟩
            · have HN := Lib.hid (zip_all_step (p := fun p => rightT p.2 && askP p.1 p.2) q2 hst hx (by simp only [hr, askP, if_neg hq, if_neg hq1]; rfl))
              have HQ := Lib.hid q1
              clear q1 q2 hx hst hr hs ht htv
              go_wp2_with fail
              refine hR.mono ?_
              rintro e w3 ⟨rfl, he⟩
              obtain rfl := he.symm
              go_wp2
              go_roundw
              case rel => exact ⟨k + 1, by omega, by go_num, HQ.out, HN.out⟩
              case measure => simp [intOf]; omega
        · have HN := Lib.hid (show (s.zip t).all (fun p => rightT p.2 && askP p.1 p.2) = true by rw [← q2, List.take_of_length_le]; rw [List.length_zip]; omega)
          have HB := Lib.hid q1.2.2
          clear q1 q2 hh hs ht
          go_wp2
          go_ret
          exact ⟨ret_bool (by rw [rightP, HW.out, HL.out, HN.out]; rfl), HB.out⟩
    · have HL := Lib.hid (decide_eq_false hlen)
      have g1 : ((t.length : Int) != (s.length : Int)) = true := by simp; omega
      clear hlen hs ht
      go_wp2_with fail
      refine hW.mono ?_
      rintro e w3 ⟨rfl, he⟩
      obtain rfl := he.symm
      go_wp2
      go_ret
      exact ⟨ret_bool (by rw [rightP, HW.out, HL.out]; rfl), hb02⟩

end Go.Proofs.YtihmgiifphheeaaGreatDoor
