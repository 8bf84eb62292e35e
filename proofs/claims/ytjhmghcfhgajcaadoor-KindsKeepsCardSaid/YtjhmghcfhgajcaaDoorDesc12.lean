/- Contract of desc.number. -/
import Derived.Test.YtjhmghcfhgajcaaDoorDesc11
import Derived.Lib.OthersKept
import Derived.Laws.RangeAny
import Derived.Deep.QuietTactic
import Derived.BigQuiet
namespace Go.Sel
open Go Go.RowKit
theorem rune_low {s : ByteArray} {pos : Nat} (h : pos < s.size) (ha : (s[pos]'h).toNat < 128) : Utf8.decode s pos = ((s[pos]'h).toNat, 1) := decode_ascii s pos h ha
theorem rune_high {s : ByteArray} {pos : Nat} (h : pos < s.size) (ha : ¬ (s[pos]'h).toNat < 128) : 128 ≤ (Utf8.decode s pos).1 := by
  have e : s.get! (pos + 0) = s[pos]'h := by
    show s.get! pos = _
    simp [ByteArray.get!, getElem!_pos, h]
    rfl
  simp only [Utf8.decode, e, ha, if_false]
  have hr : 128 ≤ Utf8.runeError := by decide
  split
  · split
    · rename_i h2; exact h2
    · exact hr
  · split
    · split
      · rename_i h2; simp only [Bool.and_eq_true, decide_eq_true_eq] at h2; exact Nat.le_trans (by decide) h2.1
      · exact hr
    · split
      · split
        · rename_i h2; simp only [Bool.and_eq_true, decide_eq_true_eq] at h2; exact Nat.le_trans (by decide) h2.1
        · exact hr
      · exact hr
theorem bytes_at {s : ByteArray} {pos : Nat} (h : pos < s.size) : s.data.toList.drop pos = (s[pos]'h) :: s.data.toList.drop (pos + 1) := by
  rw [List.drop_eq_getElem_cons (by simpa using h)]
  rfl
theorem iterPos_at {w : World} {k : Nat} {s : ByteArray} {p : Nat} (h : w.heap[k]? = some (.stringIter s p)) : w.iterPos k = p := by simp [World.iterPos, h]
end Go.Sel
namespace Go.Proofs.YtjhmghcfhgajcaaDoor
open Go.RowKit Go.Sel

set_option maxHeartbeats 2000000 in
theorem number_any (s : ByteArray) (w : World) :
    Calls Tryd.prog 61 #[.string s] w fun e w' => e = .returned (.tuple #[.int .i64 (numberL s.data.toList).1, .bool (numberL s.data.toList).2]) ∧ Below w.heap.size w w' := by
  go_enter Tryd.func61, Tryd.ntmps61
  go_wp2
  go_loopw [4, 6] (fun nv _ wr => ∃ (pos : Nat) (n : Int), nv = .int .i64 n ∧ wr.heap[w.heap.size]? = some (.stringIter s pos) ∧ pos ≤ s.size ∧ Below w.heap.size w wr ∧ 0 ≤ n ∧ n ≤ 1310729 ∧ Hid (numberF 0 s.data.toList = numberF n (s.data.toList.drop pos))) (fun _ _ wr => s.size - wr.iterPos w.heap.size)
  case atStart => exact ⟨0, 0, rfl, World.iter_heap w s 0, Nat.zero_le _, (Below.refl _ _).alloc (Nat.le_refl _) _, by omega, by omega, Lib.hid rfl⟩
  case round =>
    obtain ⟨pos, n, rfl, hit, hps, hbw, n0, n1, HS⟩ := hrel
    have hpos0 := iterPos_at hit
    by_cases hp : pos < s.size
    · have hnx : ∀ ty, (Instr.next (.pointer (some ⟨w.heap.size, 0, none⟩)) true ty).run Tryd.prog wr = _ := fun ty => Lib.run_next_any_at wr w.heap.size s pos ty hit hp
      have hit2 := Lib.iterAt_heap wr w.heap.size s pos (pos + (Utf8.decode s pos).2) hit
      have hbw2 := Lib.below_iterAt hbw (k := w.heap.size) (Nat.le_refl _) s (pos + (Utf8.decode s pos).2)
      obtain ⟨W1, hW1⟩ : ∃ W1, W1 = wr.iterAt w.heap.size s (pos + (Utf8.decode s pos).2) := ⟨_, rfl⟩
      rw [← hW1] at hnx hit2 hbw2
      have hstep : numberF n (s.data.toList.drop pos) = if (s[pos]'hp) < 48 ∨ 57 < (s[pos]'hp) ∨ 131072 < n then none else numberF (n * 10 + (((s[pos]'hp).toNat : Int) - 48)) (s.data.toList.drop (pos + 1)) := by rw [bytes_at hp, numberF]
      have hbad : ((s[pos]'hp).toNat < 48 ∨ 57 < (s[pos]'hp).toNat ∨ 131072 < n) → numberL s.data.toList = (0, false) := fun hq => by
        unfold numberL
        rw [HS.out, hstep, if_pos (by
          rcases hq with hq | hq | hq
          · exact .inl (UInt8.lt_iff_toNat_lt.2 (by simpa using hq))
          · exact .inr (.inl (UInt8.lt_iff_toNat_lt.2 (by simpa using hq)))
          · exact .inr (.inr hq))]
      have hgood : (¬ (s[pos]'hp).toNat < 48 ∧ ¬ 57 < (s[pos]'hp).toNat ∧ ¬ 131072 < n) → numberF 0 s.data.toList = numberF (n * 10 + (((s[pos]'hp).toNat : Int) - 48)) (s.data.toList.drop (pos + 1)) := fun hq => by
        rw [HS.out, hstep, if_neg]
        rintro (h | h | h)
        · exact hq.1 (by simpa using UInt8.lt_iff_toNat_lt.1 h)
        · exact hq.2.1 (by simpa using UInt8.lt_iff_toNat_lt.1 h)
        · exact hq.2.2 h
      have hdl := fun h => rune_low (s := s) hp h
      have hdh := fun h => rune_high (s := s) hp h
      generalize (s[pos]'hp).toNat = b at *
      by_cases hb : b < 128
      · rw [hdl hb] at hnx hit2
        by_cases b1 : b < 48
        · have HF := Lib.hid (hbad (.inl b1))
          have b1' : (b : Int) < 48 := by omega
          clear hdl hdh hbad hgood hstep hit hbw hW1 HS hb
          go_wp2
          refine bodyPost_ret (v := .tuple #[.int .i64 0, .bool false]) ?_ rfl ⟨by rw [HF.out], hbw2⟩
          simp [results, Tryd.results61, go_sem]
        · by_cases b2 : 57 < b
          · have HF := Lib.hid (hbad (.inr (.inl b2)))
            have b1' : ¬ (b : Int) < 48 := by omega
            have b2' : (57 : Int) < (b : Int) := by omega
            clear hdl hdh hbad hgood hstep hit hbw hW1 HS hb
            go_wp2
            refine bodyPost_ret (v := .tuple #[.int .i64 0, .bool false]) ?_ rfl ⟨by rw [HF.out], hbw2⟩
            simp [results, Tryd.results61, go_sem]
          · have b1' : ¬ (b : Int) < 48 := by omega
            have b2' : ¬ (57 : Int) < (b : Int) := by omega
            by_cases b3 : 131072 < n
            · have HF := Lib.hid (hbad (.inr (.inr b3)))
              clear hdl hdh hbad hgood hstep hit hbw hW1 HS hb
              go_wp2
              refine bodyPost_ret (v := .tuple #[.int .i64 0, .bool false]) ?_ rfl ⟨by rw [HF.out], hbw2⟩
              simp [results, Tryd.results61, go_sem]
            · have HN := Lib.hid (hgood ⟨b1, b2, b3⟩)
              have k1 : IntKind.i64.wrap (n * 10) = n * 10 := IntWalk.i64_in _ (by omega)
              have k2 : IntKind.i32.wrap ((b : Int) - 48) = (b : Int) - 48 := by unfold IntKind.wrap; simp [IntKind.bits, IntKind.signed]; omega
              have k3 : IntKind.i64.wrap ((b : Int) - 48) = (b : Int) - 48 := IntWalk.i64_in _ (by omega)
              have k4 : IntKind.i64.wrap (n * 10 + ((b : Int) - 48)) = n * 10 + ((b : Int) - 48) := IntWalk.i64_in _ (by omega)
              clear hdl hdh hbad hgood hstep hit hbw hW1 HS hb
              go_wp2
              go_roundw
              case rel => exact ⟨pos + 1, _, rfl, hit2, by omega, hbw2, by omega, by omega, HN⟩
              case measure => rw [iterPos_at hit2, hpos0]; omega
      · have hdh' := hdh hb
        have HF := Lib.hid (hbad (.inr (.inl (by omega))))
        obtain ⟨r, hr⟩ : ∃ r, r = (Utf8.decode s pos).1 := ⟨_, rfl⟩
        rw [← hr] at hnx hdh'
        have b1' : ¬ (r : Int) < 48 := by omega
        have b2' : (57 : Int) < (r : Int) := by omega
        clear hdl hdh hbad hgood hstep hit hbw hW1 HS hb hr
        go_wp2
        refine bodyPost_ret (v := .tuple #[.int .i64 0, .bool false]) ?_ rfl ⟨by rw [HF.out], hbw2⟩
        simp [results, Tryd.results61, go_sem]
    · have hnx : ∀ ty, (Instr.next (.pointer (some ⟨w.heap.size, 0, none⟩)) true ty).run Tryd.prog wr = _ := fun ty => Lib.run_next_end_at wr w.heap.size s pos ty hit hp
      have hF : numberF 0 s.data.toList = some n := by rw [HS.out, List.drop_eq_nil_of_le (by simp; omega)]; rfl
      have HF := Lib.hid hF
      clear hF HS hit
      by_cases e1 : s.data.toList = [48]
      · obtain rfl : s = ⟨#[48]⟩ := by
          apply ByteArray.ext
          apply Array.ext'
          exact e1
        clear e1
        go_wp2_with fail
        go_quiet (fail)
        go_wp2
        have hn : n = 0 := by have h1 : numberF 0 [48] = some 0 := rfl
                              have h2 := HF.out; rw [h1] at h2; exact (Option.some.inj h2).symm
        subst hn
        refine bodyPost_ret (v := .tuple #[.int .i64 0, .bool true]) ?_ rfl ⟨rfl, below_drewN hbw nq⟩
        simp [results, Tryd.results61, go_sem]
      · by_cases e2 : s.data.toList = []
        · obtain rfl : s = ⟨#[]⟩ := by
            apply ByteArray.ext
            apply Array.ext'
            exact e2
          clear e1 e2
          go_wp2_with fail
          go_quiet (fail)
          go_wp2
          have hn : n = 0 := by have h1 : numberF 0 [] = some 0 := rfl
                                have h2 := HF.out; rw [h1] at h2; exact (Option.some.inj h2).symm
          subst hn
          refine bodyPost_ret (v := .tuple #[.int .i64 0, .bool false]) ?_ rfl ⟨rfl, below_drewN hbw nq⟩
          simp [results, Tryd.results61, go_sem]
        · have hsz : 0 < s.size := by
            rcases Nat.eq_zero_or_pos s.size with h | h
            · exact absurd (List.eq_nil_of_length_eq_zero (by simpa using h)) e2
            · exact h
          have hq1 : (s.toList == [48]) = false := by rw [beq_eq_false_iff_ne, ByteArray.toList_eq]; exact e1
          have hq2 : (s.toList == []) = false := by rw [beq_eq_false_iff_ne, ByteArray.toList_eq]; exact e2
          have HV := Lib.hid (show numberL s.data.toList = (n, !decide ((s[0]'hsz) = 48)) by
            unfold numberL
            rw [HF.out]
            have hh : s.data.toList.head? = some (s[0]'hsz) := by
              have := bytes_at (pos := 0) hsz
              rw [List.drop_zero] at this
              rw [this]; rfl
            simp only []
            rw [decide_eq_false e1, hh]
            have : s.data.toList.isEmpty = false := by simpa using e2
            rw [this]
            simp)
          clear e1 e2
          go_wp2_with fail
          go_quiet (fail)
          go_wp2
          have hc : ((((s[0]'hsz).toNat : Nat) : Int) != 48) = !decide ((s[0]'hsz) = 48) := by
            by_cases h : (s[0]'hsz) = 48
            · rw [h]; rfl
            · have h2 : (((s[0]'hsz).toNat : Nat) : Int) ≠ 48 := fun q => h (UInt8.toNat_inj.1 (by show (s[0]'hsz).toNat = 48; omega))
              rw [decide_eq_false h, bne_iff_ne.2 h2]; rfl
          refine bodyPost_ret (v := .tuple #[.int .i64 n, .bool ((((s[0]'hsz).toNat : Nat) : Int) != 48)]) ?_ rfl ⟨by rw [HV.out, hc], below_drewN hbw nq⟩
          clear hc
          simp [results, Tryd.results61, go_sem]
end Go.Proofs.YtjhmghcfhgajcaaDoor
