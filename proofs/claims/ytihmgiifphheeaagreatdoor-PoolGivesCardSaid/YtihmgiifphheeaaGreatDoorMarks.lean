/- Contracts of package marks: kept lines. -/
import Derived.Test.YtihmgiifphheeaaGreatDoorMarksM
import Derived.Test.YtihmgiifphheeaaGreatDoorRun2
import Derived.Test.YtihmgiifphheeaaGreatDoorApp
namespace Go.Proofs.YtihmgiifphheeaaGreatDoor
open Go.RowKit Go.Sel
attribute [local go_sem] Oper.semAt_some

set_option maxHeartbeats 400000 in
theorem isKept_any {n0 Bm : Nat} {v : Value} {t : List Int} {w : World} (h : IsInts n0 w v t) (hm : w.cell? ⟨Bm, 0, none⟩ = some v) (hl : t.length = 32) (i : Nat) (hi : i < 32) :
    Calls Tryz.prog 98 #[.pointer (some ⟨Bm, 0, none⟩), .int .i64 i] w fun e w' => e = .returned (.bool (keptAt t i)) ∧ w' = w := by
  obtain ⟨a1, c1, rfl, hc1⟩ := h.open
  obtain ⟨x, b, o, hx, rfl, _, g1, _⟩ := h.at (k := i) (by omega)
  have hil : (i : Int) < (t.length : Int) := by omega
  have hi0 : (0 : Int) ≤ (i : Int) := by omega
  unfold keptAt
  rw [hx]
  by_cases hx0 : x = 0
  · subst hx0
    by_cases hip : 0 < i
    · obtain ⟨y, b', o', hy, e, _, g2, _⟩ := h.at (k := i - 1) (by omega)
      cases e
      rw [hy, decide_eq_true hip]
      have hi1 : (i : Int) - 1 = ((i - 1 : Nat) : Int) := by omega
      have HI := Lib.hid hi1
      have hj : (0 : Int) ≤ (i : Int) - 1 := by omega
      have hj2 : (i : Int) - 1 < (t.length : Int) := by omega
      have hj3 : ((i : Int) - 1).toNat = i - 1 := by omega
      have hpos : (0 : Int) < (i : Int) := by omega
      clear hx hy h hi1 hl
      by_cases hy2 : y = 2
      · subst hy2
        go_enter Tryz.func98, Tryz.ntmps98
        go_wp2
        go_ret
        exact ⟨rfl, rfl⟩
      · have hy3 : (y == 2) = false := by simpa using hy2
        have HD := Lib.hid (decide_eq_false hy2)
        go_enter Tryz.func98, Tryz.ntmps98
        go_wp2
        go_ret
        exact ⟨by simp only [Option.getD_some]; rw [HD.out]; rfl, rfl⟩
    · have hpos : ¬ (0 : Int) < (i : Int) := by omega
      rw [decide_eq_false hip]
      clear hx h hl
      go_enter Tryz.func98, Tryz.ntmps98
      go_wp2
      go_ret
      exact ⟨rfl, rfl⟩
  · have HD := Lib.hid (decide_eq_false hx0)
    have hx3 : (x != 0) = true := by simpa using hx0
    clear hx h hl
    go_enter Tryz.func98, Tryz.ntmps98
    go_wp2
    go_ret
    exact ⟨by simp only [Option.getD_some]; rw [HD.out]; rfl, rfl⟩

set_option maxHeartbeats 400000 in
theorem keptMaker_any (a : Option Addr) (w : World) : Calls Tryz.prog 94 #[.pointer a] w fun e w' => e = .returned (.func (.func 97) #[] #[.pointer (some ⟨w.heap.size, 0, none⟩)]) ∧ w' = w.alloc (.cells #[.pointer a] 144) := by
  go_enter Tryz.func94, Tryz.ntmps94
  go_wp2
  go_ret
  exact ⟨rfl, rfl⟩

/-- What holds between two rounds of the iterator over kept lines. -/
def KeptInv (n0 B Bm : Nat) (v : Value) (t : List Int) (J : Nat → (Nat → Prop) → World → Prop) (n k : Nat) (T1 : Nat → Prop) (wr : World) : Prop :=
  Boxed wr B 144 (.pointer (some ⟨Bm, 0, none⟩)) ∧ (∃ ty, Boxed wr Bm ty v) ∧ IsInts n0 wr v t ∧ J k T1 wr ∧ (∀ b, T1 b → b < wr.heap.size ∧ ¬ (b < n0 ∨ b = B ∨ b = Bm)) ∧ n0 ≤ wr.heap.size ∧
    (keptL t).drop k = ((List.range 32).drop n).filter (keptAt t) ∧ k ≤ (keptL t).length

section
variable {n0 B Bm : Nat} {v : Value} {t : List Int} {J Jx : Nat → (Nat → Prop) → World → Prop} {n k : Nat} {T1 : Nat → Prop} {wr : World}
theorem KeptInv.miss (h : KeptInv n0 B Bm v t J n k T1 wr) (hn : n < 32) (hk : keptAt t n = false) : KeptInv n0 B Bm v t J (n + 1) k T1 wr := by
  obtain ⟨h1, h2, h3, h4, h5, h6, h7, h8⟩ := h
  exact ⟨h1, h2, h3, h4, h5, h6, filt_miss h7 (range_at hn) hk, h8⟩
theorem KeptInv.next (h : KeptInv n0 B Bm v t J n k T1 wr) (hn : n < 32) (hk : keptAt t n = true) :
    (((keptL t).map encN).map fun x => #[x])[k]? = some #[.int .i64 n] ∧ k < (keptL t).length ∧
    ∀ (T2 : Nat → Prop) (W' : World), (∀ b, T2 b → T1 b ∨ (wr.heap.size ≤ b ∧ b < W'.heap.size)) → Only T1 wr W' → J (k + 1) T2 W' → KeptInv n0 B Bm v t J (n + 1) (k + 1) T2 W' := by
  obtain ⟨h1, ⟨ty, h2⟩, h3, h4, h5, h6, h7, h8⟩ := h
  obtain ⟨e1, e2⟩ := filt_hit h7 (range_at hn) hk
  have hlt := (List.getElem?_eq_some_iff.1 e1).1
  refine ⟨by rw [List.getElem?_map, List.getElem?_map, show (keptL t)[k]? = some n from e1]; rfl, hlt, fun T2 W' hT2 hO hJ => ?_⟩
  refine ⟨box_only h1 hO (fun hT => (h5 _ hT).2 (.inr (.inl rfl))), ⟨ty, box_only h2 hO (fun hT => (h5 _ hT).2 (.inr (.inr rfl)))⟩, h3.below (hO.below h6 (fun b hb hT => (h5 b hT).2 (.inl hb))), hJ, fun b hb => ?_, Nat.le_trans h6 hO.size, e2, hlt⟩
  have hs := hO.size
  have hB := h1.lt
  have hBm := h2.lt
  rcases hT2 b hb with h | h
  · have := h5 b h; exact ⟨by omega, this.2⟩
  · exact ⟨h.2, by omega⟩
end

set_option maxHeartbeats 1000000 in
theorem kept_iter {n0 : Nat} {v : Value} {t : List Int} {w : World} {B Bm ty : Nat} (hl : IsInts n0 w v t) (hlen : t.length = 32) (hB : Boxed w B 144 (.pointer (some ⟨Bm, 0, none⟩))) (hBm : Boxed w Bm ty v) (hn0 : n0 ≤ w.heap.size) :
    Iter Tryz.prog 97 #[.pointer (some ⟨B, 0, none⟩)] (((keptL t).map encN).map fun x => #[x]) (fun b => b < n0 ∨ b = B ∨ b = Bm) w := by
  intro lp J Jx T W hW hJ hJx hT hY h0
  have HY := Lib.hid hY
  have HL := Lib.hid hlen
  have H0 : Hid (KeptInv n0 B Bm v t J 0 0 T W) :=
    ⟨box_kept hB hW, ⟨ty, box_kept hBm hW⟩, hl.below (hW.mono hn0), h0, hT, Nat.le_trans hn0 hW.size, rfl, Nat.zero_le _⟩
  clear hJ hJx hY hT hl hB hBm hW h0 hlen
  refine callsIn_of_wp Tryz.func97 rfl trivial ?_ rfl
  simp only [Tryz.ntmps97, List.size_toArray, List.length_cons, List.length_nil, Nat.reduceAdd, Nat.reduceSub, Array.replicate_succ, Array.replicate_zero, List.push_toArray, List.append_toArray, List.nil_append, List.cons_append]
  apply wpIn_scope_wide
  gi_wp2
  apply wpIn_label
  gi_wp2
  gi_loopw [3, 4] (fun _ i wr => ∃ (n k : Nat) (T1 : Nat → Prop), i = .int .i64 n ∧ n ≤ 32 ∧ Hid (KeptInv n0 B Bm v t J n k T1 wr)) (fun _ i _ => 32 - (intOf i).toNat)
  case atStart => exact ⟨0, 0, T, rfl, by omega, H0⟩
  case round =>
    obtain ⟨n, k, T1, rfl, hn, hh⟩ := hrel
    clear H0
    by_cases hlt : n < 32
    · have hbox := hh.out.1.cell
      obtain ⟨tyb, hbm⟩ := hh.out.2.1
      have hcall := isKept_any hh.out.2.2.1 hbm.cell HL.out n hlt
      have hlt' : (n : Int) < 32 := by omega
      clear hbm
      cases hk : keptAt t n with
      | false =>
        rw [hk] at hcall
        have HN := Lib.hid (hh.out.miss hlt hk)
        clear hk hh HY
        gi_wp2_with (gi_at_call 98; refine (callsIn_wide.2 hcall).mono ?_; rintro e w' ⟨rfl, rfl⟩)
        exact ⟨⟨n + 1, k, T1, by go_num, by omega, HN⟩, by simp [intOf]; omega⟩
      | true =>
        rw [hk] at hcall
        obtain ⟨e1, hkl, e3⟩ := hh.out.next hlt hk
        obtain ⟨fn, tmps, assign, body, hy, hR⟩ := HY.out k T1 wr _ e1 hh.out.2.2.2.1 (fun b hb => (hh.out.2.2.2.2.1 b hb).1)
        have E3 := Lib.hid e3
        clear hk hh HY e1 e3
        gi_wp2_with (gi_at_call 98; refine (callsIn_wide.2 hcall).mono ?_; rintro e w' ⟨rfl, rfl⟩)
        refine hR.mono ?_
        rintro e W' ⟨T2, hT2, hO, (⟨rfl, hJ'⟩ | ⟨rfl, hJx'⟩)⟩
        · have HQ := Lib.hid (E3.out T2 W' hT2 hO hJ')
          clear hR hy hT2 hO hJ' E3 hcall
          gi_wp2
          exact ⟨⟨n + 1, k + 1, T2, by go_num, by omega, HQ⟩, by simp [intOf]; omega⟩
        · clear hR hy hT2 hO E3 hcall
          gi_wp2
          rw [Exit.noGoto_normal]
          go_end0
          exact ⟨⟨_, rfl⟩, T2, .inr ⟨k + 1, by rw [List.length_map, List.length_map]; exact hkl, hJx'⟩⟩
    · have hJ := hh.out.2.2.2.1
      have HK := Lib.hid (filt_end hh.out.2.2.2.2.2.2.1 (by simpa using hlt) hh.out.2.2.2.2.2.2.2)
      have hlt' : ¬ (n : Int) < 32 := by omega
      clear hh HY
      gi_wp2
      go_end0
      exact ⟨⟨_, rfl⟩, T1, .inl (by (try simp only [List.length_map]); rw [show (keptL t).length = k from HK.out.symm]; exact hJ)⟩

set_option maxHeartbeats 1000000 in
theorem lines_any {n : Nat} {v : Value} {t : List Int} {w : World} (h1 : IsInts n w v t) (hn : n ≤ w.heap.size) :
    Calls Tryz.prog 84 #[v] w (OwnI w.heap.size (linesL t) w) := by
  obtain ⟨a1, c1, rfl, hc1⟩ := h1.open
  obtain ⟨i0, hi, hz0, hz1, hz2⟩ := info_parts infoInt
  refine callsIn_wide.1 (callsIn_of_wp_marks (n := 0) Tryz.func84 rfl trivial ?_)
  simp only [Tryz.ntmps84, List.size_toArray, List.length_cons, List.length_nil, Nat.reduceAdd, Nat.reduceSub, Array.replicate_succ, Array.replicate_zero, List.push_toArray, List.append_toArray, List.nil_append, List.cons_append]
  gi_wp2_with fail
  refine (callsIn_wide.2 (marksRight_any h1)).mono ?_
  rintro e W1 ⟨rfl, rfl⟩
  cases hr : rightT t with
  | false =>
    gi_wp2
    exact end_plain rfl ⟨_, results_tmp rfl _ _ _, ⟨_, rfl, by unfold linesL; rw [hr]; exact World.ownsRow_nil _ _ _ _, Below.refl _ _⟩⟩
  | true =>
    have HR := Lib.hid hr
    clear hr
    gi_wp2_with fail
    refine (callsIn_wide.2 (keptMaker_any _ _)).mono ?_
    rintro e W2 ⟨rfl, rfl⟩
    gi_wp2_with fail
    have HLn := Lib.hid (rightT_len HR.out)
    obtain ⟨w, rfl⟩ : ∃ w, w = W1 := ⟨_, rfl⟩
    obtain ⟨w3, hw3⟩ : ∃ x, x = ((w.alloc (Obj.cells #[Value.slice none 0 0] 22)).alloc (Obj.cells #[Value.slice a1 t.length c1] 133)).alloc (Obj.cells #[Value.pointer (some { block := w.heap.size + 1, off := 0 })] 144) := ⟨_, rfl⟩
    rw [← hw3]
    have hs3 : w3.heap.size = w.heap.size + 3 := by rw [hw3]; simp
    have b1 : Boxed w3 w.heap.size 22 (.slice none 0 0) := by rw [hw3]; exact ((Boxed.new w _ _).alloc _).alloc _
    have b2 : Boxed w3 (w.heap.size + 1) 133 (.slice a1 t.length c1) := by rw [hw3]; exact (by simpa using Boxed.new (w.alloc (Obj.cells #[Value.slice none 0 0] 22)) 133 (.slice a1 t.length c1) : Boxed _ (w.heap.size + 1) _ _).alloc _
    have b3 : Boxed w3 (w.heap.size + 1 + 1) 144 (.pointer (some ⟨w.heap.size + 1, 0, none⟩)) := by rw [hw3]; simpa using Boxed.new ((w.alloc (Obj.cells #[Value.slice none 0 0] 22)).alloc (Obj.cells #[Value.slice a1 t.length c1] 133)) 144 (.pointer (some ⟨w.heap.size + 1, 0, none⟩))
    have hb3 : Below w.heap.size w w3 := by rw [hw3]; exact kept_alloc (kept_alloc (kept_alloc (Below.refl _ _) _) _) _
    clear hw3
    refine range_one 4 rfl (enters_of Tryz.func97 (by kernel_rfl) rfl) (kept_iter (n0 := n) (h1.below (hb3.mono hn)) HLn.out b3 b2 (by omega)) (Below.refl _ _)
      (fun b => b = w.heap.size) (fun b hb => by omega) (fun b hb => by omega)
      (fun j T1 W => CollectI w w.heap.size 22 3 1 ((keptL t).map encN) j T1 W) (fun _ _ _ _ => False)
      (fun j T1 A B h hq => h.quiet hq (by omega)) (fun _ _ _ _ _ h _ => h)
      ⟨_, b1, World.ownsRow_nil _ _ _ _, rfl, fun g hg => by simp [Value.ownBlock] at hg, fun b hb => by omega, hb3⟩
      ?assign ?body ?done (fun _ _ _ _ _ _ _ h => h.elim)
    case assign =>
      intro lp j x W K hx hK
      obtain ⟨m, hm, rfl⟩ := map_at hx
      simp only [encN] at hK ⊢
      gi_wp2
      exact hK
    case body =>
      rintro lp j x T1 W hx ⟨v, hv, hrow, hTB, hTv, hTw, hbw⟩ ht
      obtain ⟨m, hm, rfl⟩ := map_at hx
      have hj : j < 32 := by
        have h := (List.getElem?_eq_some_iff.1 hm).1
        have := List.length_filter_le (keptAt t) (List.range 32)
        simp only [List.length_range] at this
        exact Nat.lt_of_lt_of_le h this
      have hws := hbw.size
      have HT := Lib.hid (show ((keptL t).map encN).take ((j + 1) * 1) = ((keptL t).map encN).take (j * 1) ++ [.int .i64 m] by rw [Nat.mul_one, Nat.mul_one]; exact take_snoc hx)
      simp only [encN]
      have hvc := hv.cell
      clear hx hm b1 b2 b3 hb3 hs3
      gi_wp2_with (gi_at_builtin; refine wpListIn_append_new _ rfl _ _ 22 rfl w.heap.size 3 i0 (.int .i64 0) 1 8 Tryz.underlying22 hi hz0 hz1 hz2 rfl (by decide) _ _ _ rfl (hrow.alloc _) ⟨W.heap.size, 0, none⟩ 1 1 [.int .i64 m] rfl rfl (cell_one_new _ _ _) (by simp [Value.oneCell']) (by unfold maxLen; omega) (by omega) (by simp; omega) ?_; intro v' w1 hown' hgrow hf; obtain ⟨g', cap', rfl⟩ := ownsRow_succ hown'; obtain ⟨hv1, T2, h2, h3, h4⟩ := CollectI.step hv hrow hTB hTv hTw hbw (by decide) hown' hgrow hf HT.out; have hc1 := hv1.cell; have hf1 := hv1.frozen)
      exact ⟨T2, h2, h3, h4⟩
    case done =>
      rintro D T1 W hD ⟨v, hv, hrow, _, _, _, hbw⟩ hd
      have hvc := hv.cell
      gi_wp2
      refine end_mark (B := w.heap.size) (by omega) hd (fun w' hq => ⟨_, results_tmp rfl _ _ _, v, rfl, ?_, hq.below hbw (Nat.le_refl _) (Nat.le_refl _)⟩)
      have e : linesL t = (keptL t).map Int.ofNat := by unfold linesL; rw [HR.out]; rfl
      have := hq.ownsRow hrow (fun _ _ => .inr trivial)
      rw [Nat.mul_one, List.take_of_length_le (by simp)] at this
      rw [e, List.map_map, List.length_map]
      show w'.ownsRow _ _ _ v (keptL t).length ((keptL t).map encN)
      simpa using this


set_option maxHeartbeats 400000 in
theorem count_any {n : Nat} {v : Value} {t : List Int} {w : World} (h1 : IsInts n w v t) (hn : n ≤ w.heap.size) :
    Calls Tryz.prog 65 #[v] w fun e w' => e = .returned (.int .i64 (countL t)) ∧ Below w.heap.size w w' := by
  have hc := lines_any h1 hn
  go_enter Tryz.func65, Tryz.ntmps65
  go_wp2_with (go_at_call 84; refine hc.mono ?_; rintro e w' ⟨v', rfl, ho, hb⟩; obtain ⟨a', c', rfl, _⟩ := owns_open ho; clear ho)
  go_ret
  exact ⟨rfl, hb⟩

end Go.Proofs.YtihmgiifphheeaaGreatDoor
