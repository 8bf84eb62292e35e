/- Contract of (*pool.keeper).blocks: the iterator over the blocks of some states. -/
import Derived.Test.YtihmgiifphheeaaGreatDoorOwn
namespace Go.Sel
open Go Go.RowKit
theorem IsInts.only {n : Nat} {w w' : World} {v : Value} {xs : List Int} {S : Nat → Prop} (h : IsInts n w v xs) (hO : Only S w w') (hn : n ≤ w.heap.size) (hS : ∀ b, v.ownBlock = some b → ¬ S b) : IsInts n w' v xs := by
  obtain ⟨a, c, rfl, h1, h2, h3⟩ := h
  refine ⟨a, c, rfl, h1, h2, fun j x hx => ?_⟩
  obtain ⟨b, o, rfl, h4, h5, h6⟩ := h3 j x hx
  exact ⟨b, o, rfl, h4, (World.cell?_of_block (hO.block b (by omega) (hS b rfl))).trans h5, h6⟩
theorem IsTabs.only {n : Nat} {w w' : World} {v : Value} {xs : List (List Int)} {S : Nat → Prop} (h : IsTabs n w v xs) (hO : Only S w w') (hn : n ≤ w.heap.size) (hS : ∀ b, b < n → ¬ S b) : IsTabs n w' v xs :=
  h.below (hO.below hn hS)
theorem IsInts.below_block {n : Nat} {w : World} {v : Value} {xs : List Int} (h : IsInts n w v xs) (hp : 0 < xs.length) (b : Nat) (hb : v.ownBlock = some b) : b < n := by
  obtain ⟨a, c, rfl, h1, h2, h3⟩ := h
  obtain ⟨b', o, rfl, h4, _⟩ := h3 0 xs[0] (List.getElem?_eq_getElem hp)
  cases hb; exact h4
/-- The places of the blocks that have one of some states. -/
def blocksL (s sts : List Int) : List Nat := (List.range s.length).filter (fun (i : Nat) => decide (s[i]?.getD 0 ∈ sts))
end Go.Sel
namespace Go.Proofs.YtihmgiifphheeaaGreatDoor
open Go.RowKit Go.Sel
attribute [local go_sem] Oper.semAt_some

def BlocksFoot (B2 : Nat) (vs vst : Value) (b : Nat) : Prop := b = B2 ∨ vs.ownBlock = some b ∨ vst.ownBlock = some b

/-- What holds between two rounds of the iterator over blocks. -/
def BlocksInv (n B2 : Nat) (vs vst : Value) (s sts : List Int) (J : Nat → (Nat → Prop) → World → Prop) (i k : Nat) (T1 : Nat → Prop) (wr : World) : Prop :=
  Boxed wr B2 22 vst ∧ IsInts n wr vs s ∧ IsInts n wr vst sts ∧ J k T1 wr ∧ (∀ b, T1 b → b < wr.heap.size ∧ (BlocksFoot B2 vs vst b → ∀ k T A, ¬ J (k + 1) T A)) ∧ n ≤ wr.heap.size ∧
    (blocksL s sts).drop k = ((List.range s.length).drop i).filter (fun (i : Nat) => decide (s[i]?.getD 0 ∈ sts)) ∧ k ≤ (blocksL s sts).length

theorem range_at' {m i : Nat} (h : i < m) : (List.range m)[i]? = some i := by simp [h]

section
variable {n B2 : Nat} {vs vst : Value} {s sts : List Int} {J Jx : Nat → (Nat → Prop) → World → Prop} {i k : Nat} {T1 : Nat → Prop} {wr : World}
theorem BlocksInv.miss (h : BlocksInv n B2 vs vst s sts J i k T1 wr) {x : Int} (hx : s[i]? = some x) (hk : ¬ x ∈ sts) : BlocksInv n B2 vs vst s sts J (i + 1) k T1 wr := by
  obtain ⟨h1, h2, h3, h4, h5, h6, h7, h8⟩ := h
  exact ⟨h1, h2, h3, h4, h5, h6, filt_miss h7 (range_at' (List.getElem?_eq_some_iff.1 hx).1) (by simp [hx, hk]), h8⟩
theorem BlocksInv.next (h : BlocksInv n B2 vs vst s sts J i k T1 wr) {x : Int} (hx : s[i]? = some x) (hk : x ∈ sts) :
    (((blocksL s sts).map encN).map fun x => #[x])[k]? = some #[.int .i64 i] ∧ k < (blocksL s sts).length ∧
    ∀ (T2 : Nat → Prop) (W' : World), (∀ b, T2 b → T1 b ∨ (wr.heap.size ≤ b ∧ b < W'.heap.size)) → Only T1 wr W' → J (k + 1) T2 W' → BlocksInv n B2 vs vst s sts J (i + 1) (k + 1) T2 W' := by
  obtain ⟨h1, h2, h3, h4, h5, h6, h7, h8⟩ := h
  obtain ⟨e1, e2⟩ := filt_hit h7 (range_at' (List.getElem?_eq_some_iff.1 hx).1) (by simp [hx, hk])
  have hlt := (List.getElem?_eq_some_iff.1 e1).1
  refine ⟨by rw [List.getElem?_map, List.getElem?_map, show (blocksL s sts)[k]? = some i from e1]; rfl, hlt, fun T2 W' hT2 hO hJ => ?_⟩
  have hno : ∀ b, T1 b → ¬ BlocksFoot B2 vs vst b := fun b hb hf => (h5 b hb).2 hf _ _ _ hJ
  refine ⟨box_only h1 hO (fun hT => hno _ hT (.inl rfl)), h2.only hO h6 (fun b hb hT => hno _ hT (.inr (.inl hb))), h3.only hO h6 (fun b hb hT => hno _ hT (.inr (.inr hb))), hJ, fun b hb => ?_, Nat.le_trans h6 hO.size, e2, hlt⟩
  have hs := hO.size
  have hB := h1.lt
  rcases hT2 b hb with h | h
  · have := h5 b h; exact ⟨by omega, this.2⟩
  · refine ⟨h.2, fun hf => ?_⟩
    have hlt2 : b < wr.heap.size := by
      rcases hf with rfl | hf | hf
      · exact hB
      · have := h2.below_block (by have := (List.getElem?_eq_some_iff.1 hx).1; omega) b hf; omega
      · have := h3.below_block (List.length_pos_of_mem hk) b hf; omega
    omega
end

theorem blocksMaker_any (p : Option Addr) (q : Option Addr) (l c : Nat) (w : World) :
    Calls Tryz.prog 45 #[.pointer p, .slice q l c] w fun e w' => e = .returned (.func (.func 68) #[] #[.pointer (some ⟨w.heap.size, 0, none⟩), .pointer (some ⟨w.heap.size + 1, 0, none⟩)]) ∧ w' = (w.alloc (.cells #[.pointer p] 46)).alloc (.cells #[.slice q l c] 22) := by
  go_enter Tryz.func45, Tryz.ntmps45
  go_wp2
  go_ret
  exact ⟨rfl, rfl⟩

set_option maxHeartbeats 1000000 in
theorem blocks_iter {n : Nat} {vs vt vst : Value} {s sts : List Int} {w : World} {B1 B2 g : Nat} (hs : IsInts n w vs s) (hst : IsInts n w vst sts) (hB1 : Boxed w B1 46 (.pointer (some ⟨g, 0, none⟩)))
    (hg : w.heap[g]? = some (.cells #[vs, vt] 53 (0, 0))) (hB2 : Boxed w B2 22 vst) (hn : n ≤ w.heap.size) :
    IterW Tryz.prog 68 #[.pointer (some ⟨B1, 0, none⟩), .pointer (some ⟨B2, 0, none⟩)] (((blocksL s sts).map encN).map fun x => #[x]) (BlocksFoot B2 vs vst) w := by
  intro lp J Jx T W hW hJ hJx hT hY h0
  have HY := Lib.hid hY
  have H0 : Hid (BlocksInv n B2 vs vst s sts J 0 0 T W) :=
    ⟨box_kept hB2 hW, hs.below (hW.mono hn), hst.below (hW.mono hn), h0, hT, Nat.le_trans hn hW.size, rfl, Nat.zero_le _⟩
  have c1 := (box_kept hB1 hW).cell
  obtain ⟨c2, _⟩ := pair_cells ((hW.block _ (Array.getElem?_eq_some_iff.1 hg).1).trans hg)
  have hl := hs.len
  unfold big at hl
  obtain ⟨sa, sc, rfl, hsc⟩ := hs.open
  clear hJ hJx hY hT hB1 hB2 hg hW h0 hs hst hn
  refine callsIn_of_wp Tryz.func68 rfl trivial ?_ rfl
  simp only [Tryz.ntmps68, List.size_toArray, List.length_cons, List.length_nil, Nat.reduceAdd, Nat.reduceSub, Array.replicate_succ, Array.replicate_zero, List.push_toArray, List.append_toArray, List.nil_append, List.cons_append]
  apply wpIn_scope_wide
  gi_wp2
  apply wpIn_label
  gi_wp2
  clear c1 c2
  gi_loopw [4, 5, 12] (fun _ _ i wr => ∃ (m k : Nat) (T1 : Nat → Prop), i = .int .i64 m ∧ m ≤ s.length ∧ Hid (BlocksInv n B2 (.slice sa s.length sc) vst s sts J m k T1 wr)) (fun _ _ i _ => s.length - (intOf i).toNat)
  case atStart => exact ⟨0, 0, T, rfl, by omega, H0⟩
  case round =>
    obtain ⟨m, k, T1, rfl, hm, hh⟩ := hrel
    clear H0
    by_cases hlt : m < s.length
    · have hbox := hh.out.1.cell
      obtain ⟨x, b1, o1, hx, rfl, _, gx, hx64⟩ := hh.out.2.1.at hlt
      have hcall := contains_any x hh.out.2.2.1
      by_cases hk : x ∈ sts
      · rw [decide_eq_true hk] at hcall
        obtain ⟨e1, hkl, e3⟩ := hh.out.next hx hk
        obtain ⟨fn, tmps, assign, body, hy, hR⟩ := HY.out k T1 wr _ e1 hh.out.2.2.2.1 (fun b hb => (hh.out.2.2.2.2.1 b hb).1)
        have E3 := Lib.hid e3
        clear hk hh HY e1 e3 hx
        gi_wp2_with (gi_at_call 60; refine (callsIn_wide.2 hcall).mono ?_; rintro e w' ⟨rfl, rfl⟩)
        refine hR.mono ?_
        rintro e W' ⟨T2, hT2, hO, (⟨rfl, hJ'⟩ | ⟨rfl, hJx'⟩)⟩
        · have HQ := Lib.hid (E3.out T2 W' hT2 hO hJ')
          clear hR hy hT2 hO hJ' E3 hcall
          gi_wp2
          exact ⟨⟨m + 1, k + 1, T2, by go_num, by omega, HQ⟩, by simp [intOf]; omega⟩
        · clear hR hy hT2 hO E3 hcall
          gi_wp2
          rw [Exit.noGoto_normal]
          go_end0
          exact ⟨⟨_, rfl⟩, T2, .inr ⟨k + 1, by rw [List.length_map, List.length_map]; exact hkl, hJx'⟩⟩
      · rw [decide_eq_false hk] at hcall
        have HN := Lib.hid (hh.out.miss hx hk)
        clear hk hh HY hx
        gi_wp2_with (gi_at_call 60; refine (callsIn_wide.2 hcall).mono ?_; rintro e w' ⟨rfl, rfl⟩)
        exact ⟨⟨m + 1, k, T1, by go_num, by omega, HN⟩, by simp [intOf]; omega⟩
    · have hJ := hh.out.2.2.2.1
      have HK := Lib.hid (filt_end hh.out.2.2.2.2.2.2.1 (by simpa using hlt) hh.out.2.2.2.2.2.2.2)
      clear hh HY
      gi_wp2
      try rw [Exit.noGoto_normal]
      go_end0
      exact ⟨⟨_, rfl⟩, T1, .inl (by (try simp only [List.length_map]); rw [show (blocksL s sts).length = k from HK.out.symm]; exact hJ)⟩

end Go.Proofs.YtihmgiifphheeaaGreatDoor
