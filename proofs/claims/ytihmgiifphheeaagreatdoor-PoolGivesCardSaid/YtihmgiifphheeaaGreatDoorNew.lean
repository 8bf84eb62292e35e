/- Contract of pool.New. -/
import Derived.Test.YtihmgiifphheeaaGreatDoorSet
namespace Go.Proofs.YtihmgiifphheeaaGreatDoor
open Go.RowKit Go.Sel
attribute [local go_sem] Oper.semAt_some

theorem blocksL_zero (n : Nat) : blocksL (List.replicate n 0) [0] = List.range n := by
  unfold blocksL
  rw [List.length_replicate, List.filter_eq_self]
  intro i hi
  rw [List.mem_range] at hi
  simp [hi]

theorem foot_two {B2 b1 b2 b n m c d : Nat} (h : BlocksFoot B2 (.slice (some ⟨b1, 0, none⟩) n c) (.slice (some ⟨b2, 0, none⟩) m d) b) : b = B2 ∨ b = b1 ∨ b = b2 := by
  rcases h with h | h | h
  · exact .inl h
  · have : b1 = b := by simpa [Value.ownBlock] using h
    exact .inr (.inl this.symm)
  · have : b2 = b := by simpa [Value.ownBlock] using h
    exact .inr (.inr this.symm)

/-- What New keeps in its loop. -/
def NewI (w : World) (Bk g E : Nat) (vs : Value) (n : Nat) (k : Nat) (T1 : Nat → Prop) (W : World) : Prop :=
  ∃ vt tvs, OwnAt (w.heap.size + 1) g W vs (List.replicate n 0) (List.replicate k (List.replicate 32 0)) vt tvs ∧ T1 g ∧ (∀ b, vt.ownBlock = some b → T1 b) ∧ (∀ (i : Nat) tv, tvs[i]? = some tv → ∀ b, tv.ownBlock = some b → T1 b) ∧
    (∀ b, T1 b → b = g ∨ E ≤ b) ∧ Boxed W Bk 46 (.pointer (some ⟨g, 0, none⟩)) ∧ W.heap[w.heap.size]? = some (.cells #[.slice none 0 0, .slice none 0 0] 25 (0, 0)) ∧ Below w.heap.size w W ∧ E ≤ W.heap.size

theorem NewI.quiet {w A B : World} {Bk g E n k : Nat} {vs : Value} {T1 : Nat → Prop} (h : NewI w Bk g E vs n k T1 A) (hq : Quiet E T1 A B) (h1 : Bk < E) (h2 : g < E) (h3 : w.heap.size < E) (h4 : ∀ b, vs.ownBlock = some b → b < E) : NewI w Bk g E vs n k T1 B := by
  obtain ⟨vt, tvs, ⟨q1, q2, q3, q4, q5, q6⟩, i2, i3, i4, i5, i6, i7, i8, i9⟩ := h
  refine ⟨vt, tvs, ⟨hq.cells q1 (.inl h2), q2, hq.ownsRow q3 (fun b hb => .inl (h4 b hb)), q4, hq.ownsRow q5 (fun b hb => .inr (i3 b hb)), fun i tv x e1 e2 => ?_⟩, i2, i3, i4, i5, hq.boxed i6 (.inl h1), hq.cells i7 (.inl h3), hq.below i8 (by omega) (Nat.le_refl _), Nat.le_trans i9 hq.size⟩
  obtain ⟨r1, r2⟩ := q6 i tv x e1 e2
  exact ⟨hq.ownsRow r1 (fun b hb => .inr (i4 i tv e1 b hb)), r2⟩

/-- New's answer. -/
def NewPost (n : Int) (w : World) (e : Ending) (w' : World) : Prop :=
  Below w.heap.size w w' ∧ ((¬ (1 ≤ n ∧ n ≤ 32) ∧ e = .returned (.tuple #[.agg #[.slice none 0 0, .slice none 0 0], .int .i64 2])) ∨
    (1 ≤ n ∧ n ≤ 32 ∧ ∃ v, e = .returned (.tuple #[v, .int .i64 0]) ∧ PoolIn w.heap.size w'.heap.size w' v (List.replicate n.toNat 0) (List.replicate n.toNat (List.replicate 32 0))))

set_option maxRecDepth 100000 in
set_option maxHeartbeats 4000000 in
theorem new_any (n : Int) (hn : I64 n) (w : World) : Calls Tryz.prog 21 #[.int .i64 n] w (NewPost n w) := by
  refine callsIn_wide.1 (callsIn_of_wp_marks (n := 0) Tryz.func21 rfl trivial ?_)
  simp only [Tryz.ntmps21, List.size_toArray, List.length_cons, List.length_nil, Nat.reduceAdd, Nat.reduceSub, Array.replicate_succ, Array.replicate_zero, List.push_toArray, List.append_toArray, List.nil_append, List.cons_append]
  obtain ⟨w1, hw1⟩ : ∃ y, y = w.alloc (Obj.cells #[.slice none 0 0, .slice none 0 0] 25) := ⟨_, rfl⟩
  have hb1 : Below w.heap.size w w1 := by rw [hw1]; exact kept_alloc (Below.refl _ _) _
  have hs1 : w1.heap.size = w.heap.size + 1 := by rw [hw1]; simp
  have hx1 : w1.heap[w.heap.size]? = some (.cells #[.slice none 0 0, .slice none 0 0] 25 (0, 0)) := by rw [hw1]; exact World.alloc_heap_new w _
  obtain ⟨e1, e2⟩ := pair_cells hx1
  have e3 := row_frozen hx1 0
  have e4 := row_frozen hx1 1
  by_cases hin : 1 ≤ n ∧ n ≤ 32
  · obtain ⟨h1, h32⟩ := hin
    obtain ⟨m, rfl⟩ := Int.eq_ofNat_of_zero_le (show 0 ≤ n by omega)
    have hm1 : 1 ≤ m := by omega
    have hm32 : m ≤ 32 := by omega
    obtain ⟨i, hi, hz0, hz1, hz2⟩ := info_parts infoInt
    have hmk := run_makeSlice (P := Tryz.prog) (w := w1) 22 3 i (.int .i64 0) Tryz.underlying22 hi hz0 .i64 .i64 (m : Int) (m : Int) (by omega) (Int.le_refl _) (by rw [hz1]; omega) (by rw [hz2]; omega) (by omega)
    obtain ⟨w2, hw2⟩ : ∃ y, y = w1.alloc (.cells (madeCells (Value.cells (.int .i64 0)) ((m : Int).toNat * i.size)) 3) := ⟨_, rfl⟩
    rw [← hw2] at hmk
    simp only [Int.toNat_natCast] at hmk
    have hb2 : Below w1.heap.size w1 w2 := by rw [hw2]; exact kept_alloc (Below.refl _ _) _
    have hs2 : w2.heap.size = w.heap.size + 2 := by rw [hw2]; simp [hs1]
    have hrow : w2.ownsRow (w.heap.size + 1) 3 1 (.slice (some ⟨w1.heap.size, 0, none⟩) m m) m ((List.replicate m (0 : Int)).map (Value.int .i64)) := by
      have hc : madeCells (Value.cells (.int .i64 0)) ((m : Int).toNat * i.size) = ((List.replicate m (0 : Int)).map (Value.int .i64)).toArray := by
        rw [hz1, Nat.mul_one, Int.toNat_natCast]
        exact Array.ext' (by rw [show Value.cells (.int .i64 0) = #[.int .i64 0] from rfl, toList_madeCells_one]; simp)
      refine ⟨by simp, .inr ⟨w1.heap.size, m, ((List.replicate m (0 : Int)).map (Value.int .i64)).toArray, rfl, by omega, by rw [hw2, ← hc]; exact World.alloc_heap_new w1 _, Nat.le_refl _, by unfold maxLen; omega, by simp, by simp⟩⟩
    obtain ⟨w3, hw3⟩ : ∃ y, y = (w2.alloc (.cells #[.slice (some ⟨w1.heap.size, 0, none⟩) m m, .slice none 0 0] 53)).alloc (.cells #[.pointer (some ⟨w2.heap.size, 0, none⟩)] 46) := ⟨_, rfl⟩
    have hb3 : Below w2.heap.size w2 w3 := by rw [hw3]; exact kept_alloc (kept_alloc (Below.refl _ _) _) _
    have hs3 : w3.heap.size = w.heap.size + 4 := by rw [hw3]; simp; omega
    have hx3 : w3.heap[w2.heap.size]? = some (.cells #[.slice (some ⟨w1.heap.size, 0, none⟩) m m, .slice none 0 0] 53 (0, 0)) := by rw [hw3]; exact heap_alloc_at (World.alloc_heap_new w2 _) _
    have hk3 : Boxed w3 (w2.heap.size + 1) 46 (.pointer (some ⟨w2.heap.size, 0, none⟩)) := by rw [hw3]; simpa using Boxed.new (w2.alloc (.cells #[.slice (some ⟨w1.heap.size, 0, none⟩) m m, .slice none 0 0] 53)) 46 (.pointer (some ⟨w2.heap.size, 0, none⟩))
    have hb03 : Below w.heap.size w w3 := hb1.trans ((hb2.trans (hb3.mono hb2.size)).mono (by omega))
    have hy3 : w3.heap[w.heap.size]? = some (.cells #[.slice none 0 0, .slice none 0 0] 25 (0, 0)) := (hb3.block _ (by omega)).trans ((hb2.block _ (by omega)).trans hx1)
    have hrow3 := owns_kept hrow hb3
    -- the states asked for, the iterator's boxes
    obtain ⟨w4, hw4⟩ : ∃ y, y = w3.alloc (.cells #[.int .i64 0] 3) := ⟨_, rfl⟩
    have hb4 : Below w3.heap.size w3 w4 := by rw [hw4]; exact kept_alloc (Below.refl _ _) _
    have hs4 : w4.heap.size = w.heap.size + 5 := by rw [hw4]; simp [hs3]
    have he3 : w3.heap.size = w2.heap.size + 1 + 1 := by omega
    have hx4 : w4.heap[w2.heap.size + 1 + 1]? = some (.cells #[.int .i64 0] 3 (0, 0)) := by rw [hw4, ← he3]; exact World.alloc_heap_new w3 _
    have hst4 := ints_one hx4 (by unfold I64; omega)
    have hmk4 := blocksMaker_any (some ⟨w2.heap.size, 0, none⟩) (some ⟨w2.heap.size + 1 + 1, 0, none⟩) 1 1 w4
    obtain ⟨w5, hw5⟩ : ∃ y, y = (w4.alloc (.cells #[.pointer (some ⟨w2.heap.size, 0, none⟩)] 46)).alloc (.cells #[.slice (some ⟨w2.heap.size + 1 + 1, 0, none⟩) 1 1] 22) := ⟨_, rfl⟩
    rw [← hw5] at hmk4
    have hb5 : Below w4.heap.size w4 w5 := by rw [hw5]; exact kept_alloc (kept_alloc (Below.refl _ _) _) _
    have hs5 : w5.heap.size = w.heap.size + 7 := by rw [hw5]; simp [hs4]
    have hB1 : Boxed w5 w4.heap.size 46 (.pointer (some ⟨w2.heap.size, 0, none⟩)) := by rw [hw5]; exact (Boxed.new w4 _ _).alloc _
    have hB2 : Boxed w5 (w4.heap.size + 1) 22 (.slice (some ⟨w2.heap.size + 1 + 1, 0, none⟩) 1 1) := by rw [hw5]; simpa using Boxed.new (w4.alloc (.cells #[.pointer (some ⟨w2.heap.size, 0, none⟩)] 46)) 22 (.slice (some ⟨w2.heap.size + 1 + 1, 0, none⟩) 1 1)
    have hb35 : Below w3.heap.size w3 w5 := hb4.trans (hb5.mono (by omega))
    have hx5 := (hb35.block _ (by omega)).trans hx3
    have hrow5 := owns_kept hrow3 hb35
    have hst5 := hst4.below hb5
    have hsI : IsInts w4.heap.size w5 (.slice (some ⟨w1.heap.size, 0, none⟩) m m) (List.replicate m 0) := by
      have h0 := IsInts.of_owns (xs := List.replicate m 0) (w := w5) (base := w.heap.size + 1) (e := 3) (v := .slice (some ⟨w1.heap.size, 0, none⟩) m m) (by rw [List.length_replicate]; exact hrow5) (by rw [List.length_replicate]; unfold big; omega) (fun x hx => by rw [(List.mem_replicate.1 hx).2]; unfold I64; omega)
      exact h0.narrow (fun k hk => by cases hk; show w1.heap.size < _; omega)
    have hIt := (blocks_iter (n := w4.heap.size) (sts := [0]) hsI hst5 hB1 hx5 hB2 (by omega)).iter
    rw [blocksL_zero] at hIt
    have hI0 : NewI w (w2.heap.size + 1) w2.heap.size w5.heap.size (.slice (some ⟨w1.heap.size, 0, none⟩) m m) m 0 (fun b => b = w2.heap.size) w5 :=
      ⟨.slice none 0 0, [], ⟨hx5, by omega, by rw [List.length_replicate]; exact hrow5, fun k hk => by cases hk; show w1.heap.size < _; omega, World.ownsRow_nil _ _ _ _, fun i tv x h => by simp at h⟩, rfl, fun b hb => by simp [Value.ownBlock] at hb, fun i tv h => by simp at h, fun b hb => .inl hb, box_kept hk3 hb35, (hb35.block _ (by omega)).trans hy3, kept_trans hb03 hb35, Nat.le_refl _⟩
    have hmkA : (Instr.makeSlice 22 (.int .i64 m) (.int .i64 m)).run Tryz.prog (w.alloc (Obj.cells #[.slice none 0 0, .slice none 0 0] 25)) = .ok (.slice (some ⟨w1.heap.size, 0, none⟩) m m) w2 := by rw [← hw1]; exact hmk
    have hlo : ¬ (m : Int) < 1 := by omega
    have hhi : ¬ (32 : Int) < (m : Int) := by omega
    have HS := Lib.hid (show w1.heap.size = w.heap.size + 1 ∧ w2.heap.size = w.heap.size + 2 ∧ w3.heap.size = w.heap.size + 4 ∧ w4.heap.size = w.heap.size + 5 ∧ w5.heap.size = w.heap.size + 7 from ⟨hs1, hs2, hs3, hs4, hs5⟩)
    have HI0 := Lib.hid hI0
    clear hs1 hs2 hs3 hs4 hs5 hi hz0 hz1 hz2 hrow hrow3 hrow5 hsI hx5 hst4 hst5 hx4 hy3 hb1 hb2 hb3 hb03 hb4 hb5 hb35 hx1 hx3 hI0 e1 e2 e3 e4 hmk hw1 he3 hw2
    gi_wp2_with fail
    rw [← hw3, ← hw4]
    clear hw3 hw4 hw5 hmkA
    refine (callsIn_wide.2 hmk4).mono ?_
    clear hmk4
    rintro e w6 ⟨rfl, he⟩
    obtain rfl := he.symm
    gi_wp2_with fail
    obtain ⟨hs1, hs2, hs3, hs4, hs5⟩ := HS.out
    refine range_zero (p := 20) (xs := (List.range m).map encN) rfl (enters_of Tryz.func68 (by kernel_rfl) rfl) hIt (Below.refl _ _)
      (fun b => b = w2.heap.size) (fun b hb => ⟨by omega, fun hf => by have := foot_two hf; omega⟩) (fun b hf => by have := foot_two hf; omega)
      (NewI w (w2.heap.size + 1) w2.heap.size w5.heap.size (.slice (some ⟨w1.heap.size, 0, none⟩) m m) m) (fun _ _ _ _ => False)
      (fun j T1 A B h hq => h.quiet hq (by omega) (by omega) (by omega) (fun b hb => by have : w1.heap.size = b := by simpa [Value.ownBlock] using hb
                                                                                        omega)) (fun _ _ _ _ _ h _ => h)
      HI0.out ?body ?done (fun _ _ _ _ _ _ _ h => h.elim)
    case body =>
      rintro lp j x T1 W hx ⟨vt, tvs, ⟨q1, q2, q3, q4, q5, q6⟩, i2, i3, i4, i5, i6, i7, i8, i9⟩ ht
      have hj : j < m := by have := (List.getElem?_eq_some_iff.1 hx).1; simpa using this
      clear hx hs1 hs3 hs4
      have hC0 : Boxed W.drew (w2.heap.size + 1) 46 (.pointer (some ⟨w2.heap.size, 0, none⟩)) ∧ W.drew.heap[w2.heap.size]? = some (.cells #[.slice (some ⟨w1.heap.size, 0, none⟩) m m, vt] 53 (0, 0)) := ⟨i6, q1⟩
      have hMk := make_any W.drew
      have HT1 := Lib.hid ht
      have H5 := Lib.hid i5
      have H4 := Lib.hid i4
      have H3 := Lib.hid i3
      have HQ := Lib.hid (show OwnAt (w.heap.size + 1) w2.heap.size W (.slice (some ⟨w1.heap.size, 0, none⟩) m m) (List.replicate m 0) (List.replicate j (List.replicate 32 0)) vt tvs from ⟨q1, q2, q3, q4, q5, q6⟩)
      have HS2 := Lib.hid hs2
      have HS5 := Lib.hid hs5
      clear ht i5 i4 i3 q1 q2 q3 q4 q5 q6 hs2 hs5
      gi_wp2_with fail
      refine wpIn_region_class (fun W => Boxed W (w2.heap.size + 1) 46 (.pointer (some ⟨w2.heap.size, 0, none⟩)) ∧ W.heap[w2.heap.size]? = some (.cells #[.slice (some ⟨w1.heap.size, 0, none⟩) m m, vt] 53 (0, 0))) 12 (by kernel_rfl) (by kernel_rfl) ?_ ?_
      · rintro ⟨a, w', h⟩
        exact h
      refine wpAnyC_take 0 (.pointer (some ⟨w2.heap.size, 0, none⟩)) rfl (by kernel_rfl) rfl (fun _ _ _ h => h) hC0 (fun W hW => by obtain ⟨u0, u12⟩ := hW; obtain ⟨u1, u2⟩ := pair_cells u12; have u3 := Boxed.cell u0; go_simp) ?_
      go_simp
      refine wpAnyC_take 1 (.pointer (some ⟨w2.heap.size, 0, none⟩)) rfl (by kernel_rfl) rfl (fun _ _ _ h => h) hC0 (fun W hW => by obtain ⟨u0, u12⟩ := hW; obtain ⟨u1, u2⟩ := pair_cells u12; have u3 := Boxed.cell u0; go_simp) ?_
      go_simp
      refine wpAnyC_take 2 (.pointer (some ⟨w2.heap.size, 0, none⟩)) rfl (by kernel_rfl) rfl (fun _ _ _ h => h) hC0 (fun W hW => by obtain ⟨u0, u12⟩ := hW; obtain ⟨u1, u2⟩ := pair_cells u12; have u3 := Boxed.cell u0; go_simp) ?_
      go_simp
      refine wpAnyC_take 3 (.pointer (some ⟨w2.heap.size, 0, none⟩)) rfl (by kernel_rfl) rfl (fun _ _ _ h => h) hC0 (fun W hW => by obtain ⟨u0, u12⟩ := hW; obtain ⟨u1, u2⟩ := pair_cells u12; have u3 := Boxed.cell u0; go_simp) ?_
      go_simp
      refine wpAnyC_take 4 (.pointer (some ⟨w2.heap.size, 1, none⟩)) rfl (by kernel_rfl) rfl (fun _ _ _ h => h) hC0 (fun W hW => by obtain ⟨u0, u12⟩ := hW; obtain ⟨u1, u2⟩ := pair_cells u12; have u3 := Boxed.cell u0; go_simp) ?_
      go_simp
      refine wpAnyC_take 5 vt rfl (by kernel_rfl) rfl (fun _ _ _ h => h) hC0 (fun W hW => by obtain ⟨u0, u12⟩ := hW; obtain ⟨u1, u2⟩ := pair_cells u12; have u3 := Boxed.cell u0; go_simp) ?_
      go_simp
      refine wpAnyC_act 6 rfl (by kernel_rfl) rfl ?_
      go_simp
      refine hMk.mono ?_
      clear hMk
      rintro e W1 ⟨tv', rfl, hownT, hbT⟩
      obtain ⟨ta, tc, rfl, htc⟩ := owns_open hownT
      obtain ⟨i0, hi0, hi1, hi2, hi3⟩ := info_parts infoInts
      have hle5 : w2.heap.size + 5 ≤ w5.heap.size := by have := HS2.out; have := HS5.out; omega
      have hle2 : w.heap.size + 2 ≤ w2.heap.size := by have := HS2.out; omega
      have hbT' : Below W.heap.size W W1 := (Below.refl _ W).drew.trans hbT
      obtain ⟨q1, q2, q3, q4, q5, q6⟩ := HQ.out
      have hgl := (Array.getElem?_eq_some_iff.1 q1).1
      have hsT := hbT'.size
      have hk1 := box_kept i6 hbT'
      have hg1 := (hbT'.block _ hgl).trans q1
      have htk : (List.replicate j (List.replicate 32 (0 : Int))).length = j := List.length_replicate
      have q5' : (W1.alloc (.cells #[.slice ta (List.replicate 32 (0 : Int)).length tc] 22)).ownsRow (w2.heap.size + 1) 22 1 vt j tvs := by rw [← htk]; exact (owns_kept q5 hbT').alloc _
      refine ⟨⟨hk1, hg1⟩, ?_⟩
      refine wpAnyC_act 7 rfl (by kernel_rfl) rfl ?_
      go_simp
      refine ⟨⟨hk1.alloc _, (Below.heap_alloc W1 _ _ (by omega)).trans hg1⟩, ?_⟩
      refine wpAnyC_act 8 rfl (by kernel_rfl) rfl ?_
      refine wp_append_new _ (.tmp 26) (.tmp 28) 23 rfl (w2.heap.size + 1) 22 i0 (.slice none 0 0) 1 24 Tryz.underlying23 hi0 hi1 hi2 hi3 rfl (by decide) vt j tvs rfl q5' ⟨W1.heap.size, 0, none⟩ 1 1 [.slice ta (List.replicate 32 (0 : Int)).length tc] rfl rfl (cell_one_new _ _ _) (by simp [Value.oneCell']) (by unfold maxLen; omega) (by omega) (by simp; omega) ?_
      intro v' W4 hown' hgrow hf
      rw [← htk] at hown'
      obtain ⟨hC2, hNew, hOn⟩ := OwnAt.push q1 q2 q3 q4 q5 q6 hbT' hownT hown' hgrow hf
      rw [htk] at hown'
      obtain ⟨g4, c4, rfl⟩ := ownsRow_succ hown'
      have hvtl := q5.lt
      have hk4 : Boxed W4 (w2.heap.size + 1) 46 (.pointer (some ⟨w2.heap.size, 0, none⟩)) := by
        have hO : Only (fun b => vt.ownBlock = some b) W W4 := (((Only.refl _ W).kept hbT').alloc _).grown hgrow (fun k hk => .inl hk)
        refine box_only i6 hO (fun hb => ?_)
        have := H5.out _ (H3.out _ hb)
        omega
      refine ⟨fun _ => ⟨hk4, hC2⟩, ?_⟩
      go_simp
      refine wpAnyC_act 9 rfl (by kernel_rfl) rfl ?_
      go_simp
      try refine ⟨⟨hk4, hC2⟩, ?_⟩
      refine wpAnyC_act 10 rfl (by kernel_rfl) rfl ?_
      go_simp
      try refine ⟨⟨hk4, hC2⟩, ?_⟩
      refine wpAnyC_act 11 rfl (by kernel_rfl) rfl ?_
      go_simp
      try refine ⟨⟨hk4, hC2⟩, ?_⟩
      obtain ⟨u1, u2⟩ := pair_cells hC2
      have u3 := row_frozen hC2 1
      refine wpAnyC_act 12 rfl (by kernel_rfl) rfl ?_
      go_simp
      refine wpAnyC_done (by kernel_rfl) ?_
      have hszF : (W4.setCell ⟨w2.heap.size, 1, none⟩ (.slice (some ⟨g4, 0, none⟩) (j + 1) c4)).heap.size = W4.heap.size := by simp [World.setCell]
      have hs4 : W1.heap.size + 1 ≤ W4.heap.size := by have := hgrow.size; simpa using this
      have hrep : List.replicate j (List.replicate 32 (0 : Int)) ++ [List.replicate 32 0] = List.replicate (j + 1) (List.replicate 32 0) := (List.replicate_succ' ..).symm
      have hOnT : Only T1 W (W4.setCell ⟨w2.heap.size, 1, none⟩ (.slice (some ⟨g4, 0, none⟩) (j + 1) c4)) := hOn.mono (fun k _ hk => by rcases hk with hk | hk; exact H3.out k hk; subst hk; exact i2)
      have hFin : NewI w (w2.heap.size + 1) w2.heap.size w5.heap.size (.slice (some ⟨w1.heap.size, 0, none⟩) m m) m (j + 1) (fun b => T1 b ∨ (W.heap.size ≤ b ∧ b < (W4.setCell ⟨w2.heap.size, 1, none⟩ (.slice (some ⟨g4, 0, none⟩) (j + 1) c4)).heap.size)) (W4.setCell ⟨w2.heap.size, 1, none⟩ (.slice (some ⟨g4, 0, none⟩) (j + 1) c4)) := by
        rw [hrep] at hNew
        refine ⟨_, _, hNew, .inl i2, fun b hb => ?_, fun i tv hi b hb => ?_, fun b hb => ?_, ?_, ?_, ?_, ?_⟩
        · rcases hf with hf | ⟨g', h1, h2⟩
          · exact .inl (H3.out b (hf ▸ hb))
          · rw [h1] at hb
            cases hb
            have := (hown'.lt _ h1).2
            exact .inr ⟨by simp at h2; omega, by rw [hszF]; exact this⟩
        · by_cases hlt : i < tvs.length
          · rw [List.getElem?_append_left hlt] at hi
            exact .inl (H4.out i tv hi b hb)
          · have hi' : i = tvs.length := by
              have := (List.getElem?_eq_some_iff.1 hi).1
              simp at this; omega
            subst hi'
            rw [List.getElem?_concat_length] at hi
            cases hi
            have h1 := (hownT.lt b hb).1
            have h2 := (hownT.lt b hb).2
            exact .inr ⟨h1, by rw [hszF]; omega⟩
        · rcases hb with hb | hb
          · exact H5.out b hb
          · exact .inr (by omega)
        · exact (Below.heap_setCell _ _ _ _ (by show w2.heap.size + 1 ≠ w2.heap.size; omega)).trans hk4
        · refine (hOnT.block _ (by omega) (fun hk => ?_)).trans i7
          have := H5.out _ hk
          omega
        · exact i8.trans (hOnT.below i8.size (fun k hk hT => by have := H5.out _ hT; omega))
        · rw [hszF]; omega
      have HFin := Lib.hid hFin
      have HOnT := Lib.hid hOnT
      clear hFin hOnT hNew hOn hown' hgrow hf hC2 hk4 u1 u2 u3 q1 q2 q3 q4 q5 q6 q5' hrep hvtl hk1 hg1 hownT hbT hbT' hC0
      gi_wp2
      exact ⟨_, fun b hb => hb, HOnT.out, HFin.out⟩
    case done =>
      rintro D T1 W hD ⟨vt, tvs, hAt, i2, i3, i4, i5, i6, i7, i8, i9⟩ hd
      have hlen : ((List.range m).map encN).length = m := by simp
      rw [hlen] at hAt
      have hpk : PoolOk (List.replicate m 0) (List.replicate m (List.replicate 32 0)) :=
        ⟨by rw [List.length_replicate]; unfold big; omega, fun x hx => by rw [(List.mem_replicate.1 hx).2]; unfold I64; omega, by rw [List.length_replicate]; unfold big; omega,
          fun x hx => by rw [(List.mem_replicate.1 hx).2]; exact ⟨by simp [big], fun y hy => by rw [(List.mem_replicate.1 hy).2]; unfold I64; omega⟩⟩
      obtain ⟨vt', hg, hP⟩ := OwnI2.poolIn (⟨vt, tvs, hAt⟩ : OwnI2 _ _ _ _ _ _) hpk
      obtain ⟨b1, d1, b2, d2, hV⟩ := IsPool.open hP.pool
      rw [List.length_replicate, List.length_replicate] at hV
      cases hV
      have k1 := i6.cell
      obtain ⟨p1, p2⟩ := pair_cells hg
      obtain ⟨e1, e2⟩ := pair_cells i7
      have e3 := row_frozen i7 0
      have e4 := row_frozen i7 1
      have n1 : ¬ w.heap.size = w2.heap.size := by omega
      have HY := Lib.hid (write2 i7 (.slice (some ⟨w1.heap.size, 0, none⟩) m m) (.slice b2 m d2))
      have HP := Lib.hid ((hP.agree (AgreeIn.of_only (write2_only (B1 := w.heap.size) (.slice (some ⟨w1.heap.size, 0, none⟩) m m) (.slice b2 m d2)) (fun k h1 h2 => by omega))))
      have HB := Lib.hid ((i8.setCell (p := ⟨w.heap.size, 0, none⟩) (Nat.le_refl _) (.slice (some ⟨w1.heap.size, 0, none⟩) m m)).setCell (p := ⟨w.heap.size, 1, none⟩) (Nat.le_refl _) (.slice b2 m d2))
      have hDm := mark_set (mark_set hd ⟨w.heap.size, 0, none⟩ (.slice (some ⟨w1.heap.size, 0, none⟩) m m)) ⟨w.heap.size, 1, none⟩ (.slice b2 m d2)
      have HD := Lib.hid hDm
      have hsz : ((W.setCell ⟨w.heap.size, 0, none⟩ (.slice (some ⟨w1.heap.size, 0, none⟩) m m)).setCell ⟨w.heap.size, 1, none⟩ (.slice b2 m d2)).heap.size = W.heap.size := by simp [World.setCell]
      have HSZ := Lib.hid hsz
      have hDle : w.heap.size ≤ D := by omega
      clear hP hg i2 i3 i4 i5 i6 i7 i8 i9 hd hDm hAt hs1 hs2 hs3 hs4 hs5 hsz hlen
      gi_wp2
      refine end_mark (B := w.heap.size) hDle HD.out (fun w' hq => ?_)
      obtain ⟨r1, r2⟩ := pair_cells (hq.cells HY.out (.inr trivial))
      refine ⟨.tuple #[.agg #[.slice (some ⟨w1.heap.size, 0, none⟩) m m, .slice b2 m d2], .int .i64 0], ?_, hq.below HB.out (Nat.le_refl _) (Nat.le_refl _), .inr ⟨h1, h32, _, rfl, ?_⟩⟩
      · clear e1 e2 e3 e4 k1 p1 p2
        simp [results, Tryz.results21, go_sem, r1, r2]
      · rw [Int.toNat_natCast]
        exact (HP.out.agree (AgreeIn.of_quiet hq)).mono (by omega) (by have := hq.size; rw [HSZ.out] at this; exact this)
  · have hout : n < 1 ∨ 32 < n := by omega
    have HY := Lib.hid hx1
    have HB := Lib.hid hb1
    have HN := Lib.hid hin
    rw [hw1] at HY HB
    clear hx1 hb1 e1 e2 e3 e4 hin hw1 hs1
    rcases hout with ho | ho
    · gi_wp2
      refine end_plain rfl ⟨.tuple #[.agg #[.slice none 0 0, .slice none 0 0], .int .i64 2], ?_, HB.out, .inl ⟨HN.out, rfl⟩⟩
      obtain ⟨r1, r2⟩ := pair_cells HY.out
      simp [results, Tryz.results21, go_sem, r1, r2]
    · have ho' : ¬ n < 1 := by omega
      gi_wp2
      refine end_plain rfl ⟨.tuple #[.agg #[.slice none 0 0, .slice none 0 0], .int .i64 2], ?_, HB.out, .inl ⟨HN.out, rfl⟩⟩
      obtain ⟨r1, r2⟩ := pair_cells HY.out
      simp [results, Tryz.results21, go_sem, r1, r2]

end Go.Proofs.YtihmgiifphheeaaGreatDoor
