/- Contract of pool.TakeRun. -/
import Derived.Test.YtihmgiifphheeaaGreatDoorDrop
import Derived.Test.YtihmgiifphheeaaGreatDoorFirst
namespace Go.Sel
open Go Go.RowKit
theorem runsGo_zeros (l : List Int) : ∀ (m n f : Nat), l.length - n = m → (∀ j, f ≤ j → j < n → l[j]? = some 0) → ∀ h ∈ runsGo (l.drop n) n f, ∀ j, h.1 ≤ j → j < h.2 → l[j]? = some 0 := by
  intro m
  induction m with
  | zero =>
    intro n f hm hz h hh j h1 h2
    rw [List.drop_of_length_le (by omega)] at hh
    simp only [runsGo] at hh
    split at hh
    · simp at hh; subst hh; exact hz j h1 h2
    · cases hh
  | succ m ih =>
    intro n f hm hz h hh j h1 h2
    have hn : n < l.length := by omega
    rw [List.drop_eq_getElem_cons hn] at hh
    simp only [runsGo] at hh
    split at hh
    · rename_i hx
      refine ih (n + 1) f (by omega) (fun j k1 k2 => ?_) h hh j h1 h2
      by_cases e : j = n
      · subst e; rw [List.getElem?_eq_getElem hn, hx]
      · exact hz j k1 (by omega)
    · split at hh
      · rcases List.mem_cons.1 hh with hh | hh
        · subst hh; exact hz j h1 h2
        · exact ih (n + 1) (n + 1) (by omega) (fun j k1 k2 => by omega) h hh j h1 h2
      · exact ih (n + 1) (n + 1) (by omega) (fun j k1 k2 => by omega) h hh j h1 h2
theorem runsL_zeros {l : List Int} {h : Nat × Nat} (hh : h ∈ runsL l) (j : Nat) (h1 : h.1 ≤ j) (h2 : j < h.2) : l[j]? = some 0 :=
  runsGo_zeros l _ 0 0 rfl (fun j _ k => by omega) h (by simpa [runsL] using hh) j h1 h2
end Go.Sel
namespace Go.Proofs.YtihmgiifphheeaaGreatDoor
open Go.RowKit Go.Sel

theorem firstL_must {l : List Int} {k : Int} {h : Nat × Nat} (hf : firstL l k = some h) : 1 ≤ k ∧ k ≤ (l.length : Int) ∧ mustL l h.1 k.toNat isFreeB = true ∧ rightS l = true ∧ h.1 < l.length := by
  unfold firstL at hf
  split at hf
  · rename_i hg
    simp only [Bool.and_eq_true, decide_eq_true_eq] at hg
    have hmem := List.mem_of_find?_eq_some hf
    have hk := List.find?_some hf
    simp only [decide_eq_true_eq] at hk
    obtain ⟨m1, m2⟩ := runsL_mem hmem
    have hz := fun j => runsL_zeros hmem j
    obtain ⟨k0, rfl⟩ := Int.eq_ofNat_of_zero_le (show 0 ≤ k by omega)
    refine ⟨hg.2, by omega, ?_, hg.1, by omega⟩
    unfold mustL
    simp only [Bool.and_eq_true, decide_eq_true_eq, Int.toNat_natCast]
    refine ⟨⟨by omega, by omega⟩, ?_⟩
    rw [List.all_eq_true]
    intro x hx
    obtain ⟨i, hi⟩ := List.getElem?_of_mem hx
    have hil : i < k0 := by
      have := (List.getElem?_eq_some_iff.1 hi).1
      rw [List.length_take] at this; omega
    rw [List.getElem?_take_of_lt hil, List.getElem?_drop, hz (h.1 + i) (by omega) (by omega)] at hi
    cases hi
    rfl
  · cases hf

theorem intsIn' {lo m : Nat} {w w' : World} {v : Value} {xs : List Int} (hm : xs.length = m) (h : w.ownsRow lo 3 1 v m (xs.map (Value.int .i64))) (hl : xs.length ≤ big) (hx : ∀ x ∈ xs, I64 x) (ha : AgreeIn lo w.heap.size w w') : IsInts w.heap.size w' v xs := by
  subst hm; exact intsIn h hl hx ha

/-- TakeRun's answer. -/
def TakeRunPost (k : Int) (s : List Int) (t : List (List Int)) (w : World) (e : Ending) (w' : World) : Prop :=
  Below w.heap.size w w' ∧ (
    ((firstL s k = none ∨ rightP s t = false) ∧ e = .returned (.tuple #[.agg #[.slice none 0 0, .slice none 0 0], .int .i64 0, .bool false])) ∨
    (∃ h v, firstL s k = some h ∧ rightP s t = true ∧ e = .returned (.tuple #[v, .int .i64 (h.1 : Nat), .bool true]) ∧ PoolIn w.heap.size w'.heap.size w' v (putRow s h.1 k.toNat) t))

theorem putRow_mem {l : List Int} {f k : Nat} {y : Int} (h : y ∈ putRow l f k) : y ∈ l ∨ y = 4 ∨ y = 3 := by
  unfold putRow at h
  rcases List.mem_or_eq_of_mem_set h with h | h
  · rcases turnL_mem h with h | h
    · exact .inl h
    · exact .inr (.inl h)
  · exact .inr (.inr h)

set_option maxRecDepth 10000 in
set_option maxHeartbeats 2000000 in
theorem takeRun_any {n : Nat} {a0 a1' : Addr} {v : Value} {s : List Int} {t : List (List Int)} {w : World} (k : Int) (hk : I64 k) (h : IsPool n w v s t) (hE : RunErrs a0 a1' w.heap.size w) (hn : n ≤ w.heap.size) :
    Calls Tryz.prog 11 #[v, .int .i64 k] w (TakeRunPost k s t w) := by
  have hok := h.ok
  have hls := hok.ls
  unfold big at hls
  obtain ⟨a1, c1, a2, c2, rfl⟩ := IsPool.open h
  obtain ⟨w1, hw1⟩ : ∃ x, x = (w.alloc (Obj.cells #[.slice a1 s.length c1, .slice a2 t.length c2] 25)).alloc (Obj.cells #[.slice none 0 0, .slice none 0 0] 25) := ⟨_, rfl⟩
  have hb1 : Below w.heap.size w w1 := by rw [hw1]; exact kept_alloc (kept_alloc (Below.refl _ _) _) _
  have hs1 : w1.heap.size = w.heap.size + 2 := by rw [hw1]; simp
  have hx1 : w1.heap[w.heap.size]? = some (.cells #[.slice a1 s.length c1, .slice a2 t.length c2] 25 (0, 0)) := by rw [hw1]; exact heap_alloc_at (World.alloc_heap_new w _) _
  have hx2 : w1.heap[w.heap.size + 1]? = some (.cells #[.slice none 0 0, .slice none 0 0] 25 (0, 0)) := by
    rw [hw1]; have := World.alloc_heap_new (w.alloc (Obj.cells #[.slice a1 s.length c1, .slice a2 t.length c2] 25)) (Obj.cells #[.slice none 0 0, .slice none 0 0] 25); rwa [World.size_alloc] at this
  have hO := own_any ((h.below (hb1.mono hn)).wider (n' := w1.heap.size) (by omega)) (Nat.le_refl _)
  obtain ⟨y1, y2⟩ := pair_cells hx1
  rw [hw1] at y1 y2
  go_enter Tryz.func11, Tryz.ntmps11
  go_wp2_with fail
  rw [← hw1]
  refine hO.mono ?_
  clear hO y1 y2
  rintro e w2 ⟨g, rfl, ⟨vs, hOwn⟩, hb2⟩
  replace hOwn : OwnI2 w1.heap.size g w2 vs s t := hOwn
  have hs2 := hb2.size
  have hy1 := (hb2.block _ (by omega)).trans hx1
  have hy2 := (hb2.block _ (by omega)).trans hx2
  have hb02 : Below w.heap.size w w2 := hb1.trans (hb2.mono (by omega))
  have h2 := (h.below (hb02.mono hn)).wider (n' := w2.heap.size) (by omega)
  clear hw1 hx1 hx2 hb1 h
  obtain ⟨z1, z2, hz, hz1, hz2⟩ := h2
  cases hz
  have hF := first_any k hz1 (Nat.le_refl _)
  have h2 : IsPool w2.heap.size w2 (.agg #[.slice a1 s.length c1, .slice a2 t.length c2]) s t := ⟨_, _, rfl, hz1, hz2⟩
  obtain ⟨y1, y2⟩ := pair_cells hy1
  clear hz1 hz2
  go_wp2_with fail
  refine hF.mono ?_
  clear hF
  rintro e w3 ⟨rfl, hb3⟩
  have hs3 := hb3.size
  have hy1' := (hb3.block _ (by omega)).trans hy1
  have hy2' := (hb3.block _ (by omega)).trans hy2
  have h3 := h2.below hb3
  have hb03 : Below w.heap.size w w3 := kept_trans hb02 hb3
  clear y1 y2 hy1 hy2 h2
  obtain ⟨y1, y2⟩ := pair_cells hy1'
  cases hf : firstL s k with
  | none =>
    obtain ⟨e1, e2⟩ := pair_cells hy2'
    have e3 := row_frozen hy2' 0
    have e4 := row_frozen hy2' 1
    have HY := Lib.hid (write2 hy2' (.slice none 0 0) (.slice none 0 0))
    have HF := Lib.hid hf
    clear hf hy1' hy2' h3 hE hOwn
    unfold firstV
    go_wp2
    obtain ⟨r1, r2⟩ := pair_cells HY.out
    refine bodyPost_ret (v := .tuple #[.agg #[.slice none 0 0, .slice none 0 0], .int .i64 0, .bool false]) ?_ rfl ⟨(hb03.setCell (p := ⟨w.heap.size + 1, 0, none⟩) (by simp) _).setCell (p := ⟨w.heap.size + 1, 1, none⟩) (by simp) _, .inl ⟨.inl HF.out, rfl⟩⟩
    clear e1 e2 e3 e4
    simp [results, Tryz.results11, go_sem, r1, r2]
  | some hh =>
    obtain ⟨m1, m2, m3, m4, m5⟩ := firstL_must hf
    have hR := poolRight_any h3 (by omega)
    have HF := Lib.hid hf
    clear hf
    unfold firstV
    go_wp2_with fail
    refine hR.mono ?_
    clear hR
    rintro e w4 ⟨rfl, hb4⟩
    have hs4 := hb4.size
    have hy1 := (hb4.block _ (by omega)).trans hy1'
    have hy2 := (hb4.block _ (by omega)).trans hy2'
    have hb04 : Below w.heap.size w w4 := kept_trans hb03 hb4
    clear y1 y2 hy1' hy2' h3
    cases hr : rightP s t with
    | false =>
      obtain ⟨e1, e2⟩ := pair_cells hy2
      have e3 := row_frozen hy2 0
      have e4 := row_frozen hy2 1
      have HY := Lib.hid (write2 hy2 (.slice none 0 0) (.slice none 0 0))
      have HR := Lib.hid hr
      clear hy1 hy2 hr hE hOwn m3
      go_wp2
      obtain ⟨r1, r2⟩ := pair_cells HY.out
      refine bodyPost_ret (v := .tuple #[.agg #[.slice none 0 0, .slice none 0 0], .int .i64 0, .bool false]) ?_ rfl ⟨(hb04.setCell (p := ⟨w.heap.size + 1, 0, none⟩) (by simp) _).setCell (p := ⟨w.heap.size + 1, 1, none⟩) (by simp) _, .inl ⟨.inr HR.out, rfl⟩⟩
      clear e1 e2 e3 e4
      simp [results, Tryz.results11, go_sem, r1, r2]
    | true =>
      have hb24 : Below w2.heap.size w2 w4 := hb3.trans (hb4.mono hb3.size)
      have hO4 : OwnI2 w1.heap.size g w4 vs s t := hOwn.only (Only.of_below (S := fun _ => False) hb24) (fun _ h => h.elim)
      obtain ⟨vt0, hg4, hP4⟩ := hO4.poolIn hok
      obtain ⟨b1, d1, b2, d2, hV⟩ := IsPool.open hP4.pool
      cases hV
      obtain ⟨q1, q2, hq, hq1, hq2⟩ := hP4.pool
      cases hq
      have hE4 : RunErrs a0 a1' w4.heap.size w4 := by
        have := hE.below hb04
        obtain ⟨⟨p1, p2, p3, p4⟩, ⟨q1, q2, q3, q4⟩, r⟩ := this
        exact ⟨⟨p1, by omega, by omega, p4⟩, ⟨q1, by omega, by omega, q4⟩, r⟩
      have hput := put_any (hh.1 : Int) k (by unfold I64; omega) hk hq1 hE4
      have hwhole := rightP_whole hr
      have HR := Lib.hid hr
      have HW := Lib.hid hwhole
      have HM := Lib.hid m3
      obtain ⟨p1, p2⟩ := pair_cells hg4
      clear hr hwhole m3 hq1 hq2 hP4 hOwn hE hE4
      go_wp2_with fail
      refine hput.mono ?_
      clear hput
      rintro e w5 ⟨hb5, hA⟩
      have hs5 := hb5.size
      rcases hA with ⟨hno, _⟩ | ⟨_, hno, _⟩ | ⟨_, _, _, _, vC, rfl, hrow⟩
      · rw [HW.out] at hno; cases hno
      · exact absurd ⟨m1, m2, HM.out⟩ hno
      · have hlenT : (putRow s (hh.1 : Int).toNat k.toNat).length = s.length := by
          unfold putRow
          rw [List.length_set]
          exact length_turnL 4 (by have := must_lt HM.out (by omega); omega)
        have hO5 : OwnI2 w1.heap.size g w5 _ s t := hO4.only (Only.of_below (S := fun _ => False) hb5) (fun _ h => h.elim)
        obtain ⟨sa, sc, rfl, hsc⟩ := owns_open hrow
        have hz5 := (hb5.block _ (by omega)).trans hy2
        have hgl := (Array.getElem?_eq_some_iff.1 hg4).1
        have hgB : w1.heap.size ≤ g := by obtain ⟨_, _, _, q2, _⟩ := hO4; exact q2
        obtain ⟨vt, hg5, hT5⟩ := hO5.tabsIn hok
        have hvt : vt = .slice b2 t.length d2 := by
          have := (hb5.block _ hgl).trans hg4
          rw [this] at hg5
          have := Option.some.inj hg5
          simp at this
          exact this.symm
        subst hvt
        have n0 : ∀ k', Value.ownBlock (.slice sa s.length sc) = some k' → w4.heap.size ≤ k' := fun k' hk' => (hrow.lt k' hk').1
        obtain ⟨p1', p2'⟩ := pair_cells hg5
        have p3 := row_frozen hg5 0
        have n1 : ¬ w.heap.size + 1 = g := by omega
        have n2 : ¬ g = w.heap.size + 1 := by omega
        have hOnly : Only (fun k => k = g) w5 (w5.setCell ⟨g, 0, none⟩ (.slice sa s.length sc)) := (Only.refl (fun k => k = g) w5).setCell (p := ⟨g, 0, none⟩) (.inl rfl) _
        have hP : PoolIn w1.heap.size w5.heap.size (w5.setCell ⟨g, 0, none⟩ (.slice sa s.length sc)) (.agg #[.slice sa s.length sc, .slice b2 t.length d2]) (putRow s hh.1 k.toNat) t := by
          intro w' ha
          refine ⟨_, _, rfl, ?_, hT5 w' ((AgreeIn.of_only hOnly (fun k h1 h2 => by omega)).trans (ha.mono (by omega) (Nat.le_refl _)))⟩
          have h1 : (w5.setCell ⟨g, 0, none⟩ (.slice sa s.length sc)).ownsRow w4.heap.size 3 1 (.slice sa s.length sc) s.length ((putRow s (hh.1 : Int).toNat k.toNat).map (Value.int .i64)) := owns_only hrow hOnly (fun k' hk' e => by subst hk'; have := n0 _ e; omega)
          have := intsIn' hlenT h1 (by rw [hlenT]; exact hok.ls) (fun x hx => by rcases putRow_mem hx with h | rfl | rfl; exact hok.ns x h; all_goals (unfold I64; omega)) (ha.mono (by omega) (by simp [World.setCell]))
          simpa [World.setCell] using this
        have hy4 : (w5.setCell ⟨g, 0, none⟩ (.slice sa s.length sc)).heap[w.heap.size + 1]? = some (.cells #[.slice none 0 0, .slice none 0 0] 25 (0, 0)) := (Below.heap_setCell _ _ _ _ (by show w.heap.size + 1 ≠ g; omega)).trans hz5
        have hg6 : (w5.setCell ⟨g, 0, none⟩ (.slice sa s.length sc)).heap[g]? = some (.cells #[.slice sa s.length sc, .slice b2 t.length d2] 53 (0, 0)) := pair_set0 hg5
        obtain ⟨f1, f2⟩ := pair_cells hy4
        have f3 := row_frozen hy4 0
        have f4 := row_frozen hy4 1
        obtain ⟨k1, k2⟩ := pair_cells hg6
        have HY := Lib.hid (write2 hy4 (.slice sa s.length sc) (.slice b2 t.length d2))
        have hb05 : Below w.heap.size w (w5.setCell ⟨g, 0, none⟩ (.slice sa s.length sc)) := (kept_trans hb04 hb5).setCell (p := ⟨g, 0, none⟩) (by show w.heap.size ≤ g; omega) _
        have HP := Lib.hid ((hP.agree (AgreeIn.of_only (write2_only (B1 := w.heap.size + 1) (.slice sa s.length sc) (.slice b2 t.length d2)) (fun k h1 h2 => by omega))).mono (lo' := w.heap.size) (hi' := (((w5.setCell ⟨g, 0, none⟩ (.slice sa s.length sc)).setCell ⟨w.heap.size + 1, 0, none⟩ (.slice sa s.length sc)).setCell ⟨w.heap.size + 1, 1, none⟩ (.slice b2 t.length d2)).heap.size) (by omega) (by simp [World.setCell]))
        clear hy1 hy2 hz5 hy4 hO4 hO5 hP hg4 hg5 hg6 hrow p1 p2 hT5 n0 hlenT
        go_wp2
        obtain ⟨r1, r2⟩ := pair_cells HY.out
        refine bodyPost_ret (v := .tuple #[.agg #[.slice sa s.length sc, .slice b2 t.length d2], .int .i64 (hh.1 : Nat), .bool true]) ?_ rfl ⟨(hb05.setCell (p := ⟨w.heap.size + 1, 0, none⟩) (by simp) _).setCell (p := ⟨w.heap.size + 1, 1, none⟩) (by simp) _, .inr ⟨hh, _, HF.out, HR.out, rfl, HP.out⟩⟩
        clear f1 f2 f3 f4 p1' p2' p3 k1 k2
        simp [results, Tryz.results11, go_sem, r1, r2]

end Go.Proofs.YtihmgiifphheeaaGreatDoor
