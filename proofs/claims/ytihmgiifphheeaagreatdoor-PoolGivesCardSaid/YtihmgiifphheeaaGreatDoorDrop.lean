/- Contracts of pool.Drop, TakeRun. -/
import Derived.Test.YtihmgiifphheeaaGreatDoorClose
namespace Go.Proofs.YtihmgiifphheeaaGreatDoor
open Go.RowKit Go.Sel

theorem intsIn {lo : Nat} {w w' : World} {v : Value} {xs : List Int} (h : w.ownsRow lo 3 1 v xs.length (xs.map (Value.int .i64))) (hl : xs.length ≤ big) (hx : ∀ x ∈ xs, I64 x) (ha : AgreeIn lo w.heap.size w w') : IsInts w.heap.size w' v xs :=
  (IsInts.of_owns (owns_agree h ha (Nat.le_refl _) (Nat.le_refl _)) hl hx).narrow (fun k hk => (h.lt k hk).2)
/-- The tables alone. -/
theorem OwnI2.tabsIn {B g : Nat} {w : World} {vs : Value} {s : List Int} {t : List (List Int)} (h : OwnI2 B g w vs s t) (ho : PoolOk s t) :
    ∃ vt, w.heap[g]? = some (.cells #[vs, vt] 53 (0, 0)) ∧ ∀ w', AgreeIn (g + 1) w.heap.size w w' → IsTabs w.heap.size w' vt t := by
  obtain ⟨vt, tvs, q1, q2, q3, q4, q5, q6⟩ := h
  refine ⟨vt, q1, fun w' ha => ?_⟩
  have p5 := owns_agree q5 ha (by omega) (Nat.le_refl _)
  have hl2 : tvs.length = t.length := by have := q5.1; simpa using this
  rcases hp : p5.2 with ⟨rfl, h2⟩ | ⟨gt, cap, cur, rfl, hg, hh, h3, h4, h5, h6⟩
  · have : t = [] := List.length_eq_zero_iff.1 h2
    subst this
    exact IsSl.nil
  · refine ⟨some ⟨gt, 0, none⟩, cap, rfl, h3, ho.lt, fun j x hx => ?_⟩
    have hj : j < tvs.length := by have := (List.getElem?_eq_some_iff.1 hx).1; omega
    have hc := p5.cells (g := gt) rfl j tvs[j] (List.getElem?_eq_getElem hj)
    rw [Addr.add_lit] at hc
    obtain ⟨r1, _⟩ := q6 j _ x (List.getElem?_eq_getElem hj) hx
    refine ⟨gt, 0, rfl, (q5.lt gt rfl).2, tvs[j], by simpa using hc, ?_⟩
    exact (IsInts.of_owns (owns_agree r1 ha (by omega) (Nat.le_refl _)) (ho.nt x (List.mem_of_getElem? hx)).1 (ho.nt x (List.mem_of_getElem? hx)).2).narrow (fun k hk => (r1.lt k hk).2)

/-- The states' field of a keeper turned. -/
theorem turned_pool {lo B g : Nat} {w : World} {vs v : Value} {s s' : List Int} {t : List (List Int)} (h : OwnI2 B g w vs s t) (ho : PoolOk s t) (hlo : lo ≤ B) (hv : w.ownsRow lo 3 1 v s'.length (s'.map (Value.int .i64)))
    (hvg : ∀ k, v.ownBlock = some k → k < B) (hl : s'.length ≤ big) (hx : ∀ x ∈ s', I64 x) :
    ∃ vt, w.heap[g]? = some (.cells #[vs, vt] 53 (0, 0)) ∧ PoolIn lo w.heap.size (w.setCell ⟨g, 0, none⟩ v) (.agg #[v, vt]) s' t := by
  have hgB : B ≤ g := by obtain ⟨vt, tvs, q1, q2, _⟩ := h; exact q2
  obtain ⟨vt, q1, hT⟩ := h.tabsIn ho
  refine ⟨vt, q1, fun w' ha => ⟨v, vt, rfl, ?_, ?_⟩⟩
  · have hO : Only (fun k => k = g) w (w.setCell ⟨g, 0, none⟩ v) := (Only.refl (fun k => k = g) w).setCell (p := ⟨g, 0, none⟩) (.inl rfl) _
    have h1 : (w.setCell ⟨g, 0, none⟩ v).ownsRow lo 3 1 v s'.length (s'.map (Value.int .i64)) := owns_only hv hO (fun k hk e => by subst hk; have := hvg _ e; omega)
    have := intsIn (w := w.setCell ⟨g, 0, none⟩ v) h1 hl hx (ha.mono (Nat.le_refl _) (by simp [World.setCell]))
    simpa [World.setCell] using this
  · refine hT w' ?_
    have hO : Only (fun k => k = g) w (w.setCell ⟨g, 0, none⟩ v) := (Only.refl (fun k => k = g) w).setCell (p := ⟨g, 0, none⟩) (.inl rfl) _
    exact (AgreeIn.of_only hO (fun k h1 h2 => by omega)).trans (ha.mono (by omega) (Nat.le_refl _))

/-- Drop's answer. -/
def DropPost (b : Int) (s : List Int) (t : List (List Int)) (w : World) (e : Ending) (w' : World) : Prop :=
  Below w.heap.size w w' ∧ (
    (rightP s t = false ∧ e = .returned (.tuple #[.agg #[.slice none 0 0, .slice none 0 0], .int .i64 0, .int .i64 100])) ∨
    (rightP s t = true ∧ mustL s b 1 isHeadB = false ∧ e = .returned (.tuple #[.agg #[.slice none 0 0, .slice none 0 0], .int .i64 0, .int .i64 91])) ∨
    (rightP s t = true ∧ mustL s b 1 isHeadB = true ∧ ∃ v, e = .returned (.tuple #[v, .int .i64 (cutLen s b.toNat : Nat), .int .i64 0]) ∧ PoolIn w.heap.size w'.heap.size w' v (turnL s b.toNat (cutLen s b.toNat) 0) t))

theorem rightP_whole {s : List Int} {t : List (List Int)} (h : rightP s t = true) : wholeL s = true := by
  unfold rightP at h
  simp only [Bool.and_eq_true] at h
  exact h.1.1

theorem turnL_mem {l : List Int} {f m : Nat} {x y : Int} (h : y ∈ turnL l f m x) : y ∈ l ∨ y = x := by
  unfold turnL at h
  rw [List.mem_append, List.mem_append] at h
  rcases h with (h | h) | h
  · exact .inl (List.mem_of_mem_take h)
  · exact .inr (List.eq_of_mem_replicate h)
  · exact .inl (List.mem_of_mem_drop h)

theorem cutLen_le {l : List Int} {f : Nat} (h : f < l.length) : f + cutLen l f ≤ l.length := by
  unfold cutLen
  have := (List.takeWhile_sublist (l := l.drop (f + 1)) (fun x : Int => decide (x = 4))).length_le
  simp only [List.length_drop] at this
  omega
theorem must_lt {l : List Int} {f : Int} {k : Nat} {p : Int → Bool} (h : mustL l f k p = true) (hk : 1 ≤ k) : 0 ≤ f ∧ f.toNat + k ≤ l.length ∧ f.toNat < l.length := by
  unfold mustL at h
  simp at h
  omega

set_option maxRecDepth 10000 in
set_option maxHeartbeats 2000000 in
theorem drop_any {n : Nat} {a0 a1' : Addr} {v : Value} {s : List Int} {t : List (List Int)} {w : World} (b : Int) (hb : I64 b) (h : IsPool n w v s t) (hE : RunErrs a0 a1' w.heap.size w) (hn : n ≤ w.heap.size) :
    Calls Tryz.prog 17 #[v, .int .i64 b] w (DropPost b s t w) := by
  have hok := h.ok
  have hls := hok.ls
  unfold big at hls
  obtain ⟨a1, c1, a2, c2, rfl⟩ := IsPool.open h
  obtain ⟨w1, hw1⟩ : ∃ x, x = (w.alloc (Obj.cells #[.slice a1 s.length c1, .slice a2 t.length c2] 25)).alloc (Obj.cells #[.slice none 0 0, .slice none 0 0] 25) := ⟨_, rfl⟩
  have hb1 : Below w.heap.size w w1 := by rw [hw1]; exact kept_alloc (kept_alloc (Below.refl _ _) _) _
  have hs1 : w1.heap.size = w.heap.size + 2 := by rw [hw1]; simp
  have hx1 : w1.heap[w.heap.size]? = some (.cells #[.slice a1 s.length c1, .slice a2 t.length c2] 25 (0, 0)) := by rw [hw1]; exact heap_alloc_at (World.alloc_heap_new w _) _
  have hx2 : w1.heap[w.heap.size + 1]? = some (.cells #[.slice none 0 0, .slice none 0 0] 25 (0, 0)) := by
    rw [hw1]; have := World.alloc_heap_new (w.alloc (Obj.cells #[.slice a1 s.length c1, .slice a2 t.length c2] 25)) (Obj.cells #[.slice none 0 0, .slice none 0 0] 25); rwa [World.size_alloc] at this
  have hR := poolRight_any (h.below (hb1.mono hn)) (by omega)
  obtain ⟨y1, y2⟩ := pair_cells hx1
  rw [hw1] at y1 y2
  go_enter Tryz.func17, Tryz.ntmps17
  go_wp2_with fail
  rw [← hw1]
  refine hR.mono ?_
  clear hR y1 y2
  rintro e w2 ⟨rfl, hb2⟩
  have hs2 := hb2.size
  have hy1 := (hb2.block _ (by omega)).trans hx1
  have hy2 := (hb2.block _ (by omega)).trans hx2
  have hb02 : Below w.heap.size w w2 := hb1.trans (hb2.mono (by omega))
  have h2 := (h.below (hb02.mono hn)).wider (n' := w2.heap.size) (by omega)
  have hE2 : RunErrs a0 a1' w2.heap.size w2 := by
    have := hE.below hb02
    obtain ⟨⟨p1, p2, p3, p4⟩, ⟨q1, q2, q3, q4⟩, r⟩ := this
    exact ⟨⟨p1, by omega, by omega, p4⟩, ⟨q1, by omega, by omega, q4⟩, r⟩
  clear hw1 hx1 hx2 hb1 h hE
  cases hr : rightP s t with
  | false =>
    obtain ⟨e1, e2⟩ := pair_cells hy2
    have e3 := row_frozen hy2 0
    have e4 := row_frozen hy2 1
    have HY := Lib.hid (write2 hy2 (.slice none 0 0) (.slice none 0 0))
    have HR := Lib.hid hr
    clear hy2 hr h2 hE2 hy1
    go_wp2
    obtain ⟨r1, r2⟩ := pair_cells HY.out
    refine bodyPost_ret (v := .tuple #[.agg #[.slice none 0 0, .slice none 0 0], .int .i64 0, .int .i64 100]) ?_ rfl ⟨(hb02.setCell (p := ⟨w.heap.size + 1, 0, none⟩) (by simp) _).setCell (p := ⟨w.heap.size + 1, 1, none⟩) (by simp) _, .inl ⟨HR.out, rfl⟩⟩
    clear e1 e2 e3 e4
    simp [results, Tryz.results17, go_sem, r1, r2]
  | true =>
    have hwhole := rightP_whole hr
    obtain ⟨z1, z2, hz, hz1, hz2⟩ := h2
    cases hz
    have hC := cut_any b hb hz1 hE2
    have h2 : IsPool w2.heap.size w2 (.agg #[.slice a1 s.length c1, .slice a2 t.length c2]) s t := ⟨_, _, rfl, hz1, hz2⟩
    have HR := Lib.hid hr
    have HWh := Lib.hid hwhole
    obtain ⟨y1, y2⟩ := pair_cells hy1
    clear hr hwhole hz1 hz2 hE2
    go_wp2_with fail
    refine hC.mono ?_
    clear hC
    rintro e w3 ⟨hb3, hA⟩
    have hs3 := hb3.size
    have hz1 := (hb3.block _ (by omega)).trans hy1
    have hz2 := (hb3.block _ (by omega)).trans hy2
    have h3 := h2.below hb3
    have hb03 : Below w.heap.size w w3 := kept_trans hb02 hb3
    clear y1 y2 hy1 hy2 h2
    rcases hA with ⟨hno, _⟩ | ⟨_, hno, rfl⟩ | ⟨_, hmu, vC, rfl, hrow⟩
    · have := HWh.out; rw [hno] at this; cases this
    · obtain ⟨e1, e2⟩ := pair_cells hz2
      have e3 := row_frozen hz2 0
      have e4 := row_frozen hz2 1
      have HY := Lib.hid (write2 hz2 (.slice none 0 0) (.slice none 0 0))
      have HM := Lib.hid hno
      clear hz1 hz2 hno h3
      go_wp2
      obtain ⟨r1, r2⟩ := pair_cells HY.out
      refine bodyPost_ret (v := .tuple #[.agg #[.slice none 0 0, .slice none 0 0], .int .i64 0, .int .i64 91]) ?_ rfl ⟨(hb03.setCell (p := ⟨w.heap.size + 1, 0, none⟩) (by simp) _).setCell (p := ⟨w.heap.size + 1, 1, none⟩) (by simp) _, .inr (.inl ⟨HR.out, HM.out, rfl⟩)⟩
      clear e1 e2 e3 e4
      simp [results, Tryz.results17, go_sem, r1, r2]
    · obtain ⟨m0, m1, m2⟩ := must_lt hmu (Nat.le_refl 1)
      have hlenT : (turnL s b.toNat (cutLen s b.toNat) 0).length = s.length := length_turnL 0 (cutLen_le m2)
      have hcut := cutLen_le m2
      obtain ⟨sa, sc, rfl, hsc⟩ := owns_open hrow
      obtain ⟨y1, y2⟩ := pair_cells hz1
      have hO := own_any (n := w3.heap.size) (h3.wider (by omega)) (Nat.le_refl _)
      have HM := Lib.hid hmu
      clear h3 hmu
      go_wp2_with fail
      refine hO.mono ?_
      rintro e w4 ⟨g, rfl, ⟨vs, hOwn⟩, hb4⟩
      replace hOwn : OwnI2 w3.heap.size g w4 vs s t := hOwn
      have hs4 := hb4.size
      have hz4 := (hb4.block _ (by omega)).trans hz2
      rw [← hlenT] at hrow
      obtain ⟨vt, hg4, hP⟩ := turned_pool hOwn hok hs3 (owns_kept hrow hb4) (fun k hk => (hrow.lt k hk).2) (by rw [hlenT]; exact hok.ls) (fun x hx => by rcases turnL_mem hx with h | rfl; exact hok.ns x h; unfold I64; omega)
      rw [hlenT] at hP hrow
      have hgB : w3.heap.size ≤ g := by obtain ⟨_, _, _, q2, _⟩ := hOwn; exact q2
      obtain ⟨b1, d1, b2, d2, hV⟩ := IsPool.open hP.pool
      rw [hlenT] at hV
      cases hV
      obtain ⟨p1, p2⟩ := pair_cells hg4
      have p3 := row_frozen hg4 0
      have n1 : ¬ w.heap.size + 1 = g := by omega
      have n2 : ¬ g = w.heap.size + 1 := by omega
      have hy4 : (w4.setCell ⟨g, 0, none⟩ (.slice sa s.length sc)).heap[w.heap.size + 1]? = some (.cells #[.slice none 0 0, .slice none 0 0] 25 (0, 0)) := (Below.heap_setCell _ _ _ _ (by show w.heap.size + 1 ≠ g; omega)).trans hz4
      have hg5 : (w4.setCell ⟨g, 0, none⟩ (.slice sa s.length sc)).heap[g]? = some (.cells #[.slice sa s.length sc, .slice b2 t.length d2] 53 (0, 0)) := pair_set0 hg4
      obtain ⟨f1, f2⟩ := pair_cells hy4
      have f3 := row_frozen hy4 0
      have f4 := row_frozen hy4 1
      obtain ⟨k1, k2⟩ := pair_cells hg5
      have HY := Lib.hid (write2 hy4 (.slice sa s.length sc) (.slice b2 t.length d2))
      have hb04 : Below w.heap.size w (w4.setCell ⟨g, 0, none⟩ (.slice sa s.length sc)) := (kept_trans hb03 hb4).setCell (p := ⟨g, 0, none⟩) (by show w.heap.size ≤ g; omega) _
      have HP := Lib.hid ((hP.agree (AgreeIn.of_only (write2_only (B1 := w.heap.size + 1) (.slice sa s.length sc) (.slice b2 t.length d2)) (fun k h1 h2 => by omega))).mono (lo' := w.heap.size) (hi' := (((w4.setCell ⟨g, 0, none⟩ (.slice sa s.length sc)).setCell ⟨w.heap.size + 1, 0, none⟩ (.slice sa s.length sc)).setCell ⟨w.heap.size + 1, 1, none⟩ (.slice b2 t.length d2)).heap.size) (by omega) (by simp [World.setCell]))
      clear hO hz1 hz2 hz4 hy4 hOwn hP hg4 hg5 hrow y1 y2
      go_wp2
      obtain ⟨r1, r2⟩ := pair_cells HY.out
      refine bodyPost_ret (v := .tuple #[.agg #[.slice sa s.length sc, .slice b2 t.length d2], .int .i64 (cutLen s b.toNat : Nat), .int .i64 0]) ?_ rfl ⟨(hb04.setCell (p := ⟨w.heap.size + 1, 0, none⟩) (by simp) _).setCell (p := ⟨w.heap.size + 1, 1, none⟩) (by simp) _, .inr (.inr ⟨HR.out, HM.out, _, rfl, HP.out⟩)⟩
      clear f1 f2 f3 f4 p1 p2 p3 k1 k2
      simp [results, Tryz.results17, go_sem, r1, r2]

end Go.Proofs.YtihmgiifphheeaaGreatDoor
