/- Contracts of selionref10.TakeFree, TakeHole, TakeRun, Close, Drop. -/
import Derived.Test.YtihmgiifphheeaaGreatDoorRef5
namespace Go.Proofs.YtihmgiifphheeaaGreatDoor
open Go.RowKit Go.Sel

theorem res_below {w W : World} {x y : Value} (hb : Below w.heap.size w W) : Below w.heap.size w ((W.setCell ⟨w.heap.size + 1, 0, none⟩ x).setCell ⟨w.heap.size + 1, 1, none⟩ y) :=
  (hb.setCell (p := ⟨w.heap.size + 1, 0, none⟩) (by simp) _).setCell (p := ⟨w.heap.size + 1, 1, none⟩) (by simp) _
theorem alloc_set0 {w : World} {u v u' : Value} {t : TypeId} : (w.alloc (.cells #[u, v] t)).setCell ⟨w.heap.size, 0, none⟩ u' = w.alloc (.cells #[u', v] t) := by
  simp [go_sem]
/-- A pool, a number. -/
def NumAns (r : List Int × List (List Int) × Int) (w : World) (e : Ending) (w' : World) : Prop :=
  Below w.heap.size w w' ∧ ∃ (a1 a2 : Option Addr) (l1 c1 l2 c2 : Nat), e = .returned (.tuple #[.agg #[.slice a1 l1 c1, .slice a2 l2 c2], .int .i64 r.2.2]) ∧ PoolIn w.heap.size w'.heap.size w' (.agg #[.slice a1 l1 c1, .slice a2 l2 c2]) r.1 r.2.1
/-- A pool, two numbers. -/
def TwoAns (r : List Int × List (List Int) × Nat × Int) (w : World) (e : Ending) (w' : World) : Prop :=
  Below w.heap.size w w' ∧ ∃ (a1 a2 : Option Addr) (l1 c1 l2 c2 : Nat), e = .returned (.tuple #[.agg #[.slice a1 l1 c1, .slice a2 l2 c2], .int .i64 ((r.2.2.1 : Nat) : Int), .int .i64 r.2.2.2]) ∧ PoolIn w.heap.size w'.heap.size w' (.agg #[.slice a1 l1 c1, .slice a2 l2 c2]) r.1 r.2.1
def closeAns (s : List Int) (t : List (List Int)) (b : Int) : List Int × List (List Int) × Int := match blockE s t b [5] with | some e => ([], [], e) | none => (s.set b.toNat 2, t, 0)
def setAns (s : List Int) (t : List (List Int)) (b : Int) (x : List Int) : List Int × List (List Int) × Int := match setE s t b x with | some e => ([], [], e) | none => (s.set b.toNat (stateL x), t.set b.toNat x, 0)
def runAns (s : List Int) (t : List (List Int)) (k : Int) : List Int × List (List Int) × Nat × Bool :=
  match firstL s k with | some h => if rightP s t = true then (putRow s h.1 k.toNat, t, h.1, true) else ([], [], 0, false) | none => ([], [], 0, false)
def dropAns (s : List Int) (t : List (List Int)) (b : Int) : List Int × List (List Int) × Nat × Int :=
  if rightP s t = true then (if mustL s b 1 isHeadB = true then (turnL s b.toNat (cutLen s b.toNat) 0, t, cutLen s b.toNat, 0) else ([], [], 0, 91)) else ([], [], 0, 100)
theorem givePost_ans {E : Option Int} {s : List Int} {t : List (List Int)} {w : World} {e : Ending} {w' : World} (h : GivePost E s t w e w') : NumAns (match (generalizing := false) E with | some e => ([], [], e) | none => (s, t, 0)) w e w' := by
  obtain ⟨hb, ⟨x, hE, rfl⟩ | ⟨v, hE, rfl, hP⟩⟩ := h
  · subst hE
    exact ⟨hb, none, none, 0, 0, 0, 0, rfl, emptyIn _ _ _⟩
  · subst hE
    obtain ⟨a1, c1, a2, c2, rfl⟩ := IsPool.open hP.pool
    exact ⟨hb, a1, a2, _, c1, _, c2, rfl, hP⟩
theorem runPost_ans {s : List Int} {t : List (List Int)} {k : Int} {w : World} {e : Ending} {w' : World} (h : TakeRunPost k s t w e w') : AnsPost (runAns s t k) w e w' := by
  obtain ⟨hb, ⟨hno, rfl⟩ | ⟨p, v, hf, hr, rfl, hP⟩⟩ := h
  · have e1 : runAns s t k = ([], [], 0, false) := by
      unfold runAns
      rcases hno with h | h
      · rw [h]
      · split
        · rw [if_neg (by rw [h]; decide)]
        · rfl
    rw [e1]
    exact ⟨hb, none, none, 0, 0, 0, 0, rfl, emptyIn _ _ _⟩
  · have e1 : runAns s t k = (putRow s p.1 k.toNat, t, p.1, true) := by unfold runAns; rw [hf]; simp only []; rw [if_pos hr]
    rw [e1]
    obtain ⟨a1, c1, a2, c2, rfl⟩ := IsPool.open hP.pool
    exact ⟨hb, a1, a2, _, c1, _, c2, rfl, hP⟩
theorem dropPost_ans {s : List Int} {t : List (List Int)} {b : Int} {w : World} {e : Ending} {w' : World} (h : DropPost b s t w e w') : TwoAns (dropAns s t b) w e w' := by
  obtain ⟨hb, ⟨hr, rfl⟩ | ⟨hr, hm, rfl⟩ | ⟨hr, hm, v, rfl, hP⟩⟩ := h
  · have e1 : dropAns s t b = ([], [], 0, 100) := by unfold dropAns; rw [if_neg (by rw [hr]; decide)]
    rw [e1]
    exact ⟨hb, none, none, 0, 0, 0, 0, rfl, emptyIn _ _ _⟩
  · have e1 : dropAns s t b = ([], [], 0, 91) := by unfold dropAns; rw [if_pos hr, if_neg (by rw [hm]; decide)]
    rw [e1]
    exact ⟨hb, none, none, 0, 0, 0, 0, rfl, emptyIn _ _ _⟩
  · have e1 : dropAns s t b = (turnL s b.toNat (cutLen s b.toNat) 0, t, cutLen s b.toNat, 0) := by unfold dropAns; rw [if_pos hr, if_pos hm]
    rw [e1]
    obtain ⟨a1, c1, a2, c2, rfl⟩ := IsPool.open hP.pool
    exact ⟨hb, a1, a2, _, c1, _, c2, rfl, hP⟩
/-- The rows behind the writing of a result. -/
theorem res_rows {w W : World} {va vb : Value} {B : Nat} {tvs : List Value} {s : List Int} {t : List (List Int)} (h : RefRows B va vb tvs s t W) (hB : w.heap.size + 1 < B) :
    RefRows B va vb tvs s t ((W.setCell ⟨w.heap.size + 1, 0, none⟩ va).setCell ⟨w.heap.size + 1, 1, none⟩ vb) := h.only (write2_only (W := W) (B1 := w.heap.size + 1) va vb) (fun j e => by omega)

set_option maxRecDepth 100000 in
set_option maxHeartbeats 8000000 in
theorem ref10TakeFree_any {n : Nat} {v : Value} {s : List Int} {t : List (List Int)} {w : World} (h : IsPool n w v s t) (hn : n ≤ w.heap.size) :
    Calls Tryz.prog 8 #[v] w (AnsPost (takeAns s t 0) w) := by
  have hok := h.ok
  have hls := hok.ls
  have hlt0 := hok.lt
  unfold big at hls hlt0
  obtain ⟨a1, c1, a2, c2, rfl⟩ := IsPool.open h
  obtain ⟨w1, hw1⟩ : ∃ y, y = (w.alloc (Obj.cells #[.slice a1 s.length c1, .slice a2 t.length c2] 25)).alloc (Obj.cells #[.slice none 0 0, .slice none 0 0] 25) := ⟨_, rfl⟩
  have hb1 : Below w.heap.size w w1 := by rw [hw1]; exact kept_alloc (kept_alloc (Below.refl _ _) _) _
  have hs1 : w1.heap.size = w.heap.size + 2 := by rw [hw1]; simp
  have hx1 : w1.heap[w.heap.size]? = some (.cells #[.slice a1 s.length c1, .slice a2 t.length c2] 25 (0, 0)) := by rw [hw1]; exact heap_alloc_at (World.alloc_heap_new w _) _
  have hx2 : w1.heap[w.heap.size + 1]? = some (.cells #[.slice none 0 0, .slice none 0 0] 25 (0, 0)) := by rw [hw1]; have := World.alloc_heap_new (w.alloc (Obj.cells #[.slice a1 s.length c1, .slice a2 t.length c2] 25)) (Obj.cells #[.slice none 0 0, .slice none 0 0] 25); rwa [World.size_alloc] at this
  have hs2 : w.heap.size + 1 < w1.heap.size := by omega
  clear hs1
  have h1 := (h.below (hb1.mono hn)).wider (n' := w1.heap.size) (by omega)
  have hT := ref10take_any 0 (by unfold I64; omega) h1 (Nat.le_refl _)
  obtain ⟨z1, z2⟩ := pair_cells hx1
  rw [hw1] at z1 z2
  go_enter Tryz.func8, Tryz.ntmps8
  go_wp2_with fail
  rw [← hw1]
  clear hw1 z1 z2
  refine hT.mono ?_
  clear hT
  rintro e w2 ⟨hb2, b1, b2, l1, d1, l2, d2, rfl, hP⟩
  have hr0 := mark_any hx2 hb2
  obtain ⟨e1, e2⟩ := pair_cells hr0
  have e3 := row_frozen hr0 0
  have e4 := row_frozen hr0 1
  have HY := Lib.hid (write2 hr0 (.slice b1 l1 d1) (.slice b2 l2 d2))
  have HB := Lib.hid (res_below (hb1.trans (hb2.mono (by omega))) (x := .slice b1 l1 d1) (y := .slice b2 l2 d2))
  have hO := write2_only (W := w2) (B1 := w.heap.size + 1) (.slice b1 l1 d1) (.slice b2 l2 d2)
  have HP := Lib.hid ((hP.agree (AgreeIn.of_only hO (fun j h1 h2 e => by omega))).mono (lo' := w.heap.size) (hi' := ((w2.setCell ⟨w.heap.size + 1, 0, none⟩ (.slice b1 l1 d1)).setCell ⟨w.heap.size + 1, 1, none⟩ (.slice b2 l2 d2)).heap.size) (by omega) hO.size)
  clear hr0 hO hP hx1 hx2 h1
  generalize (takeAns s t 0) = r at *
  go_wp2
  obtain ⟨r1, r2⟩ := pair_cells HY.out
  refine bodyPost_ret (v := .tuple #[.agg #[.slice b1 l1 d1, .slice b2 l2 d2], .int .i64 ((r.2.2.1 : Nat) : Int), .bool r.2.2.2]) ?_ rfl ⟨HB.out, _, _, _, _, _, _, rfl, HP.out⟩
  clear e1 e2 e3 e4
  simp [results, Tryz.results8, go_sem, r1, r2]

set_option maxRecDepth 100000 in
set_option maxHeartbeats 8000000 in
theorem ref10TakeHole_any {n : Nat} {v : Value} {s : List Int} {t : List (List Int)} {w : World} (h : IsPool n w v s t) (hn : n ≤ w.heap.size) :
    Calls Tryz.prog 10 #[v] w (AnsPost (takeAns s t 1) w) := by
  have hok := h.ok
  have hls := hok.ls
  have hlt0 := hok.lt
  unfold big at hls hlt0
  obtain ⟨a1, c1, a2, c2, rfl⟩ := IsPool.open h
  obtain ⟨w1, hw1⟩ : ∃ y, y = (w.alloc (Obj.cells #[.slice a1 s.length c1, .slice a2 t.length c2] 25)).alloc (Obj.cells #[.slice none 0 0, .slice none 0 0] 25) := ⟨_, rfl⟩
  have hb1 : Below w.heap.size w w1 := by rw [hw1]; exact kept_alloc (kept_alloc (Below.refl _ _) _) _
  have hs1 : w1.heap.size = w.heap.size + 2 := by rw [hw1]; simp
  have hx1 : w1.heap[w.heap.size]? = some (.cells #[.slice a1 s.length c1, .slice a2 t.length c2] 25 (0, 0)) := by rw [hw1]; exact heap_alloc_at (World.alloc_heap_new w _) _
  have hx2 : w1.heap[w.heap.size + 1]? = some (.cells #[.slice none 0 0, .slice none 0 0] 25 (0, 0)) := by rw [hw1]; have := World.alloc_heap_new (w.alloc (Obj.cells #[.slice a1 s.length c1, .slice a2 t.length c2] 25)) (Obj.cells #[.slice none 0 0, .slice none 0 0] 25); rwa [World.size_alloc] at this
  have hs2 : w.heap.size + 1 < w1.heap.size := by omega
  clear hs1
  have h1 := (h.below (hb1.mono hn)).wider (n' := w1.heap.size) (by omega)
  have hT := ref10take_any 1 (by unfold I64; omega) h1 (Nat.le_refl _)
  obtain ⟨z1, z2⟩ := pair_cells hx1
  rw [hw1] at z1 z2
  go_enter Tryz.func10, Tryz.ntmps10
  go_wp2_with fail
  rw [← hw1]
  clear hw1 z1 z2
  refine hT.mono ?_
  clear hT
  rintro e w2 ⟨hb2, b1, b2, l1, d1, l2, d2, rfl, hP⟩
  have hr0 := mark_any hx2 hb2
  obtain ⟨e1, e2⟩ := pair_cells hr0
  have e3 := row_frozen hr0 0
  have e4 := row_frozen hr0 1
  have HY := Lib.hid (write2 hr0 (.slice b1 l1 d1) (.slice b2 l2 d2))
  have HB := Lib.hid (res_below (hb1.trans (hb2.mono (by omega))) (x := .slice b1 l1 d1) (y := .slice b2 l2 d2))
  have hO := write2_only (W := w2) (B1 := w.heap.size + 1) (.slice b1 l1 d1) (.slice b2 l2 d2)
  have HP := Lib.hid ((hP.agree (AgreeIn.of_only hO (fun j h1 h2 e => by omega))).mono (lo' := w.heap.size) (hi' := ((w2.setCell ⟨w.heap.size + 1, 0, none⟩ (.slice b1 l1 d1)).setCell ⟨w.heap.size + 1, 1, none⟩ (.slice b2 l2 d2)).heap.size) (by omega) hO.size)
  clear hr0 hO hP hx1 hx2 h1
  generalize (takeAns s t 1) = r at *
  go_wp2
  obtain ⟨r1, r2⟩ := pair_cells HY.out
  refine bodyPost_ret (v := .tuple #[.agg #[.slice b1 l1 d1, .slice b2 l2 d2], .int .i64 ((r.2.2.1 : Nat) : Int), .bool r.2.2.2]) ?_ rfl ⟨HB.out, _, _, _, _, _, _, rfl, HP.out⟩
  clear e1 e2 e3 e4
  simp [results, Tryz.results10, go_sem, r1, r2]

/-- Other states in the rows' place, of a row that the call made behind. -/
theorem RefRows.newS {B : Nat} {vs vs' vt : Value} {tvs : List Value} {s s' : List Int} {t : List (List Int)} {W W' : World} (h : RefRows B vs vt tvs s t W) (hb : Below W.heap.size W W') (hB : B ≤ W.heap.size)
    (ho : W'.ownsRow W.heap.size 3 1 vs' s'.length (s'.map (Value.int .i64))) : RefRows B vs' vt tvs s' t W' :=
  ⟨owns_base ho hB, owns_kept h.tab hb, fun i tv x h1 h2 => ⟨owns_kept (h.row i tv x h1 h2).1 hb, fun b e => ⟨((h.row i tv x h1 h2).2 b e).1, fun e2 => by have := ((h.row i tv x h1 h2).1.lt b e).2; have := (ho.lt b e2).1; omega⟩⟩,
    fun b e e2 => by have := (h.tab.lt b e2).2; have := (ho.lt b e).1; omega⟩
/-- .. made ahead. -/
theorem RefRows.oldS {B B0 : Nat} {vs vs' vt : Value} {tvs : List Value} {s s' : List Int} {t : List (List Int)} {W : World} (h : RefRows B vs vt tvs s t W) (hB : B0 ≤ B)
    (ho : W.ownsRow B0 3 1 vs' s'.length (s'.map (Value.int .i64))) (hl : ∀ b, vs'.ownBlock = some b → b < B) : RefRows B0 vs' vt tvs s' t W :=
  ⟨ho, owns_base h.tab hB, fun i tv x h1 h2 => ⟨owns_base (h.row i tv x h1 h2).1 hB, fun b e => ⟨((h.row i tv x h1 h2).2 b e).1, fun e2 => by have := ((h.row i tv x h1 h2).1.lt b e).1; have := hl b e2; omega⟩⟩,
    fun b e e2 => by have := (h.tab.lt b e2).1; have := hl b e; omega⟩
theorem RefRows.off {B g : Nat} {vs vt : Value} {tvs : List Value} {s : List Int} {t : List (List Int)} {W W' : World} (h : RefRows B vs vt tvs s t W) (hO : Only (fun k => k = g) W W') (hs : vs.ownBlock ≠ some g) (ht : vt.ownBlock ≠ some g)
    (hr : ∀ (i : Nat) (tv : Value) (x : List Int), tvs[i]? = some tv → t[i]? = some x → tv.ownBlock ≠ some g) : RefRows B vs vt tvs s t W' :=
  ⟨owns_only h.sts hO (fun k hk e => by subst hk; exact hs e), owns_only h.tab hO (fun k hk e => by subst hk; exact ht e), fun i tv x h1 h2 => ⟨owns_only (h.row i tv x h1 h2).1 hO (fun k hk e => by subst hk; exact hr i tv x h1 h2 e), (h.row i tv x h1 h2).2⟩, h.apart⟩

set_option maxRecDepth 100000 in
set_option maxHeartbeats 8000000 in
theorem ref10Close_any {n : Nat} {v : Value} {s : List Int} {t : List (List Int)} {w : World} (b : Int) (hbI : I64 b) (h : IsPool n w v s t) (hn : n ≤ w.heap.size) :
    Calls Tryz.prog 16 #[v, .int .i64 b] w (NumAns (closeAns s t b) w) := by
  have hok := h.ok
  have hls := hok.ls
  have hlt0 := hok.lt
  unfold big at hls hlt0
  unfold I64 at hbI
  obtain ⟨a1, c1, a2, c2, rfl⟩ := IsPool.open h
  obtain ⟨w1, hw1⟩ : ∃ y, y = (w.alloc (Obj.cells #[.slice a1 s.length c1, .slice a2 t.length c2] 25)).alloc (Obj.cells #[.slice none 0 0, .slice none 0 0] 25) := ⟨_, rfl⟩
  have hb1 : Below w.heap.size w w1 := by rw [hw1]; exact kept_alloc (kept_alloc (Below.refl _ _) _) _
  have hs1 : w1.heap.size = w.heap.size + 2 := by rw [hw1]; simp
  have hx1 : w1.heap[w.heap.size]? = some (.cells #[.slice a1 s.length c1, .slice a2 t.length c2] 25 (0, 0)) := by rw [hw1]; exact heap_alloc_at (World.alloc_heap_new w _) _
  have hx2 : w1.heap[w.heap.size + 1]? = some (.cells #[.slice none 0 0, .slice none 0 0] 25 (0, 0)) := by rw [hw1]; have := World.alloc_heap_new (w.alloc (Obj.cells #[.slice a1 s.length c1, .slice a2 t.length c2] 25)) (Obj.cells #[.slice none 0 0, .slice none 0 0] 25); rwa [World.size_alloc] at this
  have hs2 : w.heap.size + 1 < w1.heap.size := by omega
  clear hs1
  have h1 := (h.below (hb1.mono hn)).wider (n' := w1.heap.size) (by omega)
  obtain ⟨z1, z2⟩ := pair_cells hx1
  have hR := ref10Right_any h1 (Nat.le_refl _)
  rw [hw1] at z1 z2
  go_enter Tryz.func16, Tryz.ntmps16
  go_wp2_with fail
  rw [← hw1]
  clear hw1 z1 z2
  cases hr : rightP s t with
  | false =>
    rw [hr] at hR
    have HE := Lib.hid (show closeAns s t b = ([], [], 100) by unfold closeAns blockE; rw [if_pos hr])
    refine hR.mono ?_
    rintro e w2 ⟨rfl, hb2⟩
    clear hR hr
    have hr0 := mark_any hx2 hb2
    obtain ⟨e1, e2⟩ := pair_cells hr0
    have e3 := row_frozen hr0 0
    have e4 := row_frozen hr0 1
    have HY := Lib.hid (write2 hr0 (.slice none 0 0) (.slice none 0 0))
    have HB := Lib.hid (res_below (x := .slice none 0 0) (y := .slice none 0 0) (hb1.trans (hb2.mono (by omega))))
    clear hr0
    go_wp2
    obtain ⟨r1, r2⟩ := pair_cells HY.out
    refine bodyPost_ret (v := .tuple #[.agg #[.slice none 0 0, .slice none 0 0], .int .i64 100]) ?_ rfl ?_
    · clear e1 e2 e3 e4
      simp [results, Tryz.results16, go_sem, r1, r2]
    · rw [HE.out]; exact ⟨HB.out, none, none, 0, 0, 0, 0, rfl, emptyIn _ _ _⟩
  | true =>
    rw [hr] at hR
    refine hR.mono ?_
    rintro e w2 ⟨rfl, hb2⟩
    clear hR
    have HR := Lib.hid hr
    clear hr
    have hx := mark_any hx1 hb2
    have hs2' := hb2.size
    have hP2 := (h1.below hb2).wider hb2.size
    obtain ⟨y1, y2⟩ := pair_cells hx
    by_cases hin : 0 ≤ b ∧ b < (s.length : Int)
    rotate_left
    · have HE := Lib.hid (show closeAns s t b = ([], [], 90) by unfold closeAns blockE; rw [if_neg (by rw [HR.out]; decide), if_neg (fun q => hin ⟨q.1, q.2.1⟩)])
      by_cases h0 : b < 0
      · clear hin hP2
        have hr0 := mark_any hx2 hb2
        obtain ⟨e1, e2⟩ := pair_cells hr0
        have e3 := row_frozen hr0 0
        have e4 := row_frozen hr0 1
        have HY := Lib.hid (write2 hr0 (.slice none 0 0) (.slice none 0 0))
        have HB := Lib.hid (res_below (x := .slice none 0 0) (y := .slice none 0 0) (hb1.trans (hb2.mono (by omega))))
        clear hr0
        go_wp2
        obtain ⟨r1, r2⟩ := pair_cells HY.out
        refine bodyPost_ret (v := .tuple #[.agg #[.slice none 0 0, .slice none 0 0], .int .i64 90]) ?_ rfl ?_
        · clear e1 e2 e3 e4
          simp [results, Tryz.results16, go_sem, r1, r2]
        · rw [HE.out]; exact ⟨HB.out, none, none, 0, 0, 0, 0, rfl, emptyIn _ _ _⟩
      · have h9 : (s.length : Int) ≤ b := by omega
        clear hin hP2
        have hr0 := mark_any hx2 hb2
        obtain ⟨e1, e2⟩ := pair_cells hr0
        have e3 := row_frozen hr0 0
        have e4 := row_frozen hr0 1
        have HY := Lib.hid (write2 hr0 (.slice none 0 0) (.slice none 0 0))
        have HB := Lib.hid (res_below (x := .slice none 0 0) (y := .slice none 0 0) (hb1.trans (hb2.mono (by omega))))
        clear hr0
        go_wp2
        obtain ⟨r1, r2⟩ := pair_cells HY.out
        refine bodyPost_ret (v := .tuple #[.agg #[.slice none 0 0, .slice none 0 0], .int .i64 90]) ?_ rfl ?_
        · clear e1 e2 e3 e4
          simp [results, Tryz.results16, go_sem, r1, r2]
        · rw [HE.out]; exact ⟨HB.out, none, none, 0, 0, 0, 0, rfl, emptyIn _ _ _⟩
    · obtain ⟨hb0, hbl⟩ := hin
      obtain ⟨b, rfl⟩ := Int.eq_ofNat_of_zero_le hb0
      have hlt : b < s.length := by omega
      obtain ⟨q1, q2, hq, hq1, hq2⟩ := hP2
      cases hq
      obtain ⟨x, g0, o0, hxb, rfl, _, gx, _⟩ := hq1.at hlt
      have hP2 : IsPool w2.heap.size w2 (.agg #[.slice (some ⟨g0, o0, none⟩) s.length c1, .slice a2 t.length c2]) s t := ⟨_, _, rfl, hq1, hq2⟩
      by_cases hx5 : x = 5
      rotate_left
      · have HE := Lib.hid (show closeAns s t (b : Int) = ([], [], 90) by unfold closeAns blockE; rw [if_neg (by rw [HR.out]; decide), if_neg (fun q => by have := q.2.2; rw [Int.toNat_natCast, hxb] at this; exact hx5 (by simpa using this))])
        have q5 : (x != 5) = true := by simpa using hx5
        clear hP2 hq1 hq2 hxb
        have hr0 := mark_any hx2 hb2
        obtain ⟨e1, e2⟩ := pair_cells hr0
        have e3 := row_frozen hr0 0
        have e4 := row_frozen hr0 1
        have HY := Lib.hid (write2 hr0 (.slice none 0 0) (.slice none 0 0))
        have HB := Lib.hid (res_below (x := .slice none 0 0) (y := .slice none 0 0) (hb1.trans (hb2.mono (by omega))))
        clear hr0
        go_wp2
        obtain ⟨r1, r2⟩ := pair_cells HY.out
        refine bodyPost_ret (v := .tuple #[.agg #[.slice none 0 0, .slice none 0 0], .int .i64 90]) ?_ rfl ?_
        · clear e1 e2 e3 e4
          simp [results, Tryz.results16, go_sem, r1, r2]
        · rw [HE.out]; exact ⟨HB.out, none, none, 0, 0, 0, 0, rfl, emptyIn _ _ _⟩
      · subst hx5
        have HE := Lib.hid (show closeAns s t (b : Int) = (s.set b 2, t, 0) by unfold closeAns; rw [blockE_yes HR.out hxb (by simp)]; rfl)
        have hO := ref10Own_any hP2 (Nat.le_refl _)
        clear hq1 hq2 hxb hP2
        go_wp2_with fail
        refine hO.mono ?_
        clear hO y1 y2
        rintro e w3 ⟨p1, p2, d1, d2, tvs, rfl, hrows, hb3⟩
        obtain ⟨gs, u, rfl, hgB, hgl, -, -, -⟩ := hrows.setS hlt 2
        have hs3 := hb3.size
        obtain ⟨w4, hw4⟩ : ∃ y, y = w3.alloc (Obj.cells #[.slice (some ⟨gs, 0, none⟩) s.length d1, .slice p2 t.length d2] 25) := ⟨_, rfl⟩
        have hb4 : Below w3.heap.size w3 w4 := by rw [hw4]; exact kept_alloc (Below.refl _ _) _
        have hx4 : w4.heap[w3.heap.size]? = some (.cells #[.slice (some ⟨gs, 0, none⟩) s.length d1, .slice p2 t.length d2] 25 (0, 0)) := by rw [hw4]; exact World.alloc_heap_new _ _
        have hrows4 := hrows.kept hb4
        obtain ⟨gs', u', he, _, _, hcu4, hfz4, hset4⟩ := hrows4.setS hlt 2
        cases he
        obtain ⟨f1, f2⟩ := pair_cells hx4
        have hbF : Below w1.heap.size w1 w4 := kept_trans (kept_trans hb2 hb3) hb4
        have hr4 := mark_any hx2 hbF
        obtain ⟨v1, v2⟩ := pair_cells hr4
        have v3 := row_frozen hr4 0
        have v4 := row_frozen hr4 1
        have n1 : ¬ w3.heap.size = gs := by omega
        have n2 : ¬ w.heap.size + 1 = gs := by omega
        have n3 : ¬ gs = w.heap.size + 1 := by omega
        rw [hw4] at f1 f2 hcu4 hfz4 v1 v2 v3 v4
        clear hrows hgl
        have hO5 : Only (fun b => b = gs) w4 (w4.setCell ⟨gs, b, none⟩ (.int .i64 2)) := (Only.refl (fun b => b = gs) w4).setCell (p := ⟨gs, b, none⟩) (.inl rfl) _
        have hr5 := (hO5.block (w.heap.size + 1) (by have := hb4.size; omega) (by omega)).trans hr4
        have HY := Lib.hid (write2 hr5 (.slice (some ⟨gs, 0, none⟩) s.length d1) (.slice p2 t.length d2))
        have hO6 := write2_only (W := w4.setCell ⟨gs, b, none⟩ (.int .i64 2)) (B1 := w.heap.size + 1) (.slice (some ⟨gs, 0, none⟩) s.length d1) (.slice p2 t.length d2)
        have hB4 : Below w.heap.size w w4 := hb1.trans (hbF.mono (by omega))
        have HB := Lib.hid ((hB4.trans (hO5.below hB4.size (fun j hj e => by omega))).trans (hO6.below (Nat.le_trans hB4.size hO5.size) (fun j hj e => by omega)))
        have HP := Lib.hid (((res_rows (w := w) hset4 (by omega)).poolIn (hok.set b (x := 2) (by unfold I64; omega))).mono (lo' := w.heap.size) (by omega) (Nat.le_refl _))
        clear hO5 hO6 hr5 hr4 hset4 hrows4 hx4 hB4 hbF
        go_wp2_with fail
        rw [← hw4]
        obtain ⟨r1, r2⟩ := pair_cells HY.out
        refine bodyPost_ret (v := .tuple #[.agg #[.slice (some ⟨gs, 0, none⟩) s.length d1, .slice p2 t.length d2], .int .i64 0]) ?_ rfl ?_
        · clear f1 f2 hcu4 hfz4 v1 v2 v3 v4
          simp [results, Tryz.results16, go_sem, r1, r2]
        · rw [HE.out]
          exact ⟨HB.out, _, _, _, _, _, _, rfl, HP.out⟩

set_option maxRecDepth 100000 in
set_option maxHeartbeats 8000000 in
theorem ref10TakeRun_any {n : Nat} {v : Value} {s : List Int} {t : List (List Int)} {w : World} (k : Int) (hk : I64 k) (h : IsPool n w v s t) (hn : n ≤ w.heap.size) :
    Calls Tryz.prog 12 #[v, .int .i64 k] w (AnsPost (runAns s t k) w) := by
  have hok := h.ok
  have hls := hok.ls
  have hlt0 := hok.lt
  unfold big at hls hlt0
  obtain ⟨a1, c1, a2, c2, rfl⟩ := IsPool.open h
  obtain ⟨w1, hw1⟩ : ∃ y, y = (w.alloc (Obj.cells #[.slice a1 s.length c1, .slice a2 t.length c2] 25)).alloc (Obj.cells #[.slice none 0 0, .slice none 0 0] 25) := ⟨_, rfl⟩
  have hb1 : Below w.heap.size w w1 := by rw [hw1]; exact kept_alloc (kept_alloc (Below.refl _ _) _) _
  have hs1 : w1.heap.size = w.heap.size + 2 := by rw [hw1]; simp
  have hx1 : w1.heap[w.heap.size]? = some (.cells #[.slice a1 s.length c1, .slice a2 t.length c2] 25 (0, 0)) := by rw [hw1]; exact heap_alloc_at (World.alloc_heap_new w _) _
  have hx2 : w1.heap[w.heap.size + 1]? = some (.cells #[.slice none 0 0, .slice none 0 0] 25 (0, 0)) := by rw [hw1]; have := World.alloc_heap_new (w.alloc (Obj.cells #[.slice a1 s.length c1, .slice a2 t.length c2] 25)) (Obj.cells #[.slice none 0 0, .slice none 0 0] 25); rwa [World.size_alloc] at this
  have hs2 : w.heap.size + 1 < w1.heap.size := by omega
  clear hs1
  have h1 := (h.below (hb1.mono hn)).wider (n' := w1.heap.size) (by omega)
  obtain ⟨q1, q2, hq, hq1, hq2⟩ := h1
  cases hq
  have hF := ref09First_any k hk hq1
  have h1 : IsPool w1.heap.size w1 (.agg #[.slice a1 s.length c1, .slice a2 t.length c2]) s t := ⟨_, _, rfl, hq1, hq2⟩
  obtain ⟨z1, z2⟩ := pair_cells hx1
  obtain ⟨y1, y2⟩ := pair_cells hx1
  rw [hw1] at z1 z2
  go_enter Tryz.func12, Tryz.ntmps12
  go_wp2_with fail
  rw [← hw1]
  clear hw1 z1 z2 hq1 hq2
  refine hF.mono ?_
  clear hF
  rintro e w' ⟨rfl, he⟩
  obtain rfl := he.symm
  cases hf : firstL s k with
  | none =>
    rw [refFirst_none hf]
    have HE := Lib.hid (show runAns s t k = ([], [], 0, false) by unfold runAns; rw [hf])
    have hb0 : Below w1.heap.size w1 w1 := Below.refl _ _
    clear hf h1
    have hr0 := mark_any hx2 hb0
    obtain ⟨e1, e2⟩ := pair_cells hr0
    have e3 := row_frozen hr0 0
    have e4 := row_frozen hr0 1
    have HY := Lib.hid (write2 hr0 (.slice none 0 0) (.slice none 0 0))
    have HB := Lib.hid (res_below (x := .slice none 0 0) (y := .slice none 0 0) (hb1.trans (hb0.mono (by omega))))
    clear hr0
    go_wp2
    obtain ⟨r1, r2⟩ := pair_cells HY.out
    refine bodyPost_ret (v := .tuple #[.agg #[.slice none 0 0, .slice none 0 0], .int .i64 0, .bool false]) ?_ rfl ?_
    · clear e1 e2 e3 e4
      simp [results, Tryz.results12, go_sem, r1, r2]
    · rw [HE.out]; exact ⟨HB.out, none, none, 0, 0, 0, 0, rfl, emptyIn _ _ _⟩
  | some p =>
    rw [refFirst_some hf]
    have hR := ref10Right_any h1 (Nat.le_refl _)
    cases hr : rightP s t with
    | false =>
      rw [hr] at hR
      have HE := Lib.hid (show runAns s t k = ([], [], 0, false) by unfold runAns; rw [hf]; simp only []; rw [if_neg (by rw [hr]; decide)])
      clear hf hr h1
      go_wp2_with fail
      refine hR.mono ?_
      rintro e w2 ⟨rfl, hb2⟩
      clear hR
      have hr0 := mark_any hx2 hb2
      obtain ⟨e1, e2⟩ := pair_cells hr0
      have e3 := row_frozen hr0 0
      have e4 := row_frozen hr0 1
      have HY := Lib.hid (write2 hr0 (.slice none 0 0) (.slice none 0 0))
      have HB := Lib.hid (res_below (x := .slice none 0 0) (y := .slice none 0 0) (hb1.trans (hb2.mono (by omega))))
      clear hr0
      go_wp2
      obtain ⟨r1, r2⟩ := pair_cells HY.out
      refine bodyPost_ret (v := .tuple #[.agg #[.slice none 0 0, .slice none 0 0], .int .i64 0, .bool false]) ?_ rfl ?_
      · clear e1 e2 e3 e4
        simp [results, Tryz.results12, go_sem, r1, r2]
      · rw [HE.out]; exact ⟨HB.out, none, none, 0, 0, 0, 0, rfl, emptyIn _ _ _⟩
    | true =>
      rw [hr] at hR
      obtain ⟨k1, k2, hz⟩ := firstL_zeros hf
      have hfr := (firstL_free hf).2.1
      have h32 := (rightP_states hr).2.1
      have hwh := rightP_whole hr
      obtain ⟨k, rfl⟩ := Int.eq_ofNat_of_zero_le (show 0 ≤ k by omega)
      rw [Int.toNat_natCast] at k1 k2
      have HE := Lib.hid (show runAns s t (k : Int) = (putRow s p.1 k, t, p.1, true) by unfold runAns; rw [hf]; simp only []; rw [if_pos hr, Int.toNat_natCast])
      have HW := Lib.hid hwh
      have HFR := Lib.hid (show k ≤ freeL s p.1 by omega)
      have HOK := Lib.hid (show PoolOk (putRow s p.1 k) t from hok.states (by rw [putRow_len k2]; unfold big; omega) (fun x hx => by rcases putRow_mem hx with hx | rfl | rfl; exact hok.ns x hx; unfold I64; omega; unfold I64; omega))
      clear hf hr hz hfr hwh hk
      generalize p.1 = f at *
      go_wp2_with fail
      refine hR.mono ?_
      rintro e w2 ⟨rfl, hb2⟩
      clear hR y1 y2
      have hs2' := hb2.size
      obtain ⟨y1, y2⟩ := pair_cells (mark_any hx1 hb2)
      have hO := ref10Own_any ((h1.below hb2).wider hb2.size) (Nat.le_refl _)
      go_wp2_with fail
      refine hO.mono ?_
      clear hO y1 y2
      rintro e w3 ⟨p1, p2, d1, d2, tvs, rfl, hrows, hb3⟩
      have hs3 := hb3.size
      obtain ⟨w4, hw4⟩ : ∃ y, y = w3.alloc (Obj.cells #[.slice p1 s.length d1, .slice p2 t.length d2] 25) := ⟨_, rfl⟩
      have hb4 : Below w3.heap.size w3 w4 := by rw [hw4]; exact kept_alloc (Below.refl _ _) _
      have hs4 : w3.heap.size < w4.heap.size := by rw [hw4]; simp
      have hx4 : w4.heap[w3.heap.size]? = some (.cells #[.slice p1 s.length d1, .slice p2 t.length d2] 25 (0, 0)) := by rw [hw4]; exact World.alloc_heap_new _ _
      have hrows4 := hrows.kept hb4
      have hPut := ref09Put_ok f k k1 k2 HFR.out HW.out h32 (IsInts.of_owns hrows4.sts hok.ls hok.ns) (Nat.le_refl _)
      have hbF4 : Below w1.heap.size w1 w4 := kept_trans (kept_trans hb2 hb3) hb4
      obtain ⟨f1, f2⟩ := pair_cells hx4
      rw [hw4] at f1 f2
      go_wp2_with fail
      rw [← hw4]
      clear hw4 f1 f2
      refine hPut.mono ?_
      clear hPut
      rintro e w5 ⟨pa, pc, rfl, hput, hb5⟩
      have hput' : w5.ownsRow w4.heap.size 3 1 (.slice pa s.length pc) (putRow s f k).length ((putRow s f k).map (Value.int .i64)) := by rw [putRow_len k2]; exact hput
      have hx5 := mark_any hx4 hb5
      obtain ⟨f3, f4⟩ := pair_cells hx5
      have f5 := row_frozen hx5 0
      have hbF : Below w1.heap.size w1 w5 := kept_trans hbF4 hb5
      have hr5 := mark_any hx2 hbF
      have hO5 : Only (fun b => b = w3.heap.size) w5 (w5.setCell ⟨w3.heap.size, 0, none⟩ (.slice pa s.length pc)) := (Only.refl (fun b => b = w3.heap.size) w5).setCell (p := ⟨w3.heap.size, 0, none⟩) (.inl rfl) _
      have hr6 := (hO5.block (w.heap.size + 1) (by have := hb4.size; have := hb5.size; omega) (by omega)).trans hr5
      have hx6 := pair_set0 (u' := .slice pa s.length pc) hx5
      obtain ⟨k1, k2⟩ := pair_cells hx6
      obtain ⟨v1, v2⟩ := pair_cells hr6
      have v3 := row_frozen hr6 0
      have v4 := row_frozen hr6 1
      have n1 : ¬ w3.heap.size = w.heap.size + 1 := by omega
      have n2 : ¬ w.heap.size + 1 = w3.heap.size := by omega
      obtain ⟨w6, hw6⟩ : ∃ y, y = w5.setCell ⟨w3.heap.size, 0, none⟩ (.slice pa s.length pc) := ⟨_, rfl⟩
      have hrowsF : RefRows w2.heap.size (.slice pa s.length pc) (.slice p2 t.length d2) tvs (putRow s f k) t w6 := (hrows4.newS hb5 (by omega) hput').off (hw6 ▸ hO5) (fun e => by have := (hput'.lt _ e).1; omega) (fun e => by have := (hrows.tab.lt _ e).2; omega) (fun i tv x h1 h2 e => by have := ((hrows.row i tv x h1 h2).1.lt _ e).2; omega)
      have hokF := HOK.out
      clear hput hput' hrows4 hrows
      rw [← hw6] at hO5 hr6 hx6
      have HY := Lib.hid (write2 hr6 (.slice pa s.length pc) (.slice p2 t.length d2))
      have hO6 := write2_only (W := w6) (B1 := w.heap.size + 1) (.slice pa s.length pc) (.slice p2 t.length d2)
      have hB5 : Below w.heap.size w w5 := hb1.trans (hbF.mono (by omega))
      have HB := Lib.hid ((hB5.trans (hO5.below hB5.size (fun j hj e => by omega))).trans (hO6.below (Nat.le_trans hB5.size hO5.size) (fun j hj e => by omega)))
      have HP := Lib.hid (((res_rows (w := w) hrowsF (by omega)).poolIn hokF).mono (lo' := w.heap.size) (by omega) (Nat.le_refl _))
      clear hO5 hO6 hr5 hr6 hx5 hx6 hB5 hbF hrowsF
      go_wp2_with fail
      rw [← hw6]
      obtain ⟨r1, r2⟩ := pair_cells HY.out
      refine bodyPost_ret (v := .tuple #[.agg #[.slice pa s.length pc, .slice p2 t.length d2], .int .i64 (f : Nat), .bool true]) ?_ rfl ?_
      · clear f3 f4 v1 v2 v3 v4 k1 k2
        simp [results, Tryz.results12, go_sem, r1, r2]
      · rw [HE.out]
        exact ⟨HB.out, _, _, _, _, _, _, rfl, HP.out⟩

set_option maxRecDepth 100000 in
set_option maxHeartbeats 8000000 in
theorem ref10Drop_any {n : Nat} {v : Value} {s : List Int} {t : List (List Int)} {w : World} (b : Int) (hbI : I64 b) (h : IsPool n w v s t) (hn : n ≤ w.heap.size) :
    Calls Tryz.prog 18 #[v, .int .i64 b] w (TwoAns (dropAns s t b) w) := by
  have hok := h.ok
  have hls := hok.ls
  have hlt0 := hok.lt
  unfold big at hls hlt0
  obtain ⟨a1, c1, a2, c2, rfl⟩ := IsPool.open h
  obtain ⟨w1, hw1⟩ : ∃ y, y = (w.alloc (Obj.cells #[.slice a1 s.length c1, .slice a2 t.length c2] 25)).alloc (Obj.cells #[.slice none 0 0, .slice none 0 0] 25) := ⟨_, rfl⟩
  have hb1 : Below w.heap.size w w1 := by rw [hw1]; exact kept_alloc (kept_alloc (Below.refl _ _) _) _
  have hs1 : w1.heap.size = w.heap.size + 2 := by rw [hw1]; simp
  have hx1 : w1.heap[w.heap.size]? = some (.cells #[.slice a1 s.length c1, .slice a2 t.length c2] 25 (0, 0)) := by rw [hw1]; exact heap_alloc_at (World.alloc_heap_new w _) _
  have hx2 : w1.heap[w.heap.size + 1]? = some (.cells #[.slice none 0 0, .slice none 0 0] 25 (0, 0)) := by rw [hw1]; have := World.alloc_heap_new (w.alloc (Obj.cells #[.slice a1 s.length c1, .slice a2 t.length c2] 25)) (Obj.cells #[.slice none 0 0, .slice none 0 0] 25); rwa [World.size_alloc] at this
  have hs2 : w.heap.size + 1 < w1.heap.size := by omega
  clear hs1
  have h1 := (h.below (hb1.mono hn)).wider (n' := w1.heap.size) (by omega)
  obtain ⟨z1, z2⟩ := pair_cells hx1
  have hR := ref10Right_any h1 (Nat.le_refl _)
  rw [hw1] at z1 z2
  go_enter Tryz.func18, Tryz.ntmps18
  go_wp2_with fail
  rw [← hw1]
  clear hw1 z1 z2
  cases hr : rightP s t with
  | false =>
    rw [hr] at hR
    have HE := Lib.hid (show dropAns s t b = ([], [], 0, 100) by unfold dropAns; rw [if_neg (by rw [hr]; decide)])
    refine hR.mono ?_
    rintro e w2 ⟨rfl, hb2⟩
    clear hR hr
    have hr0 := mark_any hx2 hb2
    obtain ⟨e1, e2⟩ := pair_cells hr0
    have e3 := row_frozen hr0 0
    have e4 := row_frozen hr0 1
    have HY := Lib.hid (write2 hr0 (.slice none 0 0) (.slice none 0 0))
    have HB := Lib.hid (res_below (x := .slice none 0 0) (y := .slice none 0 0) (hb1.trans (hb2.mono (by omega))))
    clear hr0
    go_wp2
    obtain ⟨r1, r2⟩ := pair_cells HY.out
    refine bodyPost_ret (v := .tuple #[.agg #[.slice none 0 0, .slice none 0 0], .int .i64 0, .int .i64 100]) ?_ rfl ?_
    · clear e1 e2 e3 e4
      simp [results, Tryz.results18, go_sem, r1, r2]
    · rw [HE.out]; exact ⟨HB.out, none, none, 0, 0, 0, 0, rfl, emptyIn _ _ _⟩
  | true =>
    rw [hr] at hR
    refine hR.mono ?_
    rintro e w2 ⟨rfl, hb2⟩
    clear hR
    have HR := Lib.hid hr
    clear hr
    have hx := mark_any hx1 hb2
    have hs2' := hb2.size
    have hP2 := (h1.below hb2).wider hb2.size
    obtain ⟨y1, y2⟩ := pair_cells hx
    obtain ⟨q1, q2, hq, hq1, hq2⟩ := hP2
    cases hq
    have hP2 : IsPool w2.heap.size w2 (.agg #[.slice a1 s.length c1, .slice a2 t.length c2]) s t := ⟨_, _, rfl, hq1, hq2⟩
    have h32 := (rightP_states HR.out).2.1
    have hCut := ref09Cut_any b hbI (rightP_whole HR.out) h32 hq1 (Nat.le_refl _)
    clear hq1 hq2
    go_wp2_with fail
    refine hCut.mono ?_
    clear hCut
    rintro e w2' ⟨hb2', ⟨hm, rfl⟩ | ⟨hm, la, lc, rfl, hcut⟩⟩
    · have HE := Lib.hid (show dropAns s t b = ([], [], 0, 91) by unfold dropAns; rw [if_pos HR.out, if_neg (by rw [hm]; decide)])
      have hb2s := kept_trans hb2 hb2'
      clear hP2 y1 y2
      have hr0 := mark_any hx2 hb2s
      obtain ⟨e1, e2⟩ := pair_cells hr0
      have e3 := row_frozen hr0 0
      have e4 := row_frozen hr0 1
      have HY := Lib.hid (write2 hr0 (.slice none 0 0) (.slice none 0 0))
      have HB := Lib.hid (res_below (x := .slice none 0 0) (y := .slice none 0 0) (hb1.trans (hb2s.mono (by omega))))
      clear hr0
      go_wp2
      obtain ⟨r1, r2⟩ := pair_cells HY.out
      refine bodyPost_ret (v := .tuple #[.agg #[.slice none 0 0, .slice none 0 0], .int .i64 0, .int .i64 91]) ?_ rfl ?_
      · clear e1 e2 e3 e4
        simp [results, Tryz.results18, go_sem, r1, r2]
      · rw [HE.out]; exact ⟨HB.out, none, none, 0, 0, 0, 0, rfl, emptyIn _ _ _⟩
    · have HE := Lib.hid (show dropAns s t b = (turnL s b.toNat (cutLen s b.toNat) 0, t, cutLen s b.toNat, 0) by unfold dropAns; rw [if_pos HR.out, if_pos hm])
      have hml := (must_lt hm (Nat.le_refl _)).2.2
      have hcl := cutLen_le hml
      have hlen := length_turnL (l := s) (f := b.toNat) (m := cutLen s b.toNat) 0 hcl
      have HOK := Lib.hid (show PoolOk (turnL s b.toNat (cutLen s b.toNat) 0) t from hok.states (by rw [hlen]; unfold big; omega) (fun x hx => by rcases turnL_mem hx with hx | rfl; exact hok.ns x hx; unfold I64; omega))
      have hcut' : w2'.ownsRow w2.heap.size 3 1 (.slice la s.length lc) (turnL s b.toNat (cutLen s b.toNat) 0).length ((turnL s b.toNat (cutLen s b.toNat) 0).map (Value.int .i64)) := by rw [hlen]; exact hcut
      have hs22 := hb2'.size
      have HL := Lib.hid hlen
      clear hm hcut y1 y2 hlen hx
      generalize turnL s b.toNat (cutLen s b.toNat) 0 = sq at *
      generalize cutLen s b.toNat = cn at *
      have hxx := mark_any (mark_any hx1 hb2) hb2'
      obtain ⟨y1, y2⟩ := pair_cells hxx
      have hO := ref10Own_any ((hP2.below hb2').wider hb2'.size) (Nat.le_refl _)
      clear hP2
      go_wp2_with fail
      refine hO.mono ?_
      clear hO y1 y2
      rintro e w3 ⟨p1, p2, d1, d2, tvs, rfl, hrows, hb3⟩
      have hs3 := hb3.size
      obtain ⟨w4, hw4⟩ : ∃ y, y = w3.alloc (Obj.cells #[.slice p1 s.length d1, .slice p2 t.length d2] 25) := ⟨_, rfl⟩
      have hb4 : Below w3.heap.size w3 w4 := by rw [hw4]; exact kept_alloc (Below.refl _ _) _
      have hs4 : w3.heap.size < w4.heap.size := by rw [hw4]; simp
      have hx4 : w4.heap[w3.heap.size]? = some (.cells #[.slice p1 s.length d1, .slice p2 t.length d2] 25 (0, 0)) := by rw [hw4]; exact World.alloc_heap_new _ _
      have hrows4 := hrows.kept hb4
      have hcut4 := owns_kept (owns_kept hcut' hb3) hb4
      have hbF4 : Below w1.heap.size w1 w4 := kept_trans (kept_trans (kept_trans hb2 hb2') hb3) hb4
      obtain ⟨w5, hw5⟩ : ∃ y, y = w4 := ⟨_, rfl⟩
      have hb5 : Below w4.heap.size w4 w5 := by rw [hw5]; exact Below.refl _ _
      have hx5 := mark_any hx4 hb5
      obtain ⟨f3, f4⟩ := pair_cells hx5
      have f5 := row_frozen hx5 0
      have hbF : Below w1.heap.size w1 w5 := kept_trans hbF4 hb5
      have hr5 := mark_any hx2 hbF
      have hO5 : Only (fun b => b = w3.heap.size) w5 (w5.setCell ⟨w3.heap.size, 0, none⟩ (.slice la s.length lc)) := (Only.refl (fun b => b = w3.heap.size) w5).setCell (p := ⟨w3.heap.size, 0, none⟩) (.inl rfl) _
      have hr6 := (hO5.block (w.heap.size + 1) (by have := hb4.size; have := hb5.size; omega) (by omega)).trans hr5
      have hx6 := pair_set0 (u' := .slice la s.length lc) hx5
      obtain ⟨k1, k2⟩ := pair_cells hx6
      obtain ⟨v1, v2⟩ := pair_cells hr6
      have v3 := row_frozen hr6 0
      have v4 := row_frozen hr6 1
      have n1 : ¬ w3.heap.size = w.heap.size + 1 := by omega
      have n2 : ¬ w.heap.size + 1 = w3.heap.size := by omega
      obtain ⟨w6, hw6⟩ : ∃ y, y = w5.setCell ⟨w3.heap.size, 0, none⟩ (.slice la s.length lc) := ⟨_, rfl⟩
      rw [hw5] at hw6 hO5
      have hrowsF : RefRows w2.heap.size (.slice la s.length lc) (.slice p2 t.length d2) tvs sq t w6 := (hrows4.oldS hs22 hcut4 (fun j e => (hcut'.lt j e).2)).off (hw6 ▸ hO5) (fun e => by have := (hcut'.lt _ e).2; omega) (fun e => by have := (hrows.tab.lt _ e).2; omega) (fun i tv x h1 h2 e => by have := ((hrows.row i tv x h1 h2).1.lt _ e).2; omega)
      rw [← hw5] at hw6 hO5
      have hokF := HOK.out
      clear hcut' hcut4 hrows4 hrows
      rw [← hw6] at hO5 hr6 hx6
      have HY := Lib.hid (write2 hr6 (.slice la s.length lc) (.slice p2 t.length d2))
      have hO6 := write2_only (W := w6) (B1 := w.heap.size + 1) (.slice la s.length lc) (.slice p2 t.length d2)
      have hB5 : Below w.heap.size w w5 := hb1.trans (hbF.mono (by omega))
      have HB := Lib.hid ((hB5.trans (hO5.below hB5.size (fun j hj e => by omega))).trans (hO6.below (Nat.le_trans hB5.size hO5.size) (fun j hj e => by omega)))
      have HP := Lib.hid (((res_rows (w := w) hrowsF (by omega)).poolIn hokF).mono (lo' := w.heap.size) (by omega) (Nat.le_refl _))
      rw [hw5, hw4, alloc_set0] at hw6
      rw [hw5, hw4] at f3 f4 f5
      rw [hw5, hw4, alloc_set0] at k1 k2 v1 v2 v3 v4
      clear hO5 hO6 hr5 hr6 hx5 hx6 hB5 hbF hrowsF
      go_wp2_with fail
      rw [← hw6]
      obtain ⟨r1, r2⟩ := pair_cells HY.out
      refine bodyPost_ret (v := .tuple #[.agg #[.slice la s.length lc, .slice p2 t.length d2], .int .i64 (cn : Nat), .int .i64 0]) ?_ rfl ?_
      · clear f3 f4 v1 v2 v3 v4 k1 k2
        simp [results, Tryz.results18, go_sem, r1, r2]
      · rw [HE.out]
        exact ⟨HB.out, _, _, _, _, _, _, rfl, HP.out⟩
end Go.Proofs.YtihmgiifphheeaaGreatDoor
