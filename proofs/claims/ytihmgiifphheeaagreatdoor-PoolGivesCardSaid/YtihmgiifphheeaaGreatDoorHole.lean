/- Contracts of package hole. -/
import Derived.Test.YtihmgiifphheeaaGreatDoorMarks
import Derived.Test.YtihmgiifphheeaaGreatDoorHoleM
import Derived.StillTailTactics
namespace Go.Proofs.YtihmgiifphheeaaGreatDoor
open Go.RowKit Go.Sel
attribute [local go_sem] Oper.semAt_some

theorem ints_full {n : Nat} {w : World} {a : Option Addr} {l c : Nat} {xs : List Int} (h : IsInts n w (.slice a l c) xs) : IsInts n w (.slice a xs.length xs.length) xs := by
  obtain ⟨a', c', he, h1, h2, h3⟩ := h
  cases he
  exact ⟨_, _, rfl, Nat.le_refl _, h2, h3⟩

/-- A new block that holds a finder over a table. -/
def FinderAt (B : Nat) (t : List Int) (n : Nat) (w' : World) : Prop :=
  ∃ a, w'.heap[B]? = some (.cells #[.slice a t.length t.length, .bool (rightT t)] 138 (0, 0)) ∧ IsInts n w' (.slice a t.length t.length) t
def OpenPost (t : List Int) (n : Nat) (w : World) (e : Ending) (w' : World) : Prop :=
  ∃ B, e = .returned (.pointer (some ⟨B, 0, none⟩)) ∧ w.heap.size ≤ B ∧ FinderAt B t n w' ∧ Below w.heap.size w w'

set_option maxRecDepth 100000 in
set_option maxHeartbeats 1000000 in
theorem open_any {n : Nat} {v : Value} {t : List Int} {w : World} (h1 : IsInts n w v t) (hn : n ≤ w.heap.size) :
    Calls Tryz.prog 85 #[v] w (OpenPost t n w) := by
  obtain ⟨a1, c1, rfl, hc1⟩ := h1.open
  have hl := h1.len
  unfold big at hl
  go_enter Tryz.func85, Tryz.ntmps85
  go_wp2
  refine wp_region_still_tail 10 (by kernel_rfl) (by kernel_rfl) ?_
  simp only [List.take_succ_cons, List.take_zero, List.drop_succ_cons, List.drop_zero]
  repeat still_step
  still_call (marksRight_any (h1.below (Below.refl n w).drew))
  repeat still_step
  refine wpStill_nil ?_
  change wpList _ _ _ _ _ w.drew
  go_wp2
  go_ret
  refine ⟨w.heap.size, rfl, Nat.le_refl _, ⟨a1, ?_, ?_⟩, ?_⟩
  · exact World.alloc_heap_new w _
  · exact (ints_full h1).below (((Below.refl n w).alloc hn _).drew)
  · exact ((Below.refl _ w).alloc (Nat.le_refl _) _).drew

def KeptPost (t : List Int) (w : World) (e : Ending) (w' : World) : Prop := e = .returned (.agg (boolCells (keptBits t))) ∧ Below w.heap.size w w'

set_option maxHeartbeats 1000000 in
theorem keptF_any {n B : Nat} {t : List Int} {w : World} (h1 : FinderAt B t n w) (hn : n ≤ w.heap.size) :
    Calls Tryz.prog 96 #[.pointer (some ⟨B, 0, none⟩)] w (KeptPost t w) := by
  obtain ⟨a, hB, hI⟩ := h1
  obtain ⟨g1, _⟩ := pair_cells hB
  have hBl := (Array.getElem?_eq_some_iff.1 hB).1
  go_enter Tryz.func96, Tryz.ntmps96
  go_wp2_with fail
  rw [zeroRow]
  obtain ⟨w2, hw2⟩ : ∃ x, x = (w.alloc (Obj.cells (boolCells (markBits [])) 139)).alloc (Obj.cells (boolCells (markBits [])) 139) := ⟨_, rfl⟩
  rw [← hw2]
  have hs2 : w.heap.size + 2 ≤ w2.heap.size := by rw [hw2]; simp
  have hb2 : Below w.heap.size w w2 := by rw [hw2]; exact kept_alloc (kept_alloc (Below.refl _ _) _) _
  have r1 : w2.heap[w.heap.size]? = some (.cells (boolCells (markBits [])) 139 (0, 0)) := by rw [hw2, Below.heap_alloc _ _ _ (by simp)]; exact World.alloc_heap_new w _
  have r2 : w2.heap[w.heap.size + 1]? = some (.cells (boolCells (markBits [])) 139 (0, 0)) := by rw [hw2]; simpa using World.alloc_heap_new (w.alloc (Obj.cells (boolCells (markBits [])) 139)) (Obj.cells (boolCells (markBits [])) 139)
  clear hw2
  refine (lines_any (hI.below (hb2.mono hn)) (by omega)).mono ?_
  rintro e w3 ⟨v, rfl, ho, hb3⟩
  replace r1 := (hb3.block _ (by omega)).trans r1
  replace r2 := (hb3.block _ (by omega)).trans r2
  have hbw : Below w.heap.size w w3 := kept_trans hb2 (hb3.mono (Nat.le_refl _))
  have hs3 := hb3.size
  obtain ⟨a', c', rfl, hc'⟩ := owns_open ho
  have hlen : (linesL t).length ≤ 32 := by
    unfold linesL
    split
    · rw [List.length_map]; have := List.length_filter_le (keptAt t) (List.range 32); simpa [keptL] using this
    · simp
  have hrng : ∀ x ∈ linesL t, I64 x := fun x hx => by obtain ⟨m, rfl, hm⟩ := mem_linesL hx; unfold I64; omega
  have hmem : ∀ x ∈ linesL t, ∃ m : Nat, x = (m : Int) ∧ m < 32 := fun x hx => mem_linesL hx
  have HM := Lib.hid hmem
  have HRG := Lib.hid hrng
  have H0 : Hid (w3.heap[w.heap.size + 1]? = some (.cells (boolCells (markBits ((linesL t).take 0))) 139 (0, 0)) ∧ w3.heap[w.heap.size]? = some (.cells (boolCells (markBits [])) 139 (0, 0)) ∧ w3.ownsRow w2.heap.size 3 1 (.slice a' (linesL t).length c') (linesL t).length ((linesL t).map (Value.int .i64)) ∧ Only (fun b => b = w.heap.size + 1) w3 w3) := ⟨r2, r1, ho, Only.refl _ _⟩
  generalize hg : linesL t = ls at *
  have HG := Lib.hid hg
  clear hg ho hb2 hb3 hB hI g1 r1 r2 hrng hmem
  go_wp2
  go_loopw [5, 13] (fun _ i wr => ∃ k : Nat, k ≤ ls.length ∧ i = .int .i64 k ∧
      Hid (wr.heap[w.heap.size + 1]? = some (.cells (boolCells (markBits (ls.take k))) 139 (0, 0)) ∧ wr.heap[w.heap.size]? = some (.cells (boolCells (markBits [])) 139 (0, 0)) ∧ wr.ownsRow w2.heap.size 3 1 (.slice a' ls.length c') ls.length (ls.map (Value.int .i64)) ∧ Only (fun b => b = w.heap.size + 1) w3 wr)) (fun _ i _ => ls.length - (intOf i).toNat)
  case atStart => exact ⟨0, Nat.zero_le _, rfl, H0⟩
  case round =>
    obtain ⟨k, hk, rfl, hh⟩ := hrel
    clear H0
    by_cases hlt : k < ls.length
    · obtain ⟨q1, q2, q3, q4⟩ := hh.out
      have hls : IsInts wr.heap.size wr (.slice a' ls.length c') ls := IsInts.of_owns q3 (by unfold big; omega) HRG.out
      obtain ⟨x, b1, o1, hx, rfl, _, g1, _⟩ := hls.at hlt
      obtain ⟨m, rfl, hm⟩ := HM.out x (List.mem_of_getElem? hx)
      have hm0 : (0 : Int) ≤ (m : Int) := by omega
      have hm1 : (m : Int) < 33 := by omega
      have hbit : (markBits (ls.take k))[m]? = some ((markBits (ls.take k))[m]'(by rw [markBits_len]; omega)) := List.getElem?_eq_getElem _
      have hcell := boolRow_cell q1 hbit
      have hfz := row_frozen q1 m
      have HN : Hid ((wr.setCell ⟨w.heap.size + 1, m, none⟩ (.bool true)).heap[w.heap.size + 1]? = some (.cells (boolCells (markBits (ls.take (k + 1)))) 139 (0, 0)) ∧
          (wr.setCell ⟨w.heap.size + 1, m, none⟩ (.bool true)).heap[w.heap.size]? = some (.cells (boolCells (markBits [])) 139 (0, 0)) ∧
          (wr.setCell ⟨w.heap.size + 1, m, none⟩ (.bool true)).ownsRow w2.heap.size 3 1 (.slice (some ⟨b1, o1, none⟩) ls.length c') ls.length (ls.map (Value.int .i64)) ∧ Only (fun b => b = w.heap.size + 1) w3 (wr.setCell ⟨w.heap.size + 1, m, none⟩ (.bool true))) := by
        have hset : Only (fun b => b = w.heap.size + 1) wr (wr.setCell ⟨w.heap.size + 1, m, none⟩ (.bool true)) := (Only.refl (fun b => b = w.heap.size + 1) wr).setCell (p := ⟨w.heap.size + 1, m, none⟩) (.inl rfl) _
        refine ⟨by rw [take_snoc hx, ← markBits_set]; exact boolRow_set q1 m true, (hset.block _ (Array.getElem?_eq_some_iff.1 q2).1 (by omega)).trans q2, owns_only q3 hset (fun g hg he => ?_), q4.trans hset⟩
        have := (q3.lt g he).1
        omega
      clear hh q1 q2 q3 q4 hls hx hbit
      go_wp2
      go_roundw
      case rel => exact ⟨k + 1, by omega, by go_num, HN⟩
      case measure => simp [intOf]; omega
    · obtain ⟨q1, q2, q3, q4⟩ := hh.out
      have hfz := row_frozen q1 32
      have hcell := boolRow_cell q1 (m := 32) (List.getElem?_eq_getElem (by rw [markBits_len]; omega))
      have hset : Only (fun b => b = w.heap.size + 1) wr (wr.setCell ⟨w.heap.size + 1, 32, none⟩ (.bool true)) := (Only.refl (fun b => b = w.heap.size + 1) wr).setCell (p := ⟨w.heap.size + 1, 32, none⟩) (.inl rfl) _
      have HQ1 : Hid ((wr.setCell ⟨w.heap.size + 1, 32, none⟩ (.bool true)).heap[w.heap.size + 1]? = some (.cells (boolCells (keptBits t)) 139 (0, 0))) := by
        have h := boolRow_set q1 32 true
        rw [take_all hlt] at h
        unfold keptBits
        rw [HG.out]
        exact h
      have HQ2 : Hid ((wr.setCell ⟨w.heap.size + 1, 32, none⟩ (.bool true)).heap[w.heap.size]? = some (.cells (boolCells (markBits [])) 139 (0, 0))) := (hset.block _ (Array.getElem?_eq_some_iff.1 q2).1 (by omega)).trans q2
      have HB := Lib.hid ((q4.trans hset).below (n := w.heap.size) (by omega) (fun j hj e => by omega))
      have HBW := Lib.hid hbw
      have hsz : (Tryz.prog.info? 139).map (·.size) = some 33 := by kernel_rfl
      clear hh q1 q2 q3 q4 HM HRG hset hbw
      go_wp2_with (first | (refine wpList_load_row rfl 139 _ rfl (w.heap.size + 1) rfl 139 _ (0, 0) _ HQ1.out Tryz.underlying139 rfl (by rw [boolCells_size, keptBits_len]; exact hsz) ?_) | (refine wpList_store_row rfl 139 _ _ rfl w.heap.size (boolCells (keptBits t)) rfl rfl 139 _ HQ2.out (by rw [boolCells_size, keptBits_len]; exact hsz) (by rw [boolCells_size, boolCells_size, keptBits_len, markBits_len]) (boolCells_one _) ?_))
      refine bodyPost_ret (v := .agg (boolCells (keptBits t))) (results_cell_row rfl _ _ w.heap.size 139 _ (0, 0) _ rfl (setRow_heap _ _ _ _ _ _ HQ2.out) Tryz.underlying139 rfl (by rw [boolCells_size, keptBits_len]; exact hsz)) rfl ⟨rfl, ?_⟩
      exact below_setRow (HBW.out.trans HB.out) (Nat.le_refl _) _

end Go.Proofs.YtihmgiifphheeaaGreatDoor
