/- What the listed package variables give a walk; a world that meets the condition. (Printed by rowgen.py.) -/
import Derived.Test.YtihmgiifphheeaaGreatDoorRowG
import Derived.Test.YtihmgiifphheeaaGreatDoorViews
import Derived.Test.YtihmgiifphheeaaGreatDoorRows
namespace Go.Proofs.YtihmgiifphheeaaGreatDoor
open Go.RowKit Go.Sel Go.ChangeShapes Go.WideShapes
set_option maxRecDepth 100000

theorem Tryz.own : ownKnob Tryz.prog.godebug = none := by kernel_rfl
theorem Tryz.size : Tryz.prog.types.size = 178 := by kernel_rfl
theorem Tryz.kids : Kids Tryz.prog (· < Tryz.prog.types.size) := kids_rows (by kernel_rfl) (by kernel_rfl)
theorem Tryz.full : ∀ t e, t < Tryz.prog.types.size → Tryz.prog.underlying t = some (.slice e) → 0 < Tryz.prog.cellsOf e := slices_full_of Tryz.prog (by kernel_rfl)
/-- What is listed. -/
def Ld : List (String × DataW Unit) := Rows.poolTakesRow.laid
theorem oneRow : ((List.range 178).filter fun t => Tryz.prog.rowNamed t [101, 114, 114, 111, 114]) = [55] := by kernel_rfl
theorem cellsES : Tryz.prog.cellsOf 166 = 1 := by kernel_rfl
theorem cellsStr : Tryz.prog.cellsOf 9 = 1 := by kernel_rfl
theorem starES : "*" ++ "errors.errorString" = "*errors.errorString" := by decide
theorem rowES (u : TypeId) (h : Tryz.prog.typeName? 3 u = some "*errors.errorString") : u = 145 := typeName_ptr_named (nm := "errors.errorString") (by rw [starES]; kernel_rfl) (by kernel_rfl) (by decide) u (by rw [starES]; exact h)
theorem gn0 : Tryz.prog.globalNamed (Rows.poolTakesRow.laid.getD 1 ("", .nil)).1 = some 0 := by kernel_rfl
theorem gt0 : (Tryz.prog.globals[0]?).map (·.type) = some 55 := by kernel_rfl
theorem gn1 : Tryz.prog.globalNamed (Rows.poolTakesRow.laid.getD 2 ("", .nil)).1 = some 1 := by kernel_rfl
theorem gt1 : (Tryz.prog.globals[1]?).map (·.type) = some 55 := by kernel_rfl
theorem gnH : Tryz.prog.globalNamed (Rows.poolTakesRow.laid.getD 0 ("", .nil)).1 = some 2 := by kernel_rfl

theorem parts_of_laid {W : World} (h : laidMetH Tryz.prog Ld W) : laidMet Tryz.prog [Rows.poolTakesRow.laid.getD 1 ("", .nil), Rows.poolTakesRow.laid.getD 2 ("", .nil)] W ∧ handlesMet Tryz.prog [Rows.poolTakesRow.laid.getD 0 ("", .nil)] W := h
/-- The handle of the type error. -/
theorem handle_of_laid {W : World} (h : laidMetH Tryz.prog Ld W) : W.cell? ⟨2, 0, none⟩ = some (.iface 117 (.agg #[.pointer (some ⟨3, 55, none⟩)])) := by
  obtain ⟨name, u, ty, e1, e2, e3, e4, e5⟩ := (parts_of_laid h).2 _ (List.mem_singleton.2 rfl)
  have en : name = [101, 114, 114, 111, 114] := (Option.some.inj e1).symm
  subst en
  have eu : some u = some 117 := e2.symm.trans (by kernel_rfl)
  obtain rfl := Option.some.inj eu
  have hm : ty ∈ (List.range 178).filter fun t => Tryz.prog.rowNamed t [101, 114, 114, 111, 114] := List.mem_filter.2 ⟨List.mem_range.2 (by rw [← Tryz.size]; exact e3), e4⟩
  rw [oneRow] at hm
  obtain rfl := List.mem_singleton.1 hm
  have hh : typeHandle Tryz.prog 55 = .pointer (some ⟨3, 55, none⟩) := by kernel_rfl
  rw [hh] at e5
  simpa using World.var?_cell gnH e5 0
theorem errT_of_laid {W : World} (h : laidMetH Tryz.prog Ld W) : ErrT W.heap.size W := ⟨handle_of_laid h, cell_lt (handle_of_laid h)⟩

/-- The sentinel errors. -/
theorem sentinels_of_laid {W : World} (h : laidMetH Tryz.prog Ld W) : ∃ a0 a1 : Addr, Senti 0 a0 W.heap.size W ∧ Senti 1 a1 W.heap.size W ∧ a0 ≠ a1 := by
  obtain ⟨ps, ⟨g0, t0, cs0, f0, p0, q0, hg0, ht0, hv0, hd0, ⟨g1, t1, cs1, f1, p1, q1, hg1, ht1, hv1, hd1, hq, e1⟩, e0⟩, hnd, hrows⟩ := (parts_of_laid h).1
  obtain rfl := Option.some.inj (gn0.symm.trans hg0)
  obtain rfl := Option.some.inj (gt0.symm.trans ht0)
  obtain rfl := Option.some.inj (gn1.symm.trans hg1)
  obtain rfl := Option.some.inj (gt1.symm.trans ht1)
  replace hq : q1 = [] := hq
  subst hq
  subst e1
  subst e0
  obtain ⟨l0⟩ := cs0
  obtain ⟨l1⟩ := cs1
  have hin0 : MemPlace.cell 0 0 ∈ MemPlace.row ⟨0, 0, none⟩ l0.length → ∀ u v, l0 = [.iface u v] → Value.okWide Tryz.prog W .any 0 u v := fun hm u v e => (hrows 0 0 (by simp only [List.mem_append]; simp [hm])).2 u v (by subst e; simpa using World.var?_cell hg0 hv0 0)
  have ok0 : ∀ u v, l0 = [.iface u v] → Value.okWide Tryz.prog W .any 0 u v := fun u v e => hin0 (by subst e; simp [MemPlace.row]) u v e
  clear hin0
  obtain ⟨a0, s0, rfl, hc0, hs0, hz0, rfl⟩ := errorString_of_trod Tryz.underlying55 rowES Tryz.underlying145 Tryz.underlying166 rfl rfl Tryz.underlying9 cellsES cellsStr hd0 ok0
  have hin1 : MemPlace.cell 1 0 ∈ MemPlace.row ⟨1, 0, none⟩ l1.length → ∀ u v, l1 = [.iface u v] → Value.okWide Tryz.prog W .any 0 u v := fun hm u v e => (hrows 1 0 (by simp only [List.mem_append]; simp [hm])).2 u v (by subst e; simpa using World.var?_cell hg1 hv1 0)
  have ok1 : ∀ u v, l1 = [.iface u v] → Value.okWide Tryz.prog W .any 0 u v := fun u v e => hin1 (by subst e; simp [MemPlace.row]) u v e
  clear hin1
  obtain ⟨a1, s1, rfl, hc1, hs1, hz1, rfl⟩ := errorString_of_trod Tryz.underlying55 rowES Tryz.underlying145 Tryz.underlying166 rfl rfl Tryz.underlying9 cellsES cellsStr hd1 ok1
  obtain ⟨c0, t0, hb0⟩ := (hrows a0.block a0.off (by simp [MemPlace.row])).1
  obtain ⟨c1, t1, hb1⟩ := (hrows a1.block a1.off (by simp [MemPlace.row])).1
  refine ⟨a0, a1, ⟨by simpa using World.var?_cell hg0 hv0 0, cell_lt (p := ⟨0, 0, none⟩) (by simpa using World.var?_cell hg0 hv0 0), (Array.getElem?_eq_some_iff.1 hb0).1, c0, t0, hb0⟩, ⟨by simpa using World.var?_cell hg1 hv1 0, cell_lt (p := ⟨1, 0, none⟩) (by simpa using World.var?_cell hg1 hv1 0), (Array.getElem?_eq_some_iff.1 hb1).1, c1, t1, hb1⟩, ?_⟩
  all_goals
    rintro rfl
    simp [MemPlace.row] at hnd

/-- How many blocks lie ahead of those of a call. -/
noncomputable def low : Nat := (World.holding Tryz.prog default ⟨#[], #[], []⟩).heap.size
/-- A world that meets the condition. -/
noncomputable def laidWorld (os : Os) : World :=
  { (World.holding Tryz.prog os ⟨#[.cells #[.string { data := #[110, 111, 32, 115, 116, 97, 116, 101, 115] }] 166, .cells #[.string { data := #[110, 111, 32, 114, 117, 110] }] 166], #[], []⟩) with heap := ((((World.holding Tryz.prog os ⟨#[.cells #[.string { data := #[110, 111, 32, 115, 116, 97, 116, 101, 115] }] 166, .cells #[.string { data := #[110, 111, 32, 114, 117, 110] }] 166], #[], []⟩).heap.modify 0 fun
      | .cells _ t frozen => .cells #[.iface 145 (.pointer (some ⟨low + 0, 0, none⟩))] t frozen
      | o => o).modify 1 fun
      | .cells _ t frozen => .cells #[.iface 145 (.pointer (some ⟨low + 1, 0, none⟩))] t frozen
      | o => o).modify 2 fun
      | .cells _ t frozen => .cells #[.iface 117 (.agg #[.pointer (some ⟨3, 55, none⟩)])] t frozen
      | o => o) }
theorem laidWorld_met (os : Os) (args : Array Value) : laidMetH Tryz.prog Ld ((laidWorld os).forCall (fun _ _ => 0) ⟨#[], args, []⟩).memory :=
  laidMetH_of_parts (laidMet_of_run (ps := [.cell 0 0, .cell (low + 0) 0, .cell 1 0, .cell (low + 1) 0]) 8 (by kernel_rfl) (by kernel_rfl) (by kernel_rfl)) (by kernel_rfl)
end Go.Proofs.YtihmgiifphheeaaGreatDoor
