/- What the listed package variables give a walk; a world that meets the condition: the one that the initialisers lay. (Printed by rowgen2.py.) -/
import Derived.Test.YtjhmghcfhgajcaaDoorRowG2
import Derived.Test.YtjhmghcfhgajcaaDoorDesc17
import Derived.Test.YtjhmghcfhgajcaaDoorRows
import Derived.Lay
namespace Go.Proofs.YtjhmghcfhgajcaaDoor
open Go.RowKit Go.Sel Go.ChangeShapes Go.WideShapes
set_option maxRecDepth 100000

theorem Tryd.own : ownKnob Tryd.prog.godebug = none := by kernel_rfl
theorem Tryd.size : Tryd.prog.types.size = 218 := by kernel_rfl
theorem Tryd.kids : Kids Tryd.prog (· < Tryd.prog.types.size) := kids_rows (by kernel_rfl) (by kernel_rfl)
theorem Tryd.full : ∀ t e, t < Tryd.prog.types.size → Tryd.prog.underlying t = some (.slice e) → 0 < Tryd.prog.cellsOf e := slices_full_of Tryd.prog (by kernel_rfl)
/-- What is listed. -/
def Ld : List (String × DataW Unit) := Rows.kindsAllRow.laid
def at' (i : Nat) : String × DataW Unit := Ld.getD i ("", .nil)
theorem oneRow : ((List.range 218).filter fun t => Tryd.prog.rowNamed t [101, 114, 114, 111, 114]) = [60] := by kernel_rfl
theorem hand_list : Ld.filter (fun x => ([at' 4].map (·.1)).contains x.1) = [at' 4] := by kernel_rfl
theorem hand_laid {W : World} (h : laidMetH Tryd.prog Ld W) : laidMetH Tryd.prog [at' 4] W := hand_list ▸ laidMetH.filter (fun x => ([at' 4].map (·.1)).contains x.1) h
theorem gnH : Tryd.prog.globalNamed (at' 4).1 = some 3 := by kernel_rfl
theorem hand_part {W : World} (h : laidMetH Tryd.prog Ld W) : handlesMet Tryd.prog [at' 4] W := (show laidMet Tryd.prog [] W ∧ handlesMet Tryd.prog [at' 4] W from hand_laid h).2
/-- The handle of the type error. -/
theorem handle_of_laid {W : World} (h : laidMetH Tryd.prog Ld W) : W.cell? ⟨3, 0, none⟩ = some (.iface 145 (.agg #[.pointer (some ⟨10, 60, none⟩)])) := by
  obtain ⟨name, u, ty, e1, e2, e3, e4, e5⟩ := hand_part h _ (List.mem_singleton.2 rfl)
  have en : name = [101, 114, 114, 111, 114] := (Option.some.inj e1).symm
  subst en
  have eu : some u = some 145 := e2.symm.trans (by kernel_rfl)
  obtain rfl := Option.some.inj eu
  have hm : ty ∈ (List.range 218).filter fun t => Tryd.prog.rowNamed t [101, 114, 114, 111, 114] := List.mem_filter.2 ⟨List.mem_range.2 (by rw [← Tryd.size]; exact e3), e4⟩
  rw [oneRow] at hm
  obtain rfl := List.mem_singleton.1 hm
  have hh : typeHandle Tryd.prog 60 = .pointer (some ⟨10, 60, none⟩) := by kernel_rfl
  rw [hh] at e5
  simpa using World.var?_cell gnH e5 0
theorem errT_of_laid {W : World} (h : laidMetH Tryd.prog Ld W) : ErrT W.heap.size W := ⟨handle_of_laid h, cell_lt (handle_of_laid h)⟩
theorem tab0_list : Ld.filter (fun x => ([at' 0].map (·.1)).contains x.1) = [at' 0] := by kernel_rfl
theorem tab0_laid {W : World} (h : laidMetH Tryd.prog Ld W) : laidMetH Tryd.prog [at' 0] W := tab0_list ▸ laidMetH.filter (fun x => ([at' 0].map (·.1)).contains x.1) h
theorem tab0_of_laid {W : World} {t e n : Nat} (ht : (Tryd.prog.globals[8]?).map (·.type) = some t) (hu : Tryd.prog.underlying t = some (.array n e)) (he : Tryd.prog.underlying e = some (.int .u8)) (hce : Tryd.prog.cellsOf e = 1) (hct : Tryd.prog.cellsOf t = n) (h : laidMetH Tryd.prog Ld W) : Lib.TabIs Tryd.prog W (at' 0).1 .u8 [0, 1, 28, 2, 29, 14, 24, 3, 30, 22, 20, 15, 25, 17, 4, 8, 31, 27, 13, 23, 21, 19, 16, 7, 26, 12, 18, 6, 11, 5, 10, 9] :=
  Lib.tabIs_of_head (by kernel_rfl) ht hu he hce hct (show laidMet Tryd.prog ((( at' 0).1, Lib.tabData .u8 [0, 1, 28, 2, 29, 14, 24, 3, 30, 22, 20, 15, 25, 17, 4, 8, 31, 27, 13, 23, 21, 19, 16, 7, 26, 12, 18, 6, 11, 5, 10, 9]) :: []) W from (MakeChecks.laidMetH_plain Tryd.prog [at' 0] W (by kernel_rfl)) ▸ tab0_laid h)
theorem tab1_list : Ld.filter (fun x => ([at' 1].map (·.1)).contains x.1) = [at' 1] := by kernel_rfl
theorem tab1_laid {W : World} (h : laidMetH Tryd.prog Ld W) : laidMetH Tryd.prog [at' 1] W := tab1_list ▸ laidMetH.filter (fun x => ([at' 1].map (·.1)).contains x.1) h
theorem tab1_of_laid {W : World} {t e n : Nat} (ht : (Tryd.prog.globals[9]?).map (·.type) = some t) (hu : Tryd.prog.underlying t = some (.array n e)) (he : Tryd.prog.underlying e = some (.int .u8)) (hce : Tryd.prog.cellsOf e = 1) (hct : Tryd.prog.cellsOf t = n) (h : laidMetH Tryd.prog Ld W) : Lib.TabIs Tryd.prog W (at' 1).1 .u8 [0, 1, 56, 2, 57, 49, 28, 3, 61, 58, 42, 50, 38, 29, 17, 4, 62, 47, 59, 36, 45, 43, 51, 22, 53, 39, 33, 30, 24, 18, 12, 5, 63, 55, 48, 27, 60, 41, 37, 16, 46, 35, 44, 21, 52, 32, 23, 11, 54, 26, 40, 15, 34, 20, 31, 10, 25, 14, 19, 9, 13, 8, 7, 6] :=
  Lib.tabIs_of_head (by kernel_rfl) ht hu he hce hct (show laidMet Tryd.prog ((( at' 1).1, Lib.tabData .u8 [0, 1, 56, 2, 57, 49, 28, 3, 61, 58, 42, 50, 38, 29, 17, 4, 62, 47, 59, 36, 45, 43, 51, 22, 53, 39, 33, 30, 24, 18, 12, 5, 63, 55, 48, 27, 60, 41, 37, 16, 46, 35, 44, 21, 52, 32, 23, 11, 54, 26, 40, 15, 34, 20, 31, 10, 25, 14, 19, 9, 13, 8, 7, 6]) :: []) W from (MakeChecks.laidMetH_plain Tryd.prog [at' 1] W (by kernel_rfl)) ▸ tab1_laid h)
theorem tab2_list : Ld.filter (fun x => ([at' 2].map (·.1)).contains x.1) = [at' 2] := by kernel_rfl
theorem tab2_laid {W : World} (h : laidMetH Tryd.prog Ld W) : laidMetH Tryd.prog [at' 2] W := tab2_list ▸ laidMetH.filter (fun x => ([at' 2].map (·.1)).contains x.1) h
theorem tab2_of_laid {W : World} {t e n : Nat} (ht : (Tryd.prog.globals[5]?).map (·.type) = some t) (hu : Tryd.prog.underlying t = some (.array n e)) (he : Tryd.prog.underlying e = some (.int .u64)) (hce : Tryd.prog.cellsOf e = 1) (hct : Tryd.prog.cellsOf t = n) (h : laidMetH Tryd.prog Ld W) : Lib.TabIs Tryd.prog W (at' 2).1 .u64 [1, 10, 100, 1000, 10000, 100000, 1000000, 10000000, 100000000, 1000000000, 10000000000, 100000000000, 1000000000000, 10000000000000, 100000000000000, 1000000000000000, 10000000000000000, 100000000000000000, 1000000000000000000, 10000000000000000000] :=
  Lib.tabIs_of_head (by kernel_rfl) ht hu he hce hct (show laidMet Tryd.prog ((( at' 2).1, Lib.tabData .u64 [1, 10, 100, 1000, 10000, 100000, 1000000, 10000000, 100000000, 1000000000, 10000000000, 100000000000, 1000000000000, 10000000000000, 100000000000000, 1000000000000000, 10000000000000000, 100000000000000000, 1000000000000000000, 10000000000000000000]) :: []) W from (MakeChecks.laidMetH_plain Tryd.prog [at' 2] W (by kernel_rfl)) ▸ tab2_laid h)

/-- The world that the initialisers lay. -/
noncomputable def laidWorld (os : Os) : World := (World.doorLaid Tryd.prog 98 os).layVars Tryd.prog [at' 5]
theorem laidWorld_met (os : Os) (args : Array Value) : laidMetH Tryd.prog Ld ((laidWorld os).forCall (fun _ _ => 0) ⟨#[], args, []⟩).memory :=
  laidMetH_of_parts3 (fuel := 8) (laidMet_of_run' 8 (by kernel_rfl) (by kernel_rfl)) (by kernel_rfl) (by kernel_rfl)
theorem laidWorld_shaped (os : Os) (args : Array Value) : ((laidWorld os).forCall (fun _ _ => 0) ⟨#[], args, []⟩).Shaped Tryd.prog := World.shaped_of_RefB (by kernel_rfl) (by kernel_rfl)
end Go.Proofs.YtjhmghcfhgajcaaDoor
