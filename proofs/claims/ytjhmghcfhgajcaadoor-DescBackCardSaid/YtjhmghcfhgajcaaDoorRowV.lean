/- What the listed package variables give a walk; a world that meets the condition: the one that the initialisers lay. (Printed by rowgen2.py.) -/
import Derived.Test.YtjhmghcfhgajcaaDoorRowG2
import Derived.Test.YtjhmghcfhgajcaaDoorDesc17
import Derived.Test.YtjhmghcfhgajcaaDoorRows
import Derived.Lay
namespace Go.Proofs.YtjhmghcfhgajcaaDoor
open Go.RowKit Go.Sel Go.ChangeShapes Go.WideShapes
set_option maxRecDepth 100000

theorem Tryd.own : ownKnob Tryd.prog.godebug = none := by kernel_rfl
theorem Tryd.size : Tryd.prog.types.size = 218 := by kernel_rfl
theorem Tryd.kids : Kids Tryd.prog (· < Tryd.prog.types.size) := kids_rows (by kernel_rfl) (by kernel_rfl)
theorem Tryd.full : ∀ t e, t < Tryd.prog.types.size → Tryd.prog.underlying t = some (.slice e) → 0 < Tryd.prog.cellsOf e := slices_full_of Tryd.prog (by kernel_rfl)
/-- What is listed. -/
def Ld : List (String × DataW Unit) := Rows.descGrowsRow.laid
def at' (i : Nat) : String × DataW Unit := Ld.getD i ("", .nil)
theorem oneRow : ((List.range 218).filter fun t => Tryd.prog.rowNamed t [101, 114, 114, 111, 114]) = [60] := by kernel_rfl
theorem hand_list : Ld.filter (fun x => ([at' 4].map (·.1)).contains x.1) = [at' 4] := by kernel_rfl
theorem hand_laid {W : World} (h : laidMetH Tryd.prog Ld W) : laidMetH Tryd.prog [at' 4] W := hand_list ▸ laidMetH.filter (fun x => ([at' 4].map (·.1)).contains x.1) h
theorem gnH : Tryd.prog.globalNamed (at' 4).1 = some 3 := by kernel_rfl
theorem hand_part {W : World} (h : laidMetH Tryd.prog Ld W) : handlesMet Tryd.prog [at' 4] W := (show laidMet Tryd.prog [] W ∧ handlesMet Tryd.prog [at' 4] W from hand_laid h).2
/-- The handle of the type error. -/
theorem handle_of_laid {W : World} (h : laidMetH Tryd.prog Ld W) : W.cell? ⟨3, 0, none⟩ = some (.iface 145 (.agg #[.pointer (some ⟨10, 60, none⟩)])) := by
  obtain ⟨name, u, ty, e1, e2, e3, e4, e5⟩ := hand_part h _ (List.mem_singleton.2 rfl)
  have en : name = [101, 114, 114, 111, 114] := (Option.some.inj e1).symm
  subst en
  have eu : some u = some 145 := e2.symm.trans (by kernel_rfl)
  obtain rfl := Option.some.inj eu
  have hm : ty ∈ (List.range 218).filter fun t => Tryd.prog.rowNamed t [101, 114, 114, 111, 114] := List.mem_filter.2 ⟨List.mem_range.2 (by rw [← Tryd.size]; exact e3), e4⟩
  rw [oneRow] at hm
  obtain rfl := List.mem_singleton.1 hm
  have hh : typeHandle Tryd.prog 60 = .pointer (some ⟨10, 60, none⟩) := by kernel_rfl
  rw [hh] at e5
  simpa using World.var?_cell gnH e5 0
theorem errT_of_laid {W : World} (h : laidMetH Tryd.prog Ld W) : ErrT W.heap.size W := ⟨handle_of_laid h, cell_lt (handle_of_laid h)⟩
theorem tab0_list : Ld.filter (fun x => ([at' 0].map (·.1)).contains x.1) = [at' 0] := by kernel_rfl
theorem tab0_laid {W : World} (h : laidMetH Tryd.prog Ld W) : laidMetH Tryd.prog [at' 0] W := tab0_list ▸ laidMetH.filter (fun x => ([at' 0].map (·.1)).contains x.1) h
theorem tab0_of_laid {W : World} {t e n : Nat} (ht : (Tryd.prog.globals[8]?).map (·.type) = some t) (hu : Tryd.prog.underlying t = some (.array n e)) (he : Tryd.prog.underlying e = some (.int .u8)) (hce : Tryd.prog.cellsOf e = 1) (hct : Tryd.prog.cellsOf t = n) (h : laidMetH Tryd.prog Ld W) : Lib.TabIs Tryd.prog W (at' 0).1 .u8 [0, 1, 28, 2, 29, 14, 24, 3, 30, 22, 20, 15, 25, 17, 4, 8, 31, 27, 13, 23, 21, 19, 16, 7, 26, 12, 18, 6, 11, 5, 10, 9] :=
  Lib.tabIs_of_head (by kernel_rfl) ht hu he hce hct (show laidMet Tryd.prog ((( at' 0).1, Lib.tabData .u8 [0, 1, 28, 2, 29, 14, 24, 3, 30, 22, 20, 15, 25, 17, 4, 8, 31, 27, 13, 23, 21, 19, 16, 7, 26, 12, 18, 6, 11, 5, 10, 9]) :: []) W from (MakeChecks.laidMetH_plain Tryd.prog [at' 0] W (by kernel_rfl)) ▸ tab0_laid h)
theorem tab1_list : Ld.filter (fun x => ([at' 1].map (·.1)).contains x.1) = [at' 1] := by kernel_rfl
theorem tab1_laid {W : World} (h : laidMetH Tryd.prog Ld W) : laidMetH Tryd.prog [at' 1] W := tab1_list ▸ laidMetH.filter (fun x => ([at' 1].map (·.1)).contains x.1) h
theorem tab1_of_laid {W : World} {t e n : Nat} (ht : (Tryd.prog.globals[9]?).map (·.type) = some t) (hu : Tryd.prog.underlying t = some (.array n e)) (he : Tryd.prog.underlying e = some (.int .u8)) (hce : Tryd.prog.cellsOf e = 1) (hct : Tryd.prog.cellsOf t = n) (h : laidMetH Tryd.prog Ld W) : Lib.TabIs Tryd.prog W (at' 1).1 .u8 [0, 1, 56, 2, 57, 49, 28, 3, 61, 58, 42, 50, 38, 29, 17, 4, 62, 47, 59, 36, 45, 43, 51, 22, 53, 39, 33, 30, 24, 18, 12, 5, 63, 55, 48, 27, 60, 41, 37, 16, 46, 35, 44, 21, 52, 32, 23, 11, 54, 26, 40, 15, 34, 20, 31, 10, 25, 14, 19, 9, 13, 8, 7, 6] :=
  Lib.tabIs_of_head (by kernel_rfl) ht hu he hce hct (show laidMet Tryd.prog ((( at' 1).1, Lib.tabData .u8 [0, 1, 56, 2, 57, 49, 28, 3, 61, 58, 42, 50, 38, 29, 17, 4, 62, 47, 59, 36, 45, 43, 51, 22, 53, 39, 33, 30, 24, 18, 12, 5, 63, 55, 48, 27, 60, 41, 37, 16, 46, 35, 44, 21, 52, 32, 23, 11, 54, 26, 40, 15, 34, 20, 31, 10, 25, 14, 19, 9, 13, 8, 7, 6]) :: []) W from (MakeChecks.laidMetH_plain Tryd.prog [at' 1] W (by kernel_rfl)) ▸ tab1_laid h)
theorem tab2_list : Ld.filter (fun x => ([at' 2].map (·.1)).contains x.1) = [at' 2] := by kernel_rfl
theorem tab2_laid {W : World} (h : laidMetH Tryd.prog Ld W) : laidMetH Tryd.prog [at' 2] W := tab2_list ▸ laidMetH.filter (fun x => ([at' 2].map (·.1)).contains x.1) h
theorem tab2_of_laid {W : World} {t e n : Nat} (ht : (Tryd.prog.globals[5]?).map (·.type) = some t) (hu : Tryd.prog.underlying t = some (.array n e)) (he : Tryd.prog.underlying e = some (.int .u64)) (hce : Tryd.prog.cellsOf e = 1) (hct : Tryd.prog.cellsOf t = n) (h : laidMetH Tryd.prog Ld W) : Lib.TabIs Tryd.prog W (at' 2).1 .u64 [1, 10, 100, 1000, 10000, 100000, 1000000, 10000000, 100000000, 1000000000, 10000000000, 100000000000, 1000000000000, 10000000000000, 100000000000000, 1000000000000000, 10000000000000000, 100000000000000000, 1000000000000000000, 10000000000000000000] :=
  Lib.tabIs_of_head (by kernel_rfl) ht hu he hce hct (show laidMet Tryd.prog ((( at' 2).1, Lib.tabData .u64 [1, 10, 100, 1000, 10000, 100000, 1000000, 10000000, 100000000, 1000000000, 10000000000, 100000000000, 1000000000000, 10000000000000, 100000000000000, 1000000000000000, 10000000000000000, 100000000000000000, 1000000000000000000, 10000000000000000000]) :: []) W from (MakeChecks.laidMetH_plain Tryd.prog [at' 2] W (by kernel_rfl)) ▸ tab2_laid h)
theorem cellsES : Tryd.prog.cellsOf 206 = 1 := by kernel_rfl
theorem cellsStr : Tryd.prog.cellsOf 9 = 1 := by kernel_rfl
theorem starES : "*" ++ "errors.errorString" = "*errors.errorString" := by decide
theorem rowES (u : TypeId) (h : Tryd.prog.typeName? 3 u = some "*errors.errorString") : u = 187 := typeName_ptr_named (nm := "errors.errorString") (by rw [starES]; kernel_rfl) (by kernel_rfl) (by decide) u (by rw [starES]; exact h)
theorem gn0 : Tryd.prog.globalNamed (at' 5).1 = some 1 := by kernel_rfl
theorem gt0 : (Tryd.prog.globals[1]?).map (·.type) = some 60 := by kernel_rfl
theorem gn1 : Tryd.prog.globalNamed (at' 6).1 = some 0 := by kernel_rfl
theorem gt1 : (Tryd.prog.globals[0]?).map (·.type) = some 60 := by kernel_rfl
theorem gn2 : Tryd.prog.globalNamed (at' 7).1 = some 2 := by kernel_rfl
theorem gt2 : (Tryd.prog.globals[2]?).map (·.type) = some 60 := by kernel_rfl
theorem sent_list : Ld.filter (fun x => ([at' 5, at' 6, at' 7].map (·.1)).contains x.1) = [at' 5, at' 6, at' 7] := by kernel_rfl
theorem sent_laid {W : World} (h : laidMetH Tryd.prog Ld W) : laidMetH Tryd.prog [at' 5, at' 6, at' 7] W := sent_list ▸ laidMetH.filter (fun x => ([at' 5, at' 6, at' 7].map (·.1)).contains x.1) h
theorem sent_part {W : World} (h : laidMetH Tryd.prog Ld W) : laidMet Tryd.prog [at' 5, at' 6, at' 7] W := (MakeChecks.laidMetH_plain Tryd.prog [at' 5, at' 6, at' 7] W (by kernel_rfl)) ▸ sent_laid h

/-- The sentinel errors. -/
theorem sentinels_of_laid {W : World} (h : laidMetH Tryd.prog Ld W) : ∃ a0 a1 a2 : Addr, Senti 1 a0 W.heap.size W ∧ Senti 0 a1 W.heap.size W ∧ Senti 2 a2 W.heap.size W ∧ a0 ≠ a1 ∧ a0 ≠ a2 ∧ a1 ≠ a2 := by
  obtain ⟨ps, ⟨g0, t0, cs0, f0, p0, q0, hg0, ht0, hv0, hd0, ⟨g1, t1, cs1, f1, p1, q1, hg1, ht1, hv1, hd1, ⟨g2, t2, cs2, f2, p2, q2, hg2, ht2, hv2, hd2, hq, e2⟩, e1⟩, e0⟩, hnd, hrows⟩ := sent_part h
  obtain rfl := Option.some.inj (gn0.symm.trans hg0)
  obtain rfl := Option.some.inj (gt0.symm.trans ht0)
  obtain rfl := Option.some.inj (gn1.symm.trans hg1)
  obtain rfl := Option.some.inj (gt1.symm.trans ht1)
  obtain rfl := Option.some.inj (gn2.symm.trans hg2)
  obtain rfl := Option.some.inj (gt2.symm.trans ht2)
  replace hq : q2 = [] := hq
  subst hq
  subst e2
  subst e1
  subst e0
  obtain ⟨l0⟩ := cs0
  obtain ⟨l1⟩ := cs1
  obtain ⟨l2⟩ := cs2
  have hin0 : MemPlace.cell 1 0 ∈ MemPlace.row ⟨1, 0, none⟩ l0.length → ∀ u v, l0 = [.iface u v] → Value.okWide Tryd.prog W .any 0 u v := fun hm u v e => (hrows 1 0 (by simp only [List.mem_append]; simp [hm])).2 u v (by subst e; simpa using World.var?_cell hg0 hv0 0)
  have ok0 : ∀ u v, l0 = [.iface u v] → Value.okWide Tryd.prog W .any 0 u v := fun u v e => hin0 (by subst e; simp [MemPlace.row]) u v e
  clear hin0
  obtain ⟨a0, s0, rfl, hc0, hs0, hz0, rfl⟩ := errorString_of_trod Tryd.underlying60 rowES Tryd.underlying187 Tryd.underlying206 rfl rfl Tryd.underlying9 cellsES cellsStr hd0 ok0
  have hin1 : MemPlace.cell 0 0 ∈ MemPlace.row ⟨0, 0, none⟩ l1.length → ∀ u v, l1 = [.iface u v] → Value.okWide Tryd.prog W .any 0 u v := fun hm u v e => (hrows 0 0 (by simp only [List.mem_append]; simp [hm])).2 u v (by subst e; simpa using World.var?_cell hg1 hv1 0)
  have ok1 : ∀ u v, l1 = [.iface u v] → Value.okWide Tryd.prog W .any 0 u v := fun u v e => hin1 (by subst e; simp [MemPlace.row]) u v e
  clear hin1
  obtain ⟨a1, s1, rfl, hc1, hs1, hz1, rfl⟩ := errorString_of_trod Tryd.underlying60 rowES Tryd.underlying187 Tryd.underlying206 rfl rfl Tryd.underlying9 cellsES cellsStr hd1 ok1
  have hin2 : MemPlace.cell 2 0 ∈ MemPlace.row ⟨2, 0, none⟩ l2.length → ∀ u v, l2 = [.iface u v] → Value.okWide Tryd.prog W .any 0 u v := fun hm u v e => (hrows 2 0 (by simp only [List.mem_append]; simp [hm])).2 u v (by subst e; simpa using World.var?_cell hg2 hv2 0)
  have ok2 : ∀ u v, l2 = [.iface u v] → Value.okWide Tryd.prog W .any 0 u v := fun u v e => hin2 (by subst e; simp [MemPlace.row]) u v e
  clear hin2
  obtain ⟨a2, s2, rfl, hc2, hs2, hz2, rfl⟩ := errorString_of_trod Tryd.underlying60 rowES Tryd.underlying187 Tryd.underlying206 rfl rfl Tryd.underlying9 cellsES cellsStr hd2 ok2
  obtain ⟨c0, t0, hb0⟩ := (hrows a0.block a0.off (by simp [MemPlace.row])).1
  obtain ⟨c1, t1, hb1⟩ := (hrows a1.block a1.off (by simp [MemPlace.row])).1
  obtain ⟨c2, t2, hb2⟩ := (hrows a2.block a2.off (by simp [MemPlace.row])).1
  refine ⟨a0, a1, a2, ⟨by simpa using World.var?_cell hg0 hv0 0, cell_lt (p := ⟨1, 0, none⟩) (by simpa using World.var?_cell hg0 hv0 0), (Array.getElem?_eq_some_iff.1 hb0).1, c0, t0, hb0⟩, ⟨by simpa using World.var?_cell hg1 hv1 0, cell_lt (p := ⟨0, 0, none⟩) (by simpa using World.var?_cell hg1 hv1 0), (Array.getElem?_eq_some_iff.1 hb1).1, c1, t1, hb1⟩, ⟨by simpa using World.var?_cell hg2 hv2 0, cell_lt (p := ⟨2, 0, none⟩) (by simpa using World.var?_cell hg2 hv2 0), (Array.getElem?_eq_some_iff.1 hb2).1, c2, t2, hb2⟩, ?_, ?_, ?_⟩
  all_goals
    rintro rfl
    simp [MemPlace.row] at hnd

/-- The world that the initialisers lay. -/
noncomputable def laidWorld (os : Os) : World := (World.doorLaid Tryd.prog 98 os).layVars Tryd.prog [at' 8]
theorem laidWorld_met (os : Os) (args : Array Value) : laidMetH Tryd.prog Ld ((laidWorld os).forCall (fun _ _ => 0) ⟨#[], args, []⟩).memory :=
  laidMetH_of_parts3 (fuel := 8) (laidMet_of_run' 8 (by kernel_rfl) (by kernel_rfl)) (by kernel_rfl) (by kernel_rfl)
theorem laidWorld_shaped (os : Os) (args : Array Value) : ((laidWorld os).forCall (fun _ _ => 0) ⟨#[], args, []⟩).Shaped Tryd.prog := World.shaped_of_RefB (by kernel_rfl) (by kernel_rfl)
end Go.Proofs.YtjhmghcfhgajcaaDoor
