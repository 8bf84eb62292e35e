/- Contracts of errors.Is and errors.As at this program's own errors; the package variables. -/
import Derived.Test.YtihmgiifphheeaaGreatDoorBase
import Derived.Test.YtihmgiifphheeaaGreatDoorRows
import Derived.WalkKit
import Derived.WalkSpells
import Derived.WalkLawsBesides
import Derived.LaidEql
import Derived.Stop.Asserts
import Derived.RowKitTokens
namespace Go.Proofs.YtihmgiifphheeaaGreatDoor
open Go.RowKit Go.Extern.Stop Go.Stop Go.Extern

theorem xTypeOf (v : Value) (w : World) : (callFunc 90 #[.iface 145 v]).run Tryz.prog w = .ok (.value (.iface 117 (.agg #[.pointer (some ⟨3, 145, none⟩)]))) w := by kernel_rfl
theorem xComparable (w : World) : (callFunc 122 #[.agg #[.pointer (some ⟨3, 145, none⟩)]]).run Tryz.prog w = .ok (.value (.bool true)) w := by kernel_rfl
theorem xMethodComparable (v : Value) (w : World) : (Go.method 278 117 v "Comparable").run Tryz.prog w = .ok (122, v) w := by kernel_rfl
theorem xComp : (Tryz.prog.info? 145).map (·.comparable) = some true := by kernel_rfl
theorem xSize : (Tryz.prog.info? 166).map (·.size) = some 1 := by kernel_rfl
theorem xNoIs (v : Value) (xT : TypeId) (w : World) : (Instr.typeAssert (.iface 145 v) xT 141 true).run Tryz.prog w = .ok (.tuple #[.nilIface, .bool false]) w := run_typeAssert_lacksB Tryz.underlying141 (by kernel_rfl) (by kernel_rfl) v xT w
theorem xNoUnwrap (v : Value) (xT : TypeId) (w : World) : (Instr.typeAssert (.iface 145 v) xT 124 true).run Tryz.prog w = .ok (.tuple #[.nilIface, .bool false]) w := run_typeAssert_lacksB Tryz.underlying124 (by kernel_rfl) (by kernel_rfl) v xT w
theorem xNoUnwraps (v : Value) (xT : TypeId) (w : World) : (Instr.typeAssert (.iface 145 v) xT 126 true).run Tryz.prog w = .ok (.tuple #[.nilIface, .bool false]) w := run_typeAssert_lacksB Tryz.underlying126 (by kernel_rfl) (by kernel_rfl) v xT w

set_option maxRecDepth 100000 in
/-- errors.Is(x, x), x a pointer to an errors.errorString. -/
theorem is_same (a : Addr) (w : World) :
    Calls Tryz.prog 76 #[.iface 145 (.pointer (some a)), .iface 145 (.pointer (some a))] w fun e w' => e = .returned (.bool true) ∧ w' = w := by
  obtain ⟨i, hi, hcmp⟩ := Option.map_eq_some_iff.1 xComp
  obtain ⟨j, hj, hjs⟩ := Option.map_eq_some_iff.1 xSize
  have tT := xTypeOf
  have cT := xComparable
  have mR := xMethodComparable
  have heq := run_eql_iface_ptr_same (P := Tryz.prog) w a Tryz.underlying55 Tryz.underlying145 hi hcmp hj
  go_enter Tryz.func76, Tryz.ntmps76
  go_wp2
  refine wp_loop_rounds 1 ?_
  rw [rounds_succ]
  go_wp2
  go_ret
  exact ⟨rfl, rfl⟩

set_option maxRecDepth 100000 in
/-- errors.Is(x, y), two pointers that differ. -/
theorem is_other (a b : Addr) (ca cb : Array Value) (ta tb : TypeId) (w : World) (hne : a ≠ b) (ha : w.heap[a.block]? = some (.cells ca ta (0, 0))) (hb : w.heap[b.block]? = some (.cells cb tb (0, 0))) :
    Calls Tryz.prog 76 #[.iface 145 (.pointer (some a)), .iface 145 (.pointer (some b))] w fun e w' => e = .returned (.bool false) ∧ w' = w := by
  obtain ⟨i, hi, hcmp⟩ := Option.map_eq_some_iff.1 xComp
  obtain ⟨j, hj, hjs⟩ := Option.map_eq_some_iff.1 xSize
  have tT := xTypeOf
  have cT := xComparable
  have mR := xMethodComparable
  have nE := xNoIs
  have uE := xNoUnwrap
  have vE := xNoUnwraps
  have heq := run_eql_iface_ptr_other (P := Tryz.prog) w Tryz.underlying55 Tryz.underlying145 hi hcmp hj (by rw [hjs]; decide) hne ha hb
  go_enter Tryz.func76, Tryz.ntmps76
  go_wp2
  refine wp_loop_rounds 1 ?_
  rw [rounds_succ]
  go_wp2
  go_ret
  exact ⟨rfl, rfl⟩

/-- errors.Is(nil, x). -/
theorem is_nil (b : Addr) (w : World) :
    Calls Tryz.prog 76 #[.nilIface, .iface 145 (.pointer (some b))] w fun e w' => e = .returned (.bool false) ∧ w' = w := by
  have hn := run_eql_iface_nil_left (P := Tryz.prog) w 145 (.pointer (some b)) Tryz.underlying55
  go_enter Tryz.func76, Tryz.ntmps76
  go_wp2
  go_ret
  exact ⟨rfl, rfl⟩

/-- A package variable (number g) that holds an error of errors.New's make, in a block before n. -/
def Senti (g : Nat) (a : Addr) (n : Nat) (w : World) : Prop :=
  w.cell? ⟨g, 0, none⟩ = some (.iface 145 (.pointer (some a))) ∧ g < n ∧ a.block < n ∧ ∃ c t, w.heap[a.block]? = some (.cells c t (0, 0))
theorem Senti.below {g n : Nat} {a : Addr} {w w' : World} (h : Senti g a n w) (hb : Below n w w') : Senti g a n w' := by
  obtain ⟨h1, h2, h3, c, t, h4⟩ := h
  exact ⟨(hb.cell (p := ⟨g, 0, none⟩) h2).trans h1, h2, h3, c, t, (hb.block _ h3).trans h4⟩

end Go.Proofs.YtihmgiifphheeaaGreatDoor
