/- Contracts of errors.Is and errors.As at this program's own errors; the package variables. -/
import Derived.Test.YtjhmghcfhgajcaaDoorBase
import Derived.Test.YtjhmghcfhgajcaaDoorRows
import Derived.WalkKit
import Derived.WalkSpells
import Derived.WalkLawsBesides
import Derived.LaidEql
import Derived.Stop.Asserts
import Derived.RowKitTokens
namespace Go.Proofs.YtjhmghcfhgajcaaDoor
open Go.RowKit Go.Extern.Stop Go.Stop Go.Extern

theorem xTypeOf (v : Value) (w : World) : (callFunc 77 #[.iface 187 v]).run Tryd.prog w = .ok (.value (.iface 145 (.agg #[.pointer (some ⟨10, 187, none⟩)]))) w := by kernel_rfl
theorem xComparable (w : World) : (callFunc 137 #[.agg #[.pointer (some ⟨10, 187, none⟩)]]).run Tryd.prog w = .ok (.value (.bool true)) w := by kernel_rfl
theorem xMethodComparable (v : Value) (w : World) : (Go.method 318 145 v "Comparable").run Tryd.prog w = .ok (137, v) w := by kernel_rfl
theorem xComp : (Tryd.prog.info? 187).map (·.comparable) = some true := by kernel_rfl
theorem xSize : (Tryd.prog.info? 206).map (·.size) = some 1 := by kernel_rfl
theorem xNoIs (v : Value) (xT : TypeId) (w : World) : (Instr.typeAssert (.iface 187 v) xT 156 true).run Tryd.prog w = .ok (.tuple #[.nilIface, .bool false]) w := run_typeAssert_lacksB Tryd.underlying156 (by kernel_rfl) (by kernel_rfl) v xT w
theorem xNoUnwrap (v : Value) (xT : TypeId) (w : World) : (Instr.typeAssert (.iface 187 v) xT 152 true).run Tryd.prog w = .ok (.tuple #[.nilIface, .bool false]) w := run_typeAssert_lacksB Tryd.underlying152 (by kernel_rfl) (by kernel_rfl) v xT w
theorem xNoUnwraps (v : Value) (xT : TypeId) (w : World) : (Instr.typeAssert (.iface 187 v) xT 154 true).run Tryd.prog w = .ok (.tuple #[.nilIface, .bool false]) w := run_typeAssert_lacksB Tryd.underlying154 (by kernel_rfl) (by kernel_rfl) v xT w

set_option maxRecDepth 100000 in
/-- errors.Is(x, x), x a pointer to an errors.errorString. -/
theorem is_same (a : Addr) (w : World) :
    Calls Tryd.prog 57 #[.iface 187 (.pointer (some a)), .iface 187 (.pointer (some a))] w fun e w' => e = .returned (.bool true) ∧ w' = w := by
  obtain ⟨i, hi, hcmp⟩ := Option.map_eq_some_iff.1 xComp
  obtain ⟨j, hj, hjs⟩ := Option.map_eq_some_iff.1 xSize
  have tT := xTypeOf
  have cT := xComparable
  have mR := xMethodComparable
  have heq := run_eql_iface_ptr_same (P := Tryd.prog) w a Tryd.underlying60 Tryd.underlying187 hi hcmp hj
  go_enter Tryd.func57, Tryd.ntmps57
  go_wp2
  refine wp_loop_rounds 1 ?_
  rw [rounds_succ]
  go_wp2
  go_ret
  exact ⟨rfl, rfl⟩

set_option maxRecDepth 100000 in
/-- errors.Is(x, y), two pointers that differ. -/
theorem is_other (a b : Addr) (ca cb : Array Value) (ta tb : TypeId) (w : World) (hne : a ≠ b) (ha : w.heap[a.block]? = some (.cells ca ta (0, 0))) (hb : w.heap[b.block]? = some (.cells cb tb (0, 0))) :
    Calls Tryd.prog 57 #[.iface 187 (.pointer (some a)), .iface 187 (.pointer (some b))] w fun e w' => e = .returned (.bool false) ∧ w' = w := by
  obtain ⟨i, hi, hcmp⟩ := Option.map_eq_some_iff.1 xComp
  obtain ⟨j, hj, hjs⟩ := Option.map_eq_some_iff.1 xSize
  have tT := xTypeOf
  have cT := xComparable
  have mR := xMethodComparable
  have nE := xNoIs
  have uE := xNoUnwrap
  have vE := xNoUnwraps
  have heq := run_eql_iface_ptr_other (P := Tryd.prog) w Tryd.underlying60 Tryd.underlying187 hi hcmp hj (by rw [hjs]; decide) hne ha hb
  go_enter Tryd.func57, Tryd.ntmps57
  go_wp2
  refine wp_loop_rounds 1 ?_
  rw [rounds_succ]
  go_wp2
  go_ret
  exact ⟨rfl, rfl⟩

/-- errors.Is(nil, x). -/
theorem is_nil (b : Addr) (w : World) :
    Calls Tryd.prog 57 #[.nilIface, .iface 187 (.pointer (some b))] w fun e w' => e = .returned (.bool false) ∧ w' = w := by
  have hn := run_eql_iface_nil_left (P := Tryd.prog) w 187 (.pointer (some b)) Tryd.underlying60
  go_enter Tryd.func57, Tryd.ntmps57
  go_wp2
  go_ret
  exact ⟨rfl, rfl⟩

/-- A package variable (number g) that holds an error of errors.New's make, in a block before n. -/
def Senti (g : Nat) (a : Addr) (n : Nat) (w : World) : Prop :=
  w.cell? ⟨g, 0, none⟩ = some (.iface 187 (.pointer (some a))) ∧ g < n ∧ a.block < n ∧ ∃ c t, w.heap[a.block]? = some (.cells c t (0, 0))
theorem Senti.below {g n : Nat} {a : Addr} {w w' : World} (h : Senti g a n w) (hb : Below n w w') : Senti g a n w' := by
  obtain ⟨h1, h2, h3, c, t, h4⟩ := h
  exact ⟨(hb.cell (p := ⟨g, 0, none⟩) h2).trans h1, h2, h3, c, t, (hb.block _ h3).trans h4⟩

end Go.Proofs.YtjhmghcfhgajcaaDoor
