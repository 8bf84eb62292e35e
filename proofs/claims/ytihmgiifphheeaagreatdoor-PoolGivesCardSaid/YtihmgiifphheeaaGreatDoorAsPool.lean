/- errors.As at a target of a package's own struct of one field, a value in the error: K: the lemmas' name; W: the struct; PW: the pointer to it. -/
import Derived.Test.YtihmgiifphheeaaGreatDoorBase
import Derived.Test.YtihmgiifphheeaaGreatDoorRows
import Derived.WalkKit
import Derived.LaidEql
import Derived.Stop.Asserts
import Derived.RowKitTokens
namespace Go.Proofs.YtihmgiifphheeaaGreatDoor
open Go.RowKit Go.Extern.Stop Go.Stop Go.Extern

/-- errors.As(nil, target). -/
theorem AsPool.as_nil (t : Value) (w : World) :
    Calls Tryz.prog 61 #[.nilIface, t] w fun e w' => e = .returned (.bool false) ∧ w' = w := by
  go_enter Tryz.func61, Tryz.ntmps61
  go_wp2
  go_ret
  exact ⟨rfl, rfl⟩

/-! ### CLOSED FACTS ON THE MODEL's ENTRIES FOR internal/reflectlite, at this program's types: 25: *p.E · 27: **p.E · 23: error · 45: reflectlite's rtype · 1: how many package-level variables the dump has -/
theorem AsPool.valueOf27 (t : Addr) (w : World) : (ReflectliteValue.unpack (.iface 83 (.pointer (some t)))).run Tryz.prog w
    = .ok (.agg #[.pointer (some ⟨3, 83, none⟩), .pointer (some ⟨w.heap.size, 0, none⟩), .int .u64 150]) (w.alloc (.cells #[.pointer (some t)] 83)) := by kernel_rfl
theorem AsPool.type27 (a : Addr) (w : World) : (ReflectliteValue.methodAny (ReflectliteValue.valueError "reflectlite.Value.Type" 0) (fun t _ _ _ => ReflectliteType.toType t) #[.agg #[.pointer (some ⟨3, 83, none⟩), .pointer (some a), .int .u64 150]]).run Tryz.prog w
    = .ok (.iface 117 (.agg #[.pointer (some ⟨3, 83, none⟩)])) w := by kernel_rfl
theorem AsPool.methodKind (h : Value) (w : World) : (Go.method 278 117 (.agg #[h]) "Kind").run Tryz.prog w = .ok (113, h) w := by kernel_rfl
theorem AsPool.kind27 (w : World) : ((ReflectliteType.abiMethod fun t => (fun a : Nat => Value.int IntKind.u8 (a : Int)) <$> Rtype.kind t) #[.pointer (some ⟨3, 83, none⟩)]).run Tryz.prog w = .ok (.int .u8 22) w := by kernel_rfl
theorem AsPool.kind25 (w : World) : ((ReflectliteType.abiMethod fun t => (fun a : Nat => Value.int IntKind.u8 (a : Int)) <$> Rtype.kind t) #[.pointer (some ⟨3, 62, none⟩)]).run Tryz.prog w = .ok (.int .u8 25) w := by kernel_rfl

/-! ### THE ENTRIES THAT READ OR WRITE MEMORY: laws with a premise on the cell (after Derived/Lib/ReflectliteSlice.lean's manner: each unfolding a lemma of its own, by rfl) -/
theorem AsPool.rlm (z : Sem Value) (f : TypeId → Addr → Nat → Nat → Sem Value) (v : Value) :
    ReflectliteValue.method z f #[v] = (do match ← ReflectliteValue.parts v with | none => z | some (t, a, fl) => f t a fl (fl % 32)) := rfl
theorem AsPool.parts27 (a : Addr) (w : World) : (ReflectliteValue.parts (.agg #[.pointer (some ⟨3, 83, none⟩), .pointer (some a), .int .u64 150])).run Tryz.prog w = .ok (some (83, a, 150)) w := by kernel_rfl
/-- (Value).IsNil at the Value of a **p.E that is not nil. -/
theorem AsPool.isNil27 (a p : Addr) (W : World) (ha : W.cell? a = some (.pointer (some p))) :
    (ReflectliteValue.method (ReflectliteValue.valueError "reflectlite.Value.IsNil" 0) ReflectliteValue.isNil #[.agg #[.pointer (some ⟨3, 83, none⟩), .pointer (some a), .int .u64 150]]).run Tryz.prog W = .ok (.bool false) W := by
  rw [AsPool.rlm]
  simp only [Sem.run_bind, AsPool.parts27, Result.andThen]
  simp [ReflectliteValue.isNil, loadVar, isAgg, underlying, Tryz.underlying83, ha, Result.andThen]

theorem AsPool.methodElem (h : Value) (w : World) : (Go.method 278 117 (.agg #[h]) "Elem").run Tryz.prog w = .ok (123, .agg #[h]) w := by kernel_rfl
theorem AsPool.methodImplements (h : Value) (w : World) : (Go.method 278 117 (.agg #[h]) "Implements").run Tryz.prog w = .ok (124, .agg #[h]) w := by kernel_rfl
theorem AsPool.methodAssignableTo (h : Value) (w : World) : (Go.method 278 117 (.agg #[h]) "AssignableTo").run Tryz.prog w = .ok (121, .agg #[h]) w := by kernel_rfl
theorem AsPool.elem27 (w : World) : (ReflectliteType.method ReflectliteType.elem #[.agg #[.pointer (some ⟨3, 83, none⟩)]]).run Tryz.prog w = .ok (.iface 117 (.agg #[.pointer (some ⟨3, 62, none⟩)])) w := by kernel_rfl
theorem AsPool.implements25 (w : World) : (ReflectliteType.relation "Implements" ReflectliteType.implements_ #[.agg #[.pointer (some ⟨3, 62, none⟩)], .iface 117 (.agg #[.pointer (some ⟨3, 55, none⟩)])]).run Tryz.prog w = .ok (.bool true) w := by kernel_rfl
theorem AsPool.typeOf25 (v : Value) (w : World) : (ReflectliteType.typeOf #[.iface 62 v]).run Tryz.prog w = .ok (.iface 117 (.agg #[.pointer (some ⟨3, 62, none⟩)])) w := by kernel_rfl
theorem AsPool.assignable25 (w : World) : (ReflectliteType.relation "AssignableTo" ReflectliteType.assignableTo #[.agg #[.pointer (some ⟨3, 62, none⟩)], .iface 117 (.agg #[.pointer (some ⟨3, 62, none⟩)])]).run Tryz.prog w = .ok (.bool true) w := by kernel_rfl
theorem AsPool.valueOf25 (cs : Array Value) (w : World) : (ReflectliteValue.unpack (.iface 62 (.agg cs))).run Tryz.prog w
    = .ok (.agg #[.pointer (some ⟨3, 62, none⟩), .pointer (some ⟨w.heap.size, 0, none⟩), .int .u64 153]) (w.alloc (.cells cs 62)) := by kernel_rfl

theorem AsPool.elemOf27 (w : World) : (Rtype.elem? 83).run Tryz.prog w = .ok (some 62) w := by kernel_rfl
theorem AsPool.mk25 (p : Addr) (w : World) : (ReflectliteValue.mk 62 p ReflectliteValue.flagAddr).run Tryz.prog w = .ok (.agg #[.pointer (some ⟨3, 62, none⟩), .pointer (some p), .int .u64 409]) w := by kernel_rfl
/-- (Value).Elem at the Value of a **p.E that is not nil: the Value of the *p.E variable that it points to, addressable. -/
theorem AsPool.elemV27 (a p : Addr) (W : World) (ha : W.cell? a = some (.pointer (some p))) :
    (ReflectliteValue.method (ReflectliteValue.valueError "reflectlite.Value.Elem" 0) ReflectliteValue.elem #[.agg #[.pointer (some ⟨3, 83, none⟩), .pointer (some a), .int .u64 150]]).run Tryz.prog W
      = .ok (.agg #[.pointer (some ⟨3, 62, none⟩), .pointer (some p), .int .u64 409]) W := by
  rw [AsPool.rlm]
  simp only [Sem.run_bind, AsPool.parts27, Result.andThen]
  simp [ReflectliteValue.elem, loadVar, isAgg, underlying, Tryz.underlying83, ha, Result.andThen, AsPool.elemOf27, AsPool.mk25]
theorem AsPool.rls (v x : Value) : ReflectliteValue.set #[v, x] = (do
    let (some (dst, a, fl), some (src, b, _)) := (← ReflectliteValue.parts v, ← ReflectliteValue.parts x)
      | unsupported (.noEntry "extern/(internal/reflectlite.Value).Set.zeroValue")
    if fl / ReflectliteValue.flagAddr % 2 == 0 then unsupported (.noEntry "extern/(internal/reflectlite.Value).Set.unaddressable")
    let val ← loadVar src b
    if ← Rtype.directlyAssignable dst src then storeVar dst a val
    else if ← Rtype.implements dst src then
      if (← Rtype.kind src) == 20 then
        match val with
        | .nilIface => unsupported (.noEntry "extern/reflectlite: a nil value of one interface type handed on as a value of another")
        | _ => storeVar dst a val
      else storeVar dst a (.iface src val)
    else panicString ("reflectlite.Set: value of type " ++ (← Rtype.spelt src) ++ " is not assignable to type " ++ (← Rtype.spelt dst))
    pure (.tuple #[])) := rfl
theorem AsPool.parts25a (a : Addr) (w : World) : (ReflectliteValue.parts (.agg #[.pointer (some ⟨3, 62, none⟩), .pointer (some a), .int .u64 409])).run Tryz.prog w = .ok (some (62, a, 409)) w := by kernel_rfl
theorem AsPool.parts25 (a : Addr) (w : World) : (ReflectliteValue.parts (.agg #[.pointer (some ⟨3, 62, none⟩), .pointer (some a), .int .u64 153])).run Tryz.prog w = .ok (some (62, a, 153)) w := by kernel_rfl
theorem AsPool.direct25 (w : World) : (Rtype.directlyAssignable 62 62).run Tryz.prog w = .ok true w := by kernel_rfl
theorem AsPool.size25 (w : World) : (sizeOf 62).run Tryz.prog w = .ok 1 w := by kernel_rfl
theorem AsPool.sizeW : (Tryz.prog.info? 62).map (·.size) = some 1 := by kernel_rfl
/-- (Value).Set: the struct variable 'ta' gets what the Value's own variable 'b' holds. -/
theorem AsPool.set25 (tb bb : Nat) (old cs : Array Value) (tt tt2 : TypeId) (W : World) (hs : cs.size = 1) (ho : old.size = 1) (h1 : cs.all (·.oneCell') = true)
    (hb : W.heap[bb]? = some (.cells cs tt2 (0, 0))) (ht : W.heap[tb]? = some (.cells old tt (0, 0))) :
    (ReflectliteValue.set #[.agg #[.pointer (some ⟨3, 62, none⟩), .pointer (some ⟨tb, 0, none⟩), .int .u64 409], .agg #[.pointer (some ⟨3, 62, none⟩), .pointer (some ⟨bb, 0, none⟩), .int .u64 153]]).run Tryz.prog W
      = .ok (.tuple #[]) (W.setRow tb cs) := by
  rw [AsPool.rls]
  have hl := run_loadVar_row (P := Tryz.prog) W bb tt2 62 cs (0, 0) _ hb Tryz.underlying62 rfl (by rw [hs]; exact AsPool.sizeW)
  have hst := run_storeVar_row (P := Tryz.prog) W tb tt 62 old cs ht (by rw [hs]; exact AsPool.sizeW) (by rw [ho, hs]) h1
  simp only [Sem.run_bind, AsPool.parts25a, AsPool.parts25, Result.andThen]
  simp [ReflectliteValue.flagAddr, hl, Result.andThen, AsPool.direct25, hst]

set_option maxHeartbeats 4000000 in
theorem AsPool.as_hit (cs old : Array Value) (tb : Nat) (tt : TypeId) (w : World) (hs : cs.size = 1) (hold : old.size = 1) (h1 : cs.all (·.oneCell') = true) (hg : w.cell? ⟨2, 0, none⟩ = some (.iface 117 (.agg #[.pointer (some ⟨3, 55, none⟩)]))) (ht0 : w.heap[tb]? = some (.cells old tt (0, 0))) :
    Calls Tryz.prog 61 #[.iface 62 (.agg cs), .iface 83 (.pointer (some ⟨tb, 0, none⟩))] w fun ev w' => ev = .returned (.bool true) ∧ w' = ((((w.alloc (.cells #[.pointer (some ⟨tb, 0, none⟩)] 83)).alloc (.cells #[.pointer (some ⟨3, 83, none⟩), .pointer (some ⟨w.heap.size, 0, none⟩), .int .u64 150] 95)).alloc (.cells #[.pointer (some ⟨3, 83, none⟩), .pointer (some ⟨w.heap.size, 0, none⟩), .int .u64 150] 95)).alloc (.cells cs 62)).setRow tb cs := by
  have h6 := @run_callFunc_extern Tryz.prog 79 _ (fun args => ReflectliteValue.unpack (args.getD 0 (.tuple #[]))) Tryz.func79 (by kernel_rfl) (by kernel_rfl) (by kernel_rfl) (by kernel_rfl)
  have h7 := @run_callFunc_extern Tryz.prog 80 _ (ReflectliteValue.methodAny (ReflectliteValue.valueError "reflectlite.Value.Type" 0) (fun t _ _ _ => ReflectliteType.toType t)) Tryz.func80 (by kernel_rfl) (by kernel_rfl) (by kernel_rfl) (by kernel_rfl)
  have h8 := @run_callFunc_extern Tryz.prog 81 _ (ReflectliteValue.method (ReflectliteValue.valueError "reflectlite.Value.IsNil" 0) ReflectliteValue.isNil) Tryz.func81 (by kernel_rfl) (by kernel_rfl) (by kernel_rfl) (by kernel_rfl)
  have h27 := @run_callFunc_extern Tryz.prog 113 _ (ReflectliteType.abiMethod fun t => do pure (.int .u8 (← Rtype.kind t))) Tryz.func113 (by kernel_rfl) (by kernel_rfl) (by kernel_rfl) (by kernel_rfl)
  have h37 := @run_callFunc_extern Tryz.prog 123 _ (ReflectliteType.method ReflectliteType.elem) Tryz.func123 (by kernel_rfl) (by kernel_rfl) (by kernel_rfl) (by kernel_rfl)
  have h38 := @run_callFunc_extern Tryz.prog 124 _ (ReflectliteType.relation "Implements" ReflectliteType.implements_) Tryz.func124 (by kernel_rfl) (by kernel_rfl) (by kernel_rfl) (by kernel_rfl)
  have h10 := @run_callFunc_extern Tryz.prog 90 _ ReflectliteType.typeOf Tryz.func90 (by kernel_rfl) (by kernel_rfl) (by kernel_rfl) (by kernel_rfl)
  have h35 := @run_callFunc_extern Tryz.prog 121 _ (ReflectliteType.relation "AssignableTo" ReflectliteType.assignableTo) Tryz.func121 (by kernel_rfl) (by kernel_rfl) (by kernel_rfl) (by kernel_rfl)
  have h11 := @run_callFunc_extern Tryz.prog 92 _ (ReflectliteValue.method (ReflectliteValue.valueError "reflectlite.Value.Elem" 0) ReflectliteValue.elem) Tryz.func92 (by kernel_rfl) (by kernel_rfl) (by kernel_rfl) (by kernel_rfl)
  have h12 := @run_callFunc_extern Tryz.prog 93 _ ReflectliteValue.set Tryz.func93 (by kernel_rfl) (by kernel_rfl) (by kernel_rfl) (by kernel_rfl)
  have tO := AsPool.typeOf25
  have mA := AsPool.methodAssignableTo
  have a25 := AsPool.assignable25
  have v25 := AsPool.valueOf25
  have f6 := AsPool.valueOf27
  have f7 := AsPool.type27
  have mK := AsPool.methodKind
  have mE := AsPool.methodElem
  have mI := AsPool.methodImplements
  have k27 := AsPool.kind27
  have k25 := AsPool.kind25
  have e27 := AsPool.elem27
  have i25 := AsPool.implements25
  have n8 := AsPool.isNil27 ⟨w.heap.size, 0, none⟩ ⟨tb, 0, none⟩ ((w.alloc (.cells #[.pointer (some ⟨tb, 0, none⟩)] 83)).alloc (.cells #[.pointer (some ⟨3, 83, none⟩), .pointer (some ⟨w.heap.size, 0, none⟩), .int .u64 150] 95)) (by simp)
  have hlt : 2 < w.heap.size := by
    rcases Nat.lt_or_ge 2 w.heap.size with h | h
    · exact h
    · simp [World.cell?, Array.getElem?_eq_none h] at hg
  have hg2 : ((w.alloc (.cells #[.pointer (some ⟨tb, 0, none⟩)] 83)).alloc (.cells #[.pointer (some ⟨3, 83, none⟩), .pointer (some ⟨w.heap.size, 0, none⟩), .int .u64 150] 95)).cell? ⟨2, 0, none⟩ = some (.iface 117 (.agg #[.pointer (some ⟨3, 55, none⟩)])) := by
    rw [World.cell?_alloc_lt _ _ ⟨2, 0, none⟩ (by simp; omega), World.cell?_alloc_lt _ _ ⟨2, 0, none⟩ hlt]; exact hg
  have htl : tb < w.heap.size := (Array.getElem?_eq_some_iff.1 ht0).1
  have el := AsPool.elemV27 ⟨w.heap.size, 0, none⟩ ⟨tb, 0, none⟩ (((w.alloc (.cells #[.pointer (some ⟨tb, 0, none⟩)] 83)).alloc (.cells #[.pointer (some ⟨3, 83, none⟩), .pointer (some ⟨w.heap.size, 0, none⟩), .int .u64 150] 95)).alloc (.cells #[.pointer (some ⟨3, 83, none⟩), .pointer (some ⟨w.heap.size, 0, none⟩), .int .u64 150] 95)) (by rw [World.cell?_alloc_lt _ _ ⟨w.heap.size, 0, none⟩ (by simp; omega)]; simp)
  have st := AsPool.set25 tb (w.heap.size + 1 + 1 + 1) old cs tt 62 ((((w.alloc (.cells #[.pointer (some ⟨tb, 0, none⟩)] 83)).alloc (.cells #[.pointer (some ⟨3, 83, none⟩), .pointer (some ⟨w.heap.size, 0, none⟩), .int .u64 150] 95)).alloc (.cells #[.pointer (some ⟨3, 83, none⟩), .pointer (some ⟨w.heap.size, 0, none⟩), .int .u64 150] 95)).alloc (.cells cs 62)) hs hold h1
    (by rw [show w.heap.size + 1 + 1 + 1 = (((w.alloc (.cells #[.pointer (some ⟨tb, 0, none⟩)] 83)).alloc (.cells #[.pointer (some ⟨3, 83, none⟩), .pointer (some ⟨w.heap.size, 0, none⟩), .int .u64 150] 95)).alloc (.cells #[.pointer (some ⟨3, 83, none⟩), .pointer (some ⟨w.heap.size, 0, none⟩), .int .u64 150] 95)).heap.size by simp]; exact World.alloc_heap_new _ _)
    (by rw [Below.heap_alloc _ _ _ (by simp; omega), Below.heap_alloc _ _ _ (by simp; omega), Below.heap_alloc _ _ _ (by simp; omega), Below.heap_alloc _ _ _ (by omega)]; exact ht0)
  go_enter Tryz.func61, Tryz.ntmps61
  go_wp2
  refine wp_loop_rounds 1 ?_
  rw [rounds_succ]
  go_wp2
  go_ret
  exact ⟨rfl, rfl⟩
/-- The same, by what is known behind it: the target's block holds the error's cells; all else that was there is as it was. -/
theorem AsPool.as_any (cs old : Array Value) (tb : Nat) (tt : TypeId) (w : World) (hs : cs.size = 1) (hold : old.size = 1) (h1 : cs.all (·.oneCell') = true)
    (hg : w.cell? ⟨2, 0, none⟩ = some (.iface 117 (.agg #[.pointer (some ⟨3, 55, none⟩)]))) (ht0 : w.heap[tb]? = some (.cells old tt (0, 0))) :
    Calls Tryz.prog 61 #[.iface 62 (.agg cs), .iface 83 (.pointer (some ⟨tb, 0, none⟩))] w fun ev w' => ev = .returned (.bool true) ∧ w'.heap[tb]? = some (.cells cs tt (0, 0)) ∧ Go.Sel.Only (fun b => b = tb) w w' := by
  have htl : tb < w.heap.size := (Array.getElem?_eq_some_iff.1 ht0).1
  refine (AsPool.as_hit cs old tb tt w hs hold h1 hg ht0).mono ?_
  rintro e w' ⟨rfl, rfl⟩
  refine ⟨rfl, setRow_heap _ _ _ _ _ _ (by rw [Below.heap_alloc _ _ _ (by simp; omega), Below.heap_alloc _ _ _ (by simp; omega), Below.heap_alloc _ _ _ (by simp; omega), Below.heap_alloc _ _ _ (by omega)]; exact ht0), ?_⟩
  have ho := ((((Go.Sel.Only.refl (fun b => b = tb) w).alloc (.cells #[.pointer (some ⟨tb, 0, none⟩)] 83)).alloc (.cells #[.pointer (some ⟨3, 83, none⟩), .pointer (some ⟨w.heap.size, 0, none⟩), .int .u64 150] 95)).alloc (.cells #[.pointer (some ⟨3, 83, none⟩), .pointer (some ⟨w.heap.size, 0, none⟩), .int .u64 150] 95)).alloc (.cells cs 62)
  exact ⟨ho.os, ho.tape, ho.output, by have := ho.size; simpa [World.setRow] using this, fun k hk hn => (setRow_other _ tb k cs hn).trans (ho.block k hk hn)⟩
end Go.Proofs.YtihmgiifphheeaaGreatDoor
