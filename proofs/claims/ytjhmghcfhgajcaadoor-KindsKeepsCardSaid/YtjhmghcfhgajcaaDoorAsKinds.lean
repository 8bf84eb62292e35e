/- errors.As at a target of a package's own struct of one field, a value in the error: K: the lemmas' name; W: the struct; PW: the pointer to it. -/
import Derived.Test.YtjhmghcfhgajcaaDoorBase
import Derived.Test.YtjhmghcfhgajcaaDoorRows
import Derived.WalkKit
import Derived.LaidEql
import Derived.Stop.Asserts
import Derived.RowKitTokens
namespace Go.Proofs.YtjhmghcfhgajcaaDoor
open Go.RowKit Go.Extern.Stop Go.Stop Go.Extern

/-- errors.As(nil, target). -/
theorem AsKinds.as_nil (t : Value) (w : World) :
    Calls Tryd.prog 55 #[.nilIface, t] w fun e w' => e = .returned (.bool false) ∧ w' = w := by
  go_enter Tryd.func55, Tryd.ntmps55
  go_wp2
  go_ret
  exact ⟨rfl, rfl⟩

/-! ### CLOSED FACTS ON THE MODEL's ENTRIES FOR internal/reflectlite, at this program's types: 25: *p.E · 27: **p.E · 23: error · 45: reflectlite's rtype · 1: how many package-level variables the dump has -/
theorem AsKinds.valueOf27 (t : Addr) (w : World) : (ReflectliteValue.unpack (.iface 122 (.pointer (some t)))).run Tryd.prog w
    = .ok (.agg #[.pointer (some ⟨10, 122, none⟩), .pointer (some ⟨w.heap.size, 0, none⟩), .int .u64 150]) (w.alloc (.cells #[.pointer (some t)] 122)) := by kernel_rfl
theorem AsKinds.type27 (a : Addr) (w : World) : (ReflectliteValue.methodAny (ReflectliteValue.valueError "reflectlite.Value.Type" 0) (fun t _ _ _ => ReflectliteType.toType t) #[.agg #[.pointer (some ⟨10, 122, none⟩), .pointer (some a), .int .u64 150]]).run Tryd.prog w
    = .ok (.iface 145 (.agg #[.pointer (some ⟨10, 122, none⟩)])) w := by kernel_rfl
theorem AsKinds.methodKind (h : Value) (w : World) : (Go.method 318 145 (.agg #[h]) "Kind").run Tryd.prog w = .ok (126, h) w := by kernel_rfl
theorem AsKinds.kind27 (w : World) : ((ReflectliteType.abiMethod fun t => (fun a : Nat => Value.int IntKind.u8 (a : Int)) <$> Rtype.kind t) #[.pointer (some ⟨10, 122, none⟩)]).run Tryd.prog w = .ok (.int .u8 22) w := by kernel_rfl
theorem AsKinds.kind25 (w : World) : ((ReflectliteType.abiMethod fun t => (fun a : Nat => Value.int IntKind.u8 (a : Int)) <$> Rtype.kind t) #[.pointer (some ⟨10, 120, none⟩)]).run Tryd.prog w = .ok (.int .u8 25) w := by kernel_rfl

/-! ### THE ENTRIES THAT READ OR WRITE MEMORY: laws with a premise on the cell (after Derived/Lib/ReflectliteSlice.lean's manner: each unfolding a lemma of its own, by rfl) -/
theorem AsKinds.rlm (z : Sem Value) (f : TypeId → Addr → Nat → Nat → Sem Value) (v : Value) :
    ReflectliteValue.method z f #[v] = (do match ← ReflectliteValue.parts v with | none => z | some (t, a, fl) => f t a fl (fl % 32)) := rfl
theorem AsKinds.parts27 (a : Addr) (w : World) : (ReflectliteValue.parts (.agg #[.pointer (some ⟨10, 122, none⟩), .pointer (some a), .int .u64 150])).run Tryd.prog w = .ok (some (122, a, 150)) w := by kernel_rfl
/-- (Value).IsNil at the Value of a **p.E that is not nil. -/
theorem AsKinds.isNil27 (a p : Addr) (W : World) (ha : W.cell? a = some (.pointer (some p))) :
    (ReflectliteValue.method (ReflectliteValue.valueError "reflectlite.Value.IsNil" 0) ReflectliteValue.isNil #[.agg #[.pointer (some ⟨10, 122, none⟩), .pointer (some a), .int .u64 150]]).run Tryd.prog W = .ok (.bool false) W := by
  rw [AsKinds.rlm]
  simp only [Sem.run_bind, AsKinds.parts27, Result.andThen]
  simp [ReflectliteValue.isNil, loadVar, isAgg, underlying, Tryd.underlying122, ha, Result.andThen]

theorem AsKinds.methodElem (h : Value) (w : World) : (Go.method 318 145 (.agg #[h]) "Elem").run Tryd.prog w = .ok (138, .agg #[h]) w := by kernel_rfl
theorem AsKinds.methodImplements (h : Value) (w : World) : (Go.method 318 145 (.agg #[h]) "Implements").run Tryd.prog w = .ok (139, .agg #[h]) w := by kernel_rfl
theorem AsKinds.methodAssignableTo (h : Value) (w : World) : (Go.method 318 145 (.agg #[h]) "AssignableTo").run Tryd.prog w = .ok (136, .agg #[h]) w := by kernel_rfl
theorem AsKinds.elem27 (w : World) : (ReflectliteType.method ReflectliteType.elem #[.agg #[.pointer (some ⟨10, 122, none⟩)]]).run Tryd.prog w = .ok (.iface 145 (.agg #[.pointer (some ⟨10, 120, none⟩)])) w := by kernel_rfl
theorem AsKinds.implements25 (w : World) : (ReflectliteType.relation "Implements" ReflectliteType.implements_ #[.agg #[.pointer (some ⟨10, 120, none⟩)], .iface 145 (.agg #[.pointer (some ⟨10, 60, none⟩)])]).run Tryd.prog w = .ok (.bool true) w := by kernel_rfl
theorem AsKinds.typeOf25 (v : Value) (w : World) : (ReflectliteType.typeOf #[.iface 120 v]).run Tryd.prog w = .ok (.iface 145 (.agg #[.pointer (some ⟨10, 120, none⟩)])) w := by kernel_rfl
theorem AsKinds.assignable25 (w : World) : (ReflectliteType.relation "AssignableTo" ReflectliteType.assignableTo #[.agg #[.pointer (some ⟨10, 120, none⟩)], .iface 145 (.agg #[.pointer (some ⟨10, 120, none⟩)])]).run Tryd.prog w = .ok (.bool true) w := by kernel_rfl
theorem AsKinds.valueOf25 (cs : Array Value) (w : World) : (ReflectliteValue.unpack (.iface 120 (.agg cs))).run Tryd.prog w
    = .ok (.agg #[.pointer (some ⟨10, 120, none⟩), .pointer (some ⟨w.heap.size, 0, none⟩), .int .u64 153]) (w.alloc (.cells cs 120)) := by kernel_rfl

theorem AsKinds.elemOf27 (w : World) : (Rtype.elem? 122).run Tryd.prog w = .ok (some 120) w := by kernel_rfl
theorem AsKinds.mk25 (p : Addr) (w : World) : (ReflectliteValue.mk 120 p ReflectliteValue.flagAddr).run Tryd.prog w = .ok (.agg #[.pointer (some ⟨10, 120, none⟩), .pointer (some p), .int .u64 409]) w := by kernel_rfl
/-- (Value).Elem at the Value of a **p.E that is not nil: the Value of the *p.E variable that it points to, addressable. -/
theorem AsKinds.elemV27 (a p : Addr) (W : World) (ha : W.cell? a = some (.pointer (some p))) :
    (ReflectliteValue.method (ReflectliteValue.valueError "reflectlite.Value.Elem" 0) ReflectliteValue.elem #[.agg #[.pointer (some ⟨10, 122, none⟩), .pointer (some a), .int .u64 150]]).run Tryd.prog W
      = .ok (.agg #[.pointer (some ⟨10, 120, none⟩), .pointer (some p), .int .u64 409]) W := by
  rw [AsKinds.rlm]
  simp only [Sem.run_bind, AsKinds.parts27, Result.andThen]
  simp [ReflectliteValue.elem, loadVar, isAgg, underlying, Tryd.underlying122, ha, Result.andThen, AsKinds.elemOf27, AsKinds.mk25]
theorem AsKinds.rls (v x : Value) : ReflectliteValue.set #[v, x] = (do
    let (some (dst, a, fl), some (src, b, _)) := (← ReflectliteValue.parts v, ← ReflectliteValue.parts x)
      | unsupported (.noEntry "extern/(internal/reflectlite.Value).Set.zeroValue")
    if fl / ReflectliteValue.flagAddr % 2 == 0 then unsupported (.noEntry "extern/(internal/reflectlite.Value).Set.unaddressable")
    let val ← loadVar src b
    if ← Rtype.directlyAssignable dst src then storeVar dst a val
    else if ← Rtype.implements dst src then
      if (← Rtype.kind src) == 20 then
        match val with
        | .nilIface => unsupported (.noEntry "extern/reflectlite: a nil value of one interface type handed on as a value of another")
        | _ => storeVar dst a val
      else storeVar dst a (.iface src val)
    else panicString ("reflectlite.Set: value of type " ++ (← Rtype.spelt src) ++ " is not assignable to type " ++ (← Rtype.spelt dst))
    pure (.tuple #[])) := rfl
theorem AsKinds.parts25a (a : Addr) (w : World) : (ReflectliteValue.parts (.agg #[.pointer (some ⟨10, 120, none⟩), .pointer (some a), .int .u64 409])).run Tryd.prog w = .ok (some (120, a, 409)) w := by kernel_rfl
theorem AsKinds.parts25 (a : Addr) (w : World) : (ReflectliteValue.parts (.agg #[.pointer (some ⟨10, 120, none⟩), .pointer (some a), .int .u64 153])).run Tryd.prog w = .ok (some (120, a, 153)) w := by kernel_rfl
theorem AsKinds.direct25 (w : World) : (Rtype.directlyAssignable 120 120).run Tryd.prog w = .ok true w := by kernel_rfl
theorem AsKinds.size25 (w : World) : (sizeOf 120).run Tryd.prog w = .ok 2 w := by kernel_rfl
theorem AsKinds.sizeW : (Tryd.prog.info? 120).map (·.size) = some 2 := by kernel_rfl
/-- (Value).Set: the struct variable 'ta' gets what the Value's own variable 'b' holds. -/
theorem AsKinds.set25 (tb bb : Nat) (old cs : Array Value) (tt tt2 : TypeId) (W : World) (hs : cs.size = 2) (ho : old.size = 2) (h1 : cs.all (·.oneCell') = true)
    (hb : W.heap[bb]? = some (.cells cs tt2 (0, 0))) (ht : W.heap[tb]? = some (.cells old tt (0, 0))) :
    (ReflectliteValue.set #[.agg #[.pointer (some ⟨10, 120, none⟩), .pointer (some ⟨tb, 0, none⟩), .int .u64 409], .agg #[.pointer (some ⟨10, 120, none⟩), .pointer (some ⟨bb, 0, none⟩), .int .u64 153]]).run Tryd.prog W
      = .ok (.tuple #[]) (W.setRow tb cs) := by
  rw [AsKinds.rls]
  have hl := run_loadVar_row (P := Tryd.prog) W bb tt2 120 cs (0, 0) _ hb Tryd.underlying120 rfl (by rw [hs]; exact AsKinds.sizeW)
  have hst := run_storeVar_row (P := Tryd.prog) W tb tt 120 old cs ht (by rw [hs]; exact AsKinds.sizeW) (by rw [ho, hs]) h1
  simp only [Sem.run_bind, AsKinds.parts25a, AsKinds.parts25, Result.andThen]
  simp [ReflectliteValue.flagAddr, hl, Result.andThen, AsKinds.direct25, hst]

set_option maxHeartbeats 4000000 in
theorem AsKinds.as_hit (cs old : Array Value) (tb : Nat) (tt : TypeId) (w : World) (hs : cs.size = 2) (hold : old.size = 2) (h1 : cs.all (·.oneCell') = true) (hg : w.cell? ⟨3, 0, none⟩ = some (.iface 145 (.agg #[.pointer (some ⟨10, 60, none⟩)]))) (ht0 : w.heap[tb]? = some (.cells old tt (0, 0))) :
    Calls Tryd.prog 55 #[.iface 120 (.agg cs), .iface 122 (.pointer (some ⟨tb, 0, none⟩))] w fun ev w' => ev = .returned (.bool true) ∧ w' = ((((w.alloc (.cells #[.pointer (some ⟨tb, 0, none⟩)] 122)).alloc (.cells #[.pointer (some ⟨10, 122, none⟩), .pointer (some ⟨w.heap.size, 0, none⟩), .int .u64 150] 129)).alloc (.cells #[.pointer (some ⟨10, 122, none⟩), .pointer (some ⟨w.heap.size, 0, none⟩), .int .u64 150] 129)).alloc (.cells cs 120)).setRow tb cs := by
  have h6 := @run_callFunc_extern Tryd.prog 73 _ (fun args => ReflectliteValue.unpack (args.getD 0 (.tuple #[]))) Tryd.func73 (by kernel_rfl) (by kernel_rfl) (by kernel_rfl) (by kernel_rfl)
  have h7 := @run_callFunc_extern Tryd.prog 74 _ (ReflectliteValue.methodAny (ReflectliteValue.valueError "reflectlite.Value.Type" 0) (fun t _ _ _ => ReflectliteType.toType t)) Tryd.func74 (by kernel_rfl) (by kernel_rfl) (by kernel_rfl) (by kernel_rfl)
  have h8 := @run_callFunc_extern Tryd.prog 75 _ (ReflectliteValue.method (ReflectliteValue.valueError "reflectlite.Value.IsNil" 0) ReflectliteValue.isNil) Tryd.func75 (by kernel_rfl) (by kernel_rfl) (by kernel_rfl) (by kernel_rfl)
  have h27 := @run_callFunc_extern Tryd.prog 126 _ (ReflectliteType.abiMethod fun t => do pure (.int .u8 (← Rtype.kind t))) Tryd.func126 (by kernel_rfl) (by kernel_rfl) (by kernel_rfl) (by kernel_rfl)
  have h37 := @run_callFunc_extern Tryd.prog 138 _ (ReflectliteType.method ReflectliteType.elem) Tryd.func138 (by kernel_rfl) (by kernel_rfl) (by kernel_rfl) (by kernel_rfl)
  have h38 := @run_callFunc_extern Tryd.prog 139 _ (ReflectliteType.relation "Implements" ReflectliteType.implements_) Tryd.func139 (by kernel_rfl) (by kernel_rfl) (by kernel_rfl) (by kernel_rfl)
  have h10 := @run_callFunc_extern Tryd.prog 77 _ ReflectliteType.typeOf Tryd.func77 (by kernel_rfl) (by kernel_rfl) (by kernel_rfl) (by kernel_rfl)
  have h35 := @run_callFunc_extern Tryd.prog 136 _ (ReflectliteType.relation "AssignableTo" ReflectliteType.assignableTo) Tryd.func136 (by kernel_rfl) (by kernel_rfl) (by kernel_rfl) (by kernel_rfl)
  have h11 := @run_callFunc_extern Tryd.prog 84 _ (ReflectliteValue.method (ReflectliteValue.valueError "reflectlite.Value.Elem" 0) ReflectliteValue.elem) Tryd.func84 (by kernel_rfl) (by kernel_rfl) (by kernel_rfl) (by kernel_rfl)
  have h12 := @run_callFunc_extern Tryd.prog 85 _ ReflectliteValue.set Tryd.func85 (by kernel_rfl) (by kernel_rfl) (by kernel_rfl) (by kernel_rfl)
  have tO := AsKinds.typeOf25
  have mA := AsKinds.methodAssignableTo
  have a25 := AsKinds.assignable25
  have v25 := AsKinds.valueOf25
  have f6 := AsKinds.valueOf27
  have f7 := AsKinds.type27
  have mK := AsKinds.methodKind
  have mE := AsKinds.methodElem
  have mI := AsKinds.methodImplements
  have k27 := AsKinds.kind27
  have k25 := AsKinds.kind25
  have e27 := AsKinds.elem27
  have i25 := AsKinds.implements25
  have n8 := AsKinds.isNil27 ⟨w.heap.size, 0, none⟩ ⟨tb, 0, none⟩ ((w.alloc (.cells #[.pointer (some ⟨tb, 0, none⟩)] 122)).alloc (.cells #[.pointer (some ⟨10, 122, none⟩), .pointer (some ⟨w.heap.size, 0, none⟩), .int .u64 150] 129)) (by simp)
  have hlt : 3 < w.heap.size := by
    rcases Nat.lt_or_ge 3 w.heap.size with h | h
    · exact h
    · simp [World.cell?, Array.getElem?_eq_none h] at hg
  have hg2 : ((w.alloc (.cells #[.pointer (some ⟨tb, 0, none⟩)] 122)).alloc (.cells #[.pointer (some ⟨10, 122, none⟩), .pointer (some ⟨w.heap.size, 0, none⟩), .int .u64 150] 129)).cell? ⟨3, 0, none⟩ = some (.iface 145 (.agg #[.pointer (some ⟨10, 60, none⟩)])) := by
    rw [World.cell?_alloc_lt _ _ ⟨3, 0, none⟩ (by simp; omega), World.cell?_alloc_lt _ _ ⟨3, 0, none⟩ hlt]; exact hg
  have htl : tb < w.heap.size := (Array.getElem?_eq_some_iff.1 ht0).1
  have el := AsKinds.elemV27 ⟨w.heap.size, 0, none⟩ ⟨tb, 0, none⟩ (((w.alloc (.cells #[.pointer (some ⟨tb, 0, none⟩)] 122)).alloc (.cells #[.pointer (some ⟨10, 122, none⟩), .pointer (some ⟨w.heap.size, 0, none⟩), .int .u64 150] 129)).alloc (.cells #[.pointer (some ⟨10, 122, none⟩), .pointer (some ⟨w.heap.size, 0, none⟩), .int .u64 150] 129)) (by rw [World.cell?_alloc_lt _ _ ⟨w.heap.size, 0, none⟩ (by simp; omega)]; simp)
  have st := AsKinds.set25 tb (w.heap.size + 1 + 1 + 1) old cs tt 120 ((((w.alloc (.cells #[.pointer (some ⟨tb, 0, none⟩)] 122)).alloc (.cells #[.pointer (some ⟨10, 122, none⟩), .pointer (some ⟨w.heap.size, 0, none⟩), .int .u64 150] 129)).alloc (.cells #[.pointer (some ⟨10, 122, none⟩), .pointer (some ⟨w.heap.size, 0, none⟩), .int .u64 150] 129)).alloc (.cells cs 120)) hs hold h1
    (by rw [show w.heap.size + 1 + 1 + 1 = (((w.alloc (.cells #[.pointer (some ⟨tb, 0, none⟩)] 122)).alloc (.cells #[.pointer (some ⟨10, 122, none⟩), .pointer (some ⟨w.heap.size, 0, none⟩), .int .u64 150] 129)).alloc (.cells #[.pointer (some ⟨10, 122, none⟩), .pointer (some ⟨w.heap.size, 0, none⟩), .int .u64 150] 129)).heap.size by simp]; exact World.alloc_heap_new _ _)
    (by rw [Below.heap_alloc _ _ _ (by simp; omega), Below.heap_alloc _ _ _ (by simp; omega), Below.heap_alloc _ _ _ (by simp; omega), Below.heap_alloc _ _ _ (by omega)]; exact ht0)
  go_enter Tryd.func55, Tryd.ntmps55
  go_wp2
  refine wp_loop_rounds 1 ?_
  rw [rounds_succ]
  go_wp2
  go_ret
  exact ⟨rfl, rfl⟩
/-- The same, by what is known behind it: the target's block holds the error's cells; all else that was there is as it was. -/
theorem AsKinds.as_any (cs old : Array Value) (tb : Nat) (tt : TypeId) (w : World) (hs : cs.size = 2) (hold : old.size = 2) (h1 : cs.all (·.oneCell') = true)
    (hg : w.cell? ⟨3, 0, none⟩ = some (.iface 145 (.agg #[.pointer (some ⟨10, 60, none⟩)]))) (ht0 : w.heap[tb]? = some (.cells old tt (0, 0))) :
    Calls Tryd.prog 55 #[.iface 120 (.agg cs), .iface 122 (.pointer (some ⟨tb, 0, none⟩))] w fun ev w' => ev = .returned (.bool true) ∧ w'.heap[tb]? = some (.cells cs tt (0, 0)) ∧ Go.Sel.Only (fun b => b = tb) w w' := by
  have htl : tb < w.heap.size := (Array.getElem?_eq_some_iff.1 ht0).1
  refine (AsKinds.as_hit cs old tb tt w hs hold h1 hg ht0).mono ?_
  rintro e w' ⟨rfl, rfl⟩
  refine ⟨rfl, setRow_heap _ _ _ _ _ _ (by rw [Below.heap_alloc _ _ _ (by simp; omega), Below.heap_alloc _ _ _ (by simp; omega), Below.heap_alloc _ _ _ (by simp; omega), Below.heap_alloc _ _ _ (by omega)]; exact ht0), ?_⟩
  have ho := ((((Go.Sel.Only.refl (fun b => b = tb) w).alloc (.cells #[.pointer (some ⟨tb, 0, none⟩)] 122)).alloc (.cells #[.pointer (some ⟨10, 122, none⟩), .pointer (some ⟨w.heap.size, 0, none⟩), .int .u64 150] 129)).alloc (.cells #[.pointer (some ⟨10, 122, none⟩), .pointer (some ⟨w.heap.size, 0, none⟩), .int .u64 150] 129)).alloc (.cells cs 120)
  exact ⟨ho.os, ho.tape, ho.output, by have := ho.size; simpa [World.setRow] using this, fun k hk hn => (setRow_other _ tb k cs hn).trans (ho.block k hk hn)⟩
end Go.Proofs.YtjhmghcfhgajcaaDoor
