/-
  errors.As AT THIS PROGRAM's TARGETS, over its chains of errors. (Written by wip/gen/gen_as.py.)
-/
import Derived.Test.YtiejfbkbjahcgaaDoorErrs
namespace Go.Proofs.YtiejfbkbjahcgaaDoor
open Go Go.RowKit Go.Extern.Stop Go.Stop Go.Extern

theorem Tryd.asTypeOfE (v : Value) (w : World) : (ReflectliteType.typeOf #[.iface 217 v]).run Tryd.prog w = .ok (.iface 165 (.agg #[.pointer (some ⟨25, 217, none⟩)])) w := by kernel_rfl
theorem Tryd.noAsE (v : Value) (xT : TypeId) (w : World) : (Instr.typeAssert (.iface 217 v) xT 170 true).run Tryd.prog w = .ok (.tuple #[.nilIface, .bool false]) w := run_typeAssert_lacksB Tryd.underlying170 (by kernel_rfl) (by kernel_rfl) v xT w
theorem Tryd.assignEP (w : World) : (ReflectliteType.relation "AssignableTo" ReflectliteType.assignableTo #[.agg #[.pointer (some ⟨25, 217, none⟩)], .iface 165 (.agg #[.pointer (some ⟨25, 125, none⟩)])]).run Tryd.prog w = .ok (.bool false) w := by kernel_rfl
theorem Tryd.assignES (w : World) : (ReflectliteType.relation "AssignableTo" ReflectliteType.assignableTo #[.agg #[.pointer (some ⟨25, 217, none⟩)], .iface 165 (.agg #[.pointer (some ⟨25, 129, none⟩)])]).run Tryd.prog w = .ok (.bool false) w := by kernel_rfl
theorem Tryd.assignER (w : World) : (ReflectliteType.relation "AssignableTo" ReflectliteType.assignableTo #[.agg #[.pointer (some ⟨25, 217, none⟩)], .iface 165 (.agg #[.pointer (some ⟨25, 116, none⟩)])]).run Tryd.prog w = .ok (.bool false) w := by kernel_rfl
theorem Tryd.asTypeOfP (v : Value) (w : World) : (ReflectliteType.typeOf #[.iface 125 v]).run Tryd.prog w = .ok (.iface 165 (.agg #[.pointer (some ⟨25, 125, none⟩)])) w := by kernel_rfl
theorem Tryd.noAsP (v : Value) (xT : TypeId) (w : World) : (Instr.typeAssert (.iface 125 v) xT 170 true).run Tryd.prog w = .ok (.tuple #[.nilIface, .bool false]) w := run_typeAssert_lacksB Tryd.underlying170 (by kernel_rfl) (by kernel_rfl) v xT w
theorem Tryd.assignPP (w : World) : (ReflectliteType.relation "AssignableTo" ReflectliteType.assignableTo #[.agg #[.pointer (some ⟨25, 125, none⟩)], .iface 165 (.agg #[.pointer (some ⟨25, 125, none⟩)])]).run Tryd.prog w = .ok (.bool true) w := by kernel_rfl
theorem Tryd.assignPS (w : World) : (ReflectliteType.relation "AssignableTo" ReflectliteType.assignableTo #[.agg #[.pointer (some ⟨25, 125, none⟩)], .iface 165 (.agg #[.pointer (some ⟨25, 129, none⟩)])]).run Tryd.prog w = .ok (.bool false) w := by kernel_rfl
theorem Tryd.assignPR (w : World) : (ReflectliteType.relation "AssignableTo" ReflectliteType.assignableTo #[.agg #[.pointer (some ⟨25, 125, none⟩)], .iface 165 (.agg #[.pointer (some ⟨25, 116, none⟩)])]).run Tryd.prog w = .ok (.bool false) w := by kernel_rfl
theorem Tryd.asTypeOfS (v : Value) (w : World) : (ReflectliteType.typeOf #[.iface 129 v]).run Tryd.prog w = .ok (.iface 165 (.agg #[.pointer (some ⟨25, 129, none⟩)])) w := by kernel_rfl
theorem Tryd.noAsS (v : Value) (xT : TypeId) (w : World) : (Instr.typeAssert (.iface 129 v) xT 170 true).run Tryd.prog w = .ok (.tuple #[.nilIface, .bool false]) w := run_typeAssert_lacksB Tryd.underlying170 (by kernel_rfl) (by kernel_rfl) v xT w
theorem Tryd.assignSP (w : World) : (ReflectliteType.relation "AssignableTo" ReflectliteType.assignableTo #[.agg #[.pointer (some ⟨25, 129, none⟩)], .iface 165 (.agg #[.pointer (some ⟨25, 125, none⟩)])]).run Tryd.prog w = .ok (.bool false) w := by kernel_rfl
theorem Tryd.assignSS (w : World) : (ReflectliteType.relation "AssignableTo" ReflectliteType.assignableTo #[.agg #[.pointer (some ⟨25, 129, none⟩)], .iface 165 (.agg #[.pointer (some ⟨25, 129, none⟩)])]).run Tryd.prog w = .ok (.bool true) w := by kernel_rfl
theorem Tryd.assignSR (w : World) : (ReflectliteType.relation "AssignableTo" ReflectliteType.assignableTo #[.agg #[.pointer (some ⟨25, 129, none⟩)], .iface 165 (.agg #[.pointer (some ⟨25, 116, none⟩)])]).run Tryd.prog w = .ok (.bool false) w := by kernel_rfl
theorem Tryd.asTypeOfR (v : Value) (w : World) : (ReflectliteType.typeOf #[.iface 116 v]).run Tryd.prog w = .ok (.iface 165 (.agg #[.pointer (some ⟨25, 116, none⟩)])) w := by kernel_rfl
theorem Tryd.noAsR (v : Value) (xT : TypeId) (w : World) : (Instr.typeAssert (.iface 116 v) xT 170 true).run Tryd.prog w = .ok (.tuple #[.nilIface, .bool false]) w := run_typeAssert_lacksB Tryd.underlying170 (by kernel_rfl) (by kernel_rfl) v xT w
theorem Tryd.assignRP (w : World) : (ReflectliteType.relation "AssignableTo" ReflectliteType.assignableTo #[.agg #[.pointer (some ⟨25, 116, none⟩)], .iface 165 (.agg #[.pointer (some ⟨25, 125, none⟩)])]).run Tryd.prog w = .ok (.bool false) w := by kernel_rfl
theorem Tryd.assignRS (w : World) : (ReflectliteType.relation "AssignableTo" ReflectliteType.assignableTo #[.agg #[.pointer (some ⟨25, 116, none⟩)], .iface 165 (.agg #[.pointer (some ⟨25, 129, none⟩)])]).run Tryd.prog w = .ok (.bool false) w := by kernel_rfl
theorem Tryd.assignRR (w : World) : (ReflectliteType.relation "AssignableTo" ReflectliteType.assignableTo #[.agg #[.pointer (some ⟨25, 116, none⟩)], .iface 165 (.agg #[.pointer (some ⟨25, 116, none⟩)])]).run Tryd.prog w = .ok (.bool true) w := by kernel_rfl

theorem Tryd.methodKind (h : Value) (w : World) : (Go.method 348 165 (.agg #[h]) "Kind").run Tryd.prog w = .ok (132, h) w := by kernel_rfl
theorem Tryd.methodElem (h : Value) (w : World) : (Go.method 348 165 (.agg #[h]) "Elem").run Tryd.prog w = .ok (157, .agg #[h]) w := by kernel_rfl
theorem Tryd.methodImplements (h : Value) (w : World) : (Go.method 348 165 (.agg #[h]) "Implements").run Tryd.prog w = .ok (158, .agg #[h]) w := by kernel_rfl
theorem Tryd.methodAssignableTo (h : Value) (w : World) : (Go.method 348 165 (.agg #[h]) "AssignableTo").run Tryd.prog w = .ok (155, .agg #[h]) w := by kernel_rfl
theorem rlm (z : Sem Value) (f : TypeId → Addr → Nat → Nat → Sem Value) (v : Value) :
    ReflectliteValue.method z f #[v] = (do match ← ReflectliteValue.parts v with | none => z | some (t, a, fl) => f t a fl (fl % 32)) := rfl
theorem rls (v x : Value) : ReflectliteValue.set #[v, x] = (do
    let (some (dst, a, fl), some (src, b, _)) := (← ReflectliteValue.parts v, ← ReflectliteValue.parts x)
      | unsupported (.noEntry "extern/(internal/reflectlite.Value).Set.zeroValue")
    if fl / ReflectliteValue.flagAddr % 2 == 0 then unsupported (.noEntry "extern/(internal/reflectlite.Value).Set.unaddressable")
    let val ← loadVar src b
    if ← Rtype.directlyAssignable dst src then storeVar dst a val
    else if ← Rtype.implements dst src then
      if (← Rtype.kind src) == 20 then
        match val with
        | .nilIface => unsupported (.noEntry "extern/reflectlite: a nil value of one interface type handed on as a value of another")
        | _ => storeVar dst a val
      else storeVar dst a (.iface src val)
    else panicString ("reflectlite.Set: value of type " ++ (← Rtype.spelt src) ++ " is not assignable to type " ++ (← Rtype.spelt dst))
    pure (.tuple #[])) := rfl

/-! ### the target **fault.placed -/
theorem Tryd.valueOfP2 (t : Addr) (w : World) : (ReflectliteValue.unpack (.iface 126 (.pointer (some t)))).run Tryd.prog w
    = .ok (.agg #[.pointer (some ⟨25, 126, none⟩), .pointer (some ⟨w.heap.size, 0, none⟩), .int .u64 150]) (w.alloc (.cells #[.pointer (some t)] 126)) := by kernel_rfl
theorem Tryd.typeP2 (a : Addr) (w : World) : (ReflectliteValue.methodAny (ReflectliteValue.valueError "reflectlite.Value.Type" 0) (fun t _ _ _ => ReflectliteType.toType t) #[.agg #[.pointer (some ⟨25, 126, none⟩), .pointer (some a), .int .u64 150]]).run Tryd.prog w
    = .ok (.iface 165 (.agg #[.pointer (some ⟨25, 126, none⟩)])) w := by kernel_rfl
theorem Tryd.kindP2 (w : World) : ((ReflectliteType.abiMethod fun t => (fun a : Nat => Value.int IntKind.u8 (a : Int)) <$> Rtype.kind t) #[.pointer (some ⟨25, 126, none⟩)]).run Tryd.prog w = .ok (.int .u8 22) w := by kernel_rfl
theorem Tryd.kindP (w : World) : ((ReflectliteType.abiMethod fun t => (fun a : Nat => Value.int IntKind.u8 (a : Int)) <$> Rtype.kind t) #[.pointer (some ⟨25, 125, none⟩)]).run Tryd.prog w = .ok (.int .u8 22) w := by kernel_rfl
theorem Tryd.partsP2 (a : Addr) (w : World) : (ReflectliteValue.parts (.agg #[.pointer (some ⟨25, 126, none⟩), .pointer (some a), .int .u64 150])).run Tryd.prog w = .ok (some (126, a, 150)) w := by kernel_rfl
theorem Tryd.isNilP2 (a p : Addr) (W : World) (ha : W.cell? a = some (.pointer (some p))) :
    (ReflectliteValue.method (ReflectliteValue.valueError "reflectlite.Value.IsNil" 0) ReflectliteValue.isNil #[.agg #[.pointer (some ⟨25, 126, none⟩), .pointer (some a), .int .u64 150]]).run Tryd.prog W = .ok (.bool false) W := by
  rw [rlm]
  simp only [Sem.run_bind, Tryd.partsP2, Result.andThen]
  simp [ReflectliteValue.isNil, loadVar, isAgg, underlying, Tryd.underlying126, ha, Result.andThen]
theorem Tryd.elemP2 (w : World) : (ReflectliteType.method ReflectliteType.elem #[.agg #[.pointer (some ⟨25, 126, none⟩)]]).run Tryd.prog w = .ok (.iface 165 (.agg #[.pointer (some ⟨25, 125, none⟩)])) w := by kernel_rfl
theorem Tryd.implementsP (w : World) : (ReflectliteType.relation "Implements" ReflectliteType.implements_ #[.agg #[.pointer (some ⟨25, 125, none⟩)], .iface 165 (.agg #[.pointer (some ⟨25, 26, none⟩)])]).run Tryd.prog w = .ok (.bool true) w := by kernel_rfl
theorem Tryd.valueOfP (e : Addr) (w : World) : (ReflectliteValue.unpack (.iface 125 (.pointer (some e)))).run Tryd.prog w
    = .ok (.agg #[.pointer (some ⟨25, 125, none⟩), .pointer (some ⟨w.heap.size, 0, none⟩), .int .u64 150]) (w.alloc (.cells #[.pointer (some e)] 125)) := by kernel_rfl
theorem Tryd.elemOfP2 (w : World) : (Rtype.elem? 126).run Tryd.prog w = .ok (some 125) w := by kernel_rfl
theorem Tryd.mkP (p : Addr) (w : World) : (ReflectliteValue.mk 125 p ReflectliteValue.flagAddr).run Tryd.prog w = .ok (.agg #[.pointer (some ⟨25, 125, none⟩), .pointer (some p), .int .u64 406]) w := by kernel_rfl
theorem Tryd.elemVP2 (a p : Addr) (W : World) (ha : W.cell? a = some (.pointer (some p))) :
    (ReflectliteValue.method (ReflectliteValue.valueError "reflectlite.Value.Elem" 0) ReflectliteValue.elem #[.agg #[.pointer (some ⟨25, 126, none⟩), .pointer (some a), .int .u64 150]]).run Tryd.prog W
      = .ok (.agg #[.pointer (some ⟨25, 125, none⟩), .pointer (some p), .int .u64 406]) W := by
  rw [rlm]
  simp only [Sem.run_bind, Tryd.partsP2, Result.andThen]
  simp [ReflectliteValue.elem, loadVar, isAgg, underlying, Tryd.underlying126, ha, Result.andThen, Tryd.elemOfP2, Tryd.mkP]
theorem Tryd.partsPa (a : Addr) (w : World) : (ReflectliteValue.parts (.agg #[.pointer (some ⟨25, 125, none⟩), .pointer (some a), .int .u64 406])).run Tryd.prog w = .ok (some (125, a, 406)) w := by kernel_rfl
theorem Tryd.partsP (a : Addr) (w : World) : (ReflectliteValue.parts (.agg #[.pointer (some ⟨25, 125, none⟩), .pointer (some a), .int .u64 150])).run Tryd.prog w = .ok (some (125, a, 150)) w := by kernel_rfl
theorem Tryd.directP (w : World) : (Rtype.directlyAssignable 125 125).run Tryd.prog w = .ok true w := by kernel_rfl
theorem Tryd.setP (ta b e : Addr) (old : Value) (W : World) (hb : W.cell? b = some (.pointer (some e))) (ht : W.cell? ta = some old) (hf : W.frozen? ta = false) :
    (ReflectliteValue.set #[.agg #[.pointer (some ⟨25, 125, none⟩), .pointer (some ta), .int .u64 406], .agg #[.pointer (some ⟨25, 125, none⟩), .pointer (some b), .int .u64 150]]).run Tryd.prog W
      = .ok (.tuple #[]) (W.setCell ta (.pointer (some e))) := by
  rw [rls]
  simp only [Sem.run_bind, Tryd.partsPa, Tryd.partsP, Result.andThen]
  simp [ReflectliteValue.flagAddr, loadVar, isAgg, underlying, Tryd.underlying125, hb, Result.andThen, Tryd.directP, storeVar, Value.cells, storeCells, Addr.add]
  rw [run_store Tryd.prog W ta _ _ (by rfl)]
  simp [ht, hf]

/-! ### the target **fault.spoken -/
theorem Tryd.valueOfS2 (t : Addr) (w : World) : (ReflectliteValue.unpack (.iface 130 (.pointer (some t)))).run Tryd.prog w
    = .ok (.agg #[.pointer (some ⟨25, 130, none⟩), .pointer (some ⟨w.heap.size, 0, none⟩), .int .u64 150]) (w.alloc (.cells #[.pointer (some t)] 130)) := by kernel_rfl
theorem Tryd.typeS2 (a : Addr) (w : World) : (ReflectliteValue.methodAny (ReflectliteValue.valueError "reflectlite.Value.Type" 0) (fun t _ _ _ => ReflectliteType.toType t) #[.agg #[.pointer (some ⟨25, 130, none⟩), .pointer (some a), .int .u64 150]]).run Tryd.prog w
    = .ok (.iface 165 (.agg #[.pointer (some ⟨25, 130, none⟩)])) w := by kernel_rfl
theorem Tryd.kindS2 (w : World) : ((ReflectliteType.abiMethod fun t => (fun a : Nat => Value.int IntKind.u8 (a : Int)) <$> Rtype.kind t) #[.pointer (some ⟨25, 130, none⟩)]).run Tryd.prog w = .ok (.int .u8 22) w := by kernel_rfl
theorem Tryd.kindS (w : World) : ((ReflectliteType.abiMethod fun t => (fun a : Nat => Value.int IntKind.u8 (a : Int)) <$> Rtype.kind t) #[.pointer (some ⟨25, 129, none⟩)]).run Tryd.prog w = .ok (.int .u8 22) w := by kernel_rfl
theorem Tryd.partsS2 (a : Addr) (w : World) : (ReflectliteValue.parts (.agg #[.pointer (some ⟨25, 130, none⟩), .pointer (some a), .int .u64 150])).run Tryd.prog w = .ok (some (130, a, 150)) w := by kernel_rfl
theorem Tryd.isNilS2 (a p : Addr) (W : World) (ha : W.cell? a = some (.pointer (some p))) :
    (ReflectliteValue.method (ReflectliteValue.valueError "reflectlite.Value.IsNil" 0) ReflectliteValue.isNil #[.agg #[.pointer (some ⟨25, 130, none⟩), .pointer (some a), .int .u64 150]]).run Tryd.prog W = .ok (.bool false) W := by
  rw [rlm]
  simp only [Sem.run_bind, Tryd.partsS2, Result.andThen]
  simp [ReflectliteValue.isNil, loadVar, isAgg, underlying, Tryd.underlying130, ha, Result.andThen]
theorem Tryd.elemS2 (w : World) : (ReflectliteType.method ReflectliteType.elem #[.agg #[.pointer (some ⟨25, 130, none⟩)]]).run Tryd.prog w = .ok (.iface 165 (.agg #[.pointer (some ⟨25, 129, none⟩)])) w := by kernel_rfl
theorem Tryd.implementsS (w : World) : (ReflectliteType.relation "Implements" ReflectliteType.implements_ #[.agg #[.pointer (some ⟨25, 129, none⟩)], .iface 165 (.agg #[.pointer (some ⟨25, 26, none⟩)])]).run Tryd.prog w = .ok (.bool true) w := by kernel_rfl
theorem Tryd.valueOfS (e : Addr) (w : World) : (ReflectliteValue.unpack (.iface 129 (.pointer (some e)))).run Tryd.prog w
    = .ok (.agg #[.pointer (some ⟨25, 129, none⟩), .pointer (some ⟨w.heap.size, 0, none⟩), .int .u64 150]) (w.alloc (.cells #[.pointer (some e)] 129)) := by kernel_rfl
theorem Tryd.elemOfS2 (w : World) : (Rtype.elem? 130).run Tryd.prog w = .ok (some 129) w := by kernel_rfl
theorem Tryd.mkS (p : Addr) (w : World) : (ReflectliteValue.mk 129 p ReflectliteValue.flagAddr).run Tryd.prog w = .ok (.agg #[.pointer (some ⟨25, 129, none⟩), .pointer (some p), .int .u64 406]) w := by kernel_rfl
theorem Tryd.elemVS2 (a p : Addr) (W : World) (ha : W.cell? a = some (.pointer (some p))) :
    (ReflectliteValue.method (ReflectliteValue.valueError "reflectlite.Value.Elem" 0) ReflectliteValue.elem #[.agg #[.pointer (some ⟨25, 130, none⟩), .pointer (some a), .int .u64 150]]).run Tryd.prog W
      = .ok (.agg #[.pointer (some ⟨25, 129, none⟩), .pointer (some p), .int .u64 406]) W := by
  rw [rlm]
  simp only [Sem.run_bind, Tryd.partsS2, Result.andThen]
  simp [ReflectliteValue.elem, loadVar, isAgg, underlying, Tryd.underlying130, ha, Result.andThen, Tryd.elemOfS2, Tryd.mkS]
theorem Tryd.partsSa (a : Addr) (w : World) : (ReflectliteValue.parts (.agg #[.pointer (some ⟨25, 129, none⟩), .pointer (some a), .int .u64 406])).run Tryd.prog w = .ok (some (129, a, 406)) w := by kernel_rfl
theorem Tryd.partsS (a : Addr) (w : World) : (ReflectliteValue.parts (.agg #[.pointer (some ⟨25, 129, none⟩), .pointer (some a), .int .u64 150])).run Tryd.prog w = .ok (some (129, a, 150)) w := by kernel_rfl
theorem Tryd.directS (w : World) : (Rtype.directlyAssignable 129 129).run Tryd.prog w = .ok true w := by kernel_rfl
theorem Tryd.setS (ta b e : Addr) (old : Value) (W : World) (hb : W.cell? b = some (.pointer (some e))) (ht : W.cell? ta = some old) (hf : W.frozen? ta = false) :
    (ReflectliteValue.set #[.agg #[.pointer (some ⟨25, 129, none⟩), .pointer (some ta), .int .u64 406], .agg #[.pointer (some ⟨25, 129, none⟩), .pointer (some b), .int .u64 150]]).run Tryd.prog W
      = .ok (.tuple #[]) (W.setCell ta (.pointer (some e))) := by
  rw [rls]
  simp only [Sem.run_bind, Tryd.partsSa, Tryd.partsS, Result.andThen]
  simp [ReflectliteValue.flagAddr, loadVar, isAgg, underlying, Tryd.underlying129, hb, Result.andThen, Tryd.directS, storeVar, Value.cells, storeCells, Addr.add]
  rw [run_store Tryd.prog W ta _ _ (by rfl)]
  simp [ht, hf]

/-! ### the target **kern.refused -/
theorem Tryd.valueOfR2 (t : Addr) (w : World) : (ReflectliteValue.unpack (.iface 123 (.pointer (some t)))).run Tryd.prog w
    = .ok (.agg #[.pointer (some ⟨25, 123, none⟩), .pointer (some ⟨w.heap.size, 0, none⟩), .int .u64 150]) (w.alloc (.cells #[.pointer (some t)] 123)) := by kernel_rfl
theorem Tryd.typeR2 (a : Addr) (w : World) : (ReflectliteValue.methodAny (ReflectliteValue.valueError "reflectlite.Value.Type" 0) (fun t _ _ _ => ReflectliteType.toType t) #[.agg #[.pointer (some ⟨25, 123, none⟩), .pointer (some a), .int .u64 150]]).run Tryd.prog w
    = .ok (.iface 165 (.agg #[.pointer (some ⟨25, 123, none⟩)])) w := by kernel_rfl
theorem Tryd.kindR2 (w : World) : ((ReflectliteType.abiMethod fun t => (fun a : Nat => Value.int IntKind.u8 (a : Int)) <$> Rtype.kind t) #[.pointer (some ⟨25, 123, none⟩)]).run Tryd.prog w = .ok (.int .u8 22) w := by kernel_rfl
theorem Tryd.kindR (w : World) : ((ReflectliteType.abiMethod fun t => (fun a : Nat => Value.int IntKind.u8 (a : Int)) <$> Rtype.kind t) #[.pointer (some ⟨25, 116, none⟩)]).run Tryd.prog w = .ok (.int .u8 22) w := by kernel_rfl
theorem Tryd.partsR2 (a : Addr) (w : World) : (ReflectliteValue.parts (.agg #[.pointer (some ⟨25, 123, none⟩), .pointer (some a), .int .u64 150])).run Tryd.prog w = .ok (some (123, a, 150)) w := by kernel_rfl
theorem Tryd.isNilR2 (a p : Addr) (W : World) (ha : W.cell? a = some (.pointer (some p))) :
    (ReflectliteValue.method (ReflectliteValue.valueError "reflectlite.Value.IsNil" 0) ReflectliteValue.isNil #[.agg #[.pointer (some ⟨25, 123, none⟩), .pointer (some a), .int .u64 150]]).run Tryd.prog W = .ok (.bool false) W := by
  rw [rlm]
  simp only [Sem.run_bind, Tryd.partsR2, Result.andThen]
  simp [ReflectliteValue.isNil, loadVar, isAgg, underlying, Tryd.underlying123, ha, Result.andThen]
theorem Tryd.elemR2 (w : World) : (ReflectliteType.method ReflectliteType.elem #[.agg #[.pointer (some ⟨25, 123, none⟩)]]).run Tryd.prog w = .ok (.iface 165 (.agg #[.pointer (some ⟨25, 116, none⟩)])) w := by kernel_rfl
theorem Tryd.implementsR (w : World) : (ReflectliteType.relation "Implements" ReflectliteType.implements_ #[.agg #[.pointer (some ⟨25, 116, none⟩)], .iface 165 (.agg #[.pointer (some ⟨25, 26, none⟩)])]).run Tryd.prog w = .ok (.bool true) w := by kernel_rfl
theorem Tryd.valueOfR (e : Addr) (w : World) : (ReflectliteValue.unpack (.iface 116 (.pointer (some e)))).run Tryd.prog w
    = .ok (.agg #[.pointer (some ⟨25, 116, none⟩), .pointer (some ⟨w.heap.size, 0, none⟩), .int .u64 150]) (w.alloc (.cells #[.pointer (some e)] 116)) := by kernel_rfl
theorem Tryd.elemOfR2 (w : World) : (Rtype.elem? 123).run Tryd.prog w = .ok (some 116) w := by kernel_rfl
theorem Tryd.mkR (p : Addr) (w : World) : (ReflectliteValue.mk 116 p ReflectliteValue.flagAddr).run Tryd.prog w = .ok (.agg #[.pointer (some ⟨25, 116, none⟩), .pointer (some p), .int .u64 406]) w := by kernel_rfl
theorem Tryd.elemVR2 (a p : Addr) (W : World) (ha : W.cell? a = some (.pointer (some p))) :
    (ReflectliteValue.method (ReflectliteValue.valueError "reflectlite.Value.Elem" 0) ReflectliteValue.elem #[.agg #[.pointer (some ⟨25, 123, none⟩), .pointer (some a), .int .u64 150]]).run Tryd.prog W
      = .ok (.agg #[.pointer (some ⟨25, 116, none⟩), .pointer (some p), .int .u64 406]) W := by
  rw [rlm]
  simp only [Sem.run_bind, Tryd.partsR2, Result.andThen]
  simp [ReflectliteValue.elem, loadVar, isAgg, underlying, Tryd.underlying123, ha, Result.andThen, Tryd.elemOfR2, Tryd.mkR]
theorem Tryd.partsRa (a : Addr) (w : World) : (ReflectliteValue.parts (.agg #[.pointer (some ⟨25, 116, none⟩), .pointer (some a), .int .u64 406])).run Tryd.prog w = .ok (some (116, a, 406)) w := by kernel_rfl
theorem Tryd.partsR (a : Addr) (w : World) : (ReflectliteValue.parts (.agg #[.pointer (some ⟨25, 116, none⟩), .pointer (some a), .int .u64 150])).run Tryd.prog w = .ok (some (116, a, 150)) w := by kernel_rfl
theorem Tryd.directR (w : World) : (Rtype.directlyAssignable 116 116).run Tryd.prog w = .ok true w := by kernel_rfl
theorem Tryd.setR (ta b e : Addr) (old : Value) (W : World) (hb : W.cell? b = some (.pointer (some e))) (ht : W.cell? ta = some old) (hf : W.frozen? ta = false) :
    (ReflectliteValue.set #[.agg #[.pointer (some ⟨25, 116, none⟩), .pointer (some ta), .int .u64 406], .agg #[.pointer (some ⟨25, 116, none⟩), .pointer (some b), .int .u64 150]]).run Tryd.prog W
      = .ok (.tuple #[]) (W.setCell ta (.pointer (some e))) := by
  rw [rls]
  simp only [Sem.run_bind, Tryd.partsRa, Tryd.partsR, Result.andThen]
  simp [ReflectliteValue.flagAddr, loadVar, isAgg, underlying, Tryd.underlying116, hb, Result.andThen, Tryd.directR, storeVar, Value.cells, storeCells, Addr.add]
  rw [run_store Tryd.prog W ta _ _ (by rfl)]
  simp [ht, hf]

/-- The handle that errors.As reads. -/
structure Ety (B : Nat) (w : World) : Prop where
  cell : w.cell? ⟨10, 0, none⟩ = some (.iface 165 (.agg #[.pointer (some ⟨25, 26, none⟩)]))
  low : 10 < B
  size : B ≤ w.heap.size

theorem Ety.kept {B : Nat} {w w' : World} {F : Nat → Prop} (h : Ety B w) (k : Kept F w w') (hF : ∀ b, F b → B ≤ b) : Ety B w' :=
  ⟨(k.cell (p := ⟨10, 0, none⟩) (Nat.lt_of_lt_of_le h.low h.size) (fun hf => by have h1 := hF _ hf; have h2 := h.low; exact absurd h1 (by show ¬ B ≤ 10; omega))).trans h.cell, h.low, Nat.le_trans h.size k.size⟩
theorem Ety.below {B : Nat} {w w' : World} (h : Ety B w) (k : Below w.heap.size w w') : Ety B w' := h.kept (Kept.of_below k (fun _ => False)) (fun _ hf => hf.elim)

/-- A hit: the target holds what was found. -/
def AsHit (w : World) (tb : Nat) (tT : TypeId) (x : Nat) (e : Ending) (w' : World) : Prop :=
  e = .returned (.bool true) ∧ w'.heap[tb]? = some (.cells #[.pointer (some ⟨x, 0, none⟩)] tT (0, 0)) ∧ Kept (fun b => b = tb) w w'
def AsNo (w : World) (e : Ending) (w' : World) : Prop := e = .returned (.bool false) ∧ Below w.heap.size w w'

theorem as_made {w : World} {tb : Nat} {tT : TypeId} (ht : w.heap[tb]? = some (.cells #[.pointer none] tT (0, 0))) (o1 o2 o3 o4 : Obj) (x : Nat) :
    AsHit w tb tT x (.returned (.bool true)) (((((w.alloc o1).alloc o2).alloc o3).alloc o4).setCell ⟨tb, 0, none⟩ (.pointer (some ⟨x, 0, none⟩))) := by
  refine ⟨rfl, ?_, ?_⟩
  · have hb : Below w.heap.size w ((((w.alloc o1).alloc o2).alloc o3).alloc o4) := below_trans (below_trans (below_two w _ _) (below_alloc _ _)) (below_alloc _ _)
    exact heap_set_same (below_heap hb (lt_of_heap ht) ht) 0 _
  · exact ((((((Kept.refl (fun b => b = tb) w).alloc o1).alloc o2).alloc o3).alloc o4)).setCell (p := ⟨tb, 0, none⟩) (.inl rfl) _

set_option maxRecDepth 1000000 in
set_option maxHeartbeats 4000000 in
theorem as_placed {B : Nat} (x0 x1 : Nat) (tb : Nat) (w : World) (hg : Ety B w) (ht : w.heap[tb]? = some (.cells #[.pointer none] 125 (0, 0))) (c0 : w.cell? ⟨x0, 0, none⟩ = some (.iface 125 (.pointer (some ⟨x1, 0, none⟩)))) :
    Calls Tryd.prog 58 #[.iface 129 (.pointer (some ⟨x0, 0, none⟩)), .iface 126 (.pointer (some ⟨tb, 0, none⟩))] w fun e w' => AsHit w tb 125 x1 e w' := by
  have h6 := @run_callFunc_extern Tryd.prog 69 _ (fun args => ReflectliteValue.unpack (args.getD 0 (.tuple #[]))) Tryd.func69 (by kernel_rfl) (by kernel_rfl) (by kernel_rfl) (by kernel_rfl)
  have h7 := @run_callFunc_extern Tryd.prog 70 _ (ReflectliteValue.methodAny (ReflectliteValue.valueError "reflectlite.Value.Type" 0) (fun t _ _ _ => ReflectliteType.toType t)) Tryd.func70 (by kernel_rfl) (by kernel_rfl) (by kernel_rfl) (by kernel_rfl)
  have h8 := @run_callFunc_extern Tryd.prog 71 _ (ReflectliteValue.method (ReflectliteValue.valueError "reflectlite.Value.IsNil" 0) ReflectliteValue.isNil) Tryd.func71 (by kernel_rfl) (by kernel_rfl) (by kernel_rfl) (by kernel_rfl)
  have h27 := @run_callFunc_extern Tryd.prog 132 _ (ReflectliteType.abiMethod fun t => do pure (.int .u8 (← Rtype.kind t))) Tryd.func132 (by kernel_rfl) (by kernel_rfl) (by kernel_rfl) (by kernel_rfl)
  have h37 := @run_callFunc_extern Tryd.prog 157 _ (ReflectliteType.method ReflectliteType.elem) Tryd.func157 (by kernel_rfl) (by kernel_rfl) (by kernel_rfl) (by kernel_rfl)
  have h38 := @run_callFunc_extern Tryd.prog 158 _ (ReflectliteType.relation "Implements" ReflectliteType.implements_) Tryd.func158 (by kernel_rfl) (by kernel_rfl) (by kernel_rfl) (by kernel_rfl)
  have h10 := @run_callFunc_extern Tryd.prog 83 _ ReflectliteType.typeOf Tryd.func83 (by kernel_rfl) (by kernel_rfl) (by kernel_rfl) (by kernel_rfl)
  have h35 := @run_callFunc_extern Tryd.prog 155 _ (ReflectliteType.relation "AssignableTo" ReflectliteType.assignableTo) Tryd.func155 (by kernel_rfl) (by kernel_rfl) (by kernel_rfl) (by kernel_rfl)
  have h11 := @run_callFunc_extern Tryd.prog 84 _ (ReflectliteValue.method (ReflectliteValue.valueError "reflectlite.Value.Elem" 0) ReflectliteValue.elem) Tryd.func84 (by kernel_rfl) (by kernel_rfl) (by kernel_rfl) (by kernel_rfl)
  have h12 := @run_callFunc_extern Tryd.prog 85 _ ReflectliteValue.set Tryd.func85 (by kernel_rfl) (by kernel_rfl) (by kernel_rfl) (by kernel_rfl)
  have tOP := Tryd.asTypeOfP
  have aTP := Tryd.assignPP
  have tOS := Tryd.asTypeOfS
  have aTS := Tryd.assignSP
  have nAS := Tryd.noAsS
  have uS := Tryd.hasUnwrapS
  have mS := Tryd.mUnwrapS
  have mA := Tryd.methodAssignableTo
  have f6 := Tryd.valueOfP2
  have f7 := Tryd.typeP2
  have mK := Tryd.methodKind
  have mE := Tryd.methodElem
  have mI := Tryd.methodImplements
  have k27 := Tryd.kindP2
  have k25 := Tryd.kindP
  have e27 := Tryd.elemP2
  have i25 := Tryd.implementsP
  have n8 := Tryd.isNilP2 ⟨w.heap.size, 0, none⟩ ⟨tb, 0, none⟩ ((w.alloc (.cells #[.pointer (some ⟨tb, 0, none⟩)] 126)).alloc (.cells #[.pointer (some ⟨25, 126, none⟩), .pointer (some ⟨w.heap.size, 0, none⟩), .int .u64 150] 148)) (by simp)
  have HT := Lib.hid ht
  have ht0 : w.cell? ⟨tb, 0, none⟩ = some (.pointer none) := cell_of ht rfl
  have hf0 : w.frozen? ⟨tb, 0, none⟩ = false := free_of ht 0
  have htl : tb < w.heap.size := lt_of_heap ht
  have hlt : 10 < w.heap.size := Nat.lt_of_lt_of_le hg.low hg.size
  have hg2 : ((w.alloc (.cells #[.pointer (some ⟨tb, 0, none⟩)] 126)).alloc (.cells #[.pointer (some ⟨25, 126, none⟩), .pointer (some ⟨w.heap.size, 0, none⟩), .int .u64 150] 148)).cell? ⟨10, 0, none⟩ = some (.iface 165 (.agg #[.pointer (some ⟨25, 26, none⟩)])) := by
    rw [World.cell?_alloc_lt _ _ ⟨10, 0, none⟩ (by simp; omega), World.cell?_alloc_lt _ _ ⟨10, 0, none⟩ hlt]; exact hg.cell
  have l0 : x0 < w.heap.size := World.block_lt_of_cell? _ _ c0
  have d0 : (((w.alloc (.cells #[.pointer (some ⟨tb, 0, none⟩)] 126)).alloc (.cells #[.pointer (some ⟨25, 126, none⟩), .pointer (some ⟨w.heap.size, 0, none⟩), .int .u64 150] 148)).alloc (.cells #[.pointer (some ⟨25, 126, none⟩), .pointer (some ⟨w.heap.size, 0, none⟩), .int .u64 150] 148)).cell? ⟨x0, 0, none⟩ = some (.iface 125 (.pointer (some ⟨x1, 0, none⟩))) := (below_trans (below_two w _ _) (below_alloc _ _)).cell (p := ⟨x0, 0, none⟩) l0 |>.trans c0
  have v25 := Tryd.valueOfP
  have el := Tryd.elemVP2 ⟨w.heap.size, 0, none⟩ ⟨tb, 0, none⟩ (((w.alloc (.cells #[.pointer (some ⟨tb, 0, none⟩)] 126)).alloc (.cells #[.pointer (some ⟨25, 126, none⟩), .pointer (some ⟨w.heap.size, 0, none⟩), .int .u64 150] 148)).alloc (.cells #[.pointer (some ⟨25, 126, none⟩), .pointer (some ⟨w.heap.size, 0, none⟩), .int .u64 150] 148)) (by rw [World.cell?_alloc_lt _ _ ⟨w.heap.size, 0, none⟩ (by simp; omega)]; simp)
  have st := Tryd.setP ⟨tb, 0, none⟩ ⟨w.heap.size + 1 + 1 + 1, 0, none⟩ ⟨x1, 0, none⟩ (.pointer none) ((((w.alloc (.cells #[.pointer (some ⟨tb, 0, none⟩)] 126)).alloc (.cells #[.pointer (some ⟨25, 126, none⟩), .pointer (some ⟨w.heap.size, 0, none⟩), .int .u64 150] 148)).alloc (.cells #[.pointer (some ⟨25, 126, none⟩), .pointer (some ⟨w.heap.size, 0, none⟩), .int .u64 150] 148)).alloc (.cells #[.pointer (some ⟨x1, 0, none⟩)] 125))
    (by rw [World.cell?_alloc_at _ _ _ _ (by simp)]; rfl)
    (by rw [World.cell?_alloc_lt _ _ ⟨tb, 0, none⟩ (by simp; omega), World.cell?_alloc_lt _ _ ⟨tb, 0, none⟩ (by simp; omega), World.cell?_alloc_lt _ _ ⟨tb, 0, none⟩ (by simp; omega), World.cell?_alloc_lt _ _ ⟨tb, 0, none⟩ htl]; exact ht0)
    (by rw [World.frozen?_alloc_old _ _ ⟨tb, 0, none⟩ (by simp; omega), World.frozen?_alloc_old _ _ ⟨tb, 0, none⟩ (by simp; omega), World.frozen?_alloc_old _ _ ⟨tb, 0, none⟩ (by simp; omega), World.frozen?_alloc_old _ _ ⟨tb, 0, none⟩ (Nat.ne_of_lt htl)]; exact hf0)
  clear hg ht
  go_enter Tryd.func58, Tryd.ntmps58
  go_wp2
  refine wp_loop_rounds 2 ?_
  rw [rounds_succ]
  go_wp2
  rw [rounds_succ]
  go_wp2
  go_ret
  exact as_made HT.out _ _ _ _ _

set_option maxRecDepth 1000000 in
set_option maxHeartbeats 4000000 in
theorem as_placed3 {B : Nat} (x0 x1 x2 : Nat) (tb : Nat) (w : World) (hg : Ety B w) (ht : w.heap[tb]? = some (.cells #[.pointer none] 125 (0, 0))) (c0 : w.cell? ⟨x0, 0, none⟩ = some (.iface 129 (.pointer (some ⟨x1, 0, none⟩)))) (c1 : w.cell? ⟨x1, 0, none⟩ = some (.iface 125 (.pointer (some ⟨x2, 0, none⟩)))) :
    Calls Tryd.prog 58 #[.iface 116 (.pointer (some ⟨x0, 0, none⟩)), .iface 126 (.pointer (some ⟨tb, 0, none⟩))] w fun e w' => AsHit w tb 125 x2 e w' := by
  have h6 := @run_callFunc_extern Tryd.prog 69 _ (fun args => ReflectliteValue.unpack (args.getD 0 (.tuple #[]))) Tryd.func69 (by kernel_rfl) (by kernel_rfl) (by kernel_rfl) (by kernel_rfl)
  have h7 := @run_callFunc_extern Tryd.prog 70 _ (ReflectliteValue.methodAny (ReflectliteValue.valueError "reflectlite.Value.Type" 0) (fun t _ _ _ => ReflectliteType.toType t)) Tryd.func70 (by kernel_rfl) (by kernel_rfl) (by kernel_rfl) (by kernel_rfl)
  have h8 := @run_callFunc_extern Tryd.prog 71 _ (ReflectliteValue.method (ReflectliteValue.valueError "reflectlite.Value.IsNil" 0) ReflectliteValue.isNil) Tryd.func71 (by kernel_rfl) (by kernel_rfl) (by kernel_rfl) (by kernel_rfl)
  have h27 := @run_callFunc_extern Tryd.prog 132 _ (ReflectliteType.abiMethod fun t => do pure (.int .u8 (← Rtype.kind t))) Tryd.func132 (by kernel_rfl) (by kernel_rfl) (by kernel_rfl) (by kernel_rfl)
  have h37 := @run_callFunc_extern Tryd.prog 157 _ (ReflectliteType.method ReflectliteType.elem) Tryd.func157 (by kernel_rfl) (by kernel_rfl) (by kernel_rfl) (by kernel_rfl)
  have h38 := @run_callFunc_extern Tryd.prog 158 _ (ReflectliteType.relation "Implements" ReflectliteType.implements_) Tryd.func158 (by kernel_rfl) (by kernel_rfl) (by kernel_rfl) (by kernel_rfl)
  have h10 := @run_callFunc_extern Tryd.prog 83 _ ReflectliteType.typeOf Tryd.func83 (by kernel_rfl) (by kernel_rfl) (by kernel_rfl) (by kernel_rfl)
  have h35 := @run_callFunc_extern Tryd.prog 155 _ (ReflectliteType.relation "AssignableTo" ReflectliteType.assignableTo) Tryd.func155 (by kernel_rfl) (by kernel_rfl) (by kernel_rfl) (by kernel_rfl)
  have h11 := @run_callFunc_extern Tryd.prog 84 _ (ReflectliteValue.method (ReflectliteValue.valueError "reflectlite.Value.Elem" 0) ReflectliteValue.elem) Tryd.func84 (by kernel_rfl) (by kernel_rfl) (by kernel_rfl) (by kernel_rfl)
  have h12 := @run_callFunc_extern Tryd.prog 85 _ ReflectliteValue.set Tryd.func85 (by kernel_rfl) (by kernel_rfl) (by kernel_rfl) (by kernel_rfl)
  have tOP := Tryd.asTypeOfP
  have aTP := Tryd.assignPP
  have tOR := Tryd.asTypeOfR
  have aTR := Tryd.assignRP
  have nAR := Tryd.noAsR
  have uR := Tryd.hasUnwrapR
  have mR := Tryd.mUnwrapR
  have tOS := Tryd.asTypeOfS
  have aTS := Tryd.assignSP
  have nAS := Tryd.noAsS
  have uS := Tryd.hasUnwrapS
  have mS := Tryd.mUnwrapS
  have mA := Tryd.methodAssignableTo
  have f6 := Tryd.valueOfP2
  have f7 := Tryd.typeP2
  have mK := Tryd.methodKind
  have mE := Tryd.methodElem
  have mI := Tryd.methodImplements
  have k27 := Tryd.kindP2
  have k25 := Tryd.kindP
  have e27 := Tryd.elemP2
  have i25 := Tryd.implementsP
  have n8 := Tryd.isNilP2 ⟨w.heap.size, 0, none⟩ ⟨tb, 0, none⟩ ((w.alloc (.cells #[.pointer (some ⟨tb, 0, none⟩)] 126)).alloc (.cells #[.pointer (some ⟨25, 126, none⟩), .pointer (some ⟨w.heap.size, 0, none⟩), .int .u64 150] 148)) (by simp)
  have HT := Lib.hid ht
  have ht0 : w.cell? ⟨tb, 0, none⟩ = some (.pointer none) := cell_of ht rfl
  have hf0 : w.frozen? ⟨tb, 0, none⟩ = false := free_of ht 0
  have htl : tb < w.heap.size := lt_of_heap ht
  have hlt : 10 < w.heap.size := Nat.lt_of_lt_of_le hg.low hg.size
  have hg2 : ((w.alloc (.cells #[.pointer (some ⟨tb, 0, none⟩)] 126)).alloc (.cells #[.pointer (some ⟨25, 126, none⟩), .pointer (some ⟨w.heap.size, 0, none⟩), .int .u64 150] 148)).cell? ⟨10, 0, none⟩ = some (.iface 165 (.agg #[.pointer (some ⟨25, 26, none⟩)])) := by
    rw [World.cell?_alloc_lt _ _ ⟨10, 0, none⟩ (by simp; omega), World.cell?_alloc_lt _ _ ⟨10, 0, none⟩ hlt]; exact hg.cell
  have l0 : x0 < w.heap.size := World.block_lt_of_cell? _ _ c0
  have d0 : (((w.alloc (.cells #[.pointer (some ⟨tb, 0, none⟩)] 126)).alloc (.cells #[.pointer (some ⟨25, 126, none⟩), .pointer (some ⟨w.heap.size, 0, none⟩), .int .u64 150] 148)).alloc (.cells #[.pointer (some ⟨25, 126, none⟩), .pointer (some ⟨w.heap.size, 0, none⟩), .int .u64 150] 148)).cell? ⟨x0, 0, none⟩ = some (.iface 129 (.pointer (some ⟨x1, 0, none⟩))) := (below_trans (below_two w _ _) (below_alloc _ _)).cell (p := ⟨x0, 0, none⟩) l0 |>.trans c0
  have l1 : x1 < w.heap.size := World.block_lt_of_cell? _ _ c1
  have d1 : (((w.alloc (.cells #[.pointer (some ⟨tb, 0, none⟩)] 126)).alloc (.cells #[.pointer (some ⟨25, 126, none⟩), .pointer (some ⟨w.heap.size, 0, none⟩), .int .u64 150] 148)).alloc (.cells #[.pointer (some ⟨25, 126, none⟩), .pointer (some ⟨w.heap.size, 0, none⟩), .int .u64 150] 148)).cell? ⟨x1, 0, none⟩ = some (.iface 125 (.pointer (some ⟨x2, 0, none⟩))) := (below_trans (below_two w _ _) (below_alloc _ _)).cell (p := ⟨x1, 0, none⟩) l1 |>.trans c1
  have v25 := Tryd.valueOfP
  have el := Tryd.elemVP2 ⟨w.heap.size, 0, none⟩ ⟨tb, 0, none⟩ (((w.alloc (.cells #[.pointer (some ⟨tb, 0, none⟩)] 126)).alloc (.cells #[.pointer (some ⟨25, 126, none⟩), .pointer (some ⟨w.heap.size, 0, none⟩), .int .u64 150] 148)).alloc (.cells #[.pointer (some ⟨25, 126, none⟩), .pointer (some ⟨w.heap.size, 0, none⟩), .int .u64 150] 148)) (by rw [World.cell?_alloc_lt _ _ ⟨w.heap.size, 0, none⟩ (by simp; omega)]; simp)
  have st := Tryd.setP ⟨tb, 0, none⟩ ⟨w.heap.size + 1 + 1 + 1, 0, none⟩ ⟨x2, 0, none⟩ (.pointer none) ((((w.alloc (.cells #[.pointer (some ⟨tb, 0, none⟩)] 126)).alloc (.cells #[.pointer (some ⟨25, 126, none⟩), .pointer (some ⟨w.heap.size, 0, none⟩), .int .u64 150] 148)).alloc (.cells #[.pointer (some ⟨25, 126, none⟩), .pointer (some ⟨w.heap.size, 0, none⟩), .int .u64 150] 148)).alloc (.cells #[.pointer (some ⟨x2, 0, none⟩)] 125))
    (by rw [World.cell?_alloc_at _ _ _ _ (by simp)]; rfl)
    (by rw [World.cell?_alloc_lt _ _ ⟨tb, 0, none⟩ (by simp; omega), World.cell?_alloc_lt _ _ ⟨tb, 0, none⟩ (by simp; omega), World.cell?_alloc_lt _ _ ⟨tb, 0, none⟩ (by simp; omega), World.cell?_alloc_lt _ _ ⟨tb, 0, none⟩ htl]; exact ht0)
    (by rw [World.frozen?_alloc_old _ _ ⟨tb, 0, none⟩ (by simp; omega), World.frozen?_alloc_old _ _ ⟨tb, 0, none⟩ (by simp; omega), World.frozen?_alloc_old _ _ ⟨tb, 0, none⟩ (by simp; omega), World.frozen?_alloc_old _ _ ⟨tb, 0, none⟩ (Nat.ne_of_lt htl)]; exact hf0)
  clear hg ht
  go_enter Tryd.func58, Tryd.ntmps58
  go_wp2
  refine wp_loop_rounds 3 ?_
  rw [rounds_succ]
  go_wp2
  rw [rounds_succ]
  go_wp2
  rw [rounds_succ]
  go_wp2
  go_ret
  exact as_made HT.out _ _ _ _ _

set_option maxRecDepth 1000000 in
set_option maxHeartbeats 4000000 in
theorem as_spoken {B : Nat} (x0 x1 : Nat) (tb : Nat) (w : World) (hg : Ety B w) (ht : w.heap[tb]? = some (.cells #[.pointer none] 129 (0, 0))) (c0 : w.cell? ⟨x0, 0, none⟩ = some (.iface 125 (.pointer (some ⟨x1, 0, none⟩)))) :
    Calls Tryd.prog 58 #[.iface 129 (.pointer (some ⟨x0, 0, none⟩)), .iface 130 (.pointer (some ⟨tb, 0, none⟩))] w fun e w' => AsHit w tb 129 x0 e w' := by
  have h6 := @run_callFunc_extern Tryd.prog 69 _ (fun args => ReflectliteValue.unpack (args.getD 0 (.tuple #[]))) Tryd.func69 (by kernel_rfl) (by kernel_rfl) (by kernel_rfl) (by kernel_rfl)
  have h7 := @run_callFunc_extern Tryd.prog 70 _ (ReflectliteValue.methodAny (ReflectliteValue.valueError "reflectlite.Value.Type" 0) (fun t _ _ _ => ReflectliteType.toType t)) Tryd.func70 (by kernel_rfl) (by kernel_rfl) (by kernel_rfl) (by kernel_rfl)
  have h8 := @run_callFunc_extern Tryd.prog 71 _ (ReflectliteValue.method (ReflectliteValue.valueError "reflectlite.Value.IsNil" 0) ReflectliteValue.isNil) Tryd.func71 (by kernel_rfl) (by kernel_rfl) (by kernel_rfl) (by kernel_rfl)
  have h27 := @run_callFunc_extern Tryd.prog 132 _ (ReflectliteType.abiMethod fun t => do pure (.int .u8 (← Rtype.kind t))) Tryd.func132 (by kernel_rfl) (by kernel_rfl) (by kernel_rfl) (by kernel_rfl)
  have h37 := @run_callFunc_extern Tryd.prog 157 _ (ReflectliteType.method ReflectliteType.elem) Tryd.func157 (by kernel_rfl) (by kernel_rfl) (by kernel_rfl) (by kernel_rfl)
  have h38 := @run_callFunc_extern Tryd.prog 158 _ (ReflectliteType.relation "Implements" ReflectliteType.implements_) Tryd.func158 (by kernel_rfl) (by kernel_rfl) (by kernel_rfl) (by kernel_rfl)
  have h10 := @run_callFunc_extern Tryd.prog 83 _ ReflectliteType.typeOf Tryd.func83 (by kernel_rfl) (by kernel_rfl) (by kernel_rfl) (by kernel_rfl)
  have h35 := @run_callFunc_extern Tryd.prog 155 _ (ReflectliteType.relation "AssignableTo" ReflectliteType.assignableTo) Tryd.func155 (by kernel_rfl) (by kernel_rfl) (by kernel_rfl) (by kernel_rfl)
  have h11 := @run_callFunc_extern Tryd.prog 84 _ (ReflectliteValue.method (ReflectliteValue.valueError "reflectlite.Value.Elem" 0) ReflectliteValue.elem) Tryd.func84 (by kernel_rfl) (by kernel_rfl) (by kernel_rfl) (by kernel_rfl)
  have h12 := @run_callFunc_extern Tryd.prog 85 _ ReflectliteValue.set Tryd.func85 (by kernel_rfl) (by kernel_rfl) (by kernel_rfl) (by kernel_rfl)
  have tOS := Tryd.asTypeOfS
  have aTS := Tryd.assignSS
  have mA := Tryd.methodAssignableTo
  have f6 := Tryd.valueOfS2
  have f7 := Tryd.typeS2
  have mK := Tryd.methodKind
  have mE := Tryd.methodElem
  have mI := Tryd.methodImplements
  have k27 := Tryd.kindS2
  have k25 := Tryd.kindS
  have e27 := Tryd.elemS2
  have i25 := Tryd.implementsS
  have n8 := Tryd.isNilS2 ⟨w.heap.size, 0, none⟩ ⟨tb, 0, none⟩ ((w.alloc (.cells #[.pointer (some ⟨tb, 0, none⟩)] 130)).alloc (.cells #[.pointer (some ⟨25, 130, none⟩), .pointer (some ⟨w.heap.size, 0, none⟩), .int .u64 150] 148)) (by simp)
  have HT := Lib.hid ht
  have ht0 : w.cell? ⟨tb, 0, none⟩ = some (.pointer none) := cell_of ht rfl
  have hf0 : w.frozen? ⟨tb, 0, none⟩ = false := free_of ht 0
  have htl : tb < w.heap.size := lt_of_heap ht
  have hlt : 10 < w.heap.size := Nat.lt_of_lt_of_le hg.low hg.size
  have hg2 : ((w.alloc (.cells #[.pointer (some ⟨tb, 0, none⟩)] 130)).alloc (.cells #[.pointer (some ⟨25, 130, none⟩), .pointer (some ⟨w.heap.size, 0, none⟩), .int .u64 150] 148)).cell? ⟨10, 0, none⟩ = some (.iface 165 (.agg #[.pointer (some ⟨25, 26, none⟩)])) := by
    rw [World.cell?_alloc_lt _ _ ⟨10, 0, none⟩ (by simp; omega), World.cell?_alloc_lt _ _ ⟨10, 0, none⟩ hlt]; exact hg.cell
  have l0 : x0 < w.heap.size := World.block_lt_of_cell? _ _ c0
  have d0 : (((w.alloc (.cells #[.pointer (some ⟨tb, 0, none⟩)] 130)).alloc (.cells #[.pointer (some ⟨25, 130, none⟩), .pointer (some ⟨w.heap.size, 0, none⟩), .int .u64 150] 148)).alloc (.cells #[.pointer (some ⟨25, 130, none⟩), .pointer (some ⟨w.heap.size, 0, none⟩), .int .u64 150] 148)).cell? ⟨x0, 0, none⟩ = some (.iface 125 (.pointer (some ⟨x1, 0, none⟩))) := (below_trans (below_two w _ _) (below_alloc _ _)).cell (p := ⟨x0, 0, none⟩) l0 |>.trans c0
  have v25 := Tryd.valueOfS
  have el := Tryd.elemVS2 ⟨w.heap.size, 0, none⟩ ⟨tb, 0, none⟩ (((w.alloc (.cells #[.pointer (some ⟨tb, 0, none⟩)] 130)).alloc (.cells #[.pointer (some ⟨25, 130, none⟩), .pointer (some ⟨w.heap.size, 0, none⟩), .int .u64 150] 148)).alloc (.cells #[.pointer (some ⟨25, 130, none⟩), .pointer (some ⟨w.heap.size, 0, none⟩), .int .u64 150] 148)) (by rw [World.cell?_alloc_lt _ _ ⟨w.heap.size, 0, none⟩ (by simp; omega)]; simp)
  have st := Tryd.setS ⟨tb, 0, none⟩ ⟨w.heap.size + 1 + 1 + 1, 0, none⟩ ⟨x0, 0, none⟩ (.pointer none) ((((w.alloc (.cells #[.pointer (some ⟨tb, 0, none⟩)] 130)).alloc (.cells #[.pointer (some ⟨25, 130, none⟩), .pointer (some ⟨w.heap.size, 0, none⟩), .int .u64 150] 148)).alloc (.cells #[.pointer (some ⟨25, 130, none⟩), .pointer (some ⟨w.heap.size, 0, none⟩), .int .u64 150] 148)).alloc (.cells #[.pointer (some ⟨x0, 0, none⟩)] 129))
    (by rw [World.cell?_alloc_at _ _ _ _ (by simp)]; rfl)
    (by rw [World.cell?_alloc_lt _ _ ⟨tb, 0, none⟩ (by simp; omega), World.cell?_alloc_lt _ _ ⟨tb, 0, none⟩ (by simp; omega), World.cell?_alloc_lt _ _ ⟨tb, 0, none⟩ (by simp; omega), World.cell?_alloc_lt _ _ ⟨tb, 0, none⟩ htl]; exact ht0)
    (by rw [World.frozen?_alloc_old _ _ ⟨tb, 0, none⟩ (by simp; omega), World.frozen?_alloc_old _ _ ⟨tb, 0, none⟩ (by simp; omega), World.frozen?_alloc_old _ _ ⟨tb, 0, none⟩ (by simp; omega), World.frozen?_alloc_old _ _ ⟨tb, 0, none⟩ (Nat.ne_of_lt htl)]; exact hf0)
  clear hg ht
  go_enter Tryd.func58, Tryd.ntmps58
  go_wp2
  refine wp_loop_rounds 1 ?_
  rw [rounds_succ]
  go_wp2
  go_ret
  exact as_made HT.out _ _ _ _ _

set_option maxRecDepth 1000000 in
set_option maxHeartbeats 4000000 in
theorem as_spoken3 {B : Nat} (x0 x1 x2 : Nat) (tb : Nat) (w : World) (hg : Ety B w) (ht : w.heap[tb]? = some (.cells #[.pointer none] 129 (0, 0))) (c0 : w.cell? ⟨x0, 0, none⟩ = some (.iface 129 (.pointer (some ⟨x1, 0, none⟩)))) (c1 : w.cell? ⟨x1, 0, none⟩ = some (.iface 125 (.pointer (some ⟨x2, 0, none⟩)))) :
    Calls Tryd.prog 58 #[.iface 116 (.pointer (some ⟨x0, 0, none⟩)), .iface 130 (.pointer (some ⟨tb, 0, none⟩))] w fun e w' => AsHit w tb 129 x1 e w' := by
  have h6 := @run_callFunc_extern Tryd.prog 69 _ (fun args => ReflectliteValue.unpack (args.getD 0 (.tuple #[]))) Tryd.func69 (by kernel_rfl) (by kernel_rfl) (by kernel_rfl) (by kernel_rfl)
  have h7 := @run_callFunc_extern Tryd.prog 70 _ (ReflectliteValue.methodAny (ReflectliteValue.valueError "reflectlite.Value.Type" 0) (fun t _ _ _ => ReflectliteType.toType t)) Tryd.func70 (by kernel_rfl) (by kernel_rfl) (by kernel_rfl) (by kernel_rfl)
  have h8 := @run_callFunc_extern Tryd.prog 71 _ (ReflectliteValue.method (ReflectliteValue.valueError "reflectlite.Value.IsNil" 0) ReflectliteValue.isNil) Tryd.func71 (by kernel_rfl) (by kernel_rfl) (by kernel_rfl) (by kernel_rfl)
  have h27 := @run_callFunc_extern Tryd.prog 132 _ (ReflectliteType.abiMethod fun t => do pure (.int .u8 (← Rtype.kind t))) Tryd.func132 (by kernel_rfl) (by kernel_rfl) (by kernel_rfl) (by kernel_rfl)
  have h37 := @run_callFunc_extern Tryd.prog 157 _ (ReflectliteType.method ReflectliteType.elem) Tryd.func157 (by kernel_rfl) (by kernel_rfl) (by kernel_rfl) (by kernel_rfl)
  have h38 := @run_callFunc_extern Tryd.prog 158 _ (ReflectliteType.relation "Implements" ReflectliteType.implements_) Tryd.func158 (by kernel_rfl) (by kernel_rfl) (by kernel_rfl) (by kernel_rfl)
  have h10 := @run_callFunc_extern Tryd.prog 83 _ ReflectliteType.typeOf Tryd.func83 (by kernel_rfl) (by kernel_rfl) (by kernel_rfl) (by kernel_rfl)
  have h35 := @run_callFunc_extern Tryd.prog 155 _ (ReflectliteType.relation "AssignableTo" ReflectliteType.assignableTo) Tryd.func155 (by kernel_rfl) (by kernel_rfl) (by kernel_rfl) (by kernel_rfl)
  have h11 := @run_callFunc_extern Tryd.prog 84 _ (ReflectliteValue.method (ReflectliteValue.valueError "reflectlite.Value.Elem" 0) ReflectliteValue.elem) Tryd.func84 (by kernel_rfl) (by kernel_rfl) (by kernel_rfl) (by kernel_rfl)
  have h12 := @run_callFunc_extern Tryd.prog 85 _ ReflectliteValue.set Tryd.func85 (by kernel_rfl) (by kernel_rfl) (by kernel_rfl) (by kernel_rfl)
  have tOR := Tryd.asTypeOfR
  have aTR := Tryd.assignRS
  have nAR := Tryd.noAsR
  have uR := Tryd.hasUnwrapR
  have mR := Tryd.mUnwrapR
  have tOS := Tryd.asTypeOfS
  have aTS := Tryd.assignSS
  have mA := Tryd.methodAssignableTo
  have f6 := Tryd.valueOfS2
  have f7 := Tryd.typeS2
  have mK := Tryd.methodKind
  have mE := Tryd.methodElem
  have mI := Tryd.methodImplements
  have k27 := Tryd.kindS2
  have k25 := Tryd.kindS
  have e27 := Tryd.elemS2
  have i25 := Tryd.implementsS
  have n8 := Tryd.isNilS2 ⟨w.heap.size, 0, none⟩ ⟨tb, 0, none⟩ ((w.alloc (.cells #[.pointer (some ⟨tb, 0, none⟩)] 130)).alloc (.cells #[.pointer (some ⟨25, 130, none⟩), .pointer (some ⟨w.heap.size, 0, none⟩), .int .u64 150] 148)) (by simp)
  have HT := Lib.hid ht
  have ht0 : w.cell? ⟨tb, 0, none⟩ = some (.pointer none) := cell_of ht rfl
  have hf0 : w.frozen? ⟨tb, 0, none⟩ = false := free_of ht 0
  have htl : tb < w.heap.size := lt_of_heap ht
  have hlt : 10 < w.heap.size := Nat.lt_of_lt_of_le hg.low hg.size
  have hg2 : ((w.alloc (.cells #[.pointer (some ⟨tb, 0, none⟩)] 130)).alloc (.cells #[.pointer (some ⟨25, 130, none⟩), .pointer (some ⟨w.heap.size, 0, none⟩), .int .u64 150] 148)).cell? ⟨10, 0, none⟩ = some (.iface 165 (.agg #[.pointer (some ⟨25, 26, none⟩)])) := by
    rw [World.cell?_alloc_lt _ _ ⟨10, 0, none⟩ (by simp; omega), World.cell?_alloc_lt _ _ ⟨10, 0, none⟩ hlt]; exact hg.cell
  have l0 : x0 < w.heap.size := World.block_lt_of_cell? _ _ c0
  have d0 : (((w.alloc (.cells #[.pointer (some ⟨tb, 0, none⟩)] 130)).alloc (.cells #[.pointer (some ⟨25, 130, none⟩), .pointer (some ⟨w.heap.size, 0, none⟩), .int .u64 150] 148)).alloc (.cells #[.pointer (some ⟨25, 130, none⟩), .pointer (some ⟨w.heap.size, 0, none⟩), .int .u64 150] 148)).cell? ⟨x0, 0, none⟩ = some (.iface 129 (.pointer (some ⟨x1, 0, none⟩))) := (below_trans (below_two w _ _) (below_alloc _ _)).cell (p := ⟨x0, 0, none⟩) l0 |>.trans c0
  have l1 : x1 < w.heap.size := World.block_lt_of_cell? _ _ c1
  have d1 : (((w.alloc (.cells #[.pointer (some ⟨tb, 0, none⟩)] 130)).alloc (.cells #[.pointer (some ⟨25, 130, none⟩), .pointer (some ⟨w.heap.size, 0, none⟩), .int .u64 150] 148)).alloc (.cells #[.pointer (some ⟨25, 130, none⟩), .pointer (some ⟨w.heap.size, 0, none⟩), .int .u64 150] 148)).cell? ⟨x1, 0, none⟩ = some (.iface 125 (.pointer (some ⟨x2, 0, none⟩))) := (below_trans (below_two w _ _) (below_alloc _ _)).cell (p := ⟨x1, 0, none⟩) l1 |>.trans c1
  have v25 := Tryd.valueOfS
  have el := Tryd.elemVS2 ⟨w.heap.size, 0, none⟩ ⟨tb, 0, none⟩ (((w.alloc (.cells #[.pointer (some ⟨tb, 0, none⟩)] 130)).alloc (.cells #[.pointer (some ⟨25, 130, none⟩), .pointer (some ⟨w.heap.size, 0, none⟩), .int .u64 150] 148)).alloc (.cells #[.pointer (some ⟨25, 130, none⟩), .pointer (some ⟨w.heap.size, 0, none⟩), .int .u64 150] 148)) (by rw [World.cell?_alloc_lt _ _ ⟨w.heap.size, 0, none⟩ (by simp; omega)]; simp)
  have st := Tryd.setS ⟨tb, 0, none⟩ ⟨w.heap.size + 1 + 1 + 1, 0, none⟩ ⟨x1, 0, none⟩ (.pointer none) ((((w.alloc (.cells #[.pointer (some ⟨tb, 0, none⟩)] 130)).alloc (.cells #[.pointer (some ⟨25, 130, none⟩), .pointer (some ⟨w.heap.size, 0, none⟩), .int .u64 150] 148)).alloc (.cells #[.pointer (some ⟨25, 130, none⟩), .pointer (some ⟨w.heap.size, 0, none⟩), .int .u64 150] 148)).alloc (.cells #[.pointer (some ⟨x1, 0, none⟩)] 129))
    (by rw [World.cell?_alloc_at _ _ _ _ (by simp)]; rfl)
    (by rw [World.cell?_alloc_lt _ _ ⟨tb, 0, none⟩ (by simp; omega), World.cell?_alloc_lt _ _ ⟨tb, 0, none⟩ (by simp; omega), World.cell?_alloc_lt _ _ ⟨tb, 0, none⟩ (by simp; omega), World.cell?_alloc_lt _ _ ⟨tb, 0, none⟩ htl]; exact ht0)
    (by rw [World.frozen?_alloc_old _ _ ⟨tb, 0, none⟩ (by simp; omega), World.frozen?_alloc_old _ _ ⟨tb, 0, none⟩ (by simp; omega), World.frozen?_alloc_old _ _ ⟨tb, 0, none⟩ (by simp; omega), World.frozen?_alloc_old _ _ ⟨tb, 0, none⟩ (Nat.ne_of_lt htl)]; exact hf0)
  clear hg ht
  go_enter Tryd.func58, Tryd.ntmps58
  go_wp2
  refine wp_loop_rounds 2 ?_
  rw [rounds_succ]
  go_wp2
  rw [rounds_succ]
  go_wp2
  go_ret
  exact as_made HT.out _ _ _ _ _

set_option maxRecDepth 1000000 in
set_option maxHeartbeats 4000000 in
theorem as_refused {B : Nat} (x0 x1 : Nat) (tb : Nat) (w : World) (hg : Ety B w) (ht : w.heap[tb]? = some (.cells #[.pointer none] 116 (0, 0))) (c0 : w.cell? ⟨x0, 0, none⟩ = some (.iface 129 (.pointer (some ⟨x1, 0, none⟩)))) :
    Calls Tryd.prog 58 #[.iface 116 (.pointer (some ⟨x0, 0, none⟩)), .iface 123 (.pointer (some ⟨tb, 0, none⟩))] w fun e w' => AsHit w tb 116 x0 e w' := by
  have h6 := @run_callFunc_extern Tryd.prog 69 _ (fun args => ReflectliteValue.unpack (args.getD 0 (.tuple #[]))) Tryd.func69 (by kernel_rfl) (by kernel_rfl) (by kernel_rfl) (by kernel_rfl)
  have h7 := @run_callFunc_extern Tryd.prog 70 _ (ReflectliteValue.methodAny (ReflectliteValue.valueError "reflectlite.Value.Type" 0) (fun t _ _ _ => ReflectliteType.toType t)) Tryd.func70 (by kernel_rfl) (by kernel_rfl) (by kernel_rfl) (by kernel_rfl)
  have h8 := @run_callFunc_extern Tryd.prog 71 _ (ReflectliteValue.method (ReflectliteValue.valueError "reflectlite.Value.IsNil" 0) ReflectliteValue.isNil) Tryd.func71 (by kernel_rfl) (by kernel_rfl) (by kernel_rfl) (by kernel_rfl)
  have h27 := @run_callFunc_extern Tryd.prog 132 _ (ReflectliteType.abiMethod fun t => do pure (.int .u8 (← Rtype.kind t))) Tryd.func132 (by kernel_rfl) (by kernel_rfl) (by kernel_rfl) (by kernel_rfl)
  have h37 := @run_callFunc_extern Tryd.prog 157 _ (ReflectliteType.method ReflectliteType.elem) Tryd.func157 (by kernel_rfl) (by kernel_rfl) (by kernel_rfl) (by kernel_rfl)
  have h38 := @run_callFunc_extern Tryd.prog 158 _ (ReflectliteType.relation "Implements" ReflectliteType.implements_) Tryd.func158 (by kernel_rfl) (by kernel_rfl) (by kernel_rfl) (by kernel_rfl)
  have h10 := @run_callFunc_extern Tryd.prog 83 _ ReflectliteType.typeOf Tryd.func83 (by kernel_rfl) (by kernel_rfl) (by kernel_rfl) (by kernel_rfl)
  have h35 := @run_callFunc_extern Tryd.prog 155 _ (ReflectliteType.relation "AssignableTo" ReflectliteType.assignableTo) Tryd.func155 (by kernel_rfl) (by kernel_rfl) (by kernel_rfl) (by kernel_rfl)
  have h11 := @run_callFunc_extern Tryd.prog 84 _ (ReflectliteValue.method (ReflectliteValue.valueError "reflectlite.Value.Elem" 0) ReflectliteValue.elem) Tryd.func84 (by kernel_rfl) (by kernel_rfl) (by kernel_rfl) (by kernel_rfl)
  have h12 := @run_callFunc_extern Tryd.prog 85 _ ReflectliteValue.set Tryd.func85 (by kernel_rfl) (by kernel_rfl) (by kernel_rfl) (by kernel_rfl)
  have tOR := Tryd.asTypeOfR
  have aTR := Tryd.assignRR
  have mA := Tryd.methodAssignableTo
  have f6 := Tryd.valueOfR2
  have f7 := Tryd.typeR2
  have mK := Tryd.methodKind
  have mE := Tryd.methodElem
  have mI := Tryd.methodImplements
  have k27 := Tryd.kindR2
  have k25 := Tryd.kindR
  have e27 := Tryd.elemR2
  have i25 := Tryd.implementsR
  have n8 := Tryd.isNilR2 ⟨w.heap.size, 0, none⟩ ⟨tb, 0, none⟩ ((w.alloc (.cells #[.pointer (some ⟨tb, 0, none⟩)] 123)).alloc (.cells #[.pointer (some ⟨25, 123, none⟩), .pointer (some ⟨w.heap.size, 0, none⟩), .int .u64 150] 148)) (by simp)
  have HT := Lib.hid ht
  have ht0 : w.cell? ⟨tb, 0, none⟩ = some (.pointer none) := cell_of ht rfl
  have hf0 : w.frozen? ⟨tb, 0, none⟩ = false := free_of ht 0
  have htl : tb < w.heap.size := lt_of_heap ht
  have hlt : 10 < w.heap.size := Nat.lt_of_lt_of_le hg.low hg.size
  have hg2 : ((w.alloc (.cells #[.pointer (some ⟨tb, 0, none⟩)] 123)).alloc (.cells #[.pointer (some ⟨25, 123, none⟩), .pointer (some ⟨w.heap.size, 0, none⟩), .int .u64 150] 148)).cell? ⟨10, 0, none⟩ = some (.iface 165 (.agg #[.pointer (some ⟨25, 26, none⟩)])) := by
    rw [World.cell?_alloc_lt _ _ ⟨10, 0, none⟩ (by simp; omega), World.cell?_alloc_lt _ _ ⟨10, 0, none⟩ hlt]; exact hg.cell
  have l0 : x0 < w.heap.size := World.block_lt_of_cell? _ _ c0
  have d0 : (((w.alloc (.cells #[.pointer (some ⟨tb, 0, none⟩)] 123)).alloc (.cells #[.pointer (some ⟨25, 123, none⟩), .pointer (some ⟨w.heap.size, 0, none⟩), .int .u64 150] 148)).alloc (.cells #[.pointer (some ⟨25, 123, none⟩), .pointer (some ⟨w.heap.size, 0, none⟩), .int .u64 150] 148)).cell? ⟨x0, 0, none⟩ = some (.iface 129 (.pointer (some ⟨x1, 0, none⟩))) := (below_trans (below_two w _ _) (below_alloc _ _)).cell (p := ⟨x0, 0, none⟩) l0 |>.trans c0
  have v25 := Tryd.valueOfR
  have el := Tryd.elemVR2 ⟨w.heap.size, 0, none⟩ ⟨tb, 0, none⟩ (((w.alloc (.cells #[.pointer (some ⟨tb, 0, none⟩)] 123)).alloc (.cells #[.pointer (some ⟨25, 123, none⟩), .pointer (some ⟨w.heap.size, 0, none⟩), .int .u64 150] 148)).alloc (.cells #[.pointer (some ⟨25, 123, none⟩), .pointer (some ⟨w.heap.size, 0, none⟩), .int .u64 150] 148)) (by rw [World.cell?_alloc_lt _ _ ⟨w.heap.size, 0, none⟩ (by simp; omega)]; simp)
  have st := Tryd.setR ⟨tb, 0, none⟩ ⟨w.heap.size + 1 + 1 + 1, 0, none⟩ ⟨x0, 0, none⟩ (.pointer none) ((((w.alloc (.cells #[.pointer (some ⟨tb, 0, none⟩)] 123)).alloc (.cells #[.pointer (some ⟨25, 123, none⟩), .pointer (some ⟨w.heap.size, 0, none⟩), .int .u64 150] 148)).alloc (.cells #[.pointer (some ⟨25, 123, none⟩), .pointer (some ⟨w.heap.size, 0, none⟩), .int .u64 150] 148)).alloc (.cells #[.pointer (some ⟨x0, 0, none⟩)] 116))
    (by rw [World.cell?_alloc_at _ _ _ _ (by simp)]; rfl)
    (by rw [World.cell?_alloc_lt _ _ ⟨tb, 0, none⟩ (by simp; omega), World.cell?_alloc_lt _ _ ⟨tb, 0, none⟩ (by simp; omega), World.cell?_alloc_lt _ _ ⟨tb, 0, none⟩ (by simp; omega), World.cell?_alloc_lt _ _ ⟨tb, 0, none⟩ htl]; exact ht0)
    (by rw [World.frozen?_alloc_old _ _ ⟨tb, 0, none⟩ (by simp; omega), World.frozen?_alloc_old _ _ ⟨tb, 0, none⟩ (by simp; omega), World.frozen?_alloc_old _ _ ⟨tb, 0, none⟩ (by simp; omega), World.frozen?_alloc_old _ _ ⟨tb, 0, none⟩ (Nat.ne_of_lt htl)]; exact hf0)
  clear hg ht
  go_enter Tryd.func58, Tryd.ntmps58
  go_wp2
  refine wp_loop_rounds 1 ?_
  rw [rounds_succ]
  go_wp2
  go_ret
  exact as_made HT.out _ _ _ _ _

set_option maxRecDepth 1000000 in
set_option maxHeartbeats 4000000 in
theorem as_refused_no {B : Nat} (a : Addr) (x0 x1 : Nat) (tb : Nat) (w : World) (hg : Ety B w) (ht : w.heap[tb]? = some (.cells #[.pointer none] 116 (0, 0))) (c0 : w.cell? ⟨x0, 0, none⟩ = some (.iface 125 (.pointer (some ⟨x1, 0, none⟩)))) (c1 : w.cell? ⟨x1, 0, none⟩ = some (.iface 217 (.pointer (some a)))) :
    Calls Tryd.prog 58 #[.iface 129 (.pointer (some ⟨x0, 0, none⟩)), .iface 123 (.pointer (some ⟨tb, 0, none⟩))] w fun e w' => AsNo w e w' := by
  have h6 := @run_callFunc_extern Tryd.prog 69 _ (fun args => ReflectliteValue.unpack (args.getD 0 (.tuple #[]))) Tryd.func69 (by kernel_rfl) (by kernel_rfl) (by kernel_rfl) (by kernel_rfl)
  have h7 := @run_callFunc_extern Tryd.prog 70 _ (ReflectliteValue.methodAny (ReflectliteValue.valueError "reflectlite.Value.Type" 0) (fun t _ _ _ => ReflectliteType.toType t)) Tryd.func70 (by kernel_rfl) (by kernel_rfl) (by kernel_rfl) (by kernel_rfl)
  have h8 := @run_callFunc_extern Tryd.prog 71 _ (ReflectliteValue.method (ReflectliteValue.valueError "reflectlite.Value.IsNil" 0) ReflectliteValue.isNil) Tryd.func71 (by kernel_rfl) (by kernel_rfl) (by kernel_rfl) (by kernel_rfl)
  have h27 := @run_callFunc_extern Tryd.prog 132 _ (ReflectliteType.abiMethod fun t => do pure (.int .u8 (← Rtype.kind t))) Tryd.func132 (by kernel_rfl) (by kernel_rfl) (by kernel_rfl) (by kernel_rfl)
  have h37 := @run_callFunc_extern Tryd.prog 157 _ (ReflectliteType.method ReflectliteType.elem) Tryd.func157 (by kernel_rfl) (by kernel_rfl) (by kernel_rfl) (by kernel_rfl)
  have h38 := @run_callFunc_extern Tryd.prog 158 _ (ReflectliteType.relation "Implements" ReflectliteType.implements_) Tryd.func158 (by kernel_rfl) (by kernel_rfl) (by kernel_rfl) (by kernel_rfl)
  have h10 := @run_callFunc_extern Tryd.prog 83 _ ReflectliteType.typeOf Tryd.func83 (by kernel_rfl) (by kernel_rfl) (by kernel_rfl) (by kernel_rfl)
  have h35 := @run_callFunc_extern Tryd.prog 155 _ (ReflectliteType.relation "AssignableTo" ReflectliteType.assignableTo) Tryd.func155 (by kernel_rfl) (by kernel_rfl) (by kernel_rfl) (by kernel_rfl)
  have h11 := @run_callFunc_extern Tryd.prog 84 _ (ReflectliteValue.method (ReflectliteValue.valueError "reflectlite.Value.Elem" 0) ReflectliteValue.elem) Tryd.func84 (by kernel_rfl) (by kernel_rfl) (by kernel_rfl) (by kernel_rfl)
  have h12 := @run_callFunc_extern Tryd.prog 85 _ ReflectliteValue.set Tryd.func85 (by kernel_rfl) (by kernel_rfl) (by kernel_rfl) (by kernel_rfl)
  have tOE := Tryd.asTypeOfE
  have aTE := Tryd.assignER
  have nAE := Tryd.noAsE
  have uE := Tryd.noUnwrapE
  have vE := Tryd.noUnwrapsE
  have tOP := Tryd.asTypeOfP
  have aTP := Tryd.assignPR
  have nAP := Tryd.noAsP
  have uP := Tryd.hasUnwrapP
  have mP := Tryd.mUnwrapP
  have tOS := Tryd.asTypeOfS
  have aTS := Tryd.assignSR
  have nAS := Tryd.noAsS
  have uS := Tryd.hasUnwrapS
  have mS := Tryd.mUnwrapS
  have mA := Tryd.methodAssignableTo
  have f6 := Tryd.valueOfR2
  have f7 := Tryd.typeR2
  have mK := Tryd.methodKind
  have mE := Tryd.methodElem
  have mI := Tryd.methodImplements
  have k27 := Tryd.kindR2
  have k25 := Tryd.kindR
  have e27 := Tryd.elemR2
  have i25 := Tryd.implementsR
  have n8 := Tryd.isNilR2 ⟨w.heap.size, 0, none⟩ ⟨tb, 0, none⟩ ((w.alloc (.cells #[.pointer (some ⟨tb, 0, none⟩)] 123)).alloc (.cells #[.pointer (some ⟨25, 123, none⟩), .pointer (some ⟨w.heap.size, 0, none⟩), .int .u64 150] 148)) (by simp)
  have HT := Lib.hid ht
  have ht0 : w.cell? ⟨tb, 0, none⟩ = some (.pointer none) := cell_of ht rfl
  have hf0 : w.frozen? ⟨tb, 0, none⟩ = false := free_of ht 0
  have htl : tb < w.heap.size := lt_of_heap ht
  have hlt : 10 < w.heap.size := Nat.lt_of_lt_of_le hg.low hg.size
  have hg2 : ((w.alloc (.cells #[.pointer (some ⟨tb, 0, none⟩)] 123)).alloc (.cells #[.pointer (some ⟨25, 123, none⟩), .pointer (some ⟨w.heap.size, 0, none⟩), .int .u64 150] 148)).cell? ⟨10, 0, none⟩ = some (.iface 165 (.agg #[.pointer (some ⟨25, 26, none⟩)])) := by
    rw [World.cell?_alloc_lt _ _ ⟨10, 0, none⟩ (by simp; omega), World.cell?_alloc_lt _ _ ⟨10, 0, none⟩ hlt]; exact hg.cell
  have l0 : x0 < w.heap.size := World.block_lt_of_cell? _ _ c0
  have d0 : (((w.alloc (.cells #[.pointer (some ⟨tb, 0, none⟩)] 123)).alloc (.cells #[.pointer (some ⟨25, 123, none⟩), .pointer (some ⟨w.heap.size, 0, none⟩), .int .u64 150] 148)).alloc (.cells #[.pointer (some ⟨25, 123, none⟩), .pointer (some ⟨w.heap.size, 0, none⟩), .int .u64 150] 148)).cell? ⟨x0, 0, none⟩ = some (.iface 125 (.pointer (some ⟨x1, 0, none⟩))) := (below_trans (below_two w _ _) (below_alloc _ _)).cell (p := ⟨x0, 0, none⟩) l0 |>.trans c0
  have l1 : x1 < w.heap.size := World.block_lt_of_cell? _ _ c1
  have d1 : (((w.alloc (.cells #[.pointer (some ⟨tb, 0, none⟩)] 123)).alloc (.cells #[.pointer (some ⟨25, 123, none⟩), .pointer (some ⟨w.heap.size, 0, none⟩), .int .u64 150] 148)).alloc (.cells #[.pointer (some ⟨25, 123, none⟩), .pointer (some ⟨w.heap.size, 0, none⟩), .int .u64 150] 148)).cell? ⟨x1, 0, none⟩ = some (.iface 217 (.pointer (some a))) := (below_trans (below_two w _ _) (below_alloc _ _)).cell (p := ⟨x1, 0, none⟩) l1 |>.trans c1
  clear hg ht
  go_enter Tryd.func58, Tryd.ntmps58
  go_wp2
  refine wp_loop_rounds 3 ?_
  rw [rounds_succ]
  go_wp2
  rw [rounds_succ]
  go_wp2
  rw [rounds_succ]
  go_wp2
  go_ret
  exact ⟨rfl, below_trans (below_two w _ _) (below_alloc _ _)⟩

end Go.Proofs.YtiejfbkbjahcgaaDoor
