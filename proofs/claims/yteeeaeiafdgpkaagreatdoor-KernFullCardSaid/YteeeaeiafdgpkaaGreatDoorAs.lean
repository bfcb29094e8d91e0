/-
 errors.As AT THIS PROGRAM's TARGETS, over its chains of errors. (Written by wip/gen/gen_as.py.)
-/
import Derived.Test.YteeeaeiafdgpkaaGreatDoorErrs
namespace Go.Proofs.YteeeaeiafdgpkaaGreatDoor
open Go Go.RowKit Go.Extern.Stop Go.Stop Go.Extern
open Go.Lib (hid)
theorem asX1 (a : Array Value) (w : World) : (callFunc 81 a).run Tryz.prog w = ((ReflectliteValue.unpack (a.getD 0 (.tuple #[]))).run Tryz.prog w).andThen fun v w' => .ok (.value v) w' := run_callFunc_extern (e := fun args => ReflectliteValue.unpack (args.getD 0 (.tuple #[]))) Tryz.func81 (by kernel_rfl) (by kernel_rfl) (by kernel_rfl) (by kernel_rfl) a w
theorem asX2 (a : Array Value) (w : World) : (callFunc 82 a).run Tryz.prog w = ((ReflectliteValue.methodAny (ReflectliteValue.valueError "reflectlite.Value.Type" 0) (fun t _ _ _ => ReflectliteType.toType t) a).run Tryz.prog w).andThen fun v w' => .ok (.value v) w' := run_callFunc_extern Tryz.func82 (by kernel_rfl) (by kernel_rfl) (by kernel_rfl) (by kernel_rfl) a w
theorem asX3 (a : Array Value) (w : World) : (callFunc 83 a).run Tryz.prog w = ((ReflectliteValue.method (ReflectliteValue.valueError "reflectlite.Value.IsNil" 0) ReflectliteValue.isNil a).run Tryz.prog w).andThen fun v w' => .ok (.value v) w' := run_callFunc_extern Tryz.func83 (by kernel_rfl) (by kernel_rfl) (by kernel_rfl) (by kernel_rfl) a w
theorem asX4 (a : Array Value) (w : World) : (callFunc 167 a).run Tryz.prog w = (((ReflectliteType.abiMethod fun t => do pure (.int .u8 (← Rtype.kind t))) a).run Tryz.prog w).andThen fun v w' => .ok (.value v) w' := run_callFunc_extern Tryz.func167 (by kernel_rfl) (by kernel_rfl) (by kernel_rfl) (by kernel_rfl) a w
theorem asX5 (a : Array Value) (w : World) : (callFunc 193 a).run Tryz.prog w = ((ReflectliteType.method ReflectliteType.elem a).run Tryz.prog w).andThen fun v w' => .ok (.value v) w' := run_callFunc_extern Tryz.func193 (by kernel_rfl) (by kernel_rfl) (by kernel_rfl) (by kernel_rfl) a w
theorem asX6 (a : Array Value) (w : World) : (callFunc 194 a).run Tryz.prog w = ((ReflectliteType.relation "Implements" ReflectliteType.implements_ a).run Tryz.prog w).andThen fun v w' => .ok (.value v) w' := run_callFunc_extern Tryz.func194 (by kernel_rfl) (by kernel_rfl) (by kernel_rfl) (by kernel_rfl) a w
theorem asX7 (a : Array Value) (w : World) : (callFunc 102 a).run Tryz.prog w = ((ReflectliteType.typeOf a).run Tryz.prog w).andThen fun v w' => .ok (.value v) w' := run_callFunc_extern Tryz.func102 (by kernel_rfl) (by kernel_rfl) (by kernel_rfl) (by kernel_rfl) a w
theorem asX8 (a : Array Value) (w : World) : (callFunc 191 a).run Tryz.prog w = ((ReflectliteType.relation "AssignableTo" ReflectliteType.assignableTo a).run Tryz.prog w).andThen fun v w' => .ok (.value v) w' := run_callFunc_extern Tryz.func191 (by kernel_rfl) (by kernel_rfl) (by kernel_rfl) (by kernel_rfl) a w
theorem asX9 (a : Array Value) (w : World) : (callFunc 104 a).run Tryz.prog w = ((ReflectliteValue.method (ReflectliteValue.valueError "reflectlite.Value.Elem" 0) ReflectliteValue.elem a).run Tryz.prog w).andThen fun v w' => .ok (.value v) w' := run_callFunc_extern Tryz.func104 (by kernel_rfl) (by kernel_rfl) (by kernel_rfl) (by kernel_rfl) a w
theorem asX10 (a : Array Value) (w : World) : (callFunc 105 a).run Tryz.prog w = ((ReflectliteValue.set a).run Tryz.prog w).andThen fun v w' => .ok (.value v) w' := run_callFunc_extern Tryz.func105 (by kernel_rfl) (by kernel_rfl) (by kernel_rfl) (by kernel_rfl) a w
theorem Tryz.asTypeOfE (v : Value) (w : World) : (ReflectliteType.typeOf #[.iface 265 v]).run Tryz.prog w = .ok (.iface 208 (.agg #[.pointer (some ⟨28, 265, none⟩)])) w := by kernel_rfl
theorem Tryz.noAsE (v : Value) (xT : TypeId) (w : World) : (Instr.typeAssert (.iface 265 v) xT 212 true).run Tryz.prog w = .ok (.tuple #[.nilIface, .bool false]) w := run_typeAssert_lacksB Tryz.underlying212 (by kernel_rfl) (by kernel_rfl) v xT w
theorem Tryz.assignER (w : World) : (ReflectliteType.relation "AssignableTo" ReflectliteType.assignableTo #[.agg #[.pointer (some ⟨28, 265, none⟩)], .iface 208 (.agg #[.pointer (some ⟨28, 160, none⟩)])]).run Tryz.prog w = .ok (.bool false) w := by kernel_rfl
theorem Tryz.asTypeOfP (v : Value) (w : World) : (ReflectliteType.typeOf #[.iface 127 v]).run Tryz.prog w = .ok (.iface 208 (.agg #[.pointer (some ⟨28, 127, none⟩)])) w := by kernel_rfl
theorem Tryz.noAsP (v : Value) (xT : TypeId) (w : World) : (Instr.typeAssert (.iface 127 v) xT 212 true).run Tryz.prog w = .ok (.tuple #[.nilIface, .bool false]) w := run_typeAssert_lacksB Tryz.underlying212 (by kernel_rfl) (by kernel_rfl) v xT w
theorem Tryz.assignPP (w : World) : (ReflectliteType.relation "AssignableTo" ReflectliteType.assignableTo #[.agg #[.pointer (some ⟨28, 127, none⟩)], .iface 208 (.agg #[.pointer (some ⟨28, 127, none⟩)])]).run Tryz.prog w = .ok (.bool true) w := by kernel_rfl
theorem Tryz.assignPR (w : World) : (ReflectliteType.relation "AssignableTo" ReflectliteType.assignableTo #[.agg #[.pointer (some ⟨28, 127, none⟩)], .iface 208 (.agg #[.pointer (some ⟨28, 160, none⟩)])]).run Tryz.prog w = .ok (.bool false) w := by kernel_rfl
theorem Tryz.asTypeOfS (v : Value) (w : World) : (ReflectliteType.typeOf #[.iface 132 v]).run Tryz.prog w = .ok (.iface 208 (.agg #[.pointer (some ⟨28, 132, none⟩)])) w := by kernel_rfl
theorem Tryz.noAsS (v : Value) (xT : TypeId) (w : World) : (Instr.typeAssert (.iface 132 v) xT 212 true).run Tryz.prog w = .ok (.tuple #[.nilIface, .bool false]) w := run_typeAssert_lacksB Tryz.underlying212 (by kernel_rfl) (by kernel_rfl) v xT w
theorem Tryz.assignSP (w : World) : (ReflectliteType.relation "AssignableTo" ReflectliteType.assignableTo #[.agg #[.pointer (some ⟨28, 132, none⟩)], .iface 208 (.agg #[.pointer (some ⟨28, 127, none⟩)])]).run Tryz.prog w = .ok (.bool false) w := by kernel_rfl
theorem Tryz.assignSS (w : World) : (ReflectliteType.relation "AssignableTo" ReflectliteType.assignableTo #[.agg #[.pointer (some ⟨28, 132, none⟩)], .iface 208 (.agg #[.pointer (some ⟨28, 132, none⟩)])]).run Tryz.prog w = .ok (.bool true) w := by kernel_rfl
theorem Tryz.assignSR (w : World) : (ReflectliteType.relation "AssignableTo" ReflectliteType.assignableTo #[.agg #[.pointer (some ⟨28, 132, none⟩)], .iface 208 (.agg #[.pointer (some ⟨28, 160, none⟩)])]).run Tryz.prog w = .ok (.bool false) w := by kernel_rfl
theorem Tryz.asTypeOfR (v : Value) (w : World) : (ReflectliteType.typeOf #[.iface 160 v]).run Tryz.prog w = .ok (.iface 208 (.agg #[.pointer (some ⟨28, 160, none⟩)])) w := by kernel_rfl
theorem Tryz.noAsR (v : Value) (xT : TypeId) (w : World) : (Instr.typeAssert (.iface 160 v) xT 212 true).run Tryz.prog w = .ok (.tuple #[.nilIface, .bool false]) w := run_typeAssert_lacksB Tryz.underlying212 (by kernel_rfl) (by kernel_rfl) v xT w
theorem Tryz.assignRP (w : World) : (ReflectliteType.relation "AssignableTo" ReflectliteType.assignableTo #[.agg #[.pointer (some ⟨28, 160, none⟩)], .iface 208 (.agg #[.pointer (some ⟨28, 127, none⟩)])]).run Tryz.prog w = .ok (.bool false) w := by kernel_rfl
theorem Tryz.assignRS (w : World) : (ReflectliteType.relation "AssignableTo" ReflectliteType.assignableTo #[.agg #[.pointer (some ⟨28, 160, none⟩)], .iface 208 (.agg #[.pointer (some ⟨28, 132, none⟩)])]).run Tryz.prog w = .ok (.bool false) w := by kernel_rfl
theorem Tryz.assignRR (w : World) : (ReflectliteType.relation "AssignableTo" ReflectliteType.assignableTo #[.agg #[.pointer (some ⟨28, 160, none⟩)], .iface 208 (.agg #[.pointer (some ⟨28, 160, none⟩)])]).run Tryz.prog w = .ok (.bool true) w := by kernel_rfl
theorem Tryz.methodKind (h : Value) (w : World) : (Go.method 396 208 (.agg #[h]) "Kind").run Tryz.prog w = .ok (167, h) w := by kernel_rfl
theorem Tryz.methodElem (h : Value) (w : World) : (Go.method 396 208 (.agg #[h]) "Elem").run Tryz.prog w = .ok (193, .agg #[h]) w := by kernel_rfl
theorem Tryz.methodImplements (h : Value) (w : World) : (Go.method 396 208 (.agg #[h]) "Implements").run Tryz.prog w = .ok (194, .agg #[h]) w := by kernel_rfl
theorem Tryz.methodAssignableTo (h : Value) (w : World) : (Go.method 396 208 (.agg #[h]) "AssignableTo").run Tryz.prog w = .ok (191, .agg #[h]) w := by kernel_rfl
theorem rlm (z : Sem Value) (f : TypeId → Addr → Nat → Nat → Sem Value) (v : Value) :
  ReflectliteValue.method z f #[v] = (do match ← ReflectliteValue.parts v with | none => z | some (t, a, fl) => f t a fl (fl % 32)) := rfl
theorem rls (v x : Value) : ReflectliteValue.set #[v, x] = (do
  let (some (dst, a, fl), some (src, b, _)) := (← ReflectliteValue.parts v, ← ReflectliteValue.parts x)
   | unsupported (.noEntry "extern/(internal/reflectlite.Value).Set.zeroValue")
  if fl / ReflectliteValue.flagAddr % 2 == 0 then unsupported (.noEntry "extern/(internal/reflectlite.Value).Set.unaddressable")
  let val ← loadVar src b
  if ← Rtype.directlyAssignable dst src then storeVar dst a val
  else if ← Rtype.implements dst src then
   if (← Rtype.kind src) == 20 then
    match val with
    | .nilIface => unsupported (.noEntry "extern/reflectlite: a nil value of one interface type handed on as a value of another")
    | _ => storeVar dst a val
   else storeVar dst a (.iface src val)
  else panicString ("reflectlite.Set: value of type " ++ (← Rtype.spelt src) ++ " is not assignable to type " ++ (← Rtype.spelt dst))
  pure (.tuple #[])) := rfl
theorem Tryz.valueOfP2 (t : Addr) (w : World) : (ReflectliteValue.unpack (.iface 129 (.pointer (some t)))).run Tryz.prog w
  = .ok (.agg #[.pointer (some ⟨28, 129, none⟩), .pointer (some ⟨w.heap.size, 0, none⟩), .int .u64 150]) (w.alloc (.cells #[.pointer (some t)] 129)) := by kernel_rfl
theorem Tryz.typeP2 (a : Addr) (w : World) : (ReflectliteValue.methodAny (ReflectliteValue.valueError "reflectlite.Value.Type" 0) (fun t _ _ _ => ReflectliteType.toType t) #[.agg #[.pointer (some ⟨28, 129, none⟩), .pointer (some a), .int .u64 150]]).run Tryz.prog w
  = .ok (.iface 208 (.agg #[.pointer (some ⟨28, 129, none⟩)])) w := by kernel_rfl
theorem Tryz.kindP2 (w : World) : ((ReflectliteType.abiMethod fun t => (fun a : Nat => Value.int IntKind.u8 (a : Int)) <$> Rtype.kind t) #[.pointer (some ⟨28, 129, none⟩)]).run Tryz.prog w = .ok (.int .u8 22) w := by kernel_rfl
theorem Tryz.kindP (w : World) : ((ReflectliteType.abiMethod fun t => (fun a : Nat => Value.int IntKind.u8 (a : Int)) <$> Rtype.kind t) #[.pointer (some ⟨28, 127, none⟩)]).run Tryz.prog w = .ok (.int .u8 22) w := by kernel_rfl
theorem Tryz.partsP2 (a : Addr) (w : World) : (ReflectliteValue.parts (.agg #[.pointer (some ⟨28, 129, none⟩), .pointer (some a), .int .u64 150])).run Tryz.prog w = .ok (some (129, a, 150)) w := by kernel_rfl
theorem Tryz.isNilP2 (a p : Addr) (W : World) (ha : W.cell? a = some (.pointer (some p))) :
  (ReflectliteValue.method (ReflectliteValue.valueError "reflectlite.Value.IsNil" 0) ReflectliteValue.isNil #[.agg #[.pointer (some ⟨28, 129, none⟩), .pointer (some a), .int .u64 150]]).run Tryz.prog W = .ok (.bool false) W := by
 rw [rlm]
 simp only [Sem.run_bind, Tryz.partsP2, Result.andThen]
 simp [ReflectliteValue.isNil, loadVar, isAgg, underlying, Tryz.underlying129, ha, Result.andThen]
theorem Tryz.elemP2 (w : World) : (ReflectliteType.method ReflectliteType.elem #[.agg #[.pointer (some ⟨28, 129, none⟩)]]).run Tryz.prog w = .ok (.iface 208 (.agg #[.pointer (some ⟨28, 127, none⟩)])) w := by kernel_rfl
theorem Tryz.implementsP (w : World) : (ReflectliteType.relation "Implements" ReflectliteType.implements_ #[.agg #[.pointer (some ⟨28, 127, none⟩)], .iface 208 (.agg #[.pointer (some ⟨28, 75, none⟩)])]).run Tryz.prog w = .ok (.bool true) w := by kernel_rfl
theorem Tryz.valueOfP (e : Addr) (w : World) : (ReflectliteValue.unpack (.iface 127 (.pointer (some e)))).run Tryz.prog w
  = .ok (.agg #[.pointer (some ⟨28, 127, none⟩), .pointer (some ⟨w.heap.size, 0, none⟩), .int .u64 150]) (w.alloc (.cells #[.pointer (some e)] 127)) := by kernel_rfl
theorem Tryz.elemOfP2 (w : World) : (Rtype.elem? 129).run Tryz.prog w = .ok (some 127) w := by kernel_rfl
theorem Tryz.mkP (p : Addr) (w : World) : (ReflectliteValue.mk 127 p ReflectliteValue.flagAddr).run Tryz.prog w = .ok (.agg #[.pointer (some ⟨28, 127, none⟩), .pointer (some p), .int .u64 406]) w := by kernel_rfl
theorem Tryz.elemVP2 (a p : Addr) (W : World) (ha : W.cell? a = some (.pointer (some p))) :
  (ReflectliteValue.method (ReflectliteValue.valueError "reflectlite.Value.Elem" 0) ReflectliteValue.elem #[.agg #[.pointer (some ⟨28, 129, none⟩), .pointer (some a), .int .u64 150]]).run Tryz.prog W
   = .ok (.agg #[.pointer (some ⟨28, 127, none⟩), .pointer (some p), .int .u64 406]) W := by
 rw [rlm]
 simp only [Sem.run_bind, Tryz.partsP2, Result.andThen]
 simp [ReflectliteValue.elem, loadVar, isAgg, underlying, Tryz.underlying129, ha, Result.andThen, Tryz.elemOfP2, Tryz.mkP]
theorem Tryz.partsPa (a : Addr) (w : World) : (ReflectliteValue.parts (.agg #[.pointer (some ⟨28, 127, none⟩), .pointer (some a), .int .u64 406])).run Tryz.prog w = .ok (some (127, a, 406)) w := by kernel_rfl
theorem Tryz.partsP (a : Addr) (w : World) : (ReflectliteValue.parts (.agg #[.pointer (some ⟨28, 127, none⟩), .pointer (some a), .int .u64 150])).run Tryz.prog w = .ok (some (127, a, 150)) w := by kernel_rfl
theorem Tryz.directP (w : World) : (Rtype.directlyAssignable 127 127).run Tryz.prog w = .ok true w := by kernel_rfl
theorem Tryz.setP (ta b e : Addr) (old : Value) (W : World) (hb : W.cell? b = some (.pointer (some e))) (ht : W.cell? ta = some old) (hf : W.frozen? ta = false) :
  (ReflectliteValue.set #[.agg #[.pointer (some ⟨28, 127, none⟩), .pointer (some ta), .int .u64 406], .agg #[.pointer (some ⟨28, 127, none⟩), .pointer (some b), .int .u64 150]]).run Tryz.prog W
   = .ok (.tuple #[]) (W.setCell ta (.pointer (some e))) := by
 rw [rls]
 simp only [Sem.run_bind, Tryz.partsPa, Tryz.partsP, Result.andThen]
 simp [ReflectliteValue.flagAddr, loadVar, isAgg, underlying, Tryz.underlying127, hb, Result.andThen, Tryz.directP, storeVar, Value.cells, storeCells, Addr.add]
 rw [run_store Tryz.prog W ta _ _ (by rfl)]
 simp [ht, hf]
theorem Tryz.valueOfS2 (t : Addr) (w : World) : (ReflectliteValue.unpack (.iface 133 (.pointer (some t)))).run Tryz.prog w
  = .ok (.agg #[.pointer (some ⟨28, 133, none⟩), .pointer (some ⟨w.heap.size, 0, none⟩), .int .u64 150]) (w.alloc (.cells #[.pointer (some t)] 133)) := by kernel_rfl
theorem Tryz.typeS2 (a : Addr) (w : World) : (ReflectliteValue.methodAny (ReflectliteValue.valueError "reflectlite.Value.Type" 0) (fun t _ _ _ => ReflectliteType.toType t) #[.agg #[.pointer (some ⟨28, 133, none⟩), .pointer (some a), .int .u64 150]]).run Tryz.prog w
  = .ok (.iface 208 (.agg #[.pointer (some ⟨28, 133, none⟩)])) w := by kernel_rfl
theorem Tryz.kindS2 (w : World) : ((ReflectliteType.abiMethod fun t => (fun a : Nat => Value.int IntKind.u8 (a : Int)) <$> Rtype.kind t) #[.pointer (some ⟨28, 133, none⟩)]).run Tryz.prog w = .ok (.int .u8 22) w := by kernel_rfl
theorem Tryz.kindS (w : World) : ((ReflectliteType.abiMethod fun t => (fun a : Nat => Value.int IntKind.u8 (a : Int)) <$> Rtype.kind t) #[.pointer (some ⟨28, 132, none⟩)]).run Tryz.prog w = .ok (.int .u8 22) w := by kernel_rfl
theorem Tryz.partsS2 (a : Addr) (w : World) : (ReflectliteValue.parts (.agg #[.pointer (some ⟨28, 133, none⟩), .pointer (some a), .int .u64 150])).run Tryz.prog w = .ok (some (133, a, 150)) w := by kernel_rfl
theorem Tryz.isNilS2 (a p : Addr) (W : World) (ha : W.cell? a = some (.pointer (some p))) :
  (ReflectliteValue.method (ReflectliteValue.valueError "reflectlite.Value.IsNil" 0) ReflectliteValue.isNil #[.agg #[.pointer (some ⟨28, 133, none⟩), .pointer (some a), .int .u64 150]]).run Tryz.prog W = .ok (.bool false) W := by
 rw [rlm]
 simp only [Sem.run_bind, Tryz.partsS2, Result.andThen]
 simp [ReflectliteValue.isNil, loadVar, isAgg, underlying, Tryz.underlying133, ha, Result.andThen]
theorem Tryz.elemS2 (w : World) : (ReflectliteType.method ReflectliteType.elem #[.agg #[.pointer (some ⟨28, 133, none⟩)]]).run Tryz.prog w = .ok (.iface 208 (.agg #[.pointer (some ⟨28, 132, none⟩)])) w := by kernel_rfl
theorem Tryz.implementsS (w : World) : (ReflectliteType.relation "Implements" ReflectliteType.implements_ #[.agg #[.pointer (some ⟨28, 132, none⟩)], .iface 208 (.agg #[.pointer (some ⟨28, 75, none⟩)])]).run Tryz.prog w = .ok (.bool true) w := by kernel_rfl
theorem Tryz.valueOfS (e : Addr) (w : World) : (ReflectliteValue.unpack (.iface 132 (.pointer (some e)))).run Tryz.prog w
  = .ok (.agg #[.pointer (some ⟨28, 132, none⟩), .pointer (some ⟨w.heap.size, 0, none⟩), .int .u64 150]) (w.alloc (.cells #[.pointer (some e)] 132)) := by kernel_rfl
theorem Tryz.elemOfS2 (w : World) : (Rtype.elem? 133).run Tryz.prog w = .ok (some 132) w := by kernel_rfl
theorem Tryz.mkS (p : Addr) (w : World) : (ReflectliteValue.mk 132 p ReflectliteValue.flagAddr).run Tryz.prog w = .ok (.agg #[.pointer (some ⟨28, 132, none⟩), .pointer (some p), .int .u64 406]) w := by kernel_rfl
theorem Tryz.elemVS2 (a p : Addr) (W : World) (ha : W.cell? a = some (.pointer (some p))) :
  (ReflectliteValue.method (ReflectliteValue.valueError "reflectlite.Value.Elem" 0) ReflectliteValue.elem #[.agg #[.pointer (some ⟨28, 133, none⟩), .pointer (some a), .int .u64 150]]).run Tryz.prog W
   = .ok (.agg #[.pointer (some ⟨28, 132, none⟩), .pointer (some p), .int .u64 406]) W := by
 rw [rlm]
 simp only [Sem.run_bind, Tryz.partsS2, Result.andThen]
 simp [ReflectliteValue.elem, loadVar, isAgg, underlying, Tryz.underlying133, ha, Result.andThen, Tryz.elemOfS2, Tryz.mkS]
theorem Tryz.partsSa (a : Addr) (w : World) : (ReflectliteValue.parts (.agg #[.pointer (some ⟨28, 132, none⟩), .pointer (some a), .int .u64 406])).run Tryz.prog w = .ok (some (132, a, 406)) w := by kernel_rfl
theorem Tryz.partsS (a : Addr) (w : World) : (ReflectliteValue.parts (.agg #[.pointer (some ⟨28, 132, none⟩), .pointer (some a), .int .u64 150])).run Tryz.prog w = .ok (some (132, a, 150)) w := by kernel_rfl
theorem Tryz.directS (w : World) : (Rtype.directlyAssignable 132 132).run Tryz.prog w = .ok true w := by kernel_rfl
theorem Tryz.setS (ta b e : Addr) (old : Value) (W : World) (hb : W.cell? b = some (.pointer (some e))) (ht : W.cell? ta = some old) (hf : W.frozen? ta = false) :
  (ReflectliteValue.set #[.agg #[.pointer (some ⟨28, 132, none⟩), .pointer (some ta), .int .u64 406], .agg #[.pointer (some ⟨28, 132, none⟩), .pointer (some b), .int .u64 150]]).run Tryz.prog W
   = .ok (.tuple #[]) (W.setCell ta (.pointer (some e))) := by
 rw [rls]
 simp only [Sem.run_bind, Tryz.partsSa, Tryz.partsS, Result.andThen]
 simp [ReflectliteValue.flagAddr, loadVar, isAgg, underlying, Tryz.underlying132, hb, Result.andThen, Tryz.directS, storeVar, Value.cells, storeCells, Addr.add]
 rw [run_store Tryz.prog W ta _ _ (by rfl)]
 simp [ht, hf]
theorem Tryz.valueOfR2 (t : Addr) (w : World) : (ReflectliteValue.unpack (.iface 182 (.pointer (some t)))).run Tryz.prog w
  = .ok (.agg #[.pointer (some ⟨28, 182, none⟩), .pointer (some ⟨w.heap.size, 0, none⟩), .int .u64 150]) (w.alloc (.cells #[.pointer (some t)] 182)) := by kernel_rfl
theorem Tryz.typeR2 (a : Addr) (w : World) : (ReflectliteValue.methodAny (ReflectliteValue.valueError "reflectlite.Value.Type" 0) (fun t _ _ _ => ReflectliteType.toType t) #[.agg #[.pointer (some ⟨28, 182, none⟩), .pointer (some a), .int .u64 150]]).run Tryz.prog w
  = .ok (.iface 208 (.agg #[.pointer (some ⟨28, 182, none⟩)])) w := by kernel_rfl
theorem Tryz.kindR2 (w : World) : ((ReflectliteType.abiMethod fun t => (fun a : Nat => Value.int IntKind.u8 (a : Int)) <$> Rtype.kind t) #[.pointer (some ⟨28, 182, none⟩)]).run Tryz.prog w = .ok (.int .u8 22) w := by kernel_rfl
theorem Tryz.kindR (w : World) : ((ReflectliteType.abiMethod fun t => (fun a : Nat => Value.int IntKind.u8 (a : Int)) <$> Rtype.kind t) #[.pointer (some ⟨28, 160, none⟩)]).run Tryz.prog w = .ok (.int .u8 22) w := by kernel_rfl
theorem Tryz.partsR2 (a : Addr) (w : World) : (ReflectliteValue.parts (.agg #[.pointer (some ⟨28, 182, none⟩), .pointer (some a), .int .u64 150])).run Tryz.prog w = .ok (some (182, a, 150)) w := by kernel_rfl
theorem Tryz.isNilR2 (a p : Addr) (W : World) (ha : W.cell? a = some (.pointer (some p))) :
  (ReflectliteValue.method (ReflectliteValue.valueError "reflectlite.Value.IsNil" 0) ReflectliteValue.isNil #[.agg #[.pointer (some ⟨28, 182, none⟩), .pointer (some a), .int .u64 150]]).run Tryz.prog W = .ok (.bool false) W := by
 rw [rlm]
 simp only [Sem.run_bind, Tryz.partsR2, Result.andThen]
 simp [ReflectliteValue.isNil, loadVar, isAgg, underlying, Tryz.underlying182, ha, Result.andThen]
theorem Tryz.elemR2 (w : World) : (ReflectliteType.method ReflectliteType.elem #[.agg #[.pointer (some ⟨28, 182, none⟩)]]).run Tryz.prog w = .ok (.iface 208 (.agg #[.pointer (some ⟨28, 160, none⟩)])) w := by kernel_rfl
theorem Tryz.implementsR (w : World) : (ReflectliteType.relation "Implements" ReflectliteType.implements_ #[.agg #[.pointer (some ⟨28, 160, none⟩)], .iface 208 (.agg #[.pointer (some ⟨28, 75, none⟩)])]).run Tryz.prog w = .ok (.bool true) w := by kernel_rfl
theorem Tryz.valueOfR (e : Addr) (w : World) : (ReflectliteValue.unpack (.iface 160 (.pointer (some e)))).run Tryz.prog w
  = .ok (.agg #[.pointer (some ⟨28, 160, none⟩), .pointer (some ⟨w.heap.size, 0, none⟩), .int .u64 150]) (w.alloc (.cells #[.pointer (some e)] 160)) := by kernel_rfl
theorem Tryz.elemOfR2 (w : World) : (Rtype.elem? 182).run Tryz.prog w = .ok (some 160) w := by kernel_rfl
theorem Tryz.mkR (p : Addr) (w : World) : (ReflectliteValue.mk 160 p ReflectliteValue.flagAddr).run Tryz.prog w = .ok (.agg #[.pointer (some ⟨28, 160, none⟩), .pointer (some p), .int .u64 406]) w := by kernel_rfl
theorem Tryz.elemVR2 (a p : Addr) (W : World) (ha : W.cell? a = some (.pointer (some p))) :
  (ReflectliteValue.method (ReflectliteValue.valueError "reflectlite.Value.Elem" 0) ReflectliteValue.elem #[.agg #[.pointer (some ⟨28, 182, none⟩), .pointer (some a), .int .u64 150]]).run Tryz.prog W
   = .ok (.agg #[.pointer (some ⟨28, 160, none⟩), .pointer (some p), .int .u64 406]) W := by
 rw [rlm]
 simp only [Sem.run_bind, Tryz.partsR2, Result.andThen]
 simp [ReflectliteValue.elem, loadVar, isAgg, underlying, Tryz.underlying182, ha, Result.andThen, Tryz.elemOfR2, Tryz.mkR]
theorem Tryz.partsRa (a : Addr) (w : World) : (ReflectliteValue.parts (.agg #[.pointer (some ⟨28, 160, none⟩), .pointer (some a), .int .u64 406])).run Tryz.prog w = .ok (some (160, a, 406)) w := by kernel_rfl
theorem Tryz.partsR (a : Addr) (w : World) : (ReflectliteValue.parts (.agg #[.pointer (some ⟨28, 160, none⟩), .pointer (some a), .int .u64 150])).run Tryz.prog w = .ok (some (160, a, 150)) w := by kernel_rfl
theorem Tryz.directR (w : World) : (Rtype.directlyAssignable 160 160).run Tryz.prog w = .ok true w := by kernel_rfl
theorem Tryz.setR (ta b e : Addr) (old : Value) (W : World) (hb : W.cell? b = some (.pointer (some e))) (ht : W.cell? ta = some old) (hf : W.frozen? ta = false) :
  (ReflectliteValue.set #[.agg #[.pointer (some ⟨28, 160, none⟩), .pointer (some ta), .int .u64 406], .agg #[.pointer (some ⟨28, 160, none⟩), .pointer (some b), .int .u64 150]]).run Tryz.prog W
   = .ok (.tuple #[]) (W.setCell ta (.pointer (some e))) := by
 rw [rls]
 simp only [Sem.run_bind, Tryz.partsRa, Tryz.partsR, Result.andThen]
 simp [ReflectliteValue.flagAddr, loadVar, isAgg, underlying, Tryz.underlying160, hb, Result.andThen, Tryz.directR, storeVar, Value.cells, storeCells, Addr.add]
 rw [run_store Tryz.prog W ta _ _ (by rfl)]
 simp [ht, hf]
structure Ety (B : Nat) (w : World) : Prop where
 cell : w.cell? ⟨0, 0, none⟩ = some (.iface 208 (.agg #[.pointer (some ⟨28, 75, none⟩)]))
 low : 0 < B
 size : B ≤ w.heap.size
theorem Ety.kept {B : Nat} {w w' : World} {F : Nat → Prop} (h : Ety B w) (k : Kept F w w') (hF : ∀ b, F b → B ≤ b) : Ety B w' :=
 ⟨(k.cell (p := ⟨0, 0, none⟩) (Nat.lt_of_lt_of_le h.low h.size) (fun hf => by have h1 := hF _ hf; have h2 := h.low; exact absurd h1 (by show ¬ B ≤ 0; omega))).trans h.cell, h.low, Nat.le_trans h.size k.size⟩
theorem Ety.below {B : Nat} {w w' : World} (h : Ety B w) (k : Below w.heap.size w w') : Ety B w' := h.kept (Kept.of_below k (fun _ => False)) (fun _ hf => hf.elim)
def AsHit (w : World) (tb : Nat) (tT : TypeId) (x : Nat) (e : Ending) (w' : World) : Prop :=
 e = .returned (.bool true) ∧ w'.heap[tb]? = some (.cells #[.pointer (some ⟨x, 0, none⟩)] tT (0, 0)) ∧ Kept (fun b => b = tb) w w'
def AsNo (w : World) (e : Ending) (w' : World) : Prop := e = .returned (.bool false) ∧ Below w.heap.size w w'
theorem as_made {w : World} {tb : Nat} {tT : TypeId} (ht : w.heap[tb]? = some (.cells #[.pointer none] tT (0, 0))) (o1 o2 o3 o4 : Obj) (x : Nat) :
  AsHit w tb tT x (.returned (.bool true)) (((((w.alloc o1).alloc o2).alloc o3).alloc o4).setCell ⟨tb, 0, none⟩ (.pointer (some ⟨x, 0, none⟩))) := by
 refine ⟨rfl, ?_, ?_⟩
 ·have hb : Below w.heap.size w ((((w.alloc o1).alloc o2).alloc o3).alloc o4) := zaf (zaf (zar w _ _) (zad _ _)) (zad _ _)
  exact zaj (zae hb (zab ht) ht) 0 _
 ·exact ((((((Kept.refl (fun b => b = tb) w).alloc o1).alloc o2).alloc o3).alloc o4)).setCell (p := ⟨tb, 0, none⟩) (.inl rfl) _
set_option maxRecDepth 1000000 in
set_option maxHeartbeats 4000000 in
theorem as_placed {B : Nat} (x0 x1 : Nat) (tb : Nat) (w : World) (hg : Ety B w) (ht : w.heap[tb]? = some (.cells #[.pointer none] 127 (0, 0))) (c0 : w.cell? ⟨x0, 0, none⟩ = some (.iface 127 (.pointer (some ⟨x1, 0, none⟩)))) :
  Calls Tryz.prog 51 #[.iface 132 (.pointer (some ⟨x0, 0, none⟩)), .iface 129 (.pointer (some ⟨tb, 0, none⟩))] w fun e w' => AsHit w tb 127 x1 e w' := by
 have h6 := asX1
 have h7 := asX2
 have h8 := asX3
 have h27 := asX4
 have h37 := asX5
 have h38 := asX6
 have h10 := asX7
 have h35 := asX8
 have h11 := asX9
 have h12 := asX10
 have tOP := Tryz.asTypeOfP
 have aTP := Tryz.assignPP
 have tOS := Tryz.asTypeOfS
 have aTS := Tryz.assignSP
 have nAS := Tryz.noAsS
 have uS := Tryz.hasUnwrapS
 have mS := Tryz.mUnwrapS
 have mA := Tryz.methodAssignableTo
 have f6 := Tryz.valueOfP2
 have f7 := Tryz.typeP2
 have mK := Tryz.methodKind
 have mE := Tryz.methodElem
 have mI := Tryz.methodImplements
 have k27 := Tryz.kindP2
 have k25 := Tryz.kindP
 have e27 := Tryz.elemP2
 have i25 := Tryz.implementsP
 have n8 := Tryz.isNilP2 ⟨w.heap.size, 0, none⟩ ⟨tb, 0, none⟩ ((w.alloc (.cells #[.pointer (some ⟨tb, 0, none⟩)] 129)).alloc (.cells #[.pointer (some ⟨28, 129, none⟩), .pointer (some ⟨w.heap.size, 0, none⟩), .int .u64 150] 173)) (by simp)
 have HT := hid ht
 have ht0 : w.cell? ⟨tb, 0, none⟩ = some (.pointer none) := zaa ht rfl
 have hf0 : w.frozen? ⟨tb, 0, none⟩ = false := zah ht 0
 have htl : tb < w.heap.size := zab ht
 have hlt : 0 < w.heap.size := Nat.lt_of_lt_of_le hg.low hg.size
 have hg2 : ((w.alloc (.cells #[.pointer (some ⟨tb, 0, none⟩)] 129)).alloc (.cells #[.pointer (some ⟨28, 129, none⟩), .pointer (some ⟨w.heap.size, 0, none⟩), .int .u64 150] 173)).cell? ⟨0, 0, none⟩ = some (.iface 208 (.agg #[.pointer (some ⟨28, 75, none⟩)])) := by
  rw [World.cell?_alloc_lt _ _ ⟨0, 0, none⟩ (by simp <;> omega), World.cell?_alloc_lt _ _ ⟨0, 0, none⟩ hlt]; exact hg.cell
 have l0 : x0 < w.heap.size := World.block_lt_of_cell? _ _ c0
 have d0 : (((w.alloc (.cells #[.pointer (some ⟨tb, 0, none⟩)] 129)).alloc (.cells #[.pointer (some ⟨28, 129, none⟩), .pointer (some ⟨w.heap.size, 0, none⟩), .int .u64 150] 173)).alloc (.cells #[.pointer (some ⟨28, 129, none⟩), .pointer (some ⟨w.heap.size, 0, none⟩), .int .u64 150] 173)).cell? ⟨x0, 0, none⟩ = some (.iface 127 (.pointer (some ⟨x1, 0, none⟩))) := (zaf (zar w _ _) (zad _ _)).cell (p := ⟨x0, 0, none⟩) l0 |>.trans c0
 have v25 := Tryz.valueOfP
 have el := Tryz.elemVP2 ⟨w.heap.size, 0, none⟩ ⟨tb, 0, none⟩ (((w.alloc (.cells #[.pointer (some ⟨tb, 0, none⟩)] 129)).alloc (.cells #[.pointer (some ⟨28, 129, none⟩), .pointer (some ⟨w.heap.size, 0, none⟩), .int .u64 150] 173)).alloc (.cells #[.pointer (some ⟨28, 129, none⟩), .pointer (some ⟨w.heap.size, 0, none⟩), .int .u64 150] 173)) (by rw [World.cell?_alloc_lt _ _ ⟨w.heap.size, 0, none⟩ (by simp; omega)]; simp)
 have st := Tryz.setP ⟨tb, 0, none⟩ ⟨w.heap.size + 1 + 1 + 1, 0, none⟩ ⟨x1, 0, none⟩ (.pointer none) ((((w.alloc (.cells #[.pointer (some ⟨tb, 0, none⟩)] 129)).alloc (.cells #[.pointer (some ⟨28, 129, none⟩), .pointer (some ⟨w.heap.size, 0, none⟩), .int .u64 150] 173)).alloc (.cells #[.pointer (some ⟨28, 129, none⟩), .pointer (some ⟨w.heap.size, 0, none⟩), .int .u64 150] 173)).alloc (.cells #[.pointer (some ⟨x1, 0, none⟩)] 127))
  (by rw [World.cell?_alloc_at _ _ _ _ (by simp)]; rfl)
  (by rw [World.cell?_alloc_lt _ _ ⟨tb, 0, none⟩ (by simp <;> omega), World.cell?_alloc_lt _ _ ⟨tb, 0, none⟩ (by simp <;> omega), World.cell?_alloc_lt _ _ ⟨tb, 0, none⟩ (by simp <;> omega), World.cell?_alloc_lt _ _ ⟨tb, 0, none⟩ htl]; exact ht0)
  (by rw [World.frozen?_alloc_old _ _ ⟨tb, 0, none⟩ (by simp; omega), World.frozen?_alloc_old _ _ ⟨tb, 0, none⟩ (by simp; omega), World.frozen?_alloc_old _ _ ⟨tb, 0, none⟩ (by simp; omega), World.frozen?_alloc_old _ _ ⟨tb, 0, none⟩ (Nat.ne_of_lt htl)]; exact hf0)
 clear hg ht
 go_enter Tryz.func51, Tryz.ntmps51
 go_wp2
 refine wp_loop_rounds 2 ?_
 rw [rounds_succ]
 go_wp2
 rw [rounds_succ]
 go_wp2
 go_ret
 exact as_made HT.out _ _ _ _ _
set_option maxRecDepth 1000000 in
set_option maxHeartbeats 4000000 in
theorem as_placed3 {B : Nat} (x0 x1 x2 : Nat) (tb : Nat) (w : World) (hg : Ety B w) (ht : w.heap[tb]? = some (.cells #[.pointer none] 127 (0, 0))) (c0 : w.cell? ⟨x0, 0, none⟩ = some (.iface 132 (.pointer (some ⟨x1, 0, none⟩)))) (c1 : w.cell? ⟨x1, 0, none⟩ = some (.iface 127 (.pointer (some ⟨x2, 0, none⟩)))) :
  Calls Tryz.prog 51 #[.iface 160 (.pointer (some ⟨x0, 0, none⟩)), .iface 129 (.pointer (some ⟨tb, 0, none⟩))] w fun e w' => AsHit w tb 127 x2 e w' := by
 have h6 := asX1
 have h7 := asX2
 have h8 := asX3
 have h27 := asX4
 have h37 := asX5
 have h38 := asX6
 have h10 := asX7
 have h35 := asX8
 have h11 := asX9
 have h12 := asX10
 have tOP := Tryz.asTypeOfP
 have aTP := Tryz.assignPP
 have tOR := Tryz.asTypeOfR
 have aTR := Tryz.assignRP
 have nAR := Tryz.noAsR
 have uR := Tryz.hasUnwrapR
 have mR := Tryz.mUnwrapR
 have tOS := Tryz.asTypeOfS
 have aTS := Tryz.assignSP
 have nAS := Tryz.noAsS
 have uS := Tryz.hasUnwrapS
 have mS := Tryz.mUnwrapS
 have mA := Tryz.methodAssignableTo
 have f6 := Tryz.valueOfP2
 have f7 := Tryz.typeP2
 have mK := Tryz.methodKind
 have mE := Tryz.methodElem
 have mI := Tryz.methodImplements
 have k27 := Tryz.kindP2
 have k25 := Tryz.kindP
 have e27 := Tryz.elemP2
 have i25 := Tryz.implementsP
 have n8 := Tryz.isNilP2 ⟨w.heap.size, 0, none⟩ ⟨tb, 0, none⟩ ((w.alloc (.cells #[.pointer (some ⟨tb, 0, none⟩)] 129)).alloc (.cells #[.pointer (some ⟨28, 129, none⟩), .pointer (some ⟨w.heap.size, 0, none⟩), .int .u64 150] 173)) (by simp)
 have HT := hid ht
 have ht0 : w.cell? ⟨tb, 0, none⟩ = some (.pointer none) := zaa ht rfl
 have hf0 : w.frozen? ⟨tb, 0, none⟩ = false := zah ht 0
 have htl : tb < w.heap.size := zab ht
 have hlt : 0 < w.heap.size := Nat.lt_of_lt_of_le hg.low hg.size
 have hg2 : ((w.alloc (.cells #[.pointer (some ⟨tb, 0, none⟩)] 129)).alloc (.cells #[.pointer (some ⟨28, 129, none⟩), .pointer (some ⟨w.heap.size, 0, none⟩), .int .u64 150] 173)).cell? ⟨0, 0, none⟩ = some (.iface 208 (.agg #[.pointer (some ⟨28, 75, none⟩)])) := by
  rw [World.cell?_alloc_lt _ _ ⟨0, 0, none⟩ (by simp <;> omega), World.cell?_alloc_lt _ _ ⟨0, 0, none⟩ hlt]; exact hg.cell
 have l0 : x0 < w.heap.size := World.block_lt_of_cell? _ _ c0
 have d0 : (((w.alloc (.cells #[.pointer (some ⟨tb, 0, none⟩)] 129)).alloc (.cells #[.pointer (some ⟨28, 129, none⟩), .pointer (some ⟨w.heap.size, 0, none⟩), .int .u64 150] 173)).alloc (.cells #[.pointer (some ⟨28, 129, none⟩), .pointer (some ⟨w.heap.size, 0, none⟩), .int .u64 150] 173)).cell? ⟨x0, 0, none⟩ = some (.iface 132 (.pointer (some ⟨x1, 0, none⟩))) := (zaf (zar w _ _) (zad _ _)).cell (p := ⟨x0, 0, none⟩) l0 |>.trans c0
 have l1 : x1 < w.heap.size := World.block_lt_of_cell? _ _ c1
 have d1 : (((w.alloc (.cells #[.pointer (some ⟨tb, 0, none⟩)] 129)).alloc (.cells #[.pointer (some ⟨28, 129, none⟩), .pointer (some ⟨w.heap.size, 0, none⟩), .int .u64 150] 173)).alloc (.cells #[.pointer (some ⟨28, 129, none⟩), .pointer (some ⟨w.heap.size, 0, none⟩), .int .u64 150] 173)).cell? ⟨x1, 0, none⟩ = some (.iface 127 (.pointer (some ⟨x2, 0, none⟩))) := (zaf (zar w _ _) (zad _ _)).cell (p := ⟨x1, 0, none⟩) l1 |>.trans c1
 have v25 := Tryz.valueOfP
 have el := Tryz.elemVP2 ⟨w.heap.size, 0, none⟩ ⟨tb, 0, none⟩ (((w.alloc (.cells #[.pointer (some ⟨tb, 0, none⟩)] 129)).alloc (.cells #[.pointer (some ⟨28, 129, none⟩), .pointer (some ⟨w.heap.size, 0, none⟩), .int .u64 150] 173)).alloc (.cells #[.pointer (some ⟨28, 129, none⟩), .pointer (some ⟨w.heap.size, 0, none⟩), .int .u64 150] 173)) (by rw [World.cell?_alloc_lt _ _ ⟨w.heap.size, 0, none⟩ (by simp; omega)]; simp)
 have st := Tryz.setP ⟨tb, 0, none⟩ ⟨w.heap.size + 1 + 1 + 1, 0, none⟩ ⟨x2, 0, none⟩ (.pointer none) ((((w.alloc (.cells #[.pointer (some ⟨tb, 0, none⟩)] 129)).alloc (.cells #[.pointer (some ⟨28, 129, none⟩), .pointer (some ⟨w.heap.size, 0, none⟩), .int .u64 150] 173)).alloc (.cells #[.pointer (some ⟨28, 129, none⟩), .pointer (some ⟨w.heap.size, 0, none⟩), .int .u64 150] 173)).alloc (.cells #[.pointer (some ⟨x2, 0, none⟩)] 127))
  (by rw [World.cell?_alloc_at _ _ _ _ (by simp)]; rfl)
  (by rw [World.cell?_alloc_lt _ _ ⟨tb, 0, none⟩ (by simp <;> omega), World.cell?_alloc_lt _ _ ⟨tb, 0, none⟩ (by simp <;> omega), World.cell?_alloc_lt _ _ ⟨tb, 0, none⟩ (by simp <;> omega), World.cell?_alloc_lt _ _ ⟨tb, 0, none⟩ htl]; exact ht0)
  (by rw [World.frozen?_alloc_old _ _ ⟨tb, 0, none⟩ (by simp; omega), World.frozen?_alloc_old _ _ ⟨tb, 0, none⟩ (by simp; omega), World.frozen?_alloc_old _ _ ⟨tb, 0, none⟩ (by simp; omega), World.frozen?_alloc_old _ _ ⟨tb, 0, none⟩ (Nat.ne_of_lt htl)]; exact hf0)
 clear hg ht
 go_enter Tryz.func51, Tryz.ntmps51
 go_wp2
 refine wp_loop_rounds 3 ?_
 rw [rounds_succ]
 go_wp2
 rw [rounds_succ]
 go_wp2
 rw [rounds_succ]
 go_wp2
 go_ret
 exact as_made HT.out _ _ _ _ _
set_option maxRecDepth 1000000 in
set_option maxHeartbeats 4000000 in
theorem as_spoken {B : Nat} (x0 x1 : Nat) (tb : Nat) (w : World) (hg : Ety B w) (ht : w.heap[tb]? = some (.cells #[.pointer none] 132 (0, 0))) (c0 : w.cell? ⟨x0, 0, none⟩ = some (.iface 127 (.pointer (some ⟨x1, 0, none⟩)))) :
  Calls Tryz.prog 51 #[.iface 132 (.pointer (some ⟨x0, 0, none⟩)), .iface 133 (.pointer (some ⟨tb, 0, none⟩))] w fun e w' => AsHit w tb 132 x0 e w' := by
 have h6 := asX1
 have h7 := asX2
 have h8 := asX3
 have h27 := asX4
 have h37 := asX5
 have h38 := asX6
 have h10 := asX7
 have h35 := asX8
 have h11 := asX9
 have h12 := asX10
 have tOS := Tryz.asTypeOfS
 have aTS := Tryz.assignSS
 have mA := Tryz.methodAssignableTo
 have f6 := Tryz.valueOfS2
 have f7 := Tryz.typeS2
 have mK := Tryz.methodKind
 have mE := Tryz.methodElem
 have mI := Tryz.methodImplements
 have k27 := Tryz.kindS2
 have k25 := Tryz.kindS
 have e27 := Tryz.elemS2
 have i25 := Tryz.implementsS
 have n8 := Tryz.isNilS2 ⟨w.heap.size, 0, none⟩ ⟨tb, 0, none⟩ ((w.alloc (.cells #[.pointer (some ⟨tb, 0, none⟩)] 133)).alloc (.cells #[.pointer (some ⟨28, 133, none⟩), .pointer (some ⟨w.heap.size, 0, none⟩), .int .u64 150] 173)) (by simp)
 have HT := hid ht
 have ht0 : w.cell? ⟨tb, 0, none⟩ = some (.pointer none) := zaa ht rfl
 have hf0 : w.frozen? ⟨tb, 0, none⟩ = false := zah ht 0
 have htl : tb < w.heap.size := zab ht
 have hlt : 0 < w.heap.size := Nat.lt_of_lt_of_le hg.low hg.size
 have hg2 : ((w.alloc (.cells #[.pointer (some ⟨tb, 0, none⟩)] 133)).alloc (.cells #[.pointer (some ⟨28, 133, none⟩), .pointer (some ⟨w.heap.size, 0, none⟩), .int .u64 150] 173)).cell? ⟨0, 0, none⟩ = some (.iface 208 (.agg #[.pointer (some ⟨28, 75, none⟩)])) := by
  rw [World.cell?_alloc_lt _ _ ⟨0, 0, none⟩ (by simp <;> omega), World.cell?_alloc_lt _ _ ⟨0, 0, none⟩ hlt]; exact hg.cell
 have l0 : x0 < w.heap.size := World.block_lt_of_cell? _ _ c0
 have d0 : (((w.alloc (.cells #[.pointer (some ⟨tb, 0, none⟩)] 133)).alloc (.cells #[.pointer (some ⟨28, 133, none⟩), .pointer (some ⟨w.heap.size, 0, none⟩), .int .u64 150] 173)).alloc (.cells #[.pointer (some ⟨28, 133, none⟩), .pointer (some ⟨w.heap.size, 0, none⟩), .int .u64 150] 173)).cell? ⟨x0, 0, none⟩ = some (.iface 127 (.pointer (some ⟨x1, 0, none⟩))) := (zaf (zar w _ _) (zad _ _)).cell (p := ⟨x0, 0, none⟩) l0 |>.trans c0
 have v25 := Tryz.valueOfS
 have el := Tryz.elemVS2 ⟨w.heap.size, 0, none⟩ ⟨tb, 0, none⟩ (((w.alloc (.cells #[.pointer (some ⟨tb, 0, none⟩)] 133)).alloc (.cells #[.pointer (some ⟨28, 133, none⟩), .pointer (some ⟨w.heap.size, 0, none⟩), .int .u64 150] 173)).alloc (.cells #[.pointer (some ⟨28, 133, none⟩), .pointer (some ⟨w.heap.size, 0, none⟩), .int .u64 150] 173)) (by rw [World.cell?_alloc_lt _ _ ⟨w.heap.size, 0, none⟩ (by simp; omega)]; simp)
 have st := Tryz.setS ⟨tb, 0, none⟩ ⟨w.heap.size + 1 + 1 + 1, 0, none⟩ ⟨x0, 0, none⟩ (.pointer none) ((((w.alloc (.cells #[.pointer (some ⟨tb, 0, none⟩)] 133)).alloc (.cells #[.pointer (some ⟨28, 133, none⟩), .pointer (some ⟨w.heap.size, 0, none⟩), .int .u64 150] 173)).alloc (.cells #[.pointer (some ⟨28, 133, none⟩), .pointer (some ⟨w.heap.size, 0, none⟩), .int .u64 150] 173)).alloc (.cells #[.pointer (some ⟨x0, 0, none⟩)] 132))
  (by rw [World.cell?_alloc_at _ _ _ _ (by simp)]; rfl)
  (by rw [World.cell?_alloc_lt _ _ ⟨tb, 0, none⟩ (by simp <;> omega), World.cell?_alloc_lt _ _ ⟨tb, 0, none⟩ (by simp <;> omega), World.cell?_alloc_lt _ _ ⟨tb, 0, none⟩ (by simp <;> omega), World.cell?_alloc_lt _ _ ⟨tb, 0, none⟩ htl]; exact ht0)
  (by rw [World.frozen?_alloc_old _ _ ⟨tb, 0, none⟩ (by simp; omega), World.frozen?_alloc_old _ _ ⟨tb, 0, none⟩ (by simp; omega), World.frozen?_alloc_old _ _ ⟨tb, 0, none⟩ (by simp; omega), World.frozen?_alloc_old _ _ ⟨tb, 0, none⟩ (Nat.ne_of_lt htl)]; exact hf0)
 clear hg ht
 go_enter Tryz.func51, Tryz.ntmps51
 go_wp2
 refine wp_loop_rounds 1 ?_
 rw [rounds_succ]
 go_wp2
 go_ret
 exact as_made HT.out _ _ _ _ _
set_option maxRecDepth 1000000 in
set_option maxHeartbeats 4000000 in
theorem as_spoken3 {B : Nat} (x0 x1 x2 : Nat) (tb : Nat) (w : World) (hg : Ety B w) (ht : w.heap[tb]? = some (.cells #[.pointer none] 132 (0, 0))) (c0 : w.cell? ⟨x0, 0, none⟩ = some (.iface 132 (.pointer (some ⟨x1, 0, none⟩)))) (c1 : w.cell? ⟨x1, 0, none⟩ = some (.iface 127 (.pointer (some ⟨x2, 0, none⟩)))) :
  Calls Tryz.prog 51 #[.iface 160 (.pointer (some ⟨x0, 0, none⟩)), .iface 133 (.pointer (some ⟨tb, 0, none⟩))] w fun e w' => AsHit w tb 132 x1 e w' := by
 have h6 := asX1
 have h7 := asX2
 have h8 := asX3
 have h27 := asX4
 have h37 := asX5
 have h38 := asX6
 have h10 := asX7
 have h35 := asX8
 have h11 := asX9
 have h12 := asX10
 have tOR := Tryz.asTypeOfR
 have aTR := Tryz.assignRS
 have nAR := Tryz.noAsR
 have uR := Tryz.hasUnwrapR
 have mR := Tryz.mUnwrapR
 have tOS := Tryz.asTypeOfS
 have aTS := Tryz.assignSS
 have mA := Tryz.methodAssignableTo
 have f6 := Tryz.valueOfS2
 have f7 := Tryz.typeS2
 have mK := Tryz.methodKind
 have mE := Tryz.methodElem
 have mI := Tryz.methodImplements
 have k27 := Tryz.kindS2
 have k25 := Tryz.kindS
 have e27 := Tryz.elemS2
 have i25 := Tryz.implementsS
 have n8 := Tryz.isNilS2 ⟨w.heap.size, 0, none⟩ ⟨tb, 0, none⟩ ((w.alloc (.cells #[.pointer (some ⟨tb, 0, none⟩)] 133)).alloc (.cells #[.pointer (some ⟨28, 133, none⟩), .pointer (some ⟨w.heap.size, 0, none⟩), .int .u64 150] 173)) (by simp)
 have HT := hid ht
 have ht0 : w.cell? ⟨tb, 0, none⟩ = some (.pointer none) := zaa ht rfl
 have hf0 : w.frozen? ⟨tb, 0, none⟩ = false := zah ht 0
 have htl : tb < w.heap.size := zab ht
 have hlt : 0 < w.heap.size := Nat.lt_of_lt_of_le hg.low hg.size
 have hg2 : ((w.alloc (.cells #[.pointer (some ⟨tb, 0, none⟩)] 133)).alloc (.cells #[.pointer (some ⟨28, 133, none⟩), .pointer (some ⟨w.heap.size, 0, none⟩), .int .u64 150] 173)).cell? ⟨0, 0, none⟩ = some (.iface 208 (.agg #[.pointer (some ⟨28, 75, none⟩)])) := by
  rw [World.cell?_alloc_lt _ _ ⟨0, 0, none⟩ (by simp <;> omega), World.cell?_alloc_lt _ _ ⟨0, 0, none⟩ hlt]; exact hg.cell
 have l0 : x0 < w.heap.size := World.block_lt_of_cell? _ _ c0
 have d0 : (((w.alloc (.cells #[.pointer (some ⟨tb, 0, none⟩)] 133)).alloc (.cells #[.pointer (some ⟨28, 133, none⟩), .pointer (some ⟨w.heap.size, 0, none⟩), .int .u64 150] 173)).alloc (.cells #[.pointer (some ⟨28, 133, none⟩), .pointer (some ⟨w.heap.size, 0, none⟩), .int .u64 150] 173)).cell? ⟨x0, 0, none⟩ = some (.iface 132 (.pointer (some ⟨x1, 0, none⟩))) := (zaf (zar w _ _) (zad _ _)).cell (p := ⟨x0, 0, none⟩) l0 |>.trans c0
 have l1 : x1 < w.heap.size := World.block_lt_of_cell? _ _ c1
 have d1 : (((w.alloc (.cells #[.pointer (some ⟨tb, 0, none⟩)] 133)).alloc (.cells #[.pointer (some ⟨28, 133, none⟩), .pointer (some ⟨w.heap.size, 0, none⟩), .int .u64 150] 173)).alloc (.cells #[.pointer (some ⟨28, 133, none⟩), .pointer (some ⟨w.heap.size, 0, none⟩), .int .u64 150] 173)).cell? ⟨x1, 0, none⟩ = some (.iface 127 (.pointer (some ⟨x2, 0, none⟩))) := (zaf (zar w _ _) (zad _ _)).cell (p := ⟨x1, 0, none⟩) l1 |>.trans c1
 have v25 := Tryz.valueOfS
 have el := Tryz.elemVS2 ⟨w.heap.size, 0, none⟩ ⟨tb, 0, none⟩ (((w.alloc (.cells #[.pointer (some ⟨tb, 0, none⟩)] 133)).alloc (.cells #[.pointer (some ⟨28, 133, none⟩), .pointer (some ⟨w.heap.size, 0, none⟩), .int .u64 150] 173)).alloc (.cells #[.pointer (some ⟨28, 133, none⟩), .pointer (some ⟨w.heap.size, 0, none⟩), .int .u64 150] 173)) (by rw [World.cell?_alloc_lt _ _ ⟨w.heap.size, 0, none⟩ (by simp; omega)]; simp)
 have st := Tryz.setS ⟨tb, 0, none⟩ ⟨w.heap.size + 1 + 1 + 1, 0, none⟩ ⟨x1, 0, none⟩ (.pointer none) ((((w.alloc (.cells #[.pointer (some ⟨tb, 0, none⟩)] 133)).alloc (.cells #[.pointer (some ⟨28, 133, none⟩), .pointer (some ⟨w.heap.size, 0, none⟩), .int .u64 150] 173)).alloc (.cells #[.pointer (some ⟨28, 133, none⟩), .pointer (some ⟨w.heap.size, 0, none⟩), .int .u64 150] 173)).alloc (.cells #[.pointer (some ⟨x1, 0, none⟩)] 132))
  (by rw [World.cell?_alloc_at _ _ _ _ (by simp)]; rfl)
  (by rw [World.cell?_alloc_lt _ _ ⟨tb, 0, none⟩ (by simp <;> omega), World.cell?_alloc_lt _ _ ⟨tb, 0, none⟩ (by simp <;> omega), World.cell?_alloc_lt _ _ ⟨tb, 0, none⟩ (by simp <;> omega), World.cell?_alloc_lt _ _ ⟨tb, 0, none⟩ htl]; exact ht0)
  (by rw [World.frozen?_alloc_old _ _ ⟨tb, 0, none⟩ (by simp; omega), World.frozen?_alloc_old _ _ ⟨tb, 0, none⟩ (by simp; omega), World.frozen?_alloc_old _ _ ⟨tb, 0, none⟩ (by simp; omega), World.frozen?_alloc_old _ _ ⟨tb, 0, none⟩ (Nat.ne_of_lt htl)]; exact hf0)
 clear hg ht
 go_enter Tryz.func51, Tryz.ntmps51
 go_wp2
 refine wp_loop_rounds 2 ?_
 rw [rounds_succ]
 go_wp2
 rw [rounds_succ]
 go_wp2
 go_ret
 exact as_made HT.out _ _ _ _ _
set_option maxRecDepth 1000000 in
set_option maxHeartbeats 4000000 in
theorem as_refused {B : Nat} (x0 x1 : Nat) (tb : Nat) (w : World) (hg : Ety B w) (ht : w.heap[tb]? = some (.cells #[.pointer none] 160 (0, 0))) (c0 : w.cell? ⟨x0, 0, none⟩ = some (.iface 132 (.pointer (some ⟨x1, 0, none⟩)))) :
  Calls Tryz.prog 51 #[.iface 160 (.pointer (some ⟨x0, 0, none⟩)), .iface 182 (.pointer (some ⟨tb, 0, none⟩))] w fun e w' => AsHit w tb 160 x0 e w' := by
 have h6 := asX1
 have h7 := asX2
 have h8 := asX3
 have h27 := asX4
 have h37 := asX5
 have h38 := asX6
 have h10 := asX7
 have h35 := asX8
 have h11 := asX9
 have h12 := asX10
 have tOR := Tryz.asTypeOfR
 have aTR := Tryz.assignRR
 have mA := Tryz.methodAssignableTo
 have f6 := Tryz.valueOfR2
 have f7 := Tryz.typeR2
 have mK := Tryz.methodKind
 have mE := Tryz.methodElem
 have mI := Tryz.methodImplements
 have k27 := Tryz.kindR2
 have k25 := Tryz.kindR
 have e27 := Tryz.elemR2
 have i25 := Tryz.implementsR
 have n8 := Tryz.isNilR2 ⟨w.heap.size, 0, none⟩ ⟨tb, 0, none⟩ ((w.alloc (.cells #[.pointer (some ⟨tb, 0, none⟩)] 182)).alloc (.cells #[.pointer (some ⟨28, 182, none⟩), .pointer (some ⟨w.heap.size, 0, none⟩), .int .u64 150] 173)) (by simp)
 have HT := hid ht
 have ht0 : w.cell? ⟨tb, 0, none⟩ = some (.pointer none) := zaa ht rfl
 have hf0 : w.frozen? ⟨tb, 0, none⟩ = false := zah ht 0
 have htl : tb < w.heap.size := zab ht
 have hlt : 0 < w.heap.size := Nat.lt_of_lt_of_le hg.low hg.size
 have hg2 : ((w.alloc (.cells #[.pointer (some ⟨tb, 0, none⟩)] 182)).alloc (.cells #[.pointer (some ⟨28, 182, none⟩), .pointer (some ⟨w.heap.size, 0, none⟩), .int .u64 150] 173)).cell? ⟨0, 0, none⟩ = some (.iface 208 (.agg #[.pointer (some ⟨28, 75, none⟩)])) := by
  rw [World.cell?_alloc_lt _ _ ⟨0, 0, none⟩ (by simp <;> omega), World.cell?_alloc_lt _ _ ⟨0, 0, none⟩ hlt]; exact hg.cell
 have l0 : x0 < w.heap.size := World.block_lt_of_cell? _ _ c0
 have d0 : (((w.alloc (.cells #[.pointer (some ⟨tb, 0, none⟩)] 182)).alloc (.cells #[.pointer (some ⟨28, 182, none⟩), .pointer (some ⟨w.heap.size, 0, none⟩), .int .u64 150] 173)).alloc (.cells #[.pointer (some ⟨28, 182, none⟩), .pointer (some ⟨w.heap.size, 0, none⟩), .int .u64 150] 173)).cell? ⟨x0, 0, none⟩ = some (.iface 132 (.pointer (some ⟨x1, 0, none⟩))) := (zaf (zar w _ _) (zad _ _)).cell (p := ⟨x0, 0, none⟩) l0 |>.trans c0
 have v25 := Tryz.valueOfR
 have el := Tryz.elemVR2 ⟨w.heap.size, 0, none⟩ ⟨tb, 0, none⟩ (((w.alloc (.cells #[.pointer (some ⟨tb, 0, none⟩)] 182)).alloc (.cells #[.pointer (some ⟨28, 182, none⟩), .pointer (some ⟨w.heap.size, 0, none⟩), .int .u64 150] 173)).alloc (.cells #[.pointer (some ⟨28, 182, none⟩), .pointer (some ⟨w.heap.size, 0, none⟩), .int .u64 150] 173)) (by rw [World.cell?_alloc_lt _ _ ⟨w.heap.size, 0, none⟩ (by simp; omega)]; simp)
 have st := Tryz.setR ⟨tb, 0, none⟩ ⟨w.heap.size + 1 + 1 + 1, 0, none⟩ ⟨x0, 0, none⟩ (.pointer none) ((((w.alloc (.cells #[.pointer (some ⟨tb, 0, none⟩)] 182)).alloc (.cells #[.pointer (some ⟨28, 182, none⟩), .pointer (some ⟨w.heap.size, 0, none⟩), .int .u64 150] 173)).alloc (.cells #[.pointer (some ⟨28, 182, none⟩), .pointer (some ⟨w.heap.size, 0, none⟩), .int .u64 150] 173)).alloc (.cells #[.pointer (some ⟨x0, 0, none⟩)] 160))
  (by rw [World.cell?_alloc_at _ _ _ _ (by simp)]; rfl)
  (by rw [World.cell?_alloc_lt _ _ ⟨tb, 0, none⟩ (by simp <;> omega), World.cell?_alloc_lt _ _ ⟨tb, 0, none⟩ (by simp <;> omega), World.cell?_alloc_lt _ _ ⟨tb, 0, none⟩ (by simp <;> omega), World.cell?_alloc_lt _ _ ⟨tb, 0, none⟩ htl]; exact ht0)
  (by rw [World.frozen?_alloc_old _ _ ⟨tb, 0, none⟩ (by simp; omega), World.frozen?_alloc_old _ _ ⟨tb, 0, none⟩ (by simp; omega), World.frozen?_alloc_old _ _ ⟨tb, 0, none⟩ (by simp; omega), World.frozen?_alloc_old _ _ ⟨tb, 0, none⟩ (Nat.ne_of_lt htl)]; exact hf0)
 clear hg ht
 go_enter Tryz.func51, Tryz.ntmps51
 go_wp2
 refine wp_loop_rounds 1 ?_
 rw [rounds_succ]
 go_wp2
 go_ret
 exact as_made HT.out _ _ _ _ _
set_option maxRecDepth 1000000 in
set_option maxHeartbeats 4000000 in
theorem as_refused_no {B : Nat} (a : Addr) (x0 x1 : Nat) (tb : Nat) (w : World) (hg : Ety B w) (ht : w.heap[tb]? = some (.cells #[.pointer none] 160 (0, 0))) (c0 : w.cell? ⟨x0, 0, none⟩ = some (.iface 127 (.pointer (some ⟨x1, 0, none⟩)))) (c1 : w.cell? ⟨x1, 0, none⟩ = some (.iface 265 (.pointer (some a)))) :
  Calls Tryz.prog 51 #[.iface 132 (.pointer (some ⟨x0, 0, none⟩)), .iface 182 (.pointer (some ⟨tb, 0, none⟩))] w fun e w' => AsNo w e w' := by
 have h6 := asX1
 have h7 := asX2
 have h8 := asX3
 have h27 := asX4
 have h37 := asX5
 have h38 := asX6
 have h10 := asX7
 have h35 := asX8
 have h11 := asX9
 have h12 := asX10
 have tOE := Tryz.asTypeOfE
 have aTE := Tryz.assignER
 have nAE := Tryz.noAsE
 have uE := Tryz.noUnwrapE
 have vE := Tryz.noUnwrapsE
 have tOP := Tryz.asTypeOfP
 have aTP := Tryz.assignPR
 have nAP := Tryz.noAsP
 have uP := Tryz.hasUnwrapP
 have mP := Tryz.mUnwrapP
 have tOS := Tryz.asTypeOfS
 have aTS := Tryz.assignSR
 have nAS := Tryz.noAsS
 have uS := Tryz.hasUnwrapS
 have mS := Tryz.mUnwrapS
 have mA := Tryz.methodAssignableTo
 have f6 := Tryz.valueOfR2
 have f7 := Tryz.typeR2
 have mK := Tryz.methodKind
 have mE := Tryz.methodElem
 have mI := Tryz.methodImplements
 have k27 := Tryz.kindR2
 have k25 := Tryz.kindR
 have e27 := Tryz.elemR2
 have i25 := Tryz.implementsR
 have n8 := Tryz.isNilR2 ⟨w.heap.size, 0, none⟩ ⟨tb, 0, none⟩ ((w.alloc (.cells #[.pointer (some ⟨tb, 0, none⟩)] 182)).alloc (.cells #[.pointer (some ⟨28, 182, none⟩), .pointer (some ⟨w.heap.size, 0, none⟩), .int .u64 150] 173)) (by simp)
 have HT := hid ht
 have ht0 : w.cell? ⟨tb, 0, none⟩ = some (.pointer none) := zaa ht rfl
 have hf0 : w.frozen? ⟨tb, 0, none⟩ = false := zah ht 0
 have htl : tb < w.heap.size := zab ht
 have hlt : 0 < w.heap.size := Nat.lt_of_lt_of_le hg.low hg.size
 have hg2 : ((w.alloc (.cells #[.pointer (some ⟨tb, 0, none⟩)] 182)).alloc (.cells #[.pointer (some ⟨28, 182, none⟩), .pointer (some ⟨w.heap.size, 0, none⟩), .int .u64 150] 173)).cell? ⟨0, 0, none⟩ = some (.iface 208 (.agg #[.pointer (some ⟨28, 75, none⟩)])) := by
  rw [World.cell?_alloc_lt _ _ ⟨0, 0, none⟩ (by simp <;> omega), World.cell?_alloc_lt _ _ ⟨0, 0, none⟩ hlt]; exact hg.cell
 have l0 : x0 < w.heap.size := World.block_lt_of_cell? _ _ c0
 have d0 : (((w.alloc (.cells #[.pointer (some ⟨tb, 0, none⟩)] 182)).alloc (.cells #[.pointer (some ⟨28, 182, none⟩), .pointer (some ⟨w.heap.size, 0, none⟩), .int .u64 150] 173)).alloc (.cells #[.pointer (some ⟨28, 182, none⟩), .pointer (some ⟨w.heap.size, 0, none⟩), .int .u64 150] 173)).cell? ⟨x0, 0, none⟩ = some (.iface 127 (.pointer (some ⟨x1, 0, none⟩))) := (zaf (zar w _ _) (zad _ _)).cell (p := ⟨x0, 0, none⟩) l0 |>.trans c0
 have l1 : x1 < w.heap.size := World.block_lt_of_cell? _ _ c1
 have d1 : (((w.alloc (.cells #[.pointer (some ⟨tb, 0, none⟩)] 182)).alloc (.cells #[.pointer (some ⟨28, 182, none⟩), .pointer (some ⟨w.heap.size, 0, none⟩), .int .u64 150] 173)).alloc (.cells #[.pointer (some ⟨28, 182, none⟩), .pointer (some ⟨w.heap.size, 0, none⟩), .int .u64 150] 173)).cell? ⟨x1, 0, none⟩ = some (.iface 265 (.pointer (some a))) := (zaf (zar w _ _) (zad _ _)).cell (p := ⟨x1, 0, none⟩) l1 |>.trans c1
 clear hg ht
 go_enter Tryz.func51, Tryz.ntmps51
 go_wp2
 refine wp_loop_rounds 3 ?_
 rw [rounds_succ]
 go_wp2
 rw [rounds_succ]
 go_wp2
 rw [rounds_succ]
 go_wp2
 go_ret
 exact ⟨rfl, zaf (zar w _ _) (zad _ _)⟩
end Go.Proofs.YteeeaeiafdgpkaaGreatDoor
