/-
  errors.As AT THIS PROGRAM's TARGETS, over its chains of errors. (Written by wip/gen/gen_as.py.)
-/
import Derived.Test.YtjhojohjegkinaaGreatDoorErrs
namespace Go.Proofs.YtjhojohjegkinaaGreatDoor
open Go Go.RowKit Go.Extern.Stop Go.Stop Go.Extern

theorem Tryz.asTypeOfP (v : Value) (w : World) : (ReflectliteType.typeOf #[.iface 146 v]).run Tryz.prog w = .ok (.iface 247 (.agg #[.pointer (some ⟨28, 146, none⟩)])) w := by kernel_rfl
theorem Tryz.assignPP (w : World) : (ReflectliteType.relation "AssignableTo" ReflectliteType.assignableTo #[.agg #[.pointer (some ⟨28, 146, none⟩)], .iface 247 (.agg #[.pointer (some ⟨28, 146, none⟩)])]).run Tryz.prog w = .ok (.bool true) w := by kernel_rfl
theorem Tryz.asTypeOfS (v : Value) (w : World) : (ReflectliteType.typeOf #[.iface 151 v]).run Tryz.prog w = .ok (.iface 247 (.agg #[.pointer (some ⟨28, 151, none⟩)])) w := by kernel_rfl
theorem Tryz.noAsS (v : Value) (xT : TypeId) (w : World) : (Instr.typeAssert (.iface 151 v) xT 251 true).run Tryz.prog w = .ok (.tuple #[.nilIface, .bool false]) w := run_typeAssert_lacksB Tryz.underlying251 (by kernel_rfl) (by kernel_rfl) v xT w
theorem Tryz.assignSP (w : World) : (ReflectliteType.relation "AssignableTo" ReflectliteType.assignableTo #[.agg #[.pointer (some ⟨28, 151, none⟩)], .iface 247 (.agg #[.pointer (some ⟨28, 146, none⟩)])]).run Tryz.prog w = .ok (.bool false) w := by kernel_rfl
theorem Tryz.assignSS (w : World) : (ReflectliteType.relation "AssignableTo" ReflectliteType.assignableTo #[.agg #[.pointer (some ⟨28, 151, none⟩)], .iface 247 (.agg #[.pointer (some ⟨28, 151, none⟩)])]).run Tryz.prog w = .ok (.bool true) w := by kernel_rfl

theorem Tryz.methodKind (h : Value) (w : World) : (Go.method 434 247 (.agg #[h]) "Kind").run Tryz.prog w = .ok (199, h) w := by kernel_rfl
theorem Tryz.methodElem (h : Value) (w : World) : (Go.method 434 247 (.agg #[h]) "Elem").run Tryz.prog w = .ok (219, .agg #[h]) w := by kernel_rfl
theorem Tryz.methodImplements (h : Value) (w : World) : (Go.method 434 247 (.agg #[h]) "Implements").run Tryz.prog w = .ok (220, .agg #[h]) w := by kernel_rfl
theorem Tryz.methodAssignableTo (h : Value) (w : World) : (Go.method 434 247 (.agg #[h]) "AssignableTo").run Tryz.prog w = .ok (217, .agg #[h]) w := by kernel_rfl
theorem rlm (z : Sem Value) (f : TypeId → Addr → Nat → Nat → Sem Value) (v : Value) :
    ReflectliteValue.method z f #[v] = (do match ← ReflectliteValue.parts v with | none => z | some (t, a, fl) => f t a fl (fl % 32)) := rfl
theorem rls (v x : Value) : ReflectliteValue.set #[v, x] = (do
    let (some (dst, a, fl), some (src, b, _)) := (← ReflectliteValue.parts v, ← ReflectliteValue.parts x)
      | unsupported (.noEntry "extern/(internal/reflectlite.Value).Set.zeroValue")
    if fl / ReflectliteValue.flagAddr % 2 == 0 then unsupported (.noEntry "extern/(internal/reflectlite.Value).Set.unaddressable")
    let val ← loadVar src b
    if ← Rtype.directlyAssignable dst src then storeVar dst a val
    else if ← Rtype.implements dst src then
      if (← Rtype.kind src) == 20 then
        match val with
        | .nilIface => unsupported (.noEntry "extern/reflectlite: a nil value of one interface type handed on as a value of another")
        | _ => storeVar dst a val
      else storeVar dst a (.iface src val)
    else panicString ("reflectlite.Set: value of type " ++ (← Rtype.spelt src) ++ " is not assignable to type " ++ (← Rtype.spelt dst))
    pure (.tuple #[])) := rfl

/-! ### the target **fault.placed -/
theorem Tryz.valueOfP2 (t : Addr) (w : World) : (ReflectliteValue.unpack (.iface 148 (.pointer (some t)))).run Tryz.prog w
    = .ok (.agg #[.pointer (some ⟨28, 148, none⟩), .pointer (some ⟨w.heap.size, 0, none⟩), .int .u64 150]) (w.alloc (.cells #[.pointer (some t)] 148)) := by kernel_rfl
theorem Tryz.typeP2 (a : Addr) (w : World) : (ReflectliteValue.methodAny (ReflectliteValue.valueError "reflectlite.Value.Type" 0) (fun t _ _ _ => ReflectliteType.toType t) #[.agg #[.pointer (some ⟨28, 148, none⟩), .pointer (some a), .int .u64 150]]).run Tryz.prog w
    = .ok (.iface 247 (.agg #[.pointer (some ⟨28, 148, none⟩)])) w := by kernel_rfl
theorem Tryz.kindP2 (w : World) : ((ReflectliteType.abiMethod fun t => (fun a : Nat => Value.int IntKind.u8 (a : Int)) <$> Rtype.kind t) #[.pointer (some ⟨28, 148, none⟩)]).run Tryz.prog w = .ok (.int .u8 22) w := by kernel_rfl
theorem Tryz.kindP (w : World) : ((ReflectliteType.abiMethod fun t => (fun a : Nat => Value.int IntKind.u8 (a : Int)) <$> Rtype.kind t) #[.pointer (some ⟨28, 146, none⟩)]).run Tryz.prog w = .ok (.int .u8 22) w := by kernel_rfl
theorem Tryz.partsP2 (a : Addr) (w : World) : (ReflectliteValue.parts (.agg #[.pointer (some ⟨28, 148, none⟩), .pointer (some a), .int .u64 150])).run Tryz.prog w = .ok (some (148, a, 150)) w := by kernel_rfl
theorem Tryz.isNilP2 (a p : Addr) (W : World) (ha : W.cell? a = some (.pointer (some p))) :
    (ReflectliteValue.method (ReflectliteValue.valueError "reflectlite.Value.IsNil" 0) ReflectliteValue.isNil #[.agg #[.pointer (some ⟨28, 148, none⟩), .pointer (some a), .int .u64 150]]).run Tryz.prog W = .ok (.bool false) W := by
  rw [rlm]
  simp only [Sem.run_bind, Tryz.partsP2, Result.andThen]
  simp [ReflectliteValue.isNil, loadVar, isAgg, underlying, Tryz.underlying148, ha, Result.andThen]
theorem Tryz.elemP2 (w : World) : (ReflectliteType.method ReflectliteType.elem #[.agg #[.pointer (some ⟨28, 148, none⟩)]]).run Tryz.prog w = .ok (.iface 247 (.agg #[.pointer (some ⟨28, 146, none⟩)])) w := by kernel_rfl
theorem Tryz.implementsP (w : World) : (ReflectliteType.relation "Implements" ReflectliteType.implements_ #[.agg #[.pointer (some ⟨28, 146, none⟩)], .iface 247 (.agg #[.pointer (some ⟨28, 32, none⟩)])]).run Tryz.prog w = .ok (.bool true) w := by kernel_rfl
theorem Tryz.valueOfP (e : Addr) (w : World) : (ReflectliteValue.unpack (.iface 146 (.pointer (some e)))).run Tryz.prog w
    = .ok (.agg #[.pointer (some ⟨28, 146, none⟩), .pointer (some ⟨w.heap.size, 0, none⟩), .int .u64 150]) (w.alloc (.cells #[.pointer (some e)] 146)) := by kernel_rfl
theorem Tryz.elemOfP2 (w : World) : (Rtype.elem? 148).run Tryz.prog w = .ok (some 146) w := by kernel_rfl
theorem Tryz.mkP (p : Addr) (w : World) : (ReflectliteValue.mk 146 p ReflectliteValue.flagAddr).run Tryz.prog w = .ok (.agg #[.pointer (some ⟨28, 146, none⟩), .pointer (some p), .int .u64 406]) w := by kernel_rfl
theorem Tryz.elemVP2 (a p : Addr) (W : World) (ha : W.cell? a = some (.pointer (some p))) :
    (ReflectliteValue.method (ReflectliteValue.valueError "reflectlite.Value.Elem" 0) ReflectliteValue.elem #[.agg #[.pointer (some ⟨28, 148, none⟩), .pointer (some a), .int .u64 150]]).run Tryz.prog W
      = .ok (.agg #[.pointer (some ⟨28, 146, none⟩), .pointer (some p), .int .u64 406]) W := by
  rw [rlm]
  simp only [Sem.run_bind, Tryz.partsP2, Result.andThen]
  simp [ReflectliteValue.elem, loadVar, isAgg, underlying, Tryz.underlying148, ha, Result.andThen, Tryz.elemOfP2, Tryz.mkP]
theorem Tryz.partsPa (a : Addr) (w : World) : (ReflectliteValue.parts (.agg #[.pointer (some ⟨28, 146, none⟩), .pointer (some a), .int .u64 406])).run Tryz.prog w = .ok (some (146, a, 406)) w := by kernel_rfl
theorem Tryz.partsP (a : Addr) (w : World) : (ReflectliteValue.parts (.agg #[.pointer (some ⟨28, 146, none⟩), .pointer (some a), .int .u64 150])).run Tryz.prog w = .ok (some (146, a, 150)) w := by kernel_rfl
theorem Tryz.directP (w : World) : (Rtype.directlyAssignable 146 146).run Tryz.prog w = .ok true w := by kernel_rfl
theorem Tryz.setP (ta b e : Addr) (old : Value) (W : World) (hb : W.cell? b = some (.pointer (some e))) (ht : W.cell? ta = some old) (hf : W.frozen? ta = false) :
    (ReflectliteValue.set #[.agg #[.pointer (some ⟨28, 146, none⟩), .pointer (some ta), .int .u64 406], .agg #[.pointer (some ⟨28, 146, none⟩), .pointer (some b), .int .u64 150]]).run Tryz.prog W
      = .ok (.tuple #[]) (W.setCell ta (.pointer (some e))) := by
  rw [rls]
  simp only [Sem.run_bind, Tryz.partsPa, Tryz.partsP, Result.andThen]
  simp [ReflectliteValue.flagAddr, loadVar, isAgg, underlying, Tryz.underlying146, hb, Result.andThen, Tryz.directP, storeVar, Value.cells, storeCells, Addr.add]
  rw [run_store Tryz.prog W ta _ _ (by rfl)]
  simp [ht, hf]

/-! ### the target **fault.spoken -/
theorem Tryz.valueOfS2 (t : Addr) (w : World) : (ReflectliteValue.unpack (.iface 152 (.pointer (some t)))).run Tryz.prog w
    = .ok (.agg #[.pointer (some ⟨28, 152, none⟩), .pointer (some ⟨w.heap.size, 0, none⟩), .int .u64 150]) (w.alloc (.cells #[.pointer (some t)] 152)) := by kernel_rfl
theorem Tryz.typeS2 (a : Addr) (w : World) : (ReflectliteValue.methodAny (ReflectliteValue.valueError "reflectlite.Value.Type" 0) (fun t _ _ _ => ReflectliteType.toType t) #[.agg #[.pointer (some ⟨28, 152, none⟩), .pointer (some a), .int .u64 150]]).run Tryz.prog w
    = .ok (.iface 247 (.agg #[.pointer (some ⟨28, 152, none⟩)])) w := by kernel_rfl
theorem Tryz.kindS2 (w : World) : ((ReflectliteType.abiMethod fun t => (fun a : Nat => Value.int IntKind.u8 (a : Int)) <$> Rtype.kind t) #[.pointer (some ⟨28, 152, none⟩)]).run Tryz.prog w = .ok (.int .u8 22) w := by kernel_rfl
theorem Tryz.kindS (w : World) : ((ReflectliteType.abiMethod fun t => (fun a : Nat => Value.int IntKind.u8 (a : Int)) <$> Rtype.kind t) #[.pointer (some ⟨28, 151, none⟩)]).run Tryz.prog w = .ok (.int .u8 22) w := by kernel_rfl
theorem Tryz.partsS2 (a : Addr) (w : World) : (ReflectliteValue.parts (.agg #[.pointer (some ⟨28, 152, none⟩), .pointer (some a), .int .u64 150])).run Tryz.prog w = .ok (some (152, a, 150)) w := by kernel_rfl
theorem Tryz.isNilS2 (a p : Addr) (W : World) (ha : W.cell? a = some (.pointer (some p))) :
    (ReflectliteValue.method (ReflectliteValue.valueError "reflectlite.Value.IsNil" 0) ReflectliteValue.isNil #[.agg #[.pointer (some ⟨28, 152, none⟩), .pointer (some a), .int .u64 150]]).run Tryz.prog W = .ok (.bool false) W := by
  rw [rlm]
  simp only [Sem.run_bind, Tryz.partsS2, Result.andThen]
  simp [ReflectliteValue.isNil, loadVar, isAgg, underlying, Tryz.underlying152, ha, Result.andThen]
theorem Tryz.elemS2 (w : World) : (ReflectliteType.method ReflectliteType.elem #[.agg #[.pointer (some ⟨28, 152, none⟩)]]).run Tryz.prog w = .ok (.iface 247 (.agg #[.pointer (some ⟨28, 151, none⟩)])) w := by kernel_rfl
theorem Tryz.implementsS (w : World) : (ReflectliteType.relation "Implements" ReflectliteType.implements_ #[.agg #[.pointer (some ⟨28, 151, none⟩)], .iface 247 (.agg #[.pointer (some ⟨28, 32, none⟩)])]).run Tryz.prog w = .ok (.bool true) w := by kernel_rfl
theorem Tryz.valueOfS (e : Addr) (w : World) : (ReflectliteValue.unpack (.iface 151 (.pointer (some e)))).run Tryz.prog w
    = .ok (.agg #[.pointer (some ⟨28, 151, none⟩), .pointer (some ⟨w.heap.size, 0, none⟩), .int .u64 150]) (w.alloc (.cells #[.pointer (some e)] 151)) := by kernel_rfl
theorem Tryz.elemOfS2 (w : World) : (Rtype.elem? 152).run Tryz.prog w = .ok (some 151) w := by kernel_rfl
theorem Tryz.mkS (p : Addr) (w : World) : (ReflectliteValue.mk 151 p ReflectliteValue.flagAddr).run Tryz.prog w = .ok (.agg #[.pointer (some ⟨28, 151, none⟩), .pointer (some p), .int .u64 406]) w := by kernel_rfl
theorem Tryz.elemVS2 (a p : Addr) (W : World) (ha : W.cell? a = some (.pointer (some p))) :
    (ReflectliteValue.method (ReflectliteValue.valueError "reflectlite.Value.Elem" 0) ReflectliteValue.elem #[.agg #[.pointer (some ⟨28, 152, none⟩), .pointer (some a), .int .u64 150]]).run Tryz.prog W
      = .ok (.agg #[.pointer (some ⟨28, 151, none⟩), .pointer (some p), .int .u64 406]) W := by
  rw [rlm]
  simp only [Sem.run_bind, Tryz.partsS2, Result.andThen]
  simp [ReflectliteValue.elem, loadVar, isAgg, underlying, Tryz.underlying152, ha, Result.andThen, Tryz.elemOfS2, Tryz.mkS]
theorem Tryz.partsSa (a : Addr) (w : World) : (ReflectliteValue.parts (.agg #[.pointer (some ⟨28, 151, none⟩), .pointer (some a), .int .u64 406])).run Tryz.prog w = .ok (some (151, a, 406)) w := by kernel_rfl
theorem Tryz.partsS (a : Addr) (w : World) : (ReflectliteValue.parts (.agg #[.pointer (some ⟨28, 151, none⟩), .pointer (some a), .int .u64 150])).run Tryz.prog w = .ok (some (151, a, 150)) w := by kernel_rfl
theorem Tryz.directS (w : World) : (Rtype.directlyAssignable 151 151).run Tryz.prog w = .ok true w := by kernel_rfl
theorem Tryz.setS (ta b e : Addr) (old : Value) (W : World) (hb : W.cell? b = some (.pointer (some e))) (ht : W.cell? ta = some old) (hf : W.frozen? ta = false) :
    (ReflectliteValue.set #[.agg #[.pointer (some ⟨28, 151, none⟩), .pointer (some ta), .int .u64 406], .agg #[.pointer (some ⟨28, 151, none⟩), .pointer (some b), .int .u64 150]]).run Tryz.prog W
      = .ok (.tuple #[]) (W.setCell ta (.pointer (some e))) := by
  rw [rls]
  simp only [Sem.run_bind, Tryz.partsSa, Tryz.partsS, Result.andThen]
  simp [ReflectliteValue.flagAddr, loadVar, isAgg, underlying, Tryz.underlying151, hb, Result.andThen, Tryz.directS, storeVar, Value.cells, storeCells, Addr.add]
  rw [run_store Tryz.prog W ta _ _ (by rfl)]
  simp [ht, hf]

/-! ### the target **kern.refused -/

/-- The handle that errors.As reads. -/
structure Ety (B : Nat) (w : World) : Prop where
  cell : w.cell? ⟨0, 0, none⟩ = some (.iface 247 (.agg #[.pointer (some ⟨28, 32, none⟩)]))
  low : 0 < B
  size : B ≤ w.heap.size

theorem Ety.kept {B : Nat} {w w' : World} {F : Nat → Prop} (h : Ety B w) (k : Kept F w w') (hF : ∀ b, F b → B ≤ b) : Ety B w' :=
  ⟨(k.cell (p := ⟨0, 0, none⟩) (Nat.lt_of_lt_of_le h.low h.size) (fun hf => by have h1 := hF _ hf; have h2 := h.low; exact absurd h1 (by show ¬ B ≤ 0; omega))).trans h.cell, h.low, Nat.le_trans h.size k.size⟩
theorem Ety.below {B : Nat} {w w' : World} (h : Ety B w) (k : Below w.heap.size w w') : Ety B w' := h.kept (Kept.of_below k (fun _ => False)) (fun _ hf => hf.elim)

/-- A hit: the target holds what was found. -/
def AsHit (w : World) (tb : Nat) (tT : TypeId) (x : Nat) (e : Ending) (w' : World) : Prop :=
  e = .returned (.bool true) ∧ w'.heap[tb]? = some (.cells #[.pointer (some ⟨x, 0, none⟩)] tT (0, 0)) ∧ Kept (fun b => b = tb) w w'

theorem as_made {w : World} {tb : Nat} {tT : TypeId} (ht : w.heap[tb]? = some (.cells #[.pointer none] tT (0, 0))) (o1 o2 o3 o4 : Obj) (x : Nat) :
    AsHit w tb tT x (.returned (.bool true)) (((((w.alloc o1).alloc o2).alloc o3).alloc o4).setCell ⟨tb, 0, none⟩ (.pointer (some ⟨x, 0, none⟩))) := by
  refine ⟨rfl, ?_, ?_⟩
  · have hb : Below w.heap.size w ((((w.alloc o1).alloc o2).alloc o3).alloc o4) := below_trans (below_trans (below_two w _ _) (below_alloc _ _)) (below_alloc _ _)
    exact heap_set_same (below_heap hb (lt_of_heap ht) ht) 0 _
  · exact ((((((Kept.refl (fun b => b = tb) w).alloc o1).alloc o2).alloc o3).alloc o4)).setCell (p := ⟨tb, 0, none⟩) (.inl rfl) _

set_option maxRecDepth 1000000 in
set_option maxHeartbeats 4000000 in
theorem as_placed {B : Nat} (x0 x1 : Nat) (tb : Nat) (w : World) (hg : Ety B w) (ht : w.heap[tb]? = some (.cells #[.pointer none] 146 (0, 0))) (c0 : w.cell? ⟨x0, 0, none⟩ = some (.iface 146 (.pointer (some ⟨x1, 0, none⟩)))) :
    Calls Tryz.prog 74 #[.iface 151 (.pointer (some ⟨x0, 0, none⟩)), .iface 148 (.pointer (some ⟨tb, 0, none⟩))] w fun e w' => AsHit w tb 146 x1 e w' := by
  have h6 := @run_callFunc_extern Tryz.prog 110 _ (fun args => ReflectliteValue.unpack (args.getD 0 (.tuple #[]))) Tryz.func110 (by kernel_rfl) (by kernel_rfl) (by kernel_rfl) (by kernel_rfl)
  have h7 := @run_callFunc_extern Tryz.prog 111 _ (ReflectliteValue.methodAny (ReflectliteValue.valueError "reflectlite.Value.Type" 0) (fun t _ _ _ => ReflectliteType.toType t)) Tryz.func111 (by kernel_rfl) (by kernel_rfl) (by kernel_rfl) (by kernel_rfl)
  have h8 := @run_callFunc_extern Tryz.prog 112 _ (ReflectliteValue.method (ReflectliteValue.valueError "reflectlite.Value.IsNil" 0) ReflectliteValue.isNil) Tryz.func112 (by kernel_rfl) (by kernel_rfl) (by kernel_rfl) (by kernel_rfl)
  have h27 := @run_callFunc_extern Tryz.prog 199 _ (ReflectliteType.abiMethod fun t => do pure (.int .u8 (← Rtype.kind t))) Tryz.func199 (by kernel_rfl) (by kernel_rfl) (by kernel_rfl) (by kernel_rfl)
  have h37 := @run_callFunc_extern Tryz.prog 219 _ (ReflectliteType.method ReflectliteType.elem) Tryz.func219 (by kernel_rfl) (by kernel_rfl) (by kernel_rfl) (by kernel_rfl)
  have h38 := @run_callFunc_extern Tryz.prog 220 _ (ReflectliteType.relation "Implements" ReflectliteType.implements_) Tryz.func220 (by kernel_rfl) (by kernel_rfl) (by kernel_rfl) (by kernel_rfl)
  have h10 := @run_callFunc_extern Tryz.prog 138 _ ReflectliteType.typeOf Tryz.func138 (by kernel_rfl) (by kernel_rfl) (by kernel_rfl) (by kernel_rfl)
  have h35 := @run_callFunc_extern Tryz.prog 217 _ (ReflectliteType.relation "AssignableTo" ReflectliteType.assignableTo) Tryz.func217 (by kernel_rfl) (by kernel_rfl) (by kernel_rfl) (by kernel_rfl)
  have h11 := @run_callFunc_extern Tryz.prog 140 _ (ReflectliteValue.method (ReflectliteValue.valueError "reflectlite.Value.Elem" 0) ReflectliteValue.elem) Tryz.func140 (by kernel_rfl) (by kernel_rfl) (by kernel_rfl) (by kernel_rfl)
  have h12 := @run_callFunc_extern Tryz.prog 141 _ ReflectliteValue.set Tryz.func141 (by kernel_rfl) (by kernel_rfl) (by kernel_rfl) (by kernel_rfl)
  have tOP := Tryz.asTypeOfP
  have aTP := Tryz.assignPP
  have tOS := Tryz.asTypeOfS
  have aTS := Tryz.assignSP
  have nAS := Tryz.noAsS
  have uS := Tryz.hasUnwrapS
  have mS := Tryz.mUnwrapS
  have mA := Tryz.methodAssignableTo
  have f6 := Tryz.valueOfP2
  have f7 := Tryz.typeP2
  have mK := Tryz.methodKind
  have mE := Tryz.methodElem
  have mI := Tryz.methodImplements
  have k27 := Tryz.kindP2
  have k25 := Tryz.kindP
  have e27 := Tryz.elemP2
  have i25 := Tryz.implementsP
  have n8 := Tryz.isNilP2 ⟨w.heap.size, 0, none⟩ ⟨tb, 0, none⟩ ((w.alloc (.cells #[.pointer (some ⟨tb, 0, none⟩)] 148)).alloc (.cells #[.pointer (some ⟨28, 148, none⟩), .pointer (some ⟨w.heap.size, 0, none⟩), .int .u64 150] 209)) (by simp)
  have HT := Lib.hid ht
  have ht0 : w.cell? ⟨tb, 0, none⟩ = some (.pointer none) := cell_of ht rfl
  have hf0 : w.frozen? ⟨tb, 0, none⟩ = false := free_of ht 0
  have htl : tb < w.heap.size := lt_of_heap ht
  have hlt : 0 < w.heap.size := Nat.lt_of_lt_of_le hg.low hg.size
  have hg2 : ((w.alloc (.cells #[.pointer (some ⟨tb, 0, none⟩)] 148)).alloc (.cells #[.pointer (some ⟨28, 148, none⟩), .pointer (some ⟨w.heap.size, 0, none⟩), .int .u64 150] 209)).cell? ⟨0, 0, none⟩ = some (.iface 247 (.agg #[.pointer (some ⟨28, 32, none⟩)])) := by
    rw [World.cell?_alloc_lt _ _ ⟨0, 0, none⟩ (by simp <;> omega), World.cell?_alloc_lt _ _ ⟨0, 0, none⟩ hlt]; exact hg.cell
  have l0 : x0 < w.heap.size := World.block_lt_of_cell? _ _ c0
  have d0 : (((w.alloc (.cells #[.pointer (some ⟨tb, 0, none⟩)] 148)).alloc (.cells #[.pointer (some ⟨28, 148, none⟩), .pointer (some ⟨w.heap.size, 0, none⟩), .int .u64 150] 209)).alloc (.cells #[.pointer (some ⟨28, 148, none⟩), .pointer (some ⟨w.heap.size, 0, none⟩), .int .u64 150] 209)).cell? ⟨x0, 0, none⟩ = some (.iface 146 (.pointer (some ⟨x1, 0, none⟩))) := (below_trans (below_two w _ _) (below_alloc _ _)).cell (p := ⟨x0, 0, none⟩) l0 |>.trans c0
  have v25 := Tryz.valueOfP
  have el := Tryz.elemVP2 ⟨w.heap.size, 0, none⟩ ⟨tb, 0, none⟩ (((w.alloc (.cells #[.pointer (some ⟨tb, 0, none⟩)] 148)).alloc (.cells #[.pointer (some ⟨28, 148, none⟩), .pointer (some ⟨w.heap.size, 0, none⟩), .int .u64 150] 209)).alloc (.cells #[.pointer (some ⟨28, 148, none⟩), .pointer (some ⟨w.heap.size, 0, none⟩), .int .u64 150] 209)) (by rw [World.cell?_alloc_lt _ _ ⟨w.heap.size, 0, none⟩ (by simp; omega)]; simp)
  have st := Tryz.setP ⟨tb, 0, none⟩ ⟨w.heap.size + 1 + 1 + 1, 0, none⟩ ⟨x1, 0, none⟩ (.pointer none) ((((w.alloc (.cells #[.pointer (some ⟨tb, 0, none⟩)] 148)).alloc (.cells #[.pointer (some ⟨28, 148, none⟩), .pointer (some ⟨w.heap.size, 0, none⟩), .int .u64 150] 209)).alloc (.cells #[.pointer (some ⟨28, 148, none⟩), .pointer (some ⟨w.heap.size, 0, none⟩), .int .u64 150] 209)).alloc (.cells #[.pointer (some ⟨x1, 0, none⟩)] 146))
    (by rw [World.cell?_alloc_at _ _ _ _ (by simp)]; rfl)
    (by rw [World.cell?_alloc_lt _ _ ⟨tb, 0, none⟩ (by simp <;> omega), World.cell?_alloc_lt _ _ ⟨tb, 0, none⟩ (by simp <;> omega), World.cell?_alloc_lt _ _ ⟨tb, 0, none⟩ (by simp <;> omega), World.cell?_alloc_lt _ _ ⟨tb, 0, none⟩ htl]; exact ht0)
    (by rw [World.frozen?_alloc_old _ _ ⟨tb, 0, none⟩ (by simp; omega), World.frozen?_alloc_old _ _ ⟨tb, 0, none⟩ (by simp; omega), World.frozen?_alloc_old _ _ ⟨tb, 0, none⟩ (by simp; omega), World.frozen?_alloc_old _ _ ⟨tb, 0, none⟩ (Nat.ne_of_lt htl)]; exact hf0)
  clear hg ht
  go_enter Tryz.func74, Tryz.ntmps74
  go_wp2
  refine wp_loop_rounds 2 ?_
  rw [rounds_succ]
  go_wp2
  rw [rounds_succ]
  go_wp2
  go_ret
  exact as_made HT.out _ _ _ _ _


set_option maxRecDepth 1000000 in
set_option maxHeartbeats 4000000 in
theorem as_spoken {B : Nat} (x0 x1 : Nat) (tb : Nat) (w : World) (hg : Ety B w) (ht : w.heap[tb]? = some (.cells #[.pointer none] 151 (0, 0))) (c0 : w.cell? ⟨x0, 0, none⟩ = some (.iface 146 (.pointer (some ⟨x1, 0, none⟩)))) :
    Calls Tryz.prog 74 #[.iface 151 (.pointer (some ⟨x0, 0, none⟩)), .iface 152 (.pointer (some ⟨tb, 0, none⟩))] w fun e w' => AsHit w tb 151 x0 e w' := by
  have h6 := @run_callFunc_extern Tryz.prog 110 _ (fun args => ReflectliteValue.unpack (args.getD 0 (.tuple #[]))) Tryz.func110 (by kernel_rfl) (by kernel_rfl) (by kernel_rfl) (by kernel_rfl)
  have h7 := @run_callFunc_extern Tryz.prog 111 _ (ReflectliteValue.methodAny (ReflectliteValue.valueError "reflectlite.Value.Type" 0) (fun t _ _ _ => ReflectliteType.toType t)) Tryz.func111 (by kernel_rfl) (by kernel_rfl) (by kernel_rfl) (by kernel_rfl)
  have h8 := @run_callFunc_extern Tryz.prog 112 _ (ReflectliteValue.method (ReflectliteValue.valueError "reflectlite.Value.IsNil" 0) ReflectliteValue.isNil) Tryz.func112 (by kernel_rfl) (by kernel_rfl) (by kernel_rfl) (by kernel_rfl)
  have h27 := @run_callFunc_extern Tryz.prog 199 _ (ReflectliteType.abiMethod fun t => do pure (.int .u8 (← Rtype.kind t))) Tryz.func199 (by kernel_rfl) (by kernel_rfl) (by kernel_rfl) (by kernel_rfl)
  have h37 := @run_callFunc_extern Tryz.prog 219 _ (ReflectliteType.method ReflectliteType.elem) Tryz.func219 (by kernel_rfl) (by kernel_rfl) (by kernel_rfl) (by kernel_rfl)
  have h38 := @run_callFunc_extern Tryz.prog 220 _ (ReflectliteType.relation "Implements" ReflectliteType.implements_) Tryz.func220 (by kernel_rfl) (by kernel_rfl) (by kernel_rfl) (by kernel_rfl)
  have h10 := @run_callFunc_extern Tryz.prog 138 _ ReflectliteType.typeOf Tryz.func138 (by kernel_rfl) (by kernel_rfl) (by kernel_rfl) (by kernel_rfl)
  have h35 := @run_callFunc_extern Tryz.prog 217 _ (ReflectliteType.relation "AssignableTo" ReflectliteType.assignableTo) Tryz.func217 (by kernel_rfl) (by kernel_rfl) (by kernel_rfl) (by kernel_rfl)
  have h11 := @run_callFunc_extern Tryz.prog 140 _ (ReflectliteValue.method (ReflectliteValue.valueError "reflectlite.Value.Elem" 0) ReflectliteValue.elem) Tryz.func140 (by kernel_rfl) (by kernel_rfl) (by kernel_rfl) (by kernel_rfl)
  have h12 := @run_callFunc_extern Tryz.prog 141 _ ReflectliteValue.set Tryz.func141 (by kernel_rfl) (by kernel_rfl) (by kernel_rfl) (by kernel_rfl)
  have tOS := Tryz.asTypeOfS
  have aTS := Tryz.assignSS
  have mA := Tryz.methodAssignableTo
  have f6 := Tryz.valueOfS2
  have f7 := Tryz.typeS2
  have mK := Tryz.methodKind
  have mE := Tryz.methodElem
  have mI := Tryz.methodImplements
  have k27 := Tryz.kindS2
  have k25 := Tryz.kindS
  have e27 := Tryz.elemS2
  have i25 := Tryz.implementsS
  have n8 := Tryz.isNilS2 ⟨w.heap.size, 0, none⟩ ⟨tb, 0, none⟩ ((w.alloc (.cells #[.pointer (some ⟨tb, 0, none⟩)] 152)).alloc (.cells #[.pointer (some ⟨28, 152, none⟩), .pointer (some ⟨w.heap.size, 0, none⟩), .int .u64 150] 209)) (by simp)
  have HT := Lib.hid ht
  have ht0 : w.cell? ⟨tb, 0, none⟩ = some (.pointer none) := cell_of ht rfl
  have hf0 : w.frozen? ⟨tb, 0, none⟩ = false := free_of ht 0
  have htl : tb < w.heap.size := lt_of_heap ht
  have hlt : 0 < w.heap.size := Nat.lt_of_lt_of_le hg.low hg.size
  have hg2 : ((w.alloc (.cells #[.pointer (some ⟨tb, 0, none⟩)] 152)).alloc (.cells #[.pointer (some ⟨28, 152, none⟩), .pointer (some ⟨w.heap.size, 0, none⟩), .int .u64 150] 209)).cell? ⟨0, 0, none⟩ = some (.iface 247 (.agg #[.pointer (some ⟨28, 32, none⟩)])) := by
    rw [World.cell?_alloc_lt _ _ ⟨0, 0, none⟩ (by simp <;> omega), World.cell?_alloc_lt _ _ ⟨0, 0, none⟩ hlt]; exact hg.cell
  have l0 : x0 < w.heap.size := World.block_lt_of_cell? _ _ c0
  have d0 : (((w.alloc (.cells #[.pointer (some ⟨tb, 0, none⟩)] 152)).alloc (.cells #[.pointer (some ⟨28, 152, none⟩), .pointer (some ⟨w.heap.size, 0, none⟩), .int .u64 150] 209)).alloc (.cells #[.pointer (some ⟨28, 152, none⟩), .pointer (some ⟨w.heap.size, 0, none⟩), .int .u64 150] 209)).cell? ⟨x0, 0, none⟩ = some (.iface 146 (.pointer (some ⟨x1, 0, none⟩))) := (below_trans (below_two w _ _) (below_alloc _ _)).cell (p := ⟨x0, 0, none⟩) l0 |>.trans c0
  have v25 := Tryz.valueOfS
  have el := Tryz.elemVS2 ⟨w.heap.size, 0, none⟩ ⟨tb, 0, none⟩ (((w.alloc (.cells #[.pointer (some ⟨tb, 0, none⟩)] 152)).alloc (.cells #[.pointer (some ⟨28, 152, none⟩), .pointer (some ⟨w.heap.size, 0, none⟩), .int .u64 150] 209)).alloc (.cells #[.pointer (some ⟨28, 152, none⟩), .pointer (some ⟨w.heap.size, 0, none⟩), .int .u64 150] 209)) (by rw [World.cell?_alloc_lt _ _ ⟨w.heap.size, 0, none⟩ (by simp; omega)]; simp)
  have st := Tryz.setS ⟨tb, 0, none⟩ ⟨w.heap.size + 1 + 1 + 1, 0, none⟩ ⟨x0, 0, none⟩ (.pointer none) ((((w.alloc (.cells #[.pointer (some ⟨tb, 0, none⟩)] 152)).alloc (.cells #[.pointer (some ⟨28, 152, none⟩), .pointer (some ⟨w.heap.size, 0, none⟩), .int .u64 150] 209)).alloc (.cells #[.pointer (some ⟨28, 152, none⟩), .pointer (some ⟨w.heap.size, 0, none⟩), .int .u64 150] 209)).alloc (.cells #[.pointer (some ⟨x0, 0, none⟩)] 151))
    (by rw [World.cell?_alloc_at _ _ _ _ (by simp)]; rfl)
    (by rw [World.cell?_alloc_lt _ _ ⟨tb, 0, none⟩ (by simp <;> omega), World.cell?_alloc_lt _ _ ⟨tb, 0, none⟩ (by simp <;> omega), World.cell?_alloc_lt _ _ ⟨tb, 0, none⟩ (by simp <;> omega), World.cell?_alloc_lt _ _ ⟨tb, 0, none⟩ htl]; exact ht0)
    (by rw [World.frozen?_alloc_old _ _ ⟨tb, 0, none⟩ (by simp; omega), World.frozen?_alloc_old _ _ ⟨tb, 0, none⟩ (by simp; omega), World.frozen?_alloc_old _ _ ⟨tb, 0, none⟩ (by simp; omega), World.frozen?_alloc_old _ _ ⟨tb, 0, none⟩ (Nat.ne_of_lt htl)]; exact hf0)
  clear hg ht
  go_enter Tryz.func74, Tryz.ntmps74
  go_wp2
  refine wp_loop_rounds 1 ?_
  rw [rounds_succ]
  go_wp2
  go_ret
  exact as_made HT.out _ _ _ _ _




end Go.Proofs.YtjhojohjegkinaaGreatDoor
