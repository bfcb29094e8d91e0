/-
 errors.Is OVER A CHAIN of this program's errors; fault.Of, fault.Is: their contracts.
-/
import Derived.Test.YteeeaeiafdgpkaaGreatDoorKernA
import Derived.LaidEql
import Derived.Stop.Asserts
import Derived.RowKitTokens
import Derived.Lib.Hide
namespace Go.Proofs.YteeeaeiafdgpkaaGreatDoor
open Go Go.RowKit Go.Extern.Stop Go.Stop Go.Extern
open Go.Lib (hid)
theorem Tryz.isTypeOf (v : Value) (w : World) : (Extern.ReflectliteType.typeOf #[.iface 265 v]).run Tryz.prog w = .ok (.iface 208 (.agg #[.pointer (some ⟨28, 265, none⟩)])) w := by kernel_rfl
def xComparable : Array Value → Sem Value := Extern.ReflectliteType.method fun t => do Extern.Rtype.noPackHeld "Comparable" t; pure (.bool (← typeInfo t).comparable)
theorem Tryz.isComparable (w : World) : (xComparable #[.agg #[.pointer (some ⟨28, 265, none⟩)]]).run Tryz.prog w = .ok (.bool true) w := by kernel_rfl
theorem Tryz.isMethodComparable (v : Value) (w : World) : (Go.method 396 208 v "Comparable").run Tryz.prog w = .ok (192, v) w := by kernel_rfl
theorem Tryz.isComp : (Tryz.prog.info? 265).map (·.comparable) = some true := by kernel_rfl
theorem Tryz.isSize : (Tryz.prog.info? 285).map (·.size) = some 1 := by kernel_rfl
theorem Tryz.noIsE (v : Value) (xT : TypeId) (w : World) : (Instr.typeAssert (.iface 265 v) xT 239 true).run Tryz.prog w = .ok (.tuple #[.nilIface, .bool false]) w := run_typeAssert_lacksB Tryz.underlying239 (by kernel_rfl) (by kernel_rfl) v xT w
theorem Tryz.noUnwrapE (v : Value) (xT : TypeId) (w : World) : (Instr.typeAssert (.iface 265 v) xT 215 true).run Tryz.prog w = .ok (.tuple #[.nilIface, .bool false]) w := run_typeAssert_lacksB Tryz.underlying215 (by kernel_rfl) (by kernel_rfl) v xT w
theorem Tryz.noUnwrapsE (v : Value) (xT : TypeId) (w : World) : (Instr.typeAssert (.iface 265 v) xT 217 true).run Tryz.prog w = .ok (.tuple #[.nilIface, .bool false]) w := run_typeAssert_lacksB Tryz.underlying217 (by kernel_rfl) (by kernel_rfl) v xT w
theorem Tryz.noIsP (v : Value) (xT : TypeId) (w : World) : (Instr.typeAssert (.iface 127 v) xT 239 true).run Tryz.prog w = .ok (.tuple #[.nilIface, .bool false]) w := run_typeAssert_lacksB Tryz.underlying239 (by kernel_rfl) (by kernel_rfl) v xT w
theorem Tryz.noIsS (v : Value) (xT : TypeId) (w : World) : (Instr.typeAssert (.iface 132 v) xT 239 true).run Tryz.prog w = .ok (.tuple #[.nilIface, .bool false]) w := run_typeAssert_lacksB Tryz.underlying239 (by kernel_rfl) (by kernel_rfl) v xT w
theorem Tryz.noIsR (v : Value) (xT : TypeId) (w : World) : (Instr.typeAssert (.iface 160 v) xT 239 true).run Tryz.prog w = .ok (.tuple #[.nilIface, .bool false]) w := run_typeAssert_lacksB Tryz.underlying239 (by kernel_rfl) (by kernel_rfl) v xT w
theorem Tryz.hasUnwrapP (v : Value) (xT : TypeId) (w : World) : (Instr.typeAssert (.iface 127 v) xT 215 true).run Tryz.prog w = .ok (.tuple #[.iface 127 v, .bool true]) w := run_typeAssert_hasB Tryz.underlying215 (by kernel_rfl) v xT w
theorem Tryz.hasUnwrapS (v : Value) (xT : TypeId) (w : World) : (Instr.typeAssert (.iface 132 v) xT 215 true).run Tryz.prog w = .ok (.tuple #[.iface 132 v, .bool true]) w := run_typeAssert_hasB Tryz.underlying215 (by kernel_rfl) v xT w
theorem Tryz.hasUnwrapR (v : Value) (xT : TypeId) (w : World) : (Instr.typeAssert (.iface 160 v) xT 215 true).run Tryz.prog w = .ok (.tuple #[.iface 160 v, .bool true]) w := run_typeAssert_hasB Tryz.underlying215 (by kernel_rfl) v xT w
theorem Tryz.mUnwrapP (v : Value) (w : World) : (Go.method 396 127 v "Unwrap").run Tryz.prog w = .ok (182, v) w := by kernel_rfl
theorem Tryz.mUnwrapS (v : Value) (w : World) : (Go.method 396 132 v "Unwrap").run Tryz.prog w = .ok (184, v) w := by kernel_rfl
theorem Tryz.mUnwrapR (v : Value) (w : World) : (Go.method 396 160 v "Unwrap").run Tryz.prog w = .ok (186, v) w := by kernel_rfl
inductive Chain (W : World) : Value → Addr → Nat → Prop
 | leaf (a : Addr) (ca : Array Value) (ta : TypeId) : W.heap[a.block]? = some (.cells ca ta (0, 0)) → Chain W (.iface 265 (.pointer (some a))) a 0
 | placed (b : Nat) (u : TypeId) (v : Value) (a : Addr) (n : Nat) : W.cell? ⟨b, 0, none⟩ = some (.iface u v) → Chain W (.iface u v) a n → Chain W (.iface 127 (.pointer (some ⟨b, 0, none⟩))) a (n + 1)
 | spoken (b : Nat) (u : TypeId) (v : Value) (a : Addr) (n : Nat) : W.cell? ⟨b, 0, none⟩ = some (.iface u v) → Chain W (.iface u v) a n → Chain W (.iface 132 (.pointer (some ⟨b, 0, none⟩))) a (n + 1)
 | refused (b : Nat) (u : TypeId) (v : Value) (a : Addr) (n : Nat) : W.cell? ⟨b, 0, none⟩ = some (.iface u v) → Chain W (.iface u v) a n → Chain W (.iface 160 (.pointer (some ⟨b, 0, none⟩))) a (n + 1)
theorem Chain.unique {W : World} {V : Value} {a b : Addr} {n m : Nat} (h : Chain W V a n) (h' : Chain W V b m) : n = m := by
 induction h generalizing b m with
 | leaf a ca ta _ => cases h'; rfl
 | placed c u v a n hc _ ih =>
  cases h' with
  | placed _ u2 v2 _ m2 hc2 h2 => rw [hc] at hc2; cases hc2; rw [ih h2]
 | spoken c u v a n hc _ ih =>
  cases h' with
  | spoken _ u2 v2 _ m2 hc2 h2 => rw [hc] at hc2; cases hc2; rw [ih h2]
 | refused c u v a n hc _ ih =>
  cases h' with
  | refused _ u2 v2 _ m2 hc2 h2 => rw [hc] at hc2; cases hc2; rw [ih h2]
open Classical in
noncomputable def zc9 (W : World) (V : Value) : Nat := if h : ∃ n a, Chain W V a n then h.choose else 0
theorem zcw {W : World} {V : Value} {a : Addr} {n : Nat} (h : Chain W V a n) : zc9 W V = n := by
 unfold zc9
 rw [dif_pos ⟨n, a, h⟩]
 obtain ⟨b, hb⟩ := Exists.choose_spec (p := fun n => ∃ a, Chain W V a n) ⟨n, a, h⟩
 exact Chain.unique hb h
def AskPost (w : World) (r : Bool) (e : Ending) (w' : World) : Prop := e = .returned (.bool r) ∧ w' = w
set_option maxRecDepth 1000000 in
set_option maxHeartbeats 1000000 in
theorem is_chain {W : World} (b : Addr) (cb : Array Value) (tb : TypeId) (hb : W.heap[b.block]? = some (.cells cb tb (0, 0))) (V : Value) (a : Addr) (n : Nat) (hch : Chain W V a n) (r : Bool) (hr : r = decide (a = b)) :
  Calls Tryz.prog 103 #[V, .iface 265 (.pointer (some b)), .bool true] W fun e w' => AskPost W r e w' := by
 have HRR := hid hr
 clear hr
 obtain ⟨i, hi, hcmp⟩ := Option.map_eq_some_iff.1 Tryz.isComp
 obtain ⟨j, hj, hjs⟩ := Option.map_eq_some_iff.1 Tryz.isSize
 have nE := Tryz.noIsE
 have uE := Tryz.noUnwrapE
 have vE := Tryz.noUnwrapsE
 have nP := Tryz.noIsP
 have nS := Tryz.noIsS
 have nR := Tryz.noIsR
 have uP := Tryz.hasUnwrapP
 have uS := Tryz.hasUnwrapS
 have uR := Tryz.hasUnwrapR
 have mP := Tryz.mUnwrapP
 have mS := Tryz.mUnwrapS
 have mR := Tryz.mUnwrapR
 have HB := hid hb
 clear hb
 go_enter Tryz.func103, Tryz.ntmps103
 go_wp2
 go_loopw [0] (fun V' wl => wl = W ∧ ∃ n', Hid (Chain W V' a n')) (fun V' _ => zc9 W V')
 case atStart => exact ⟨rfl, n, hch⟩
 case round =>
  obtain ⟨rfl, n', hc'⟩ := hrel
  clear hch
  cases hc'.out with
  | leaf a ca ta ha =>
   by_cases hab : a = b
   ·subst hab
    have HD : Hid (r = true) := by show _ = _; rw [HRR.out]; simp
    have heq := run_eql_iface_ptr_same (P := Tryz.prog) wr a Tryz.underlying75 Tryz.underlying265 hi hcmp hj
    clear ha
    go_wp2
    go_ret
    exact ⟨by rw [HD.out]; rfl, rfl⟩
   ·have HD : Hid (r = false) := by show _ = _; rw [HRR.out]; simp [hab]
    have heq := run_eql_iface_ptr_other (P := Tryz.prog) wr Tryz.underlying75 Tryz.underlying265 hi hcmp hj (by rw [hjs]; decide) hab ha HB.out
    clear ha
    go_wp2
    go_ret
    exact ⟨by rw [HD.out]; rfl, rfl⟩
  | placed c u v a n hcell h1 =>
   have hty := run_eql_iface_types (P := Tryz.prog) 127 265 (.pointer (some ⟨c, 0, none⟩)) (.pointer (some b)) Tryz.underlying75 (by decide) wr
   have HL : Hid (zc9 wr (.iface u v) < zc9 wr (.iface 127 (.pointer (some ⟨c, 0, none⟩)))) := by
    show _ < _
    rw [zcw h1, zcw (Chain.placed c u v a n hcell h1)]
    omega
   have HC : Hid (Chain wr (.iface u v) a n) := h1
   clear h1 hc'
   go_wp2
   go_roundw
   case rel => exact ⟨trivial, n, HC.out⟩
   case measure => exact HL.out
  | spoken c u v a n hcell h1 =>
   have hty := run_eql_iface_types (P := Tryz.prog) 132 265 (.pointer (some ⟨c, 0, none⟩)) (.pointer (some b)) Tryz.underlying75 (by decide) wr
   have HL : Hid (zc9 wr (.iface u v) < zc9 wr (.iface 132 (.pointer (some ⟨c, 0, none⟩)))) := by
    show _ < _
    rw [zcw h1, zcw (Chain.spoken c u v a n hcell h1)]
    omega
   have HC : Hid (Chain wr (.iface u v) a n) := h1
   clear h1 hc'
   go_wp2
   go_roundw
   case rel => exact ⟨trivial, n, HC.out⟩
   case measure => exact HL.out
  | refused c u v a n hcell h1 =>
   have hty := run_eql_iface_types (P := Tryz.prog) 160 265 (.pointer (some ⟨c, 0, none⟩)) (.pointer (some b)) Tryz.underlying75 (by decide) wr
   have HL : Hid (zc9 wr (.iface u v) < zc9 wr (.iface 160 (.pointer (some ⟨c, 0, none⟩)))) := by
    show _ < _
    rw [zcw h1, zcw (Chain.refused c u v a n hcell h1)]
    omega
   have HC : Hid (Chain wr (.iface u v) a n) := h1
   clear h1 hc'
   go_wp2
   go_roundw
   case rel => exact ⟨trivial, n, HC.out⟩
   case measure => exact HL.out
theorem Chain.iface {W : World} {V : Value} {a : Addr} {n : Nat} (h : Chain W V a n) : ∃ u v, V = .iface u v := by
 cases h <;> exact ⟨_, _, rfl⟩
set_option maxRecDepth 1000000 in
set_option maxHeartbeats 1000000 in
theorem errors_Is {W : World} (b : Addr) (cb : Array Value) (tb : TypeId) (hb : W.heap[b.block]? = some (.cells cb tb (0, 0))) (V : Value) (a : Addr) (n : Nat) (hch : Chain W V a n) (r : Bool) (hr : r = decide (a = b)) :
  Calls Tryz.prog 80 #[V, .iface 265 (.pointer (some b))] W fun e w' => AskPost W r e w' := by
 have HI := hid (is_chain b cb tb hb V a n hch r hr)
 clear hr
 obtain ⟨u, v, rfl⟩ := hch.iface
 have h8 := @run_callFunc_extern Tryz.prog 102 _ Extern.ReflectliteType.typeOf Tryz.func102 (by kernel_rfl) (by kernel_rfl) (by kernel_rfl) (by kernel_rfl)
 have h32 := @run_callFunc_extern Tryz.prog 192 _ xComparable Tryz.func192 (by kernel_rfl) (by kernel_rfl) (by kernel_rfl) (by kernel_rfl)
 have tT := Tryz.isTypeOf
 have cT := Tryz.isComparable
 have mR := Tryz.isMethodComparable
 clear hb hch
 go_enter Tryz.func80, Tryz.ntmps80
 go_wp2_with fail
 refine HI.out.mono ?_
 rintro e w' ⟨rfl, rfl⟩
 go_wp2_with fail
 go_ret
 exact ⟨rfl, rfl⟩
theorem of_any {E : Nat → Addr} {B : Nat} (w : World) (hE : Env E B w) (c : Nat) (h1 : 1 ≤ c) (h2 : c ≤ 21) :
  Calls Tryz.prog 77 #[.int .i64 c] w fun e w' => e = .returned (botV (E c)) ∧ w' = w := by
 have h := hE.glob c h1 h2
 clear hE
 have hc : c = 1 ∨ c = 2 ∨ c = 3 ∨ c = 4 ∨ c = 5 ∨ c = 6 ∨ c = 7 ∨ c = 8 ∨ c = 9 ∨ c = 10 ∨ c = 11 ∨ c = 12 ∨ c = 13 ∨ c = 14 ∨ c = 15 ∨ c = 16 ∨ c = 17 ∨ c = 18 ∨ c = 19 ∨ c = 20 ∨ c = 21 := by omega
 clear h1 h2
 rcases hc with rfl | rfl | rfl | rfl | rfl | rfl | rfl | rfl | rfl | rfl | rfl | rfl | rfl | rfl | rfl | rfl | rfl | rfl | rfl | rfl | rfl
 all_goals
  simp only [gl, botV] at h
  go_enter Tryz.func77, Tryz.ntmps77
  go_wp2
  go_ret
  exact ⟨rfl, rfl⟩
set_option maxRecDepth 1000000 in
set_option maxHeartbeats 1000000 in
theorem fault_Is {E : Nat → Addr} {B : Nat} (w : World) (hE : Env E B w) (V : Value) (d n : Nat) (hd1 : 1 ≤ d) (hd2 : d ≤ 21) (hch : Chain w V (E d) n) (c : Int) (h1 : 1 ≤ c) (h2 : c ≤ 21) (r : Bool) (hr : r = decide ((d : Int) = c)) :
  Calls Tryz.prog 50 #[V, .int .i64 c] w fun e w' => AskPost w r e w' := by
 obtain ⟨m, rfl⟩ : ∃ m : Nat, c = m := ⟨c.toNat, by omega⟩
 obtain ⟨cb, tb, hb⟩ := hE.body m (by omega) (by omega)
 have HO := hid (of_any w hE m (by omega) (by omega))
 have HI := hid (errors_Is (E m) cb tb hb V (E d) n hch r (by
  rw [hr]
  by_cases hdm : d = m
  ·subst hdm; simp
  ·have h3 : ¬ E d = E m := fun he => hdm (hE.unlike d m hd1 hd2 (by omega) (by omega) he)
   have h4 : ¬ (d : Int) = (m : Int) := by omega
   simp [h3, h4]))
 clear hr
 obtain ⟨u, v, rfl⟩ := hch.iface
 clear hE hch hb
 go_enter Tryz.func50, Tryz.ntmps50
 go_wp2_with fail
 refine HO.out.mono ?_
 rintro e w' ⟨rfl, rfl⟩
 simp only [botV]
 go_wp2_with fail
 refine HI.out.mono ?_
 rintro e w' ⟨rfl, rfl⟩
 go_wp2_with fail
 go_ret
 exact ⟨rfl, rfl⟩
end Go.Proofs.YteeeaeiafdgpkaaGreatDoor
