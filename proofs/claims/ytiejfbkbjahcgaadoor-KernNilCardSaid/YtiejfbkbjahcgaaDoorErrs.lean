/-
  errors.Is OVER A CHAIN of this program's errors; fault.Of, fault.Is: their contracts.
-/
import Derived.Test.YtiejfbkbjahcgaaDoorKern
import Derived.LaidEql
import Derived.Stop.Asserts
import Derived.RowKitTokens
import Derived.Lib.Hide
namespace Go.Proofs.YtiejfbkbjahcgaaDoor
open Go Go.RowKit Go.Extern.Stop Go.Stop Go.Extern

/-! ### closed facts -/
theorem Tryd.isTypeOf (v : Value) (w : World) : (Extern.ReflectliteType.typeOf #[.iface 217 v]).run Tryd.prog w = .ok (.iface 165 (.agg #[.pointer (some ⟨25, 217, none⟩)])) w := by kernel_rfl
def xComparable : Array Value → Sem Value := Extern.ReflectliteType.method fun t => do Extern.Rtype.noPackHeld "Comparable" t; pure (.bool (← typeInfo t).comparable)
theorem Tryd.isComparable (w : World) : (xComparable #[.agg #[.pointer (some ⟨25, 217, none⟩)]]).run Tryd.prog w = .ok (.bool true) w := by kernel_rfl
theorem Tryd.isMethodComparable (v : Value) (w : World) : (Go.method 348 165 v "Comparable").run Tryd.prog w = .ok (156, v) w := by kernel_rfl
theorem Tryd.isComp : (Tryd.prog.info? 217).map (·.comparable) = some true := by kernel_rfl
theorem Tryd.isSize : (Tryd.prog.info? 237).map (·.size) = some 1 := by kernel_rfl
theorem Tryd.noIsE (v : Value) (xT : TypeId) (w : World) : (Instr.typeAssert (.iface 217 v) xT 188 true).run Tryd.prog w = .ok (.tuple #[.nilIface, .bool false]) w := run_typeAssert_lacksB Tryd.underlying188 (by kernel_rfl) (by kernel_rfl) v xT w
theorem Tryd.noUnwrapE (v : Value) (xT : TypeId) (w : World) : (Instr.typeAssert (.iface 217 v) xT 173 true).run Tryd.prog w = .ok (.tuple #[.nilIface, .bool false]) w := run_typeAssert_lacksB Tryd.underlying173 (by kernel_rfl) (by kernel_rfl) v xT w
theorem Tryd.noUnwrapsE (v : Value) (xT : TypeId) (w : World) : (Instr.typeAssert (.iface 217 v) xT 175 true).run Tryd.prog w = .ok (.tuple #[.nilIface, .bool false]) w := run_typeAssert_lacksB Tryd.underlying175 (by kernel_rfl) (by kernel_rfl) v xT w
theorem Tryd.noIsP (v : Value) (xT : TypeId) (w : World) : (Instr.typeAssert (.iface 125 v) xT 188 true).run Tryd.prog w = .ok (.tuple #[.nilIface, .bool false]) w := run_typeAssert_lacksB Tryd.underlying188 (by kernel_rfl) (by kernel_rfl) v xT w
theorem Tryd.noIsS (v : Value) (xT : TypeId) (w : World) : (Instr.typeAssert (.iface 129 v) xT 188 true).run Tryd.prog w = .ok (.tuple #[.nilIface, .bool false]) w := run_typeAssert_lacksB Tryd.underlying188 (by kernel_rfl) (by kernel_rfl) v xT w
theorem Tryd.noIsR (v : Value) (xT : TypeId) (w : World) : (Instr.typeAssert (.iface 116 v) xT 188 true).run Tryd.prog w = .ok (.tuple #[.nilIface, .bool false]) w := run_typeAssert_lacksB Tryd.underlying188 (by kernel_rfl) (by kernel_rfl) v xT w
theorem Tryd.hasUnwrapP (v : Value) (xT : TypeId) (w : World) : (Instr.typeAssert (.iface 125 v) xT 173 true).run Tryd.prog w = .ok (.tuple #[.iface 125 v, .bool true]) w := run_typeAssert_hasB Tryd.underlying173 (by kernel_rfl) v xT w
theorem Tryd.hasUnwrapS (v : Value) (xT : TypeId) (w : World) : (Instr.typeAssert (.iface 129 v) xT 173 true).run Tryd.prog w = .ok (.tuple #[.iface 129 v, .bool true]) w := run_typeAssert_hasB Tryd.underlying173 (by kernel_rfl) v xT w
theorem Tryd.hasUnwrapR (v : Value) (xT : TypeId) (w : World) : (Instr.typeAssert (.iface 116 v) xT 173 true).run Tryd.prog w = .ok (.tuple #[.iface 116 v, .bool true]) w := run_typeAssert_hasB Tryd.underlying173 (by kernel_rfl) v xT w
theorem Tryd.mUnwrapP (v : Value) (w : World) : (Go.method 348 125 v "Unwrap").run Tryd.prog w = .ok (147, v) w := by kernel_rfl
theorem Tryd.mUnwrapS (v : Value) (w : World) : (Go.method 348 129 v "Unwrap").run Tryd.prog w = .ok (149, v) w := by kernel_rfl
theorem Tryd.mUnwrapR (v : Value) (w : World) : (Go.method 348 116 v "Unwrap").run Tryd.prog w = .ok (145, v) w := by kernel_rfl

/-- A chain of errors in W: its value, the place of the text at its bottom, how many lie around it. -/
inductive Chain (W : World) : Value → Addr → Nat → Prop
  | leaf (a : Addr) (ca : Array Value) (ta : TypeId) : W.heap[a.block]? = some (.cells ca ta (0, 0)) → Chain W (.iface 217 (.pointer (some a))) a 0
  | placed (b : Nat) (u : TypeId) (v : Value) (a : Addr) (n : Nat) : W.cell? ⟨b, 0, none⟩ = some (.iface u v) → Chain W (.iface u v) a n → Chain W (.iface 125 (.pointer (some ⟨b, 0, none⟩))) a (n + 1)
  | spoken (b : Nat) (u : TypeId) (v : Value) (a : Addr) (n : Nat) : W.cell? ⟨b, 0, none⟩ = some (.iface u v) → Chain W (.iface u v) a n → Chain W (.iface 129 (.pointer (some ⟨b, 0, none⟩))) a (n + 1)
  | refused (b : Nat) (u : TypeId) (v : Value) (a : Addr) (n : Nat) : W.cell? ⟨b, 0, none⟩ = some (.iface u v) → Chain W (.iface u v) a n → Chain W (.iface 116 (.pointer (some ⟨b, 0, none⟩))) a (n + 1)

theorem Chain.unique {W : World} {V : Value} {a b : Addr} {n m : Nat} (h : Chain W V a n) (h' : Chain W V b m) : n = m := by
  induction h generalizing b m with
  | leaf a ca ta _ => cases h'; rfl
  | placed c u v a n hc _ ih =>
    cases h' with
    | placed _ u2 v2 _ m2 hc2 h2 => rw [hc] at hc2; cases hc2; rw [ih h2]
  | spoken c u v a n hc _ ih =>
    cases h' with
    | spoken _ u2 v2 _ m2 hc2 h2 => rw [hc] at hc2; cases hc2; rw [ih h2]
  | refused c u v a n hc _ ih =>
    cases h' with
    | refused _ u2 v2 _ m2 hc2 h2 => rw [hc] at hc2; cases hc2; rw [ih h2]

open Classical in
noncomputable def chainLen (W : World) (V : Value) : Nat := if h : ∃ n a, Chain W V a n then h.choose else 0
theorem chainLen_eq {W : World} {V : Value} {a : Addr} {n : Nat} (h : Chain W V a n) : chainLen W V = n := by
  unfold chainLen
  rw [dif_pos ⟨n, a, h⟩]
  obtain ⟨b, hb⟩ := Exists.choose_spec (p := fun n => ∃ a, Chain W V a n) ⟨n, a, h⟩
  exact Chain.unique hb h

/-- What asking leaves. -/
def AskPost (w : World) (r : Bool) (e : Ending) (w' : World) : Prop := e = .returned (.bool r) ∧ w' = w

set_option maxRecDepth 1000000 in
set_option maxHeartbeats 1000000 in
theorem is_chain {W : World} (b : Addr) (cb : Array Value) (tb : TypeId) (hb : W.heap[b.block]? = some (.cells cb tb (0, 0))) (V : Value) (a : Addr) (n : Nat) (hch : Chain W V a n) (r : Bool) (hr : r = decide (a = b)) :
    Calls Tryd.prog 86 #[V, .iface 217 (.pointer (some b)), .bool true] W fun e w' => AskPost W r e w' := by
  have HRR := Lib.hid hr
  clear hr
  obtain ⟨i, hi, hcmp⟩ := Option.map_eq_some_iff.1 Tryd.isComp
  obtain ⟨j, hj, hjs⟩ := Option.map_eq_some_iff.1 Tryd.isSize
  have nE := Tryd.noIsE
  have uE := Tryd.noUnwrapE
  have vE := Tryd.noUnwrapsE
  have nP := Tryd.noIsP
  have nS := Tryd.noIsS
  have nR := Tryd.noIsR
  have uP := Tryd.hasUnwrapP
  have uS := Tryd.hasUnwrapS
  have uR := Tryd.hasUnwrapR
  have mP := Tryd.mUnwrapP
  have mS := Tryd.mUnwrapS
  have mR := Tryd.mUnwrapR
  have HB := Lib.hid hb
  clear hb
  go_enter Tryd.func86, Tryd.ntmps86
  go_wp2
  go_loopw [0] (fun V' wl => wl = W ∧ ∃ n', Hid (Chain W V' a n')) (fun V' _ => chainLen W V')
  case atStart => exact ⟨rfl, n, hch⟩
  case round =>
    obtain ⟨rfl, n', hc'⟩ := hrel
    clear hch
    cases hc'.out with
    | leaf a ca ta ha =>
      by_cases hab : a = b
      · subst hab
        have HD : Hid (r = true) := by show _ = _; rw [HRR.out]; simp
        have heq := run_eql_iface_ptr_same (P := Tryd.prog) wr a Tryd.underlying26 Tryd.underlying217 hi hcmp hj
        clear ha
        go_wp2
        go_ret
        exact ⟨by rw [HD.out]; rfl, rfl⟩
      · have HD : Hid (r = false) := by show _ = _; rw [HRR.out]; simp [hab]
        have heq := run_eql_iface_ptr_other (P := Tryd.prog) wr Tryd.underlying26 Tryd.underlying217 hi hcmp hj (by rw [hjs]; decide) hab ha HB.out
        clear ha
        go_wp2
        go_ret
        exact ⟨by rw [HD.out]; rfl, rfl⟩
    | placed c u v a n hcell h1 =>
      have hty := run_eql_iface_types (P := Tryd.prog) 125 217 (.pointer (some ⟨c, 0, none⟩)) (.pointer (some b)) Tryd.underlying26 (by decide) wr
      have HL : Hid (chainLen wr (.iface u v) < chainLen wr (.iface 125 (.pointer (some ⟨c, 0, none⟩)))) := by
        show _ < _
        rw [chainLen_eq h1, chainLen_eq (Chain.placed c u v a n hcell h1)]
        omega
      have HC : Hid (Chain wr (.iface u v) a n) := h1
      clear h1 hc'
      go_wp2
      go_roundw
      case rel => exact ⟨trivial, n, HC.out⟩
      case measure => exact HL.out
    | spoken c u v a n hcell h1 =>
      have hty := run_eql_iface_types (P := Tryd.prog) 129 217 (.pointer (some ⟨c, 0, none⟩)) (.pointer (some b)) Tryd.underlying26 (by decide) wr
      have HL : Hid (chainLen wr (.iface u v) < chainLen wr (.iface 129 (.pointer (some ⟨c, 0, none⟩)))) := by
        show _ < _
        rw [chainLen_eq h1, chainLen_eq (Chain.spoken c u v a n hcell h1)]
        omega
      have HC : Hid (Chain wr (.iface u v) a n) := h1
      clear h1 hc'
      go_wp2
      go_roundw
      case rel => exact ⟨trivial, n, HC.out⟩
      case measure => exact HL.out
    | refused c u v a n hcell h1 =>
      have hty := run_eql_iface_types (P := Tryd.prog) 116 217 (.pointer (some ⟨c, 0, none⟩)) (.pointer (some b)) Tryd.underlying26 (by decide) wr
      have HL : Hid (chainLen wr (.iface u v) < chainLen wr (.iface 116 (.pointer (some ⟨c, 0, none⟩)))) := by
        show _ < _
        rw [chainLen_eq h1, chainLen_eq (Chain.refused c u v a n hcell h1)]
        omega
      have HC : Hid (Chain wr (.iface u v) a n) := h1
      clear h1 hc'
      go_wp2
      go_roundw
      case rel => exact ⟨trivial, n, HC.out⟩
      case measure => exact HL.out

theorem Chain.iface {W : World} {V : Value} {a : Addr} {n : Nat} (h : Chain W V a n) : ∃ u v, V = .iface u v := by
  cases h <;> exact ⟨_, _, rfl⟩

set_option maxRecDepth 1000000 in
set_option maxHeartbeats 1000000 in
theorem errors_Is {W : World} (b : Addr) (cb : Array Value) (tb : TypeId) (hb : W.heap[b.block]? = some (.cells cb tb (0, 0))) (V : Value) (a : Addr) (n : Nat) (hch : Chain W V a n) (r : Bool) (hr : r = decide (a = b)) :
    Calls Tryd.prog 73 #[V, .iface 217 (.pointer (some b))] W fun e w' => AskPost W r e w' := by
  have HI := Lib.hid (is_chain b cb tb hb V a n hch r hr)
  clear hr
  obtain ⟨u, v, rfl⟩ := hch.iface
  have h8 := @run_callFunc_extern Tryd.prog 83 _ Extern.ReflectliteType.typeOf Tryd.func83 (by kernel_rfl) (by kernel_rfl) (by kernel_rfl) (by kernel_rfl)
  have h32 := @run_callFunc_extern Tryd.prog 156 _ xComparable Tryd.func156 (by kernel_rfl) (by kernel_rfl) (by kernel_rfl) (by kernel_rfl)
  have tT := Tryd.isTypeOf
  have cT := Tryd.isComparable
  have mR := Tryd.isMethodComparable
  clear hb hch
  go_enter Tryd.func73, Tryd.ntmps73
  go_wp2_with fail
  refine HI.out.mono ?_
  rintro e w' ⟨rfl, rfl⟩
  go_wp2_with fail
  go_ret
  exact ⟨rfl, rfl⟩

/-- fault.Of. -/
theorem of_any {E : Nat → Addr} {B : Nat} (w : World) (hE : Env E B w) (c : Nat) (h1 : 1 ≤ c) (h2 : c ≤ 21) :
    Calls Tryd.prog 57 #[.int .i64 c] w fun e w' => e = .returned (botV (E c)) ∧ w' = w := by
  have h := hE.glob c h1 h2
  clear hE
  have hc : c = 1 ∨ c = 2 ∨ c = 3 ∨ c = 4 ∨ c = 5 ∨ c = 6 ∨ c = 7 ∨ c = 8 ∨ c = 9 ∨ c = 10 ∨ c = 11 ∨ c = 12 ∨ c = 13 ∨ c = 14 ∨ c = 15 ∨ c = 16 ∨ c = 17 ∨ c = 18 ∨ c = 19 ∨ c = 20 ∨ c = 21 := by omega
  clear h1 h2
  rcases hc with rfl | rfl | rfl | rfl | rfl | rfl | rfl | rfl | rfl | rfl | rfl | rfl | rfl | rfl | rfl | rfl | rfl | rfl | rfl | rfl | rfl
  all_goals
    simp only [gl, botV] at h
    go_enter Tryd.func57, Tryd.ntmps57
    go_wp2
    go_ret
    exact ⟨rfl, rfl⟩

set_option maxRecDepth 1000000 in
set_option maxHeartbeats 1000000 in
/-- fault.Is, of an error whose bottom is that of code d. -/
theorem fault_Is {E : Nat → Addr} {B : Nat} (w : World) (hE : Env E B w) (V : Value) (d n : Nat) (hd1 : 1 ≤ d) (hd2 : d ≤ 21) (hch : Chain w V (E d) n) (c : Int) (h1 : 1 ≤ c) (h2 : c ≤ 21) (r : Bool) (hr : r = decide ((d : Int) = c)) :
    Calls Tryd.prog 59 #[V, .int .i64 c] w fun e w' => AskPost w r e w' := by
  obtain ⟨m, rfl⟩ : ∃ m : Nat, c = m := ⟨c.toNat, by omega⟩
  obtain ⟨cb, tb, hb⟩ := hE.body m (by omega) (by omega)
  have HO := Lib.hid (of_any w hE m (by omega) (by omega))
  have HI := Lib.hid (errors_Is (E m) cb tb hb V (E d) n hch r (by
    rw [hr]
    by_cases hdm : d = m
    · subst hdm; simp
    · have h3 : ¬ E d = E m := fun he => hdm (hE.unlike d m hd1 hd2 (by omega) (by omega) he)
      have h4 : ¬ (d : Int) = (m : Int) := by omega
      simp [h3, h4]))
  clear hr
  obtain ⟨u, v, rfl⟩ := hch.iface
  clear hE hch hb
  go_enter Tryd.func59, Tryd.ntmps59
  go_wp2_with fail
  refine HO.out.mono ?_
  rintro e w' ⟨rfl, rfl⟩
  simp only [botV]
  go_wp2_with fail
  refine HI.out.mono ?_
  rintro e w' ⟨rfl, rfl⟩
  go_wp2_with fail
  go_ret
  exact ⟨rfl, rfl⟩
end Go.Proofs.YtiejfbkbjahcgaaDoor
