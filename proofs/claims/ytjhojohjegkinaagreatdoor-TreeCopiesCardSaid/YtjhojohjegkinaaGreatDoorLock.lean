/-
  What a call told, as fault.Tell tells it; both trees while the laws compare them.
-/
import Derived.Test.YtjhojohjegkinaaGreatDoorBothA
import Derived.Test.YtjhojohjegkinaaGreatDoorNames
import Derived.Test.YtjhojohjegkinaaGreatDoorTell
import Derived.Laws.StructEq
namespace Go.Proofs.YtjhojohjegkinaaGreatDoor
open Go Go.RowKit

theorem Ety.raise {B : Nat} {w : World} (h : Ety B w) : Ety w.heap.size w := ⟨h.cell, Nat.lt_of_lt_of_le h.low h.size, Nat.le_refl _⟩

/-! ### codes as faults -/
def codeV (c : Nat) : Value := if c = 0 then flt0 else fltV c
theorem codeV_pos {c : Nat} (h : c ≠ 0) : codeV c = fltV c := if_neg h
theorem fault_neq (a b c : Int) (w : World) : (binOp .neq 56 (.agg #[.int .i64 a, .int .i64 b, .int .i64 c]) (.agg #[.int .i64 a, .int .i64 b, .int .i64 c])).run Tryz.prog w = .ok (.bool false) w := by
  simp [go_sem]
theorem codeV_neq (c : Nat) (w : World) : (binOp .neq 56 (codeV c) (codeV c)).run Tryz.prog w = .ok (.bool false) w := by
  unfold codeV
  split
  · exact fault_neq _ _ _ w
  · exact fault_neq _ _ _ w
theorem codeV_guard_neq (c : Nat) (x y : Operand) (w : World) : (eqGuard .neq 56 x y (codeV c) (codeV c)).run Tryz.prog w = .ok () w := by
  unfold codeV
  split
  · simp [flt0, go_sem]
  · simp [fltV, go_sem]
theorem cMkdir_le (T : Tr) (s : ByteArray) : T.cMkdir s ≤ 21 := by
  unfold Tr.cMkdir
  cases h : T.find s with
  | error c => rcases find_err_ne h with e | e <;> (dsimp only; omega)
  | ok sp =>
    dsimp only
    cases sp.n with
    | some k => dsimp only; omega
    | none => dsimp only; split <;> omega
theorem cWrite_le (T : Tr) (s : ByteArray) (b : List UInt8) (add : Bool) : T.cWrite s b add ≤ 21 := by
  unfold Tr.cWrite
  cases h : T.find s with
  | error c => rcases find_err_ne h with e | e <;> (dsimp only; omega)
  | ok sp =>
    dsimp only
    cases sp.n with
    | none => dsimp only; split <;> omega
    | some k =>
      dsimp only
      cases T.nd k with
      | none => dsimp only; omega
      | some d =>
        dsimp only
        split
        · omega
        · split <;> omega
theorem cRemove_le (T : Tr) (s : ByteArray) : T.cRemove s ≤ 21 := by
  unfold Tr.cRemove
  cases h : T.find s with
  | error c => rcases find_err_ne h with e | e <;> (dsimp only; omega)
  | ok sp =>
    dsimp only
    cases sp.n with
    | none => dsimp only; omega
    | some k =>
      dsimp only
      cases sp.inn with
      | none => dsimp only; omega
      | some i =>
        dsimp only
        cases T.nd k with
        | none => dsimp only; omega
        | some d => dsimp only; split <;> omega
theorem cLink_le (T : Tr) (old s : ByteArray) : T.cLink old s ≤ 21 := by
  unfold Tr.cLink
  cases h : T.fileOf old with
  | error c => rcases fileOf_err h with e | e | e <;> (dsimp only; omega)
  | ok k =>
    dsimp only
    cases h : T.find s with
    | error c => rcases find_err_ne h with e | e <;> (dsimp only; omega)
    | ok sp =>
      dsimp only
      cases sp.n with
      | some k => dsimp only; omega
      | none => dsimp only; omega
theorem code_le (T : Tr) (o : AOp) : T.code o ≤ 21 := by
  unfold Tr.code
  repeat' split
  · exact cMkdir_le _ _
  · exact cWrite_le _ _ _ _
  · exact cWrite_le _ _ _ _
  · exact cRemove_le _ _
  · exact cLink_le _ _ _
  · exact cWrite_le _ _ _ _
  · exact cWrite_le _ _ _ _
/-- fault.Tell of what a call told. -/
theorem terr_tell {E : Nat → Addr} {B : Nat} {w w1 W : World} {c : Nat} {y : Value} (h : (c ≠ 0 ∧ TErr E w c (.returned y) w1) ∨ (c = 0 ∧ Ending.returned y = .returned .nilIface)) (hc : c ≤ 21) (hb : Below w1.heap.size w1 W) (hE : Env E B W) (hY : Ety B W) :
    Calls Tryz.prog 29 #[y] W fun e w' => VPost W (codeV c) e w' := by
  rcases h with ⟨h0, a, he, hf, _⟩ | ⟨rfl, he⟩
  · cases he
    rw [codeV_pos h0]
    exact tell_failed W hE hY a c (by omega) hc (hf.below hb)
  · cases he
    exact tell_nil W

/-! ### the texts -/

/-! ### a call at both, step by step -/
section
variable {E : Nat → Addr} {w : World} {tb rb k : Nat}
end
end Go.Proofs.YtjhojohjegkinaaGreatDoor
