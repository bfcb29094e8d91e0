/-
 What a call told, as fault.Tell tells it; both trees while the laws compare them.
-/
import Derived.Test.YteeeaeiafdgpkaaGreatDoorBothA
import Derived.Test.YteeeaeiafdgpkaaGreatDoorNames
import Derived.Test.YteeeaeiafdgpkaaGreatDoorTell
import Derived.Laws.StructEq
namespace Go.Proofs.YteeeaeiafdgpkaaGreatDoor
open Go Go.RowKit
theorem Ety.raise {B : Nat} {w : World} (h : Ety B w) : Ety w.heap.size w := ⟨h.cell, Nat.lt_of_lt_of_le h.low h.size, Nat.le_refl _⟩
def zck (c : Nat) : Value := if c = 0 then flt0 else fltV c
theorem zfv {c : Nat} (h : c ≠ 0) : zck c = fltV c := if_neg h
theorem cWrite_le (T : Tr) (s : ByteArray) (b : List UInt8) (add : Bool) : T.cWrite s b add ≤ 21 := by
 unfold Tr.cWrite
 cases h : T.find s with
 | error c => rcases zdj h with e | e <;> (dsimp only; omega)
 | ok sp =>
  dsimp only
  cases sp.n with
  | none => dsimp only; split <;> omega
  | some k =>
   dsimp only
   cases T.nd k with
   | none => dsimp only; omega
   | some d =>
    dsimp only
    split
    ·omega
    ·split <;> omega
theorem cRemove_le (T : Tr) (s : ByteArray) : T.cRemove s ≤ 21 := by
 unfold Tr.cRemove
 cases h : T.find s with
 | error c => rcases zdj h with e | e <;> (dsimp only; omega)
 | ok sp =>
  dsimp only
  cases sp.n with
  | none => dsimp only; omega
  | some k =>
   dsimp only
   cases sp.inn with
   | none => dsimp only; omega
   | some i =>
    dsimp only
    cases T.nd k with
    | none => dsimp only; omega
    | some d => dsimp only; split <;> omega
theorem Both.rtxt {B n : Nat} {w : World} {T : Tr} {R : RT} {f : Nat → Nat} (h : Both B w T R f n) (hn : n ≤ 80000) : RTxT R := by
 have hl := h.rn.len
 refine ⟨by omega, fun e he d hd => ?_, fun e he => h.rn.rb.paths e he, ?_⟩
 ·obtain ⟨r, m, d', h1, h2, _, _, h3, h4⟩ := h.sim.dirs_tick h.ti.tw e he
  rw [hd] at h1
  obtain rfl := Option.some.inj h1
  have h5 := h.ti.num m d' h2
  have h6 := h.num.clk1
  have h7 := h.ti.data m d' h2
  rw [h4, h3]
  exact ⟨h5.1, by omega, h7⟩
 ·rw [← h.txt_same]
  exact h.txt_len (by omega)
theorem Both.rtext {B B0 n : Nat} {w : World} {T : Tr} {R : RT} {f : Nat → Nat} (h : Both B w T R f n) (hn : n ≤ 80000) (ht : TabB B0 w) (h0 : B0 ≤ w.heap.size) :
  Calls Tryz.prog 14 #[.pointer (some ⟨R.tb, 0, none⟩)] w fun e w' => VPost w (.string ⟨T.txt.toArray⟩) e w' := by
 rw [h.txt_same]
 exact ref_text w h.rrep (h.rtxt hn) ht h0
section
variable {E : Nat → Addr} {w : World} {tb rb k : Nat}
end
end Go.Proofs.YteeeaeiafdgpkaaGreatDoor
