/-
  (*Tree).Read of any path; what the laws compare of both trees at a path.
-/
import Derived.Test.YtjhojohjegkinaaGreatDoorTList
import Derived.Test.YtjhojohjegkinaaGreatDoorLooksL
import Derived.Test.YtjhojohjegkinaaGreatDoorRStat
import Derived.Test.YtjhojohjegkinaaGreatDoorLock
import Derived.Laws.StructEq
namespace Go.Proofs.YtjhojohjegkinaaGreatDoor
open Go Go.RowKit

/-! ### Read -/
def Tr.cRead (T : Tr) (p : ByteArray) : Nat := match T.fileOf p with
  | .error c => c
  | .ok _ => 0
def Tr.dRead (T : Tr) (p : ByteArray) : List UInt8 := match T.fileOf p with
  | .error _ => []
  | .ok k => match T.nd k with
    | none => []
    | some d => d.data
/-- Read's answer: the code, or the bytes. -/
def RAns (E : Nat → Addr) (w : World) (c : Nat) (l : List UInt8) (e : Ending) (w' : World) : Prop :=
  (c ≠ 0 ∧ ∃ a, e = .returned (.tuple #[.slice none 0 0, failV a]) ∧ Failed E w.heap.size w' a c ∧ Below w.heap.size w w') ∨ (c = 0 ∧ ReadOk w l e w')

set_option maxRecDepth 100000 in
set_option maxHeartbeats 1000000 in
theorem read_err {E : Nat → Addr} {B : Nat} {T : Tr} (p : ByteArray) (w : World) (hE : Ctx E B w) (hR : Rep B w T) (hsz : p.size ≤ 9223372036854775807) (c : Nat) (hf : T.fileOf p = .error c) (l : List UInt8) :
    Calls Tryz.prog 23 #[.pointer (some ⟨T.tb, 0, none⟩), .string p] w fun e w' => RAns E w c l e w' := by
  have HP : Hid (Calls Tryz.prog 71 #[.pointer (some ⟨T.tb, 0, none⟩), .string p] w fun e w' => FilePost E w (.error c) e w') := by
    have h := tree_file p w hE hR hsz
    rw [hf] at h
    exact h
  have HCN : Hid (c ≠ 0) := by
    show c ≠ 0
    rcases fileOf_err hf with h | h | h <;> omega
  clear hE hR hf
  go_enter Tryz.func23, Tryz.ntmps23
  go_wp2_with fail
  refine HP.out.mono ?_
  intro e w1 hp
  obtain ⟨a, rfl, hfl, hb⟩ : ∃ a, e = .returned (.tuple #[.pointer none, failV a]) ∧ Failed E w.heap.size w1 a c ∧ Below w.heap.size w w1 := hp
  have HB := Lib.hid hb
  have HFL := Lib.hid hfl
  clear hb hfl HP
  go_wp2_with fail
  go_ret2
  exact .inl ⟨HCN.out, a, rfl, HFL.out, HB.out⟩
theorem fileOf_nd {T : Tr} (hI : TI T) {p : ByteArray} {k : Nat} (h : T.fileOf p = .ok k) : ∃ d, T.nd k = some d := by
  unfold Tr.fileOf at h
  cases hf : T.find p with
  | error c => rw [hf] at h; cases h
  | ok sp =>
    rw [hf] at h
    dsimp only at h
    obtain ⟨l, _, ha, _⟩ := find_ok hf
    cases hn : sp.n with
    | none => rw [hn] at h; cases h
    | some q =>
      rw [hn] at h ha
      dsimp only at h
      obtain ⟨d, hd⟩ := hI.tw.there ha
      rw [hd] at h
      dsimp only at h
      split at h
      · cases h
      · cases h
        exact ⟨d, hd⟩
theorem read_any {E : Nat → Addr} {B : Nat} {T : Tr} (p : ByteArray) (w : World) (hE : Ctx E B w) (hR : Rep B w T) (hI : TI T) (hsz : p.size ≤ 9223372036854775807) :
    Calls Tryz.prog 23 #[.pointer (some ⟨T.tb, 0, none⟩), .string p] w fun e w' => RAns E w (T.cRead p) (T.dRead p) e w' := by
  unfold Tr.cRead Tr.dRead
  cases hf : T.fileOf p with
  | error c => exact read_err p w hE hR hsz c hf _
  | ok k =>
    dsimp only
    obtain ⟨d, hd⟩ := fileOf_nd hI hf
    rw [hd]
    dsimp only
    exact (tree_read p w hE hR hsz k d hf hd (by have := hI.data k d hd; omega)).mono fun e w' h => .inr ⟨rfl, h⟩
end Go.Proofs.YtjhojohjegkinaaGreatDoor
