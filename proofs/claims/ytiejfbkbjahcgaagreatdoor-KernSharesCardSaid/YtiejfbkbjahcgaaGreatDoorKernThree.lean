/-
  A kern's Close, Move, Used.
-/
import Derived.Test.YtiejfbkbjahcgaaGreatDoorKernTwo
namespace Go.Proofs.YtiejfbkbjahcgaaGreatDoor
open Go Go.RowKit

set_option maxRecDepth 100000 in
set_option maxHeartbeats 1000000 in
theorem close_bad {E : Nat → Addr} {B : Nat} {w : World} {kb tb : Nat} {fds : Nat → Option End} {ob eb : Nat} (hE : Env E B w) (h : KAt w kb tb fds ob eb) (fd : Int) (hu : usedFd fds fd = false) :
    Calls Tryz.prog 56 #[.pointer (some ⟨kb, 0, none⟩), .int .i64 fd] w fun e w' => KFailPost E w 1 e w' := by
  have HU : Hid (Calls Tryz.prog 94 #[.pointer (some ⟨kb, 0, none⟩), .int .i64 fd] w fun e w' => UsedPost w false e w') := by
    have h1 := kern_used h fd
    rw [hu] at h1
    exact h1
  have HE : Hid (Env E B w) := hE
  clear h hu hE
  go_enter Tryz.func56, Tryz.ntmps56
  go_wp2_with fail
  refine HU.out.mono ?_
  rintro e w1 ⟨rfl, rfl⟩
  go_wp2_with fail
  refine (kern_fail _ HE.out 1 (by unfold Used; omega)).mono ?_
  rintro e w2 ⟨a, rfl, hf, hb⟩
  have HF : Hid (KFailPost E w1 1 (.returned (refV a)) w2) := ⟨a, rfl, hf, hb⟩
  clear hf hb
  go_wp2_with fail
  go_ret
  exact HF.out

/-- What Close leaves where it frees a descriptor. -/
def CloseOk (w : World) (kb tb : Nat) (fds : Nat → Option End) (ob eb : Nat) (fd : Nat) (e : Ending) (w' : World) : Prop :=
  e = .returned .nilIface ∧ KAt w' kb tb (setFd fds fd none) ob eb ∧ Kept (fun b => b = kb) w w'

set_option maxRecDepth 100000 in
set_option maxHeartbeats 1000000 in
theorem close_ok {w : World} {kb tb : Nat} {fds : Nat → Option End} {ob eb : Nat} (h : KAt w kb tb fds ob eb) (fd : Nat) (hu : usedFd fds fd = true) :
    Calls Tryz.prog 56 #[.pointer (some ⟨kb, 0, none⟩), .int .i64 fd] w fun e w' => CloseOk w kb tb fds ob eb fd e w' := by
  have hfd : fd < 16 := by
    rcases Nat.lt_or_ge fd 16 with h | h
    · exact h
    · rw [usedFd_high (by omega)] at hu; cases hu
  have HU : Hid (Calls Tryz.prog 94 #[.pointer (some ⟨kb, 0, none⟩), .int .i64 fd] w fun e w' => UsedPost w true e w') := by
    have h1 := kern_used h fd
    rw [hu] at h1
    exact h1
  have hc1 : w.cell? ⟨kb, 1 + fd, none⟩ = some (endV (fds fd)) := h.fd fd hfd
  have hfz : ∀ o, w.frozen? ⟨kb, o, none⟩ = false := fun o => h.free o
  have HS : Hid (CloseOk w kb tb fds ob eb fd (.returned .nilIface) (w.setCell ⟨kb, 1 + fd, none⟩ .nilIface)) :=
    ⟨rfl, h.set fd hfd none, (Kept.refl (fun b => b = kb) w).setCell (p := ⟨kb, 1 + fd, none⟩) (.inl rfl) _⟩
  have hfi : (fd : Int) < 16 := by omega
  clear h hu
  go_enter Tryz.func56, Tryz.ntmps56
  go_wp2_with fail
  refine HU.out.mono ?_
  rintro e w1 ⟨rfl, rfl⟩
  clear HU
  go_wp2_with fail
  go_ret
  exact HS.out

theorem movable_iff (fds : Nat → Option End) (fd onto : Int) : (usedFd fds fd && decide (0 ≤ onto) && decide (onto < 16)) = true ↔ usedFd fds fd = true ∧ 0 ≤ onto ∧ onto < 16 := by simp [and_assoc]

set_option maxRecDepth 100000 in
set_option maxHeartbeats 1000000 in
theorem move_bad {E : Nat → Addr} {B : Nat} {w : World} {kb tb : Nat} {fds : Nat → Option End} {ob eb : Nat} (hE : Env E B w) (h : KAt w kb tb fds ob eb) (fd onto : Int) (hu : usedFd fds fd = false ∨ onto < 0 ∨ 16 ≤ onto) :
    Calls Tryz.prog 97 #[.pointer (some ⟨kb, 0, none⟩), .int .i64 fd, .int .i64 onto] w fun e w' => KFailPost E w 1 e w' := by
  have HU : Hid (Calls Tryz.prog 94 #[.pointer (some ⟨kb, 0, none⟩), .int .i64 fd] w fun e w' => UsedPost w (usedFd fds fd) e w') := kern_used h fd
  have HE : Hid (Env E B w) := hE
  have HF : Hid (∀ w1 a, Refused E w.heap.size w1 a 1 ∧ Below w.heap.size w w1 → KFailPost E w 1 (.returned (refV a)) w1) := fun w1 a h => ⟨a, rfl, h.1, h.2⟩
  clear h hE
  cases hb : usedFd fds fd with
  | false =>
    rw [hb] at HU
    clear hu hb
    go_enter Tryz.func97, Tryz.ntmps97
    go_wp2_with fail
    refine HU.out.mono ?_
    rintro e w1 ⟨rfl, rfl⟩
    go_wp2_with fail
    refine (kern_fail _ HE.out 1 (by unfold Used; omega)).mono ?_
    rintro e w2 ⟨a, rfl, hf, hb⟩
    have HG : Hid (KFailPost E w1 1 (.returned (refV a)) w2) := HF.out _ _ ⟨hf, hb⟩
    clear hf hb
    go_wp2_with fail
    go_ret
    exact HG.out
  | true =>
    have hu' : onto < 0 ∨ 16 ≤ onto := by rcases hu with h | h; rw [hb] at h; cases h; exact h
    rw [hb] at HU
    clear hu hb
    rcases hu' with h0 | h0
    · go_enter Tryz.func97, Tryz.ntmps97
      go_wp2_with fail
      refine HU.out.mono ?_
      rintro e w1 ⟨rfl, rfl⟩
      go_wp2_with fail
      refine (kern_fail _ HE.out 1 (by unfold Used; omega)).mono ?_
      rintro e w2 ⟨a, rfl, hf, hb⟩
      have HG : Hid (KFailPost E w1 1 (.returned (refV a)) w2) := HF.out _ _ ⟨hf, hb⟩
      clear hf hb
      go_wp2_with fail
      go_ret
      exact HG.out
    · go_enter Tryz.func97, Tryz.ntmps97
      go_wp2_with fail
      refine HU.out.mono ?_
      rintro e w1 ⟨rfl, rfl⟩
      go_wp2_with fail
      refine (kern_fail _ HE.out 1 (by unfold Used; omega)).mono ?_
      rintro e w2 ⟨a, rfl, hf, hb⟩
      have HG : Hid (KFailPost E w1 1 (.returned (refV a)) w2) := HF.out _ _ ⟨hf, hb⟩
      clear hf hb
      go_wp2_with fail
      go_ret
      exact HG.out

/-- What Move leaves where it moves. -/
def MoveOk (w : World) (kb tb : Nat) (fds : Nat → Option End) (ob eb : Nat) (fd onto : Nat) (e : Ending) (w' : World) : Prop :=
  e = .returned .nilIface ∧ KAt w' kb tb (setFd (setFd fds fd none) onto (fds fd)) ob eb ∧ Kept (fun b => b = kb) w w'

set_option maxRecDepth 100000 in
set_option maxHeartbeats 1000000 in
theorem move_ok {w : World} {kb tb : Nat} {fds : Nat → Option End} {ob eb : Nat} (h : KAt w kb tb fds ob eb) (fd onto : Nat) (hu : usedFd fds fd = true) (ho : onto < 16) :
    Calls Tryz.prog 97 #[.pointer (some ⟨kb, 0, none⟩), .int .i64 fd, .int .i64 onto] w fun e w' => MoveOk w kb tb fds ob eb fd onto e w' := by
  have hfd : fd < 16 := by
    rcases Nat.lt_or_ge fd 16 with h | h
    · exact h
    · rw [usedFd_high (by omega)] at hu; cases hu
  have HU : Hid (Calls Tryz.prog 94 #[.pointer (some ⟨kb, 0, none⟩), .int .i64 fd] w fun e w' => UsedPost w true e w') := by
    have h1 := kern_used h fd
    rw [hu] at h1
    exact h1
  have hc1 : w.cell? ⟨kb, 1 + fd, none⟩ = some (endV (fds fd)) := h.fd fd hfd
  have hfz : ∀ o, w.frozen? ⟨kb, o, none⟩ = false := fun o => h.free o
  have hs : usedFd fds (fd : Int) = (fds fd).isSome := usedFd_in hfd
  rw [hu] at hs
  obtain ⟨en, hen⟩ := Option.isSome_iff_exists.1 hs.symm
  have H1 := h.set fd hfd none
  have hc2 : (w.setCell ⟨kb, 1 + fd, none⟩ .nilIface).cell? ⟨kb, 1 + onto, none⟩ = some (endV (setFd fds fd none onto)) := H1.fd onto ho
  have hfz2 : (w.setCell ⟨kb, 1 + fd, none⟩ .nilIface).frozen? ⟨kb, 1 + onto, none⟩ = false := H1.free _
  have HS : Hid (MoveOk w kb tb fds ob eb fd onto (.returned .nilIface) ((w.setCell ⟨kb, 1 + fd, none⟩ .nilIface).setCell ⟨kb, 1 + onto, none⟩ (endV (fds fd)))) :=
    ⟨rfl, H1.set onto ho (fds fd), ((Kept.refl (fun b => b = kb) w).setCell (p := ⟨kb, 1 + fd, none⟩) (.inl rfl) _).setCell (p := ⟨kb, 1 + onto, none⟩) (.inl rfl) _⟩
  have hfi : (fd : Int) < 16 := by omega
  have hoi : (onto : Int) < 16 := by omega
  clear h hu H1 hs
  rw [hen] at hc1 HS
  clear hen
  go_enter Tryz.func97, Tryz.ntmps97
  go_wp2_with fail
  refine HU.out.mono ?_
  rintro e w1 ⟨rfl, rfl⟩
  clear HU
  cases en with
  | inp b =>
    simp only [endV] at hc1 HS
    go_wp2_with fail
    go_ret
    exact HS.out
  | out b =>
    simp only [endV] at hc1 HS
    go_wp2_with fail
    go_ret
    exact HS.out
  | file b =>
    simp only [endV] at hc1 HS
    go_wp2_with fail
    go_ret
    exact HS.out
end Go.Proofs.YtiejfbkbjahcgaaGreatDoor
