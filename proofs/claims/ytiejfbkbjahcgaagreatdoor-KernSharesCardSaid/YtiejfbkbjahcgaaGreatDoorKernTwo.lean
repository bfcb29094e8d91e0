/-
  A kern's Dup, Close, Move, Used.
-/
import Derived.Test.YtiejfbkbjahcgaaGreatDoorKern
namespace Go.Proofs.YtiejfbkbjahcgaaGreatDoor
open Go Go.RowKit

/-- What a call that hands back a number leaves where it refuses. -/
def NumNo (E : Nat → Addr) (w : World) (c : Nat) (e : Ending) (w' : World) : Prop :=
  ∃ a, e = .returned (.tuple #[.int .i64 0, refV a]) ∧ Refused E w.heap.size w' a c ∧ Below w.heap.size w w'
/-- .. that hands back an error alone. -/
def ErrNo (E : Nat → Addr) (w : World) (c : Nat) (e : Ending) (w' : World) : Prop := KFailPost E w c e w'

set_option maxRecDepth 100000 in
set_option maxHeartbeats 1000000 in
theorem dup_bad {E : Nat → Addr} {B : Nat} {w : World} {kb tb : Nat} {fds : Nat → Option End} {ob eb : Nat} (hE : Env E B w) (h : KAt w kb tb fds ob eb) (fd : Int) (hu : usedFd fds fd = false) :
    Calls Tryz.prog 54 #[.pointer (some ⟨kb, 0, none⟩), .int .i64 fd] w fun e w' => NumNo E w 1 e w' := by
  have HU : Hid (Calls Tryz.prog 94 #[.pointer (some ⟨kb, 0, none⟩), .int .i64 fd] w fun e w' => UsedPost w false e w') := hu ▸ kern_used h fd
  have HE : Hid (Env E B w) := hE
  clear h hu hE
  go_enter Tryz.func54, Tryz.ntmps54
  go_wp2_with fail
  refine HU.out.mono ?_
  rintro e w1 ⟨rfl, rfl⟩
  go_wp2_with fail
  refine (kern_fail _ HE.out 1 (by unfold Used; omega)).mono ?_
  rintro e w2 ⟨a, rfl, hf, hb⟩
  have HF : Hid (NumNo E w1 1 (.returned (.tuple #[.int .i64 0, refV a])) w2) := ⟨a, rfl, hf, hb⟩
  clear hf hb
  go_wp2_with fail
  go_ret2
  exact HF.out

set_option maxRecDepth 100000 in
set_option maxHeartbeats 1000000 in
theorem dup_full {E : Nat → Addr} {B : Nat} {w : World} {kb tb : Nat} {fds : Nat → Option End} {ob eb : Nat} (hE : Env E B w) (h : KAt w kb tb fds ob eb) (fd : Int) (hu : usedFd fds fd = true) (hn : freeFd fds 0 = none) :
    Calls Tryz.prog 54 #[.pointer (some ⟨kb, 0, none⟩), .int .i64 fd] w fun e w' => NumNo E w 19 e w' := by
  have HU : Hid (Calls Tryz.prog 94 #[.pointer (some ⟨kb, 0, none⟩), .int .i64 fd] w fun e w' => UsedPost w true e w') := hu ▸ kern_used h fd
  have HFR : Hid (Calls Tryz.prog 93 #[.pointer (some ⟨kb, 0, none⟩), .int .i64 0] w fun e w' => FreePost w none e w') := by
    have h1 := kern_free h 0 (by omega)
    rw [hn] at h1
    exact h1
  have HE : Hid (Env E B w) := hE
  clear h hu hE hn
  go_enter Tryz.func54, Tryz.ntmps54
  go_wp2_with fail
  refine HU.out.mono ?_
  rintro e w1 ⟨rfl, rfl⟩
  go_wp2_with fail
  refine HFR.out.mono ?_
  rintro e w1 ⟨rfl, rfl⟩
  simp only [freeV]
  go_wp2_with fail
  refine (kern_fail _ HE.out 19 (by unfold Used; omega)).mono ?_
  rintro e w2 ⟨a, rfl, hf, hb⟩
  have HF : Hid (NumNo E w1 19 (.returned (.tuple #[.int .i64 0, refV a])) w2) := ⟨a, rfl, hf, hb⟩
  clear hf hb
  go_wp2_with fail
  go_ret2
  exact HF.out

/-- What Dup leaves where it gives a descriptor. -/
def DupOk (w : World) (kb tb : Nat) (fds : Nat → Option End) (ob eb : Nat) (fd j : Nat) (e : Ending) (w' : World) : Prop :=
  e = .returned (.tuple #[.int .i64 j, .nilIface]) ∧ KAt w' kb tb (setFd fds j (fds fd)) ob eb ∧ Kept (fun b => b = kb) w w'

theorem freeFrom_some {fds : Nat → Option End} : ∀ (n i j : Nat), freeFrom fds i n = some j → i ≤ j ∧ j < i + n ∧ fds j = none ∧ ∀ k, i ≤ k → k < j → (fds k).isSome = true
  | 0, _, _, h => by cases h
  | n + 1, i, j, h => by
    unfold freeFrom at h
    cases hf : fds i with
    | none =>
      rw [hf] at h
      obtain rfl := Option.some.inj h
      exact ⟨Nat.le_refl _, by omega, hf, fun k h1 h2 => by omega⟩
    | some e =>
      rw [hf] at h
      obtain ⟨h1, h2, h3, h4⟩ := freeFrom_some n (i + 1) j h
      refine ⟨by omega, by omega, h3, fun k hk hkj => ?_⟩
      by_cases hki : k = i
      · subst hki; rw [hf]; rfl
      · exact h4 k (by omega) hkj
theorem freeFd_some {fds : Nat → Option End} {i j : Nat} (h : freeFd fds i = some j) : i ≤ j ∧ j < 16 ∧ fds j = none ∧ ∀ k, i ≤ k → k < j → (fds k).isSome = true := by
  obtain ⟨h1, h2, h3, h4⟩ := freeFrom_some _ _ _ h
  exact ⟨h1, by omega, h3, h4⟩

set_option maxRecDepth 100000 in
set_option maxHeartbeats 1000000 in
theorem dup_ok {w : World} {kb tb : Nat} {fds : Nat → Option End} {ob eb : Nat} (h : KAt w kb tb fds ob eb) (fd : Nat) (hu : usedFd fds fd = true) (j : Nat) (hn : freeFd fds 0 = some j) :
    Calls Tryz.prog 54 #[.pointer (some ⟨kb, 0, none⟩), .int .i64 fd] w fun e w' => DupOk w kb tb fds ob eb fd j e w' := by
  have hj : j < 16 := (freeFd_some hn).2.1
  have hfd : fd < 16 := by
    rcases Nat.lt_or_ge fd 16 with h | h
    · exact h
    · rw [usedFd_high (by omega)] at hu; cases hu
  have HU : Hid (Calls Tryz.prog 94 #[.pointer (some ⟨kb, 0, none⟩), .int .i64 fd] w fun e w' => UsedPost w true e w') := hu ▸ kern_used h fd
  have HFR : Hid (Calls Tryz.prog 93 #[.pointer (some ⟨kb, 0, none⟩), .int .i64 0] w fun e w' => FreePost w (some j) e w') := by
    have h1 := kern_free h 0 (by omega)
    rw [hn] at h1
    exact h1
  have H : Hid (KAt w kb tb fds ob eb) := h
  have hs : usedFd fds (fd : Int) = (fds fd).isSome := usedFd_in hfd
  rw [hu] at hs
  obtain ⟨en, hen⟩ := Option.isSome_iff_exists.1 hs.symm
  have hc1 : w.cell? ⟨kb, 1 + fd, none⟩ = some (endV (fds fd)) := H.out.fd fd hfd
  have hc2 : w.cell? ⟨kb, 1 + j, none⟩ = some (endV (fds j)) := H.out.fd j hj
  have hfz : ∀ o, w.frozen? ⟨kb, o, none⟩ = false := fun o => H.out.free o
  have HS : Hid (DupOk w kb tb fds ob eb fd j (.returned (.tuple #[.int .i64 j, .nilIface])) (w.setCell ⟨kb, 1 + j, none⟩ (endV (fds fd))).drew) :=
    ⟨rfl, (H.out.set j hj (fds fd)).drew, ((Kept.refl (fun b => b = kb) w).setCell (p := ⟨kb, 1 + j, none⟩) (.inl rfl) _).drew⟩
  clear h hu hn hs
  have hji : (j : Int) < 16 := by omega
  have hfi : (fd : Int) < 16 := by omega
  rw [hen] at hc1 HS
  go_enter Tryz.func54, Tryz.ntmps54
  go_wp2_with fail
  refine HU.out.mono ?_
  rintro e w1 ⟨rfl, rfl⟩
  go_wp2_with fail
  refine HFR.out.mono ?_
  rintro e w1 ⟨rfl, rfl⟩
  simp only [freeV]
  clear HU HFR
  cases en with
  | inp b =>
    simp only [endV] at hc1 HS
    go_wp2_with fail
    go_region
    go_wp2_with fail
    go_ret2
    exact HS.out
  | out b =>
    simp only [endV] at hc1 HS
    go_wp2_with fail
    go_region
    go_wp2_with fail
    go_ret2
    exact HS.out
  | file b =>
    simp only [endV] at hc1 HS
    go_wp2_with fail
    go_region
    go_wp2_with fail
    go_ret2
    exact HS.out
end Go.Proofs.YtiejfbkbjahcgaaGreatDoor
