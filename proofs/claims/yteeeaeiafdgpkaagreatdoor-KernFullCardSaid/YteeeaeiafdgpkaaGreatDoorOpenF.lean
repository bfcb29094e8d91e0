/-
 Open of any path in any way at the program's tree; an open file of both trees, step by step.
-/
import Derived.Test.YteeeaeiafdgpkaaGreatDoorFileS
import Derived.Test.YteeeaeiafdgpkaaGreatDoorRAt
import Derived.Test.YteeeaeiafdgpkaaGreatDoorLock
import Derived.Test.YteeeaeiafdgpkaaGreatDoorLockB
namespace Go.Proofs.YteeeaeiafdgpkaaGreatDoor
open Go Go.RowKit
open Go.Lib (hid)
def Tr.cFile (T : Tr) (p : ByteArray) : Nat := match T.fileOf p with
 | .error c => c
 | .ok _ => 0
def Tr.cOpen (T : Tr) (p : ByteArray) (way : Int) : Nat := if way = 0 then T.cFile p else if way = 1 then T.cWrite p [] false else if way = 2 then T.cWrite p [] true else 1
theorem cFile_le (T : Tr) (p : ByteArray) : T.cFile p ≤ 21 := by
 unfold Tr.cFile
 cases h : T.fileOf p with
 | error c => rcases fileOf_err h with e | e | e <;> (dsimp only; omega)
 | ok k => dsimp only; omega
theorem cOpen_le (T : Tr) (p : ByteArray) (way : Int) : T.cOpen p way ≤ 21 := by
 unfold Tr.cOpen
 repeat' split
 ·exact cFile_le _ _
 ·exact cWrite_le _ _ _ _
 ·exact cWrite_le _ _ _ _
 ·omega
theorem fileOf_leads {T : Tr} {p : ByteArray} {k : Nat} (h : T.fileOf p = .ok k) : T.leads p k := by
 unfold Tr.fileOf at h
 cases hf : T.find p with
 | error c => rw [hf] at h; cases h
 | ok sp =>
  rw [hf] at h
  dsimp only at h
  obtain ⟨l, hcl, hat, _⟩ := find_ok hf
  cases hn : sp.n with
  | none => rw [hn] at h; cases h
  | some q =>
   rw [hn] at h hat
   dsimp only at h
   have hq : q = k := by
    revert h
    repeat' split
    all_goals first | (intro h; cases h; rfl) | (intro h; cases h)
   subst hq
   exact ⟨l, hcl, hat⟩
set_option maxRecDepth 100000 in
set_option maxHeartbeats 1000000 in
theorem open_rerr {E : Nat → Addr} {B : Nat} {T : Tr} (p : ByteArray) (w : World) (hE : Ctx E B w) (hR : Rep B w T) (hsz : p.size ≤ 9223372036854775807) (c : Nat) (hf : T.fileOf p = .error c) :
  Calls Tryz.prog 49 #[.pointer (some ⟨T.tb, 0, none⟩), .string p, .int .i64 0] w fun e w' => zc5 E w c e w' := by
 have HP : Hid (Calls Tryz.prog 78 #[.pointer (some ⟨T.tb, 0, none⟩), .string p] w fun e w' => zfy E w (.error c) e w') := by
  have h := tree_file p w hE hR hsz
  rw [hf] at h
  exact h
 clear hE hR hf
 go_enter Tryz.func49, Tryz.ntmps49
 go_wp2_with fail
 refine HP.out.mono ?_
 rintro e w1 ⟨a, rfl, h1, h2⟩
 have HX : Hid (zc5 E w c (.returned (.tuple #[.pointer none, zcb a])) w1) := ⟨a, rfl, h1, h2⟩
 clear h1 h2 HP
 go_wp2_with fail
 go_ret2
 exact HX.out
set_option maxRecDepth 100000 in
set_option maxHeartbeats 1000000 in
theorem open_arg {E : Nat → Addr} {B : Nat} (tb : Nat) (p : ByteArray) (way : Int) (w : World) (hE : Env E B w) (h0 : ¬ way = 0) (h1 : ¬ way = 1) (h2 : ¬ way = 2) :
  Calls Tryz.prog 49 #[.pointer (some ⟨tb, 0, none⟩), .string p, .int .i64 way] w fun e w' => zc5 E w 1 e w' := by
 have HE := hid hE
 clear hE
 go_enter Tryz.func49, Tryz.ntmps49
 go_wp2_with fail
 refine (zbl w HE.out 1 (by unfold Used; omega)).mono ?_
 rintro e w2 ⟨a, rfl, hfail, hb2⟩
 have HX : Hid (zc5 E w 1 (.returned (.tuple #[.pointer none, zcb a])) w2) := ⟨a, rfl, hfail, hb2⟩
 clear hfail hb2
 go_wp2_with fail
 go_ret2
 exact HX.out
def zfd (T T' : Tr) (p : ByteArray) (way : Int) : Prop := (way = 0 ∧ T' = T) ∨ (way = 1 ∧ zdq T T' p [] false) ∨ (way = 2 ∧ zdq T T' p [] true)
theorem open_full {E : Nat → Addr} {B : Nat} {T : Tr} (p : ByteArray) (way : Int) (w : World) (hE : Ctx E B w) (hR : Rep B w T) (hI : TI T) (hN : TNum T) (hsz : p.size ≤ 9223372036854775807) :
  Calls Tryz.prog 49 #[.pointer (some ⟨T.tb, 0, none⟩), .string p, .int .i64 way] w fun e w' => OAns E B w T (T.cOpen p way) (fun T' k => zfd T T' p way ∧ T'.leads p k) e w' := by
 unfold Tr.cOpen
 by_cases h0 : way = 0
 ·subst h0
  rw [if_pos rfl]
  unfold Tr.cFile
  cases hf : T.fileOf p with
  | error c =>
   refine (open_rerr p w hE hR hsz c hf).mono fun e w' h => .inl ⟨?_, h⟩
   dsimp only
   rcases fileOf_err hf with h | h | h <;> omega
  | ok k =>
   refine (open_read p w hE hR hsz k hf).mono fun e w' h => ?_
   obtain ⟨f, he, hfl, hof, hr, hkp, hft⟩ := h
   exact .inr ⟨rfl, f, k, T, he, hfl, hof, hr, hkp, hft, rfl, .inl ⟨rfl, rfl⟩, fileOf_leads hf⟩
 ·rw [if_neg h0]
  by_cases h1 : way = 1
  ·subst h1
   rw [if_pos rfl]
   refine (open_any p 1 false (.inl ⟨rfl, rfl⟩) w hE hR hI hN hsz).mono fun e w' h => ?_
   rcases h with h | ⟨a0, f, k, T', a1, a2, a3, a4, a5, a6, a7, a8, a9⟩
   ·exact .inl h
   ·exact .inr ⟨a0, f, k, T', a1, a2, a3, a4, a5, a6, a7, .inr (.inl ⟨rfl, a8⟩), a9⟩
  ·rw [if_neg h1]
   by_cases h2 : way = 2
   ·subst h2
    rw [if_pos rfl]
    refine (open_any p 2 true (.inr ⟨rfl, rfl⟩) w hE hR hI hN hsz).mono fun e w' h => ?_
    rcases h with h | ⟨a0, f, k, T', a1, a2, a3, a4, a5, a6, a7, a8, a9⟩
    ·exact .inl h
    ·exact .inr ⟨a0, f, k, T', a1, a2, a3, a4, a5, a6, a7, .inr (.inr ⟨rfl, a8⟩), a9⟩
   ·rw [if_neg h2]
    exact (open_arg T.tb p way w hE.env h0 h1 h2).mono fun e w' h => .inl ⟨by decide, h⟩
theorem Sim.step_rem {T T' : Tr} {R R' : RT} {f : Nat → Nat} {s : ByteArray} (hS : Sim T R f) (hT : TW T) (g : zds T T' s) (h : zea R R' s) : Sim T' R' f := by
 obtain ⟨l, m, r, i', ri, hc, hd, h0, h, hr, hk, h2, h3, h4⟩ := h
 obtain ⟨dp, nm, i, k, di, dk, a1, a2, a3, a4, a5, a6, a7, a8, a9⟩ := g
 obtain ⟨rfl, rfl, hp⟩ := hS.up a1 hc a2 h2
 exact hS.pruned hT a9 a2 a3 a4 a5 a6 a7 hp h4 h3
theorem zds.file {T T' : Tr} {s : ByteArray} (h : zds T T' s) {n : Nat} {d : Nd} (hd : T.nd n = some d) (hdir : d.dir = false) : ∃ d', T'.nd n = some d' ∧ d'.dir = false ∧ d'.data = d.data := by
 obtain ⟨dp, nm, i, k, di, dk, a1, a2, a3, a4, a5, a6, a7, a8, a9⟩ := h
 by_cases h1 : n = k
 ·subst h1
  rw [a6] at hd
  cases hd
  exact ⟨_, a9.files hdir, hdir, rfl⟩
 ·by_cases h2 : n = i
  ·subst h2
   rw [a3] at hd
   cases hd
   rw [a4] at hdir
   cases hdir
  ·exact ⟨d, (a9.oth n h2 h1).trans hd, hdir, rfl⟩
end Go.Proofs.YteeeaeiafdgpkaaGreatDoor
