/-
 A file that is open at both trees: what a write into it leaves, and a file without a name.
-/
import Derived.Test.YteeeaeiafdgpkaaGreatDoorBothA
import Derived.Test.YteeeaeiafdgpkaaGreatDoorPipe
namespace Go.Proofs.YteeeaeiafdgpkaaGreatDoor
open Go Go.RowKit
theorem Turned.ti {T T' : Tr} {k : Nat} {d : Nd} {b : List UInt8} (b6 : Turned T T' k d b) (b3 : T.nd k = some d) (b5 : b.length ≤ 65536) (hI : TI T) : TI T' := by
 refine ⟨b6.tw hI.tw b3, fun n e hn hdir => ?_, fun n e hn => ?_, fun n e hn => ?_⟩
 ·have old : ∃ d0, T.nd n = some d0 ∧ d0.dir = true ∧ d0.links = e.links := by
   by_cases h1 : n = k
   ·subst h1
    obtain ⟨bv, h2⟩ := b6.here
    rw [h2] at hn
    cases hn
    exact ⟨d, b3, hdir, rfl⟩
   ·rw [b6.oth n h1] at hn
    exact ⟨e, hn, hdir, rfl⟩
  obtain ⟨d0, o1, o2, o3⟩ := old
  obtain ⟨⟨l, hl⟩, h4⟩ := hI.dirs n d0 o1 o2
  exact ⟨⟨l, (Tr.at_same b6.root (b6.sk b3) l).trans hl⟩, o3.symm.trans h4⟩
 ·by_cases h1 : n = k
  ·subst h1
   obtain ⟨bv, h2⟩ := b6.here
   rw [h2] at hn
   cases hn
   exact b5
  ·rw [b6.oth n h1] at hn
   exact hI.data n e hn
 ·have hc := b6.clock
  by_cases h1 : n = k
  ·subst h1
   obtain ⟨bv, h2⟩ := b6.here
   rw [h2] at hn
   cases hn
   have := hI.num n d b3
   show 0 ≤ T.clock + 1 ∧ T.clock + 1 ≤ T'.clock ∧ (d.names.length : Int) ≤ T'.clock
   omega
  ·rw [b6.oth n h1] at hn
   have := hI.num n e hn
   omega
theorem Turned.tg {T T' : Tr} {k : Nat} {d : Nd} {b : List UInt8} (b6 : Turned T T' k d b) (b3 : T.nd k = some d) (hG : TG T) : TG T' := by
 intro n e x q hn hx
 by_cases h1 : n = k
 ·subst h1
  obtain ⟨bv, h2⟩ := b6.here
  rw [h2] at hn
  cases hn
  exact hG n d x q b3 hx
 ·rw [b6.oth n h1] at hn
  exact hG n e x q hn hx
theorem RTurned.rn {R R' : RT} {m n : Nat} {r : RNd} {b : List UInt8} (h : RTurned R R' m r b) (hb : RN R n) (hn : n < 80000) (hbl : b.length ≤ 65536) : RN R' (n + 1) := by
 have h0 := hb.rb.now0
 have hnw := hb.now
 have hlen := hb.len
 refine ⟨⟨by rw [h.L]; omega, fun e he => hb.rb.paths e (by rw [← h.L]; exact he), by rw [h.L]; exact hb.rb.root, by rw [h.now]; omega, by rw [h.now]; omega⟩, by rw [h.L]; omega, by rw [h.now]; omega, fun x e hx => ?_⟩
 by_cases e1 : x = m
 ·subst e1
  obtain ⟨dv, hh⟩ := h.here
  rw [hh] at hx
  cases hx
  exact hbl
 ·rw [h.oth x e1] at hx
  exact hb.data x e hx
theorem Tempd.ti {T T' : Tr} {k : Nat} {d : Nd} (h : Tempd T T' k d) (hk : T.nd k = none) (hI : TI T) : TI T' := by
 refine ⟨h.tw hI.tw hk, fun n e hn hdir => ?_, fun n e hn => ?_, fun n e hn => ?_⟩
 ·rcases h.cases n e hn with ⟨rfl, rfl⟩ | ⟨_, h1⟩
  ·rw [h.file] at hdir; cases hdir
  ·obtain ⟨⟨l, hl⟩, h4⟩ := hI.dirs n e h1 hdir
   exact ⟨⟨l, (h.at hI.tw hk l).trans hl⟩, h4⟩
 ·rcases h.cases n e hn with ⟨rfl, rfl⟩ | ⟨_, h1⟩
  ·rw [h.data]; exact Nat.zero_le _
  ·exact hI.data n e h1
 ·have hc := h.clock
  rcases h.cases n e hn with ⟨rfl, rfl⟩ | ⟨_, h1⟩
  ·obtain ⟨d0, hd0, _⟩ := hI.tw.root
   have := hI.num _ d0 hd0
   rw [h.tick, h.bare]
   simp only [List.length_nil]
   omega
  ·have := hI.num n e h1
   omega
theorem Tempd.tg {T T' : Tr} {k : Nat} {d : Nd} (h : Tempd T T' k d) (hG : TG T) : TG T' := by
 intro n e x q hn hx
 rcases h.cases n e hn with ⟨rfl, rfl⟩ | ⟨_, h1⟩
 ·rw [h.bare] at hx; cases hx
 ·exact hG n e x q h1 hx
theorem RTempd.rn {R R' : RT} {m n : Nat} {r : RNd} (h : RTempd R R' m r) (hb : RN R n) : RN R' n := by
 refine ⟨⟨by rw [h.L]; exact hb.rb.len, fun e he => hb.rb.paths e (by rw [← h.L]; exact he), by rw [h.L]; exact hb.rb.root, by rw [h.now]; exact hb.rb.now0, by rw [h.now]; exact hb.rb.now1⟩, by rw [h.L]; exact hb.len, by rw [h.now]; exact hb.now, fun x e hx => ?_⟩
 by_cases e1 : x = m
 ·subst e1
  rw [h.here] at hx
  cases hx
  rw [h.data]; exact Nat.zero_le _
 ·rw [h.oth x e1] at hx
  exact hb.data x e hx
def tempR : RNd := ⟨false, .slice none 0 0, [], 0⟩
theorem tempd_set (T : Tr) (k : Nat) : Tempd T (T.set k zfg) k zfg := ⟨rfl, rfl, rfl, if_pos rfl, rfl, rfl, rfl, rfl, rfl, fun _ h => if_neg h⟩
theorem rtempd_set (R : RT) (m : Nat) : RTempd R (R.setNd m tempR) m tempR := ⟨rfl, rfl, if_pos rfl, rfl, rfl, rfl, fun _ h => if_neg h⟩
end Go.Proofs.YteeeaeiafdgpkaaGreatDoor
