/-
 A KERN IN MEMORY: its descriptors; the calls that look at them or turn them alone.
 A kern's Dup, Close, Move, Used.
 A kern's Close, Move, Used.
 A kern's Used: the descriptors in use.
 A KERN WITH ITS TREE, ITS CONSOLE AND ITS OPEN FILES IN MEMORY; what it keeps when a part of it is turned.
-/
import Derived.Test.YteeeaeiafdgpkaaGreatDoorAppA
import Derived.Deep.LoopGhost
import Derived.Test.YteeeaeiafdgpkaaGreatDoorPutA
namespace Go.Proofs.YteeeaeiafdgpkaaGreatDoor
open Go Go.RowKit
section
inductive End where
 | inp (b : Nat)
 | out (b : Nat)
 | file (b : Nat)
def endV : Option End → Value
 | none => .nilIface
 | some (.inp b) => .iface 65 (.pointer (some ⟨b, 0, none⟩))
 | some (.out b) => .iface 57 (.pointer (some ⟨b, 0, none⟩))
 | some (.file b) => .iface 123 (.pointer (some ⟨b, 0, none⟩))
structure KAt (w : World) (kb tb : Nat) (fds : Nat → Option End) (ob eb : Nat) : Prop where
 cells : ∃ c : Array Value, w.heap[kb]? = some (.cells c 64 (0, 0)) ∧ c.size = 19 ∧ c[0]? = some (ptrV (some tb)) ∧ (∀ j, j < 16 → c[1 + j]? = some (endV (fds j))) ∧ c[17]? = some (ptrV (some ob)) ∧ c[18]? = some (ptrV (some eb))
theorem KAt.kept {w w' : World} {kb tb : Nat} {fds : Nat → Option End} {ob eb : Nat} {F : Nat → Prop} (h : KAt w kb tb fds ob eb) (k : Kept F w w') (hF : ¬ F kb) : KAt w' kb tb fds ob eb := by
 obtain ⟨c, h1, r⟩ := h.cells
 exact ⟨⟨c, (k.block kb (zab h1) hF).trans h1, r⟩⟩
theorem KAt.drew {w : World} {kb tb : Nat} {fds : Nat → Option End} {ob eb : Nat} (h : KAt w kb tb fds ob eb) : KAt w.drew kb tb fds ob eb := ⟨h.cells⟩
theorem KAt.fd {w : World} {kb tb : Nat} {fds : Nat → Option End} {ob eb : Nat} (h : KAt w kb tb fds ob eb) (j : Nat) (hj : j < 16) : w.cell? ⟨kb, 1 + j, none⟩ = some (endV (fds j)) := by
 obtain ⟨c, h1, _, _, h2, _⟩ := h.cells
 exact zaa h1 (h2 j hj)
theorem KAt.free {w : World} {kb tb : Nat} {fds : Nat → Option End} {ob eb : Nat} (h : KAt w kb tb fds ob eb) (o : Nat) : w.frozen? ⟨kb, o, none⟩ = false := by
 obtain ⟨c, h1, _⟩ := h.cells
 exact zah h1 o
theorem KAt.lt {w : World} {kb tb : Nat} {fds : Nat → Option End} {ob eb : Nat} (h : KAt w kb tb fds ob eb) : kb < w.heap.size := by
 obtain ⟨c, h1, _⟩ := h.cells
 exact zab h1
def zbx (fds : Nat → Option End) (j : Nat) (e : Option End) : Nat → Option End := fun i => if i = j then e else fds i
theorem KAt.set {w : World} {kb tb : Nat} {fds : Nat → Option End} {ob eb : Nat} (h : KAt w kb tb fds ob eb) (j : Nat) (hj : j < 16) (e : Option End) : KAt (w.setCell ⟨kb, 1 + j, none⟩ (endV e)) kb tb (zbx fds j e) ob eb := by
 obtain ⟨c, h1, h2, h3, h4, h5, h6⟩ := h.cells
 refine ⟨⟨c.setIfInBounds (1 + j) (endV e), zaj h1 _ _, by simp [h2], ?_, fun i hi => ?_, ?_, ?_⟩⟩
 ·rw [Array.getElem?_setIfInBounds, if_neg (by omega)]; exact h3
 ·rw [Array.getElem?_setIfInBounds]
  unfold zbx
  by_cases hij : i = j
  ·subst hij; simp [h2]; omega
  ·rw [if_neg (by omega), if_neg hij]; exact h4 i hi
 ·rw [Array.getElem?_setIfInBounds, if_neg (by omega)]; exact h5
 ·rw [Array.getElem?_setIfInBounds, if_neg (by omega)]; exact h6
def zev (fds : Nat → Option End) : Nat → Nat → Option Nat
 | _, 0 => none
 | j, n + 1 => match fds j with
  | none => some j
  | some _ => zev fds (j + 1) n
def za3 (fds : Nat → Option End) (j : Nat) : Option Nat := zev fds j (16 - j)
theorem freeFd_here {fds : Nat → Option End} {j : Nat} (hj : j < 16) (h : fds j = none) : za3 fds j = some j := by
 unfold za3
 obtain ⟨n, hn⟩ : ∃ n, 16 - j = n + 1 := ⟨15 - j, by omega⟩
 rw [hn, zev, h]
theorem freeFd_next {fds : Nat → Option End} {j : Nat} (hj : j < 16) {e : End} (h : fds j = some e) : za3 fds j = za3 fds (j + 1) := by
 unfold za3
 obtain ⟨n, hn⟩ : ∃ n, 16 - j = n + 1 := ⟨15 - j, by omega⟩
 rw [hn, zev, h, show 16 - (j + 1) = n by omega]
theorem freeFd_end (fds : Nat → Option End) {j : Nat} (hj : 16 ≤ j) : za3 fds j = none := by
 unfold za3
 rw [show 16 - j = 0 by omega]; rfl
def freeV : Option Nat → Int
 | none => -1
 | some j => j
def zcr (w : World) (r : Option Nat) (e : Ending) (w' : World) : Prop := e = .returned (.int .i64 (freeV r)) ∧ w' = w
set_option maxRecDepth 100000 in
set_option maxHeartbeats 1000000 in
theorem zce {w : World} {kb tb : Nat} {fds : Nat → Option End} {ob eb : Nat} (h : KAt w kb tb fds ob eb) (j : Nat) (hj : j ≤ 16) :
  Calls Tryz.prog 48 #[.pointer (some ⟨kb, 0, none⟩), .int .i64 j] w fun e w' => zcr w (za3 fds j) e w' := by
 have H : Hid (KAt w kb tb fds ob eb) := h
 clear h
 go_enter Tryz.func48, Tryz.ntmps48
 go_wp2_with fail
 go_loop [5] (fun idx => ∃ k : Nat, j ≤ k ∧ k ≤ 16 ∧ idx = .int .i64 k ∧ Hid (za3 fds k = za3 fds j)) (fun idx => 16 - (intOf idx).toNat)
 case atStart => exact ⟨j, Nat.le_refl _, hj, rfl, rfl⟩
 case round =>
  obtain ⟨k, hk0, hk, rfl, hfr⟩ := hrel
  by_cases hlt : k < 16
  ·have hcell : w.cell? ⟨kb, 1 + k, none⟩ = some (endV (fds k)) := H.out.fd k hlt
   cases hfd : fds k with
   | none =>
    have HF : Hid (za3 fds j = some k) := hfr.out.symm.trans (freeFd_here hlt hfd)
    rw [hfd] at hcell
    simp only [endV] at hcell
    clear hfd
    go_wp2_with fail
    go_ret
    exact ⟨by rw [HF.out]; rfl, rfl⟩
   | some e =>
    have HF : Hid (za3 fds (k + 1) = za3 fds j) := (freeFd_next hlt hfd).symm.trans hfr.out
    rw [hfd] at hcell
    clear hfd
    cases e with
    | inp b =>
     simp only [endV] at hcell
     go_wp2_with fail
     go_round
     case rel => exact ⟨k + 1, by omega, by omega, by go_num, HF.out⟩
     case measure => simp [intOf]; omega
    | out b =>
     simp only [endV] at hcell
     go_wp2_with fail
     go_round
     case rel => exact ⟨k + 1, by omega, by omega, by go_num, HF.out⟩
     case measure => simp [intOf]; omega
    | file b =>
     simp only [endV] at hcell
     go_wp2_with fail
     go_round
     case rel => exact ⟨k + 1, by omega, by omega, by go_num, HF.out⟩
     case measure => simp [intOf]; omega
  ·have HF : Hid (za3 fds j = none) := hfr.out.symm.trans (freeFd_end fds (by omega))
   go_wp2_with fail
   go_ret
   exact ⟨by rw [HF.out]; rfl, rfl⟩
def za1 (fds : Nat → Option End) (fd : Int) : Bool := decide (0 ≤ fd) && decide (fd < 16) && (fds fd.toNat).isSome
theorem usedFd_low {fds : Nat → Option End} {fd : Int} (h : fd < 0) : za1 fds fd = false := by
 unfold za1
 rw [decide_eq_false (by omega)]; rfl
theorem zd3 {fds : Nat → Option End} {fd : Int} (h : 16 ≤ fd) : za1 fds fd = false := by
 unfold za1
 rw [decide_eq_false (p := fd < 16) (by omega)]; simp
theorem zbc {fds : Nat → Option End} {j : Nat} (h : j < 16) : za1 fds (j : Int) = (fds j).isSome := by
 unfold za1
 rw [decide_eq_true (p := (0 : Int) ≤ j) (by omega), decide_eq_true (p := (j : Int) < 16) (by omega)]; simp
def za9 (w : World) (r : Bool) (e : Ending) (w' : World) : Prop := e = .returned (.bool r) ∧ w' = w
set_option maxRecDepth 100000 in
set_option maxHeartbeats 1000000 in
theorem za2 {w : World} {kb tb : Nat} {fds : Nat → Option End} {ob eb : Nat} (h : KAt w kb tb fds ob eb) (fd : Int) :
  Calls Tryz.prog 53 #[.pointer (some ⟨kb, 0, none⟩), .int .i64 fd] w fun e w' => za9 w (za1 fds fd) e w' := by
 have H : Hid (KAt w kb tb fds ob eb) := h
 clear h
 by_cases h0 : fd < 0
 ·have HU : Hid (za1 fds fd = false) := usedFd_low h0
  go_enter Tryz.func53, Tryz.ntmps53
  go_wp2_with fail
  go_ret
  exact ⟨by rw [HU.out]; rfl, rfl⟩
 by_cases h1 : 16 ≤ fd
 ·have HU : Hid (za1 fds fd = false) := zd3 h1
  go_enter Tryz.func53, Tryz.ntmps53
  go_wp2_with fail
  go_ret
  exact ⟨by rw [HU.out]; rfl, rfl⟩
 obtain ⟨j, rfl⟩ := Int.eq_ofNat_of_zero_le (by omega : 0 ≤ fd)
 have hj : j < 16 := by omega
 have hcell : w.cell? ⟨kb, 1 + j, none⟩ = some (endV (fds j)) := H.out.fd j hj
 clear h0 h1
 cases hfd : fds j with
 | none =>
  have HU : Hid (za1 fds (j : Int) = false) := by show _ = _; rw [zbc hj, hfd]; rfl
  rw [hfd] at hcell
  simp only [endV] at hcell
  clear hfd
  go_enter Tryz.func53, Tryz.ntmps53
  go_wp2_with fail
  go_ret
  exact ⟨by rw [HU.out]; rfl, rfl⟩
 | some e =>
  have HU : Hid (za1 fds (j : Int) = true) := by show _ = _; rw [zbc hj, hfd]; rfl
  rw [hfd] at hcell
  clear hfd
  cases e with
  | inp b =>
   simp only [endV] at hcell
   go_enter Tryz.func53, Tryz.ntmps53
   go_wp2_with fail
   go_ret
   exact ⟨by rw [HU.out]; rfl, rfl⟩
  | out b =>
   simp only [endV] at hcell
   go_enter Tryz.func53, Tryz.ntmps53
   go_wp2_with fail
   go_ret
   exact ⟨by rw [HU.out]; rfl, rfl⟩
  | file b =>
   simp only [endV] at hcell
   go_enter Tryz.func53, Tryz.ntmps53
   go_wp2_with fail
   go_ret
   exact ⟨by rw [HU.out]; rfl, rfl⟩
abbrev refV (a : Nat) : Value := .iface 160 (.pointer (some ⟨a, 0, none⟩))
def zb6 (E : Nat → Addr) (L : Nat) (w : World) (a : Nat) (c : Nat) : Prop :=
 ∃ b, L ≤ a ∧ w.heap[a]? = some (.cells #[zcb b] 163 (0, 0)) ∧ zbu E L w b c
theorem zb6.below {E : Nat → Addr} {L : Nat} {w w' : World} {a c : Nat} (h : zb6 E L w a c) (k : Below w.heap.size w w') : zb6 E L w' a c := by
 obtain ⟨b, l1, h1, h2⟩ := h
 exact ⟨b, l1, (k.block a (zab h1)).trans h1, h2.below k⟩
theorem zb6.mono {E : Nat → Addr} {L L' : Nat} {w : World} {a c : Nat} (h : zb6 E L w a c) (hl : L' ≤ L) : zb6 E L' w a c := by
 obtain ⟨b, l1, h1, h2⟩ := h
 exact ⟨b, by omega, h1, h2.mono hl⟩
def zba (E : Nat → Addr) (w : World) (c : Nat) (e : Ending) (w' : World) : Prop :=
 ∃ a, e = .returned (refV a) ∧ zb6 E w.heap.size w' a c ∧ Below w.heap.size w w'
theorem zcm {E : Nat → Addr} (w : World) (c : Nat) :
  zba E w c (.returned (refV (w.heap.size + 2))) (((w.alloc (.cells #[botV (E c), .int .i64 0] 131)).alloc (.cells #[.iface 127 (.pointer (some ⟨w.heap.size, 0, none⟩)), .int .i64 11] 135)).alloc (.cells #[zcb (w.heap.size + 1)] 163)) := by
 have h := zcj (E := E) w c
 refine ⟨_, rfl, ⟨w.heap.size + 1, by omega, ?_, h.below (zad _ _)⟩, zaf (zar w _ _) (zad _ _)⟩
 have h2 := heap_alloc_new ((w.alloc (.cells #[botV (E c), .int .i64 0] 131)).alloc (.cells #[.iface 127 (.pointer (some ⟨w.heap.size, 0, none⟩)), .int .i64 11] 135)) (.cells #[zcb (w.heap.size + 1)] 163)
 simpa using h2
set_option maxHeartbeats 2000000 in
theorem zbf {E : Nat → Addr} {B : Nat} (w : World) (hE : Env E B w) (c : Nat) (hc : Used c) :
  Calls Tryz.prog 47 #[.int .i64 c] w fun e w' => zba E w c e w' := by
 rcases hc with rfl | rfl | rfl | rfl | rfl | rfl
 ·have h := hE.glob 1 (by omega) (by omega)
  simp only [gl, botV] at h
  clear hE
  go_enter Tryz.func47, Tryz.ntmps47
  go_wp2
  go_ret
  exact zcm w 1
 ·have h := hE.glob 15 (by omega) (by omega)
  simp only [gl, botV] at h
  clear hE
  go_enter Tryz.func47, Tryz.ntmps47
  go_wp2
  go_ret
  exact zcm w 15
 ·have h := hE.glob 16 (by omega) (by omega)
  simp only [gl, botV] at h
  clear hE
  go_enter Tryz.func47, Tryz.ntmps47
  go_wp2
  go_ret
  exact zcm w 16
 ·have h := hE.glob 17 (by omega) (by omega)
  simp only [gl, botV] at h
  clear hE
  go_enter Tryz.func47, Tryz.ntmps47
  go_wp2
  go_ret
  exact zcm w 17
 ·have h := hE.glob 18 (by omega) (by omega)
  simp only [gl, botV] at h
  clear hE
  go_enter Tryz.func47, Tryz.ntmps47
  go_wp2
  go_ret
  exact zcm w 18
 ·have h := hE.glob 19 (by omega) (by omega)
  simp only [gl, botV] at h
  clear hE
  go_enter Tryz.func47, Tryz.ntmps47
  go_wp2
  go_ret
  exact zcm w 19
end
section
def NumNo (E : Nat → Addr) (w : World) (c : Nat) (e : Ending) (w' : World) : Prop :=
 ∃ a, e = .returned (.tuple #[.int .i64 0, refV a]) ∧ zb6 E w.heap.size w' a c ∧ Below w.heap.size w w'
def ErrNo (E : Nat → Addr) (w : World) (c : Nat) (e : Ending) (w' : World) : Prop := zba E w c e w'
set_option maxRecDepth 100000 in
set_option maxHeartbeats 1000000 in
theorem dup_bad {E : Nat → Addr} {B : Nat} {w : World} {kb tb : Nat} {fds : Nat → Option End} {ob eb : Nat} (hE : Env E B w) (h : KAt w kb tb fds ob eb) (fd : Int) (hu : za1 fds fd = false) :
  Calls Tryz.prog 24 #[.pointer (some ⟨kb, 0, none⟩), .int .i64 fd] w fun e w' => NumNo E w 1 e w' := by
 have HU : Hid (Calls Tryz.prog 53 #[.pointer (some ⟨kb, 0, none⟩), .int .i64 fd] w fun e w' => za9 w false e w') := hu ▸ za2 h fd
 have HE : Hid (Env E B w) := hE
 clear h hu hE
 go_enter Tryz.func24, Tryz.ntmps24
 go_wp2_with fail
 refine HU.out.mono ?_
 rintro e w1 ⟨rfl, rfl⟩
 go_wp2_with fail
 refine (zbf _ HE.out 1 (by unfold Used; omega)).mono ?_
 rintro e w2 ⟨a, rfl, hf, hb⟩
 have HF : Hid (NumNo E w1 1 (.returned (.tuple #[.int .i64 0, refV a])) w2) := ⟨a, rfl, hf, hb⟩
 clear hf hb
 go_wp2_with fail
 go_ret2
 exact HF.out
set_option maxRecDepth 100000 in
set_option maxHeartbeats 1000000 in
theorem dup_full {E : Nat → Addr} {B : Nat} {w : World} {kb tb : Nat} {fds : Nat → Option End} {ob eb : Nat} (hE : Env E B w) (h : KAt w kb tb fds ob eb) (fd : Int) (hu : za1 fds fd = true) (hn : za3 fds 0 = none) :
  Calls Tryz.prog 24 #[.pointer (some ⟨kb, 0, none⟩), .int .i64 fd] w fun e w' => NumNo E w 19 e w' := by
 have HU : Hid (Calls Tryz.prog 53 #[.pointer (some ⟨kb, 0, none⟩), .int .i64 fd] w fun e w' => za9 w true e w') := hu ▸ za2 h fd
 have HFR : Hid (Calls Tryz.prog 48 #[.pointer (some ⟨kb, 0, none⟩), .int .i64 0] w fun e w' => zcr w none e w') := by
  have h1 := zce h 0 (by omega)
  rw [hn] at h1
  exact h1
 have HE : Hid (Env E B w) := hE
 clear h hu hE hn
 go_enter Tryz.func24, Tryz.ntmps24
 go_wp2_with fail
 refine HU.out.mono ?_
 rintro e w1 ⟨rfl, rfl⟩
 go_wp2_with fail
 refine HFR.out.mono ?_
 rintro e w1 ⟨rfl, rfl⟩
 simp only [freeV]
 go_wp2_with fail
 refine (zbf _ HE.out 19 (by unfold Used; omega)).mono ?_
 rintro e w2 ⟨a, rfl, hf, hb⟩
 have HF : Hid (NumNo E w1 19 (.returned (.tuple #[.int .i64 0, refV a])) w2) := ⟨a, rfl, hf, hb⟩
 clear hf hb
 go_wp2_with fail
 go_ret2
 exact HF.out
def DupOk (w : World) (kb tb : Nat) (fds : Nat → Option End) (ob eb : Nat) (fd j : Nat) (e : Ending) (w' : World) : Prop :=
 e = .returned (.tuple #[.int .i64 j, .nilIface]) ∧ KAt w' kb tb (zbx fds j (fds fd)) ob eb ∧ Kept (fun b => b = kb) w w'
theorem zfs {fds : Nat → Option End} : ∀ (n i j : Nat), zev fds i n = some j → i ≤ j ∧ j < i + n ∧ fds j = none ∧ ∀ k, i ≤ k → k < j → (fds k).isSome = true
 | 0, _, _, h => by cases h
 | n + 1, i, j, h => by
  unfold zev at h
  cases hf : fds i with
  | none =>
   rw [hf] at h
   obtain rfl := Option.some.inj h
   exact ⟨Nat.le_refl _, by omega, hf, fun k h1 h2 => by omega⟩
  | some e =>
   rw [hf] at h
   obtain ⟨h1, h2, h3, h4⟩ := zfs n (i + 1) j h
   refine ⟨by omega, by omega, h3, fun k hk hkj => ?_⟩
   by_cases hki : k = i
   ·subst hki; rw [hf]; rfl
   ·exact h4 k (by omega) hkj
theorem zby {fds : Nat → Option End} {i j : Nat} (h : za3 fds i = some j) : i ≤ j ∧ j < 16 ∧ fds j = none ∧ ∀ k, i ≤ k → k < j → (fds k).isSome = true := by
 obtain ⟨h1, h2, h3, h4⟩ := zfs _ _ _ h
 exact ⟨h1, by omega, h3, h4⟩
set_option maxRecDepth 100000 in
set_option maxHeartbeats 1000000 in
theorem dup_ok {w : World} {kb tb : Nat} {fds : Nat → Option End} {ob eb : Nat} (h : KAt w kb tb fds ob eb) (fd : Nat) (hu : za1 fds fd = true) (j : Nat) (hn : za3 fds 0 = some j) :
  Calls Tryz.prog 24 #[.pointer (some ⟨kb, 0, none⟩), .int .i64 fd] w fun e w' => DupOk w kb tb fds ob eb fd j e w' := by
 have hj : j < 16 := (zby hn).2.1
 have hfd : fd < 16 := by
  rcases Nat.lt_or_ge fd 16 with h | h
  ·exact h
  ·rw [zd3 (by omega)] at hu; cases hu
 have HU : Hid (Calls Tryz.prog 53 #[.pointer (some ⟨kb, 0, none⟩), .int .i64 fd] w fun e w' => za9 w true e w') := hu ▸ za2 h fd
 have HFR : Hid (Calls Tryz.prog 48 #[.pointer (some ⟨kb, 0, none⟩), .int .i64 0] w fun e w' => zcr w (some j) e w') := by
  have h1 := zce h 0 (by omega)
  rw [hn] at h1
  exact h1
 have H : Hid (KAt w kb tb fds ob eb) := h
 have hs : za1 fds (fd : Int) = (fds fd).isSome := zbc hfd
 rw [hu] at hs
 obtain ⟨en, hen⟩ := Option.isSome_iff_exists.1 hs.symm
 have hc1 : w.cell? ⟨kb, 1 + fd, none⟩ = some (endV (fds fd)) := H.out.fd fd hfd
 have hc2 : w.cell? ⟨kb, 1 + j, none⟩ = some (endV (fds j)) := H.out.fd j hj
 have hfz : ∀ o, w.frozen? ⟨kb, o, none⟩ = false := fun o => H.out.free o
 have HS : Hid (DupOk w kb tb fds ob eb fd j (.returned (.tuple #[.int .i64 j, .nilIface])) (w.setCell ⟨kb, 1 + j, none⟩ (endV (fds fd))).drew) :=
  ⟨rfl, (H.out.set j hj (fds fd)).drew, ((Kept.refl (fun b => b = kb) w).setCell (p := ⟨kb, 1 + j, none⟩) (.inl rfl) _).drew⟩
 clear h hu hn hs
 have hji : (j : Int) < 16 := by omega
 have hfi : (fd : Int) < 16 := by omega
 rw [hen] at hc1 HS
 go_enter Tryz.func24, Tryz.ntmps24
 go_wp2_with fail
 refine HU.out.mono ?_
 rintro e w1 ⟨rfl, rfl⟩
 go_wp2_with fail
 refine HFR.out.mono ?_
 rintro e w1 ⟨rfl, rfl⟩
 simp only [freeV]
 clear HU HFR
 cases en with
 | inp b =>
  simp only [endV] at hc1 HS
  go_wp2_with fail
  go_region
  go_wp2_with fail
  go_ret2
  exact HS.out
 | out b =>
  simp only [endV] at hc1 HS
  go_wp2_with fail
  go_region
  go_wp2_with fail
  go_ret2
  exact HS.out
 | file b =>
  simp only [endV] at hc1 HS
  go_wp2_with fail
  go_region
  go_wp2_with fail
  go_ret2
  exact HS.out
end
section
set_option maxRecDepth 100000 in
set_option maxHeartbeats 1000000 in
theorem close_bad {E : Nat → Addr} {B : Nat} {w : World} {kb tb : Nat} {fds : Nat → Option End} {ob eb : Nat} (hE : Env E B w) (h : KAt w kb tb fds ob eb) (fd : Int) (hu : za1 fds fd = false) :
  Calls Tryz.prog 26 #[.pointer (some ⟨kb, 0, none⟩), .int .i64 fd] w fun e w' => zba E w 1 e w' := by
 have HU : Hid (Calls Tryz.prog 53 #[.pointer (some ⟨kb, 0, none⟩), .int .i64 fd] w fun e w' => za9 w false e w') := by
  have h1 := za2 h fd
  rw [hu] at h1
  exact h1
 have HE : Hid (Env E B w) := hE
 clear h hu hE
 go_enter Tryz.func26, Tryz.ntmps26
 go_wp2_with fail
 refine HU.out.mono ?_
 rintro e w1 ⟨rfl, rfl⟩
 go_wp2_with fail
 refine (zbf _ HE.out 1 (by unfold Used; omega)).mono ?_
 rintro e w2 ⟨a, rfl, hf, hb⟩
 have HF : Hid (zba E w1 1 (.returned (refV a)) w2) := ⟨a, rfl, hf, hb⟩
 clear hf hb
 go_wp2_with fail
 go_ret
 exact HF.out
def CloseOk (w : World) (kb tb : Nat) (fds : Nat → Option End) (ob eb : Nat) (fd : Nat) (e : Ending) (w' : World) : Prop :=
 e = .returned .nilIface ∧ KAt w' kb tb (zbx fds fd none) ob eb ∧ Kept (fun b => b = kb) w w'
set_option maxRecDepth 100000 in
set_option maxHeartbeats 1000000 in
theorem close_ok {w : World} {kb tb : Nat} {fds : Nat → Option End} {ob eb : Nat} (h : KAt w kb tb fds ob eb) (fd : Nat) (hu : za1 fds fd = true) :
  Calls Tryz.prog 26 #[.pointer (some ⟨kb, 0, none⟩), .int .i64 fd] w fun e w' => CloseOk w kb tb fds ob eb fd e w' := by
 have hfd : fd < 16 := by
  rcases Nat.lt_or_ge fd 16 with h | h
  ·exact h
  ·rw [zd3 (by omega)] at hu; cases hu
 have HU : Hid (Calls Tryz.prog 53 #[.pointer (some ⟨kb, 0, none⟩), .int .i64 fd] w fun e w' => za9 w true e w') := by
  have h1 := za2 h fd
  rw [hu] at h1
  exact h1
 have hc1 : w.cell? ⟨kb, 1 + fd, none⟩ = some (endV (fds fd)) := h.fd fd hfd
 have hfz : ∀ o, w.frozen? ⟨kb, o, none⟩ = false := fun o => h.free o
 have HS : Hid (CloseOk w kb tb fds ob eb fd (.returned .nilIface) (w.setCell ⟨kb, 1 + fd, none⟩ .nilIface)) :=
  ⟨rfl, h.set fd hfd none, (Kept.refl (fun b => b = kb) w).setCell (p := ⟨kb, 1 + fd, none⟩) (.inl rfl) _⟩
 have hfi : (fd : Int) < 16 := by omega
 clear h hu
 go_enter Tryz.func26, Tryz.ntmps26
 go_wp2_with fail
 refine HU.out.mono ?_
 rintro e w1 ⟨rfl, rfl⟩
 clear HU
 go_wp2_with fail
 go_ret
 exact HS.out
set_option maxRecDepth 100000 in
set_option maxHeartbeats 1000000 in
theorem move_bad {E : Nat → Addr} {B : Nat} {w : World} {kb tb : Nat} {fds : Nat → Option End} {ob eb : Nat} (hE : Env E B w) (h : KAt w kb tb fds ob eb) (fd onto : Int) (hu : za1 fds fd = false ∨ onto < 0 ∨ 16 ≤ onto) :
  Calls Tryz.prog 25 #[.pointer (some ⟨kb, 0, none⟩), .int .i64 fd, .int .i64 onto] w fun e w' => zba E w 1 e w' := by
 have HU : Hid (Calls Tryz.prog 53 #[.pointer (some ⟨kb, 0, none⟩), .int .i64 fd] w fun e w' => za9 w (za1 fds fd) e w') := za2 h fd
 have HE : Hid (Env E B w) := hE
 have HF : Hid (∀ w1 a, zb6 E w.heap.size w1 a 1 ∧ Below w.heap.size w w1 → zba E w 1 (.returned (refV a)) w1) := fun w1 a h => ⟨a, rfl, h.1, h.2⟩
 clear h hE
 cases hb : za1 fds fd with
 | false =>
  rw [hb] at HU
  clear hu hb
  go_enter Tryz.func25, Tryz.ntmps25
  go_wp2_with fail
  refine HU.out.mono ?_
  rintro e w1 ⟨rfl, rfl⟩
  go_wp2_with fail
  refine (zbf _ HE.out 1 (by unfold Used; omega)).mono ?_
  rintro e w2 ⟨a, rfl, hf, hb⟩
  have HG : Hid (zba E w1 1 (.returned (refV a)) w2) := HF.out _ _ ⟨hf, hb⟩
  clear hf hb
  go_wp2_with fail
  go_ret
  exact HG.out
 | true =>
  have hu' : onto < 0 ∨ 16 ≤ onto := by rcases hu with h | h; rw [hb] at h; cases h; exact h
  rw [hb] at HU
  clear hu hb
  rcases hu' with h0 | h0
  ·go_enter Tryz.func25, Tryz.ntmps25
   go_wp2_with fail
   refine HU.out.mono ?_
   rintro e w1 ⟨rfl, rfl⟩
   go_wp2_with fail
   refine (zbf _ HE.out 1 (by unfold Used; omega)).mono ?_
   rintro e w2 ⟨a, rfl, hf, hb⟩
   have HG : Hid (zba E w1 1 (.returned (refV a)) w2) := HF.out _ _ ⟨hf, hb⟩
   clear hf hb
   go_wp2_with fail
   go_ret
   exact HG.out
  ·go_enter Tryz.func25, Tryz.ntmps25
   go_wp2_with fail
   refine HU.out.mono ?_
   rintro e w1 ⟨rfl, rfl⟩
   go_wp2_with fail
   refine (zbf _ HE.out 1 (by unfold Used; omega)).mono ?_
   rintro e w2 ⟨a, rfl, hf, hb⟩
   have HG : Hid (zba E w1 1 (.returned (refV a)) w2) := HF.out _ _ ⟨hf, hb⟩
   clear hf hb
   go_wp2_with fail
   go_ret
   exact HG.out
def MoveOk (w : World) (kb tb : Nat) (fds : Nat → Option End) (ob eb : Nat) (fd onto : Nat) (e : Ending) (w' : World) : Prop :=
 e = .returned .nilIface ∧ KAt w' kb tb (zbx (zbx fds fd none) onto (fds fd)) ob eb ∧ Kept (fun b => b = kb) w w'
set_option maxRecDepth 100000 in
set_option maxHeartbeats 1000000 in
theorem move_ok {w : World} {kb tb : Nat} {fds : Nat → Option End} {ob eb : Nat} (h : KAt w kb tb fds ob eb) (fd onto : Nat) (hu : za1 fds fd = true) (ho : onto < 16) :
  Calls Tryz.prog 25 #[.pointer (some ⟨kb, 0, none⟩), .int .i64 fd, .int .i64 onto] w fun e w' => MoveOk w kb tb fds ob eb fd onto e w' := by
 have hfd : fd < 16 := by
  rcases Nat.lt_or_ge fd 16 with h | h
  ·exact h
  ·rw [zd3 (by omega)] at hu; cases hu
 have HU : Hid (Calls Tryz.prog 53 #[.pointer (some ⟨kb, 0, none⟩), .int .i64 fd] w fun e w' => za9 w true e w') := by
  have h1 := za2 h fd
  rw [hu] at h1
  exact h1
 have hc1 : w.cell? ⟨kb, 1 + fd, none⟩ = some (endV (fds fd)) := h.fd fd hfd
 have hfz : ∀ o, w.frozen? ⟨kb, o, none⟩ = false := fun o => h.free o
 have hs : za1 fds (fd : Int) = (fds fd).isSome := zbc hfd
 rw [hu] at hs
 obtain ⟨en, hen⟩ := Option.isSome_iff_exists.1 hs.symm
 have H1 := h.set fd hfd none
 have hc2 : (w.setCell ⟨kb, 1 + fd, none⟩ .nilIface).cell? ⟨kb, 1 + onto, none⟩ = some (endV (zbx fds fd none onto)) := H1.fd onto ho
 have hfz2 : (w.setCell ⟨kb, 1 + fd, none⟩ .nilIface).frozen? ⟨kb, 1 + onto, none⟩ = false := H1.free _
 have HS : Hid (MoveOk w kb tb fds ob eb fd onto (.returned .nilIface) ((w.setCell ⟨kb, 1 + fd, none⟩ .nilIface).setCell ⟨kb, 1 + onto, none⟩ (endV (fds fd)))) :=
  ⟨rfl, H1.set onto ho (fds fd), ((Kept.refl (fun b => b = kb) w).setCell (p := ⟨kb, 1 + fd, none⟩) (.inl rfl) _).setCell (p := ⟨kb, 1 + onto, none⟩) (.inl rfl) _⟩
 have hfi : (fd : Int) < 16 := by omega
 have hoi : (onto : Int) < 16 := by omega
 clear h hu H1 hs
 rw [hen] at hc1 HS
 clear hen
 go_enter Tryz.func25, Tryz.ntmps25
 go_wp2_with fail
 refine HU.out.mono ?_
 rintro e w1 ⟨rfl, rfl⟩
 clear HU
 cases en with
 | inp b =>
  simp only [endV] at hc1 HS
  go_wp2_with fail
  go_ret
  exact HS.out
 | out b =>
  simp only [endV] at hc1 HS
  go_wp2_with fail
  go_ret
  exact HS.out
 | file b =>
  simp only [endV] at hc1 HS
  go_wp2_with fail
  go_ret
  exact HS.out
end
section
def zbk (fds : Nat → Option End) (k : Nat) : List Nat := (List.range k).filter fun j => (fds j).isSome
def ints (l : List Nat) : List Value := l.map fun (n : Nat) => Value.int .i64 n
theorem usedTo_next (fds : Nat → Option End) (k : Nat) : zbk fds (k + 1) = if (fds k).isSome then zbk fds k ++ [k] else zbk fds k := by
 unfold zbk
 rw [List.range_succ, List.filter_append]
 split <;> rename_i h <;> simp [h]
theorem usedTo_len (fds : Nat → Option End) (k : Nat) : (zbk fds k).length ≤ k := by
 unfold zbk
 have := List.length_filter_le (fun j => (fds j).isSome) (List.range k)
 simpa using this
def UsedOk (w : World) (l : List Nat) (e : Ending) (w' : World) : Prop :=
 ∃ v, e = .returned v ∧ w'.ownsRow w.heap.size 3 1 v l.length (ints l) ∧ Below w.heap.size w w'
theorem infoInt : (Tryz.prog.info? 3).map (fun i => (i.zero, i.size, i.bytes)) = some (some (.int .i64 0), 1, 8) := by kernel_rfl
set_option maxRecDepth 100000 in
set_option maxHeartbeats 2000000 in
theorem kern_Used {w : World} {kb tb : Nat} {fds : Nat → Option End} {ob eb : Nat} (h : KAt w kb tb fds ob eb) :
  Calls Tryz.prog 18 #[.pointer (some ⟨kb, 0, none⟩)] w fun e w' => UsedOk w (zbk fds 16) e w' := by
 have H : Hid (KAt w kb tb fds ob eb) := h
 clear h
 obtain ⟨i0, hi9, hz0, hz1, hz2⟩ := info_parts infoInt
 go_enter Tryz.func18, Tryz.ntmps18
 go_wp2_with fail
 go_loopw [3, 7] (fun out idx wr => ∃ k : Nat, k ≤ 16 ∧ idx = .int .i64 k ∧ Hid (wr.ownsRow w.heap.size 3 1 out (zbk fds k).length (ints (zbk fds k))) ∧ Hid (Below w.heap.size w wr)) (fun _ idx _ => 16 - (intOf idx).toNat)
 case atStart => exact ⟨0, by omega, rfl, World.ownsRow_nil _ _ _ _, Below.refl _ _⟩
 case round =>
  obtain ⟨k, hk, rfl, hown, hb⟩ := hrel
  by_cases hlt : k < 16
  ·have hcell : wr.cell? ⟨kb, 1 + k, none⟩ = some (endV (fds k)) := (hb.out.cell (p := ⟨kb, 1 + k, none⟩) H.out.lt).trans (H.out.fd k hlt)
   have hlen : (zbk fds k).length ≤ 16 := Nat.le_trans (usedTo_len fds k) hk
   have hki : (k : Int) < 16 := by omega
   cases hfd : fds k with
   | none =>
    have HT : Hid (zbk fds (k + 1) = zbk fds k) := by show _ = _; rw [usedTo_next, hfd]; rfl
    rw [hfd] at hcell
    simp only [endV] at hcell
    clear hfd
    go_wp2_with fail
    go_roundw
    case rel => exact ⟨k + 1, by omega, by go_num, by show wr.ownsRow _ _ _ _ _ _; rw [HT.out]; exact hown.out, hb.out⟩
    case measure => simp [intOf]; omega
   | some e =>
    have HT : Hid (zbk fds (k + 1) = zbk fds k ++ [k]) := by show _ = _; rw [usedTo_next, hfd]; rfl
    rw [hfd] at hcell
    clear hfd
    cases e with
    | inp b =>
     simp only [endV] at hcell
     go_wp2_with (at_builtin; refine wpList_append_own _ rfl _ _ 54 rfl w.heap.size 3 i0 (.int .i64 0) 1 8 Tryz.underlying54 hi9 hz0 hz1 hz2 rfl (by decide) _ _ _ rfl (hown.out.alloc _) ⟨wr.heap.size, 0, none⟩ 1 1 [.int .i64 k] rfl rfl ?c1 ?c2 ?c3 ?c4 ?c5 ?_)
     case c1 =>
      intro j u hu
      cases j with
      | zero => simp at hu; subst hu; simp [Addr.add]
      | succ j => simp at hu
     case c2 => intro u hu; simp at hu; subst hu; rfl
     case c3 => unfold maxLen; omega
     case c4 => omega
     case c5 => have := hb.out.size; simp; omega
     intro v' w2 hown2 hgrow _
     have HO : Hid (w2.ownsRow w.heap.size 3 1 v' ((zbk fds k).length + 1) (ints (zbk fds k) ++ [.int .i64 k])) := hown2
     have HN : Hid (Below w.heap.size w w2) := (hb.out.alloc hb.out.size _).grown hgrow (by have := hb.out.size; simp; omega) (fun q hq => (hown.out.lt q hq).1)
     clear hown2 hgrow
     go_wp2_with fail
     go_roundw
     case rel =>
      refine ⟨k + 1, by omega, by go_num, ?_, HN.out⟩
      show w2.ownsRow _ _ _ _ _ _
      rw [HT.out, List.length_append, ints, List.map_append]
      exact HO.out
     case measure => simp [intOf]; omega
    | out b =>
     simp only [endV] at hcell
     go_wp2_with (at_builtin; refine wpList_append_own _ rfl _ _ 54 rfl w.heap.size 3 i0 (.int .i64 0) 1 8 Tryz.underlying54 hi9 hz0 hz1 hz2 rfl (by decide) _ _ _ rfl (hown.out.alloc _) ⟨wr.heap.size, 0, none⟩ 1 1 [.int .i64 k] rfl rfl ?c1 ?c2 ?c3 ?c4 ?c5 ?_)
     case c1 =>
      intro j u hu
      cases j with
      | zero => simp at hu; subst hu; simp [Addr.add]
      | succ j => simp at hu
     case c2 => intro u hu; simp at hu; subst hu; rfl
     case c3 => unfold maxLen; omega
     case c4 => omega
     case c5 => have := hb.out.size; simp; omega
     intro v' w2 hown2 hgrow _
     have HO : Hid (w2.ownsRow w.heap.size 3 1 v' ((zbk fds k).length + 1) (ints (zbk fds k) ++ [.int .i64 k])) := hown2
     have HN : Hid (Below w.heap.size w w2) := (hb.out.alloc hb.out.size _).grown hgrow (by have := hb.out.size; simp; omega) (fun q hq => (hown.out.lt q hq).1)
     clear hown2 hgrow
     go_wp2_with fail
     go_roundw
     case rel =>
      refine ⟨k + 1, by omega, by go_num, ?_, HN.out⟩
      show w2.ownsRow _ _ _ _ _ _
      rw [HT.out, List.length_append, ints, List.map_append]
      exact HO.out
     case measure => simp [intOf]; omega
    | file b =>
     simp only [endV] at hcell
     go_wp2_with (at_builtin; refine wpList_append_own _ rfl _ _ 54 rfl w.heap.size 3 i0 (.int .i64 0) 1 8 Tryz.underlying54 hi9 hz0 hz1 hz2 rfl (by decide) _ _ _ rfl (hown.out.alloc _) ⟨wr.heap.size, 0, none⟩ 1 1 [.int .i64 k] rfl rfl ?c1 ?c2 ?c3 ?c4 ?c5 ?_)
     case c1 =>
      intro j u hu
      cases j with
      | zero => simp at hu; subst hu; simp [Addr.add]
      | succ j => simp at hu
     case c2 => intro u hu; simp at hu; subst hu; rfl
     case c3 => unfold maxLen; omega
     case c4 => omega
     case c5 => have := hb.out.size; simp; omega
     intro v' w2 hown2 hgrow _
     have HO : Hid (w2.ownsRow w.heap.size 3 1 v' ((zbk fds k).length + 1) (ints (zbk fds k) ++ [.int .i64 k])) := hown2
     have HN : Hid (Below w.heap.size w w2) := (hb.out.alloc hb.out.size _).grown hgrow (by have := hb.out.size; simp; omega) (fun q hq => (hown.out.lt q hq).1)
     clear hown2 hgrow
     go_wp2_with fail
     go_roundw
     case rel =>
      refine ⟨k + 1, by omega, by go_num, ?_, HN.out⟩
      show w2.ownsRow _ _ _ _ _ _
      rw [HT.out, List.length_append, ints, List.map_append]
      exact HO.out
     case measure => simp [intOf]; omega
  ·obtain rfl : k = 16 := by omega
   go_wp2_with fail
   go_ret
   exact ⟨_, rfl, hown.out, hb.out⟩
end
section
structure Fl where
 fb : Nat
 way : Int
 pos : Int
 node : Nat
structure Ks where
 kb : Nat
 ib : Nat
 ob : Nat
 eb : Nat
 T : Tr
 fds : Nat → Option End
 inV : Value
 outV : Value
 errV : Value
 inL : List UInt8
 outL : List UInt8
 errL : List UInt8
 fl : Nat → Option Fl
def Ks.own (K : Ks) (b : Nat) : Prop :=
 b = K.kb ∨ b = K.ib ∨ b = K.ob ∨ b = K.eb ∨ K.inV.ownBlock = some b ∨ K.outV.ownBlock = some b ∨ K.errV.ownBlock = some b ∨ (∃ f, K.fl b = some f) ∨ ∃ c f, K.fl c = some f ∧ f.fb = b
def Ks.foot (K : Ks) (b : Nat) : Prop := K.own b ∨ K.T.foot b
def Ks.good (K : Ks) : Option End → Prop
 | none => True
 | some (.inp b) => b = K.ib
 | some (.out b) => b = K.ob ∨ b = K.eb
 | some (.file b) => ∃ f, K.fl b = some f
structure KRep (B : Nat) (w : World) (K : Ks) : Prop where
 kern : KAt w K.kb K.T.tb K.fds K.ob K.eb
 tree : Rep B w K.T
 low : ∀ b, K.own b → B ≤ b
 apart : ∀ b, K.own b → ¬ K.T.foot b
 inp : w.heap[K.ib]? = some (.cells #[K.inV] 66 (0, 0))
 inS : Src w K.inV K.inL
 inT : ∀ r, K.inV.ownBlock = some r → ∃ c, w.heap[r]? = some (.cells c 5 (0, 0))
 out : w.heap[K.ob]? = some (.cells #[K.outV] 59 (0, 0))
 outS : w.ownsRow B 5 1 K.outV K.outL.length (u8s K.outL)
 err : w.heap[K.eb]? = some (.cells #[K.errV] 59 (0, 0))
 errS : w.ownsRow B 5 1 K.errV K.errL.length (u8s K.errL)
 two : K.ob ≠ K.eb
 rows1 : ∀ r, K.outV.ownBlock = some r → K.errV.ownBlock ≠ some r
 rows2 : ∀ r, K.outV.ownBlock = some r → K.inV.ownBlock ≠ some r
 rows3 : ∀ r, K.errV.ownBlock = some r → K.inV.ownBlock ≠ some r
 file : ∀ b f, K.fl b = some f → w.heap[b]? = some (.cells #[ptrV (some f.fb), .int .i64 f.way, .int .i64 f.pos] 125 (0, 0)) ∧ w.heap[f.fb]? = some (.cells #[ptrV (some f.node), ptrV (some K.T.tb)] 168 (0, 0)) ∧ ∃ d, K.T.nd f.node = some d ∧ d.dir = false
 goodFds : ∀ j, K.good (K.fds j)
theorem zbd {w : World} {base n : Nat} {e : TypeId} {size : Nat} {v : Value} {xs : List Value} (h : w.ownsRow base e size v n xs) {r : Nat} (hr : v.ownBlock = some r) : ∃ c, w.heap[r]? = some (.cells c e (0, 0)) := by
 rcases h.2 with ⟨rfl, _⟩ | ⟨g, cap, cur, rfl, _, h1, _⟩
 ·cases hr
 ·simp only [Value.ownBlock, Option.some.injEq] at hr
  subst hr
  exact ⟨cur, h1⟩
theorem KRep.own_lt {B : Nat} {w : World} {K : Ks} (h : KRep B w K) {b : Nat} (hb : K.own b) : b < w.heap.size := by
 rcases hb with rfl | rfl | rfl | rfl | hb | hb | hb | ⟨f, hf⟩ | ⟨c, f, hf, rfl⟩
 ·exact h.kern.lt
 ·exact zab h.inp
 ·exact zab h.out
 ·exact zab h.err
 ·obtain ⟨c, hc⟩ := h.inT b hb; exact zab hc
 ·exact (h.outS.lt b hb).2
 ·exact (h.errS.lt b hb).2
 ·exact zab (h.file b f hf).1
 ·exact zab (h.file c f hf).2.1
theorem KRep.lt {B : Nat} {w : World} {K : Ks} (h : KRep B w K) {b : Nat} (hb : K.foot b) : b < w.heap.size := by
 rcases hb with hb | hb
 ·exact h.own_lt hb
 ·exact h.tree.lt hb
theorem KRep.foot_low {B : Nat} {w : World} {K : Ks} (h : KRep B w K) {b : Nat} (hb : K.foot b) : B ≤ b := by
 rcases hb with hb | hb
 ·exact h.low b hb
 ·exact h.tree.low b hb
theorem KRep.kept {B : Nat} {w w' : World} {K : Ks} {F : Nat → Prop} (h : KRep B w K) (k : Kept F w w') (hF : ∀ b, K.foot b → ¬ F b) : KRep B w' K where
 kern := h.kern.kept k (hF _ (.inl (.inl rfl)))
 tree := h.tree.kept k (fun b hb => hF b (.inr hb))
 low := h.low
 apart := h.apart
 inp := (k.block _ (zab h.inp) (hF _ (.inl (.inr (.inl rfl))))).trans h.inp
 inS := h.inS.kept k (fun b hb => hF b (.inl (.inr (.inr (.inr (.inr (.inl hb)))))))
 inT r hr := by
  obtain ⟨c, hc⟩ := h.inT r hr
  exact ⟨c, (k.block _ (zab hc) (hF _ (.inl (.inr (.inr (.inr (.inr (.inl hr)))))))).trans hc⟩
 out := (k.block _ (zab h.out) (hF _ (.inl (.inr (.inr (.inl rfl)))))).trans h.out
 outS := zai h.outS k (fun b hb => hF b (.inl (.inr (.inr (.inr (.inr (.inr (.inl hb))))))))
 err := (k.block _ (zab h.err) (hF _ (.inl (.inr (.inr (.inr (.inl rfl))))))).trans h.err
 errS := zai h.errS k (fun b hb => hF b (.inl (.inr (.inr (.inr (.inr (.inr (.inr (.inl hb)))))))))
 two := h.two
 rows1 := h.rows1
 rows2 := h.rows2
 rows3 := h.rows3
 file b f hf := ⟨(k.block _ (zab (h.file b f hf).1) (hF _ (.inl (.inr (.inr (.inr (.inr (.inr (.inr (.inr (.inl ⟨f, hf⟩))))))))))).trans (h.file b f hf).1,
  (k.block _ (zab (h.file b f hf).2.1) (hF _ (.inl (.inr (.inr (.inr (.inr (.inr (.inr (.inr (.inr ⟨b, f, hf, rfl⟩))))))))))).trans (h.file b f hf).2.1, (h.file b f hf).2.2⟩
 goodFds := h.goodFds
theorem KRep.below {B : Nat} {w w' : World} {K : Ks} (h : KRep B w K) (k : Below w.heap.size w w') : KRep B w' K := h.kept (Kept.of_below k (fun _ => False)) (fun _ _ hf => hf)
theorem KRep.kb_apart {B : Nat} {w : World} {K : Ks} (h : KRep B w K) : K.kb ≠ K.ib ∧ K.kb ≠ K.ob ∧ K.kb ≠ K.eb ∧ (∀ r, K.inV.ownBlock = some r → K.kb ≠ r) ∧ (∀ r, K.outV.ownBlock = some r → K.kb ≠ r) ∧ (∀ r, K.errV.ownBlock = some r → K.kb ≠ r) ∧ (∀ b f, K.fl b = some f → K.kb ≠ b ∧ K.kb ≠ f.fb) := by
 obtain ⟨c, hk, _⟩ := h.kern.cells
 refine ⟨zac hk h.inp (by decide), zac hk h.out (by decide), zac hk h.err (by decide), fun r hr => ?_, fun r hr => ?_, fun r hr => ?_, fun b f hf => ⟨zac hk (h.file b f hf).1 (by decide), zac hk (h.file b f hf).2.1 (by decide)⟩⟩
 ·obtain ⟨c', hc⟩ := h.inT r hr; exact zac hk hc (by decide)
 ·obtain ⟨c', hc⟩ := zbd h.outS hr; exact zac hk hc (by decide)
 ·obtain ⟨c', hc⟩ := zbd h.errS hr; exact zac hk hc (by decide)
theorem KRep.setFds {B : Nat} {w w' : World} {K : Ks} (h : KRep B w K) {fds : Nat → Option End} (hk : KAt w' K.kb K.T.tb fds K.ob K.eb) (k : Kept (fun b => b = K.kb) w w') (hg : ∀ j, K.good (fds j)) : KRep B w' { K with fds := fds } := by
 obtain ⟨n1, n2, n3, n4, n5, n6, n7⟩ := h.kb_apart
 refine ⟨hk, h.tree.kept k (fun b hb e => h.apart _ (.inl rfl) (e ▸ hb)), h.low, h.apart, ?_, h.inS.kept k (fun b hb e => n4 b hb e.symm), fun r hr => ?_, ?_, zai h.outS k (fun b hb e => n5 b hb e.symm), ?_, zai h.errS k (fun b hb e => n6 b hb e.symm), h.two, h.rows1, h.rows2, h.rows3, fun b f hf => ⟨?_, ?_, (h.file b f hf).2.2⟩, hg⟩
 ·exact (k.block _ (zab h.inp) (Ne.symm n1)).trans h.inp
 ·obtain ⟨c, hc⟩ := h.inT r hr
  exact ⟨c, (k.block _ (zab hc) (Ne.symm (n4 r hr))).trans hc⟩
 ·exact (k.block _ (zab h.out) (Ne.symm n2)).trans h.out
 ·exact (k.block _ (zab h.err) (Ne.symm n3)).trans h.err
 ·exact (k.block _ (zab (h.file b f hf).1) (Ne.symm (n7 b f hf).1)).trans (h.file b f hf).1
 ·exact (k.block _ (zab (h.file b f hf).2.1) (Ne.symm (n7 b f hf).2)).trans (h.file b f hf).2.1
theorem KRep.setTree {B : Nat} {w w' : World} {K : Ks} (h : KRep B w K) {T' : Tr} (hT : Rep B w' T') (htb : T'.tb = K.T.tb) (k : Kept K.T.foot w w') (hfoot : ∀ x, T'.foot x → K.T.foot x ∨ w.heap.size ≤ x)
  (hfiles : ∀ n d, K.T.nd n = some d → d.dir = false → ∃ d', T'.nd n = some d' ∧ d'.dir = false) : KRep B w' { K with T := T' } := by
 have key : ∀ b, K.own b → ¬ K.T.foot b := h.apart
 refine ⟨?_, hT, h.low, fun b hb hf => ?_, ?_, ?_, fun r hr => ?_, ?_, ?_, ?_, ?_, h.two, h.rows1, h.rows2, h.rows3, fun b f hf => ⟨?_, ?_, ?_⟩, h.goodFds⟩
 ·have h1 := h.kern.kept k (key _ (.inl rfl))
  rw [← htb] at h1
  exact h1
 ·rcases hfoot b hf with h1 | h1
  ·exact h.apart b hb h1
  ·exact absurd (h.own_lt hb) (by omega)
 ·exact (k.block _ (zab h.inp) (key _ (.inr (.inl rfl)))).trans h.inp
 ·exact h.inS.kept k (fun b hb => key b (.inr (.inr (.inr (.inr (.inl hb))))))
 ·obtain ⟨c, hc⟩ := h.inT r hr
  exact ⟨c, (k.block _ (zab hc) (key _ (.inr (.inr (.inr (.inr (.inl hr))))))).trans hc⟩
 ·exact (k.block _ (zab h.out) (key _ (.inr (.inr (.inl rfl))))).trans h.out
 ·exact zai h.outS k (fun b hb => key b (.inr (.inr (.inr (.inr (.inr (.inl hb)))))))
 ·exact (k.block _ (zab h.err) (key _ (.inr (.inr (.inr (.inl rfl)))))).trans h.err
 ·exact zai h.errS k (fun b hb => key b (.inr (.inr (.inr (.inr (.inr (.inr (.inl hb))))))))
 ·exact (k.block _ (zab (h.file b f hf).1) (key _ (.inr (.inr (.inr (.inr (.inr (.inr (.inr (.inl ⟨f, hf⟩)))))))))).trans (h.file b f hf).1
 ·show w'.heap[f.fb]? = some (.cells #[ptrV (some f.node), ptrV (some T'.tb)] 168 (0, 0))
  rw [htb]
  exact (k.block _ (zab (h.file b f hf).2.1) (key _ (.inr (.inr (.inr (.inr (.inr (.inr (.inr (.inr ⟨b, f, hf, rfl⟩)))))))))).trans (h.file b f hf).2.1
 ·obtain ⟨d, h1, h2⟩ := (h.file b f hf).2.2
  exact hfiles _ d h1 h2
end
end Go.Proofs.YteeeaeiafdgpkaaGreatDoor
