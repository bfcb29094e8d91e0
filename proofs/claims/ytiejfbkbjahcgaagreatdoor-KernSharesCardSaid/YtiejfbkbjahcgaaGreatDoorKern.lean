/-
  A KERN IN MEMORY: its descriptors; the calls that look at them or turn them alone.
-/
import Derived.Test.YtiejfbkbjahcgaaGreatDoorOps
import Derived.Deep.LoopGhost
namespace Go.Proofs.YtiejfbkbjahcgaaGreatDoor
open Go Go.RowKit

/-- What a descriptor leads to: the console's input, an output, an open file: its block. -/
inductive End where
  | inp (b : Nat)
  | out (b : Nat)
  | file (b : Nat)

def endV : Option End → Value
  | none => .nilIface
  | some (.inp b) => .iface 183 (.pointer (some ⟨b, 0, none⟩))
  | some (.out b) => .iface 175 (.pointer (some ⟨b, 0, none⟩))
  | some (.file b) => .iface 186 (.pointer (some ⟨b, 0, none⟩))

/-- The block of a kern: its tree, its sixteen descriptors, its outputs. -/
structure KAt (w : World) (kb tb : Nat) (fds : Nat → Option End) (ob eb : Nat) : Prop where
  cells : ∃ c : Array Value, w.heap[kb]? = some (.cells c 182 (0, 0)) ∧ c.size = 19 ∧ c[0]? = some (ptrV (some tb)) ∧ (∀ j, j < 16 → c[1 + j]? = some (endV (fds j))) ∧ c[17]? = some (ptrV (some ob)) ∧ c[18]? = some (ptrV (some eb))

theorem KAt.kept {w w' : World} {kb tb : Nat} {fds : Nat → Option End} {ob eb : Nat} {F : Nat → Prop} (h : KAt w kb tb fds ob eb) (k : Kept F w w') (hF : ¬ F kb) : KAt w' kb tb fds ob eb := by
  obtain ⟨c, h1, r⟩ := h.cells
  exact ⟨⟨c, (k.block kb (lt_of_heap h1) hF).trans h1, r⟩⟩
theorem KAt.drew {w : World} {kb tb : Nat} {fds : Nat → Option End} {ob eb : Nat} (h : KAt w kb tb fds ob eb) : KAt w.drew kb tb fds ob eb := ⟨h.cells⟩
theorem KAt.fd {w : World} {kb tb : Nat} {fds : Nat → Option End} {ob eb : Nat} (h : KAt w kb tb fds ob eb) (j : Nat) (hj : j < 16) : w.cell? ⟨kb, 1 + j, none⟩ = some (endV (fds j)) := by
  obtain ⟨c, h1, _, _, h2, _⟩ := h.cells
  exact cell_of h1 (h2 j hj)
theorem KAt.free {w : World} {kb tb : Nat} {fds : Nat → Option End} {ob eb : Nat} (h : KAt w kb tb fds ob eb) (o : Nat) : w.frozen? ⟨kb, o, none⟩ = false := by
  obtain ⟨c, h1, _⟩ := h.cells
  exact free_of h1 o
theorem KAt.lt {w : World} {kb tb : Nat} {fds : Nat → Option End} {ob eb : Nat} (h : KAt w kb tb fds ob eb) : kb < w.heap.size := by
  obtain ⟨c, h1, _⟩ := h.cells
  exact lt_of_heap h1

def setFd (fds : Nat → Option End) (j : Nat) (e : Option End) : Nat → Option End := fun i => if i = j then e else fds i

theorem KAt.set {w : World} {kb tb : Nat} {fds : Nat → Option End} {ob eb : Nat} (h : KAt w kb tb fds ob eb) (j : Nat) (hj : j < 16) (e : Option End) : KAt (w.setCell ⟨kb, 1 + j, none⟩ (endV e)) kb tb (setFd fds j e) ob eb := by
  obtain ⟨c, h1, h2, h3, h4, h5, h6⟩ := h.cells
  refine ⟨⟨c.setIfInBounds (1 + j) (endV e), heap_set_same h1 _ _, by simp [h2], ?_, fun i hi => ?_, ?_, ?_⟩⟩
  · rw [Array.getElem?_setIfInBounds, if_neg (by omega)]; exact h3
  · rw [Array.getElem?_setIfInBounds]
    unfold setFd
    by_cases hij : i = j
    · subst hij; simp [h2]; omega
    · rw [if_neg (by omega), if_neg hij]; exact h4 i hi
  · rw [Array.getElem?_setIfInBounds, if_neg (by omega)]; exact h5
  · rw [Array.getElem?_setIfInBounds, if_neg (by omega)]; exact h6

/-- The least free descriptor from a number on, up to one. -/
def freeFrom (fds : Nat → Option End) : Nat → Nat → Option Nat
  | _, 0 => none
  | j, n + 1 => match fds j with
    | none => some j
    | some _ => freeFrom fds (j + 1) n
def freeFd (fds : Nat → Option End) (j : Nat) : Option Nat := freeFrom fds j (16 - j)

theorem freeFd_here {fds : Nat → Option End} {j : Nat} (hj : j < 16) (h : fds j = none) : freeFd fds j = some j := by
  unfold freeFd
  obtain ⟨n, hn⟩ : ∃ n, 16 - j = n + 1 := ⟨15 - j, by omega⟩
  rw [hn, freeFrom, h]
theorem freeFd_next {fds : Nat → Option End} {j : Nat} (hj : j < 16) {e : End} (h : fds j = some e) : freeFd fds j = freeFd fds (j + 1) := by
  unfold freeFd
  obtain ⟨n, hn⟩ : ∃ n, 16 - j = n + 1 := ⟨15 - j, by omega⟩
  rw [hn, freeFrom, h, show 16 - (j + 1) = n by omega]
theorem freeFd_end (fds : Nat → Option End) {j : Nat} (hj : 16 ≤ j) : freeFd fds j = none := by
  unfold freeFd
  rw [show 16 - j = 0 by omega]; rfl

def freeV : Option Nat → Int
  | none => -1
  | some j => j

theorem run_eql_end {w : World} (o : Option End) : (binOp .eql 179 (endV o) .nilIface).run Tryz.prog w = .ok (.bool o.isNone) w := by
  cases o with
  | none => kernel_rfl
  | some e => cases e <;> kernel_rfl

def FreePost (w : World) (r : Option Nat) (e : Ending) (w' : World) : Prop := e = .returned (.int .i64 (freeV r)) ∧ w' = w

set_option maxRecDepth 100000 in
set_option maxHeartbeats 1000000 in
theorem kern_free {w : World} {kb tb : Nat} {fds : Nat → Option End} {ob eb : Nat} (h : KAt w kb tb fds ob eb) (j : Nat) (hj : j ≤ 16) :
    Calls Tryz.prog 93 #[.pointer (some ⟨kb, 0, none⟩), .int .i64 j] w fun e w' => FreePost w (freeFd fds j) e w' := by
  have H : Hid (KAt w kb tb fds ob eb) := h
  clear h
  go_enter Tryz.func93, Tryz.ntmps93
  go_wp2_with fail
  go_loop [5] (fun idx => ∃ k : Nat, j ≤ k ∧ k ≤ 16 ∧ idx = .int .i64 k ∧ Hid (freeFd fds k = freeFd fds j)) (fun idx => 16 - (intOf idx).toNat)
  case atStart => exact ⟨j, Nat.le_refl _, hj, rfl, rfl⟩
  case round =>
    obtain ⟨k, hk0, hk, rfl, hfr⟩ := hrel
    by_cases hlt : k < 16
    · have hcell : w.cell? ⟨kb, 1 + k, none⟩ = some (endV (fds k)) := H.out.fd k hlt
      cases hfd : fds k with
      | none =>
        have HF : Hid (freeFd fds j = some k) := hfr.out.symm.trans (freeFd_here hlt hfd)
        rw [hfd] at hcell
        simp only [endV] at hcell
        clear hfd
        go_wp2_with fail
        go_ret
        exact ⟨by rw [HF.out]; rfl, rfl⟩
      | some e =>
        have HF : Hid (freeFd fds (k + 1) = freeFd fds j) := (freeFd_next hlt hfd).symm.trans hfr.out
        rw [hfd] at hcell
        clear hfd
        cases e with
        | inp b =>
          simp only [endV] at hcell
          go_wp2_with fail
          go_round
          case rel => exact ⟨k + 1, by omega, by omega, by go_num, HF.out⟩
          case measure => simp [intOf]; omega
        | out b =>
          simp only [endV] at hcell
          go_wp2_with fail
          go_round
          case rel => exact ⟨k + 1, by omega, by omega, by go_num, HF.out⟩
          case measure => simp [intOf]; omega
        | file b =>
          simp only [endV] at hcell
          go_wp2_with fail
          go_round
          case rel => exact ⟨k + 1, by omega, by omega, by go_num, HF.out⟩
          case measure => simp [intOf]; omega
    · have HF : Hid (freeFd fds j = none) := hfr.out.symm.trans (freeFd_end fds (by omega))
      go_wp2_with fail
      go_ret
      exact ⟨by rw [HF.out]; rfl, rfl⟩

def usedFd (fds : Nat → Option End) (fd : Int) : Bool := decide (0 ≤ fd) && decide (fd < 16) && (fds fd.toNat).isSome

theorem usedFd_low {fds : Nat → Option End} {fd : Int} (h : fd < 0) : usedFd fds fd = false := by
  unfold usedFd
  rw [decide_eq_false (by omega)]; rfl
theorem usedFd_high {fds : Nat → Option End} {fd : Int} (h : 16 ≤ fd) : usedFd fds fd = false := by
  unfold usedFd
  rw [decide_eq_false (p := fd < 16) (by omega)]; simp
theorem usedFd_in {fds : Nat → Option End} {j : Nat} (h : j < 16) : usedFd fds (j : Int) = (fds j).isSome := by
  unfold usedFd
  rw [decide_eq_true (p := (0 : Int) ≤ j) (by omega), decide_eq_true (p := (j : Int) < 16) (by omega)]; simp

def UsedPost (w : World) (r : Bool) (e : Ending) (w' : World) : Prop := e = .returned (.bool r) ∧ w' = w

set_option maxRecDepth 100000 in
set_option maxHeartbeats 1000000 in
theorem kern_used {w : World} {kb tb : Nat} {fds : Nat → Option End} {ob eb : Nat} (h : KAt w kb tb fds ob eb) (fd : Int) :
    Calls Tryz.prog 94 #[.pointer (some ⟨kb, 0, none⟩), .int .i64 fd] w fun e w' => UsedPost w (usedFd fds fd) e w' := by
  have H : Hid (KAt w kb tb fds ob eb) := h
  clear h
  by_cases h0 : fd < 0
  · have HU : Hid (usedFd fds fd = false) := usedFd_low h0
    go_enter Tryz.func94, Tryz.ntmps94
    go_wp2_with fail
    go_ret
    exact ⟨by rw [HU.out]; rfl, rfl⟩
  by_cases h1 : 16 ≤ fd
  · have HU : Hid (usedFd fds fd = false) := usedFd_high h1
    go_enter Tryz.func94, Tryz.ntmps94
    go_wp2_with fail
    go_ret
    exact ⟨by rw [HU.out]; rfl, rfl⟩
  obtain ⟨j, rfl⟩ := Int.eq_ofNat_of_zero_le (by omega : 0 ≤ fd)
  have hj : j < 16 := by omega
  have hcell : w.cell? ⟨kb, 1 + j, none⟩ = some (endV (fds j)) := H.out.fd j hj
  clear h0 h1
  cases hfd : fds j with
  | none =>
    have HU : Hid (usedFd fds (j : Int) = false) := by show _ = _; rw [usedFd_in hj, hfd]; rfl
    rw [hfd] at hcell
    simp only [endV] at hcell
    clear hfd
    go_enter Tryz.func94, Tryz.ntmps94
    go_wp2_with fail
    go_ret
    exact ⟨by rw [HU.out]; rfl, rfl⟩
  | some e =>
    have HU : Hid (usedFd fds (j : Int) = true) := by show _ = _; rw [usedFd_in hj, hfd]; rfl
    rw [hfd] at hcell
    clear hfd
    cases e with
    | inp b =>
      simp only [endV] at hcell
      go_enter Tryz.func94, Tryz.ntmps94
      go_wp2_with fail
      go_ret
      exact ⟨by rw [HU.out]; rfl, rfl⟩
    | out b =>
      simp only [endV] at hcell
      go_enter Tryz.func94, Tryz.ntmps94
      go_wp2_with fail
      go_ret
      exact ⟨by rw [HU.out]; rfl, rfl⟩
    | file b =>
      simp only [endV] at hcell
      go_enter Tryz.func94, Tryz.ntmps94
      go_wp2_with fail
      go_ret
      exact ⟨by rw [HU.out]; rfl, rfl⟩

/-- The value of an error of kern's own. -/
abbrev refV (a : Nat) : Value := .iface 231 (.pointer (some ⟨a, 0, none⟩))

/-- Block a holds an error of kern's own, for code c. -/
def Refused (E : Nat → Addr) (L : Nat) (w : World) (a : Nat) (c : Nat) : Prop :=
  ∃ b, L ≤ a ∧ w.heap[a]? = some (.cells #[failV b] 233 (0, 0)) ∧ Failed E L w b c

theorem Refused.kept {E : Nat → Addr} {L : Nat} {w w' : World} {a c : Nat} {F : Nat → Prop} (h : Refused E L w a c) (k : Kept F w w') (hF : ∀ b, F b → b < L) : Refused E L w' a c := by
  obtain ⟨b, l1, h1, h2⟩ := h
  exact ⟨b, l1, (k.block a (lt_of_heap h1) (fun hf => by have := hF _ hf; omega)).trans h1, h2.kept k hF⟩
theorem Refused.below {E : Nat → Addr} {L : Nat} {w w' : World} {a c : Nat} (h : Refused E L w a c) (k : Below w.heap.size w w') : Refused E L w' a c := by
  obtain ⟨b, l1, h1, h2⟩ := h
  exact ⟨b, l1, (k.block a (lt_of_heap h1)).trans h1, h2.below k⟩
theorem Refused.mono {E : Nat → Addr} {L L' : Nat} {w : World} {a c : Nat} (h : Refused E L w a c) (hl : L' ≤ L) : Refused E L' w a c := by
  obtain ⟨b, l1, h1, h2⟩ := h
  exact ⟨b, by omega, h1, h2.mono hl⟩

/-- What kern's fail leaves. -/
def KFailPost (E : Nat → Addr) (w : World) (c : Nat) (e : Ending) (w' : World) : Prop :=
  ∃ a, e = .returned (refV a) ∧ Refused E w.heap.size w' a c ∧ Below w.heap.size w w'

theorem refused_made {E : Nat → Addr} (w : World) (c : Nat) :
    KFailPost E w c (.returned (refV (w.heap.size + 2))) (((w.alloc (.cells #[botV (E c), .int .i64 0] 155)).alloc (.cells #[.iface 151 (.pointer (some ⟨w.heap.size, 0, none⟩)), .int .i64 11] 159)).alloc (.cells #[failV (w.heap.size + 1)] 233)) := by
  have h := failed_made (E := E) w c
  refine ⟨_, rfl, ⟨w.heap.size + 1, by omega, ?_, h.below (below_alloc _ _)⟩, below_trans (below_two w _ _) (below_alloc _ _)⟩
  have h2 := heap_alloc_new ((w.alloc (.cells #[botV (E c), .int .i64 0] 155)).alloc (.cells #[.iface 151 (.pointer (some ⟨w.heap.size, 0, none⟩)), .int .i64 11] 159)) (.cells #[failV (w.heap.size + 1)] 233)
  simpa using h2

set_option maxHeartbeats 2000000 in
theorem kern_fail {E : Nat → Addr} {B : Nat} (w : World) (hE : Env E B w) (c : Nat) (hc : Used c) :
    Calls Tryz.prog 92 #[.int .i64 c] w fun e w' => KFailPost E w c e w' := by
  rcases hc with rfl | rfl | rfl | rfl | rfl | rfl
  · have h := hE.glob 1 (by omega) (by omega)
    simp only [gl, botV] at h
    clear hE
    go_enter Tryz.func92, Tryz.ntmps92
    go_wp2
    go_ret
    exact refused_made w 1
  · have h := hE.glob 15 (by omega) (by omega)
    simp only [gl, botV] at h
    clear hE
    go_enter Tryz.func92, Tryz.ntmps92
    go_wp2
    go_ret
    exact refused_made w 15
  · have h := hE.glob 16 (by omega) (by omega)
    simp only [gl, botV] at h
    clear hE
    go_enter Tryz.func92, Tryz.ntmps92
    go_wp2
    go_ret
    exact refused_made w 16
  · have h := hE.glob 17 (by omega) (by omega)
    simp only [gl, botV] at h
    clear hE
    go_enter Tryz.func92, Tryz.ntmps92
    go_wp2
    go_ret
    exact refused_made w 17
  · have h := hE.glob 18 (by omega) (by omega)
    simp only [gl, botV] at h
    clear hE
    go_enter Tryz.func92, Tryz.ntmps92
    go_wp2
    go_ret
    exact refused_made w 18
  · have h := hE.glob 19 (by omega) (by omega)
    simp only [gl, botV] at h
    clear hE
    go_enter Tryz.func92, Tryz.ntmps92
    go_wp2
    go_ret
    exact refused_made w 19
end Go.Proofs.YtiejfbkbjahcgaaGreatDoor
