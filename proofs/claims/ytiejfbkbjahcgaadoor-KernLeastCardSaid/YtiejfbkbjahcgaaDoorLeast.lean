/-
  pidginlaw17.KernLeast: the walk.
-/
import Derived.Test.YtiejfbkbjahcgaaDoorAwake
namespace Go.Proofs.YtiejfbkbjahcgaaDoor
open Go Go.RowKit

def LawPost (w : World) (e : Ending) (w' : World) : Prop := e = .returned (.bool true) ∧ Below w.heap.size w w'

/-- The descriptors from 0 to n are in use, the others free; the world is below. -/
structure LIn (B : Nat) (w0 wr : World) (kb tb ob eb : Nat) (fds : Nat → Option End) (n : Nat) : Prop where
  kat : KAt wr kb tb fds ob eb
  used : ∀ j, j < n → (fds j).isSome = true
  free : ∀ j, n ≤ j → j < 16 → fds j = none
  low : w0.heap.size ≤ kb
  below : Below w0.heap.size w0 wr

theorem freeFd_first {fds : Nat → Option End} {k : Nat} (hk : k < 16) (hf : fds k = none) : ∀ (n i : Nat), i + n = k → (∀ j, j < k → (fds j).isSome = true) → freeFd fds i = some k
  | 0, i, h, _ => by
    obtain rfl : i = k := by omega
    exact freeFd_here hk hf
  | n + 1, i, h, hu => by
    have h1 := hu i (by omega)
    cases he : fds i with
    | none => rw [he] at h1; cases h1
    | some e => rw [freeFd_next (by omega) he]; exact freeFd_first hk hf n (i + 1) (by omega) hu
theorem freeFd_none {fds : Nat → Option End} (hu : ∀ j, j < 16 → (fds j).isSome = true) : ∀ (n i : Nat), i + n = 16 → freeFd fds i = none
  | 0, i, h => freeFd_end fds (by omega)
  | n + 1, i, h => by
    have h1 := hu i (by omega)
    cases he : fds i with
    | none => rw [he] at h1; cases h1
    | some e => rw [freeFd_next (by omega) he]; exact freeFd_none hu n (i + 1) (by omega)

theorem LIn.dup {B : Nat} {w0 wr w' : World} {kb tb ob eb : Nat} {fds : Nat → Option End} {n m : Nat} (h : LIn B w0 wr kb tb ob eb fds n) (hm : m < n) (hk : KAt w' kb tb (setFd fds n (fds m)) ob eb) (k : Kept (fun b => b = kb) wr w') :
    LIn B w0 w' kb tb ob eb (setFd fds n (fds m)) (n + 1) := by
  refine ⟨hk, fun j hj => ?_, fun j hj hj2 => ?_, h.low, h.below.trans (k.below (fun b hb => by have := h.low; omega) h.below.size)⟩
  · unfold setFd
    split
    · exact h.used m hm
    · exact h.used j (by omega)
  · unfold setFd
    rw [if_neg (by omega)]
    exact h.free j (by omega) hj2

theorem usedTo_all {fds : Nat → Option End} {n : Nat} (hu : ∀ j, j < n → (fds j).isSome = true) : ∀ k, k ≤ n → usedTo fds k = List.range k
  | 0, _ => rfl
  | k + 1, h => by rw [usedTo_next, if_pos (hu k (by omega)), usedTo_all hu k (by omega), List.range_succ]

theorem freeFd_hole {fds : Nat → Option End} {m : Nat} (hm : m < 16) (hu : ∀ j, j < 16 → (fds j).isSome = true) : freeFd (setFd fds m none) 0 = some m :=
  freeFd_first hm (by unfold setFd; rw [if_pos rfl]) m 0 (by omega) (fun j hj => by unfold setFd; rw [if_neg (by omega)]; exact hu j (by omega))

/-- One closed and given out again. -/
theorem LIn.turn {B : Nat} {w0 wr w3 w4 w5 : World} {kb tb ob eb : Nat} {fds : Nat → Option End} {m j : Nat} (h : LIn B w0 wr kb tb ob eb fds 16) (hj : j < 16) (hjm : j ≠ m) (k3 : Kept (fun b => b = kb) wr w3) (k4 : Below w3.heap.size w3 w4)
    (hk : KAt w5 kb tb (setFd (setFd fds m none) m ((setFd fds m none) j)) ob eb) (k5 : Kept (fun b => b = kb) w4 w5) : LIn B w0 w5 kb tb ob eb (setFd (setFd fds m none) m ((setFd fds m none) j)) 16 := by
  refine ⟨hk, fun q hq => ?_, fun q hq hq2 => by omega, h.low, ?_⟩
  · unfold setFd
    split
    · exact h.used j hj
    · exact h.used q hq
  · have h3 := h.below.trans (k3.below (B := w0.heap.size) (fun b hb => by have := h.low; omega) h.below.size)
    have h4 := below_trans h3 k4
    exact h4.trans (k5.below (B := w0.heap.size) (fun b hb => by have := h.low; omega) h4.size)

set_option maxRecDepth 100000 in
set_option maxHeartbeats 1000000 in
theorem least_any {E : Nat → Addr} {B : Nat} (w : World) (hE : Ctx E B w) (a : Option Addr) (n c : Nat) (l : List Int) (hs : ISrc w (.slice a n c) l) (hn : n = l.length) (hnl : l.length ≤ 9223372036854775807) :
    Calls Tryd.prog 3 #[.slice a n c] w fun e w' => LawPost w e w' := by
  have HE := Lib.hid hE
  have HS := Lib.hid hs
  clear hE hs
  have HN : Hid (Calls Tryd.prog 12 #[.pointer none, .slice none 0 0] w fun e w' => KNewPost2 B w [] e w') := kern_new_nil w _ [] (.inl ⟨rfl, rfl⟩) (by simp) HE.out.env.size
  go_enter Tryd.func3, Tryd.ntmps3
  go_wp2_with fail
  refine HN.out.mono ?_
  intro e w2 hp
  obtain ⟨w1, ⟨K, rfl, hK, hT, hfds, hil, hol, hel, hfl, hb2, hown⟩, hb1⟩ := hp
  have HL : Hid (∃ fds, LIn B w w2 K.kb K.T.tb K.ob K.eb fds 3) := by
    refine ⟨_, hK.kern, fun j hj => ?_, fun j hj _ => ?_, ?_, below_trans hb1 hb2⟩
    · rw [hfds]
      unfold fds3
      match j, hj with
      | 0, _ => rfl
      | 1, _ => rfl
      | 2, _ => rfl
    · rw [hfds]
      unfold fds3
      rw [if_neg (by omega), if_neg (by omega), if_neg (by omega)]
    · exact Nat.le_trans hb1.size (hown K.kb (.inl rfl))
  have HLK : Hid (K.kb = K.kb) := rfl
  generalize K.kb = kb, K.T.tb = tb, K.ob = ob, K.eb = eb at *
  clear hK hT hfds hil hol hel hfl hb2 hown hb1 HLK HN
  go_wp2_with fail
  go_loopw [4] (fun idx wr => ∃ k : Nat, 3 ≤ k ∧ k ≤ 16 ∧ idx = .int .i64 k ∧ Hid (∃ fds, LIn B w wr kb tb ob eb fds k)) (fun idx _ => 16 - (intOf idx).toNat)
  case atStart => exact ⟨3, by omega, by omega, rfl, HL.out⟩
  case round =>
    obtain ⟨k, hk3, hk, rfl, hli⟩ := hrel
    have HLI : Hid (∃ fds, LIn B w wr kb tb ob eb fds k) := hli
    clear hli
    by_cases hlt : k < 16
    · have hki : (k : Int) < 16 := by omega
      obtain ⟨fds, hl⟩ := HLI.out
      have HD : Hid (Calls Tryd.prog 13 #[.pointer (some ⟨kb, 0, none⟩), .int .i64 1] wr fun e w' => DupOk wr kb tb fds ob eb 1 k e w') :=
        dup_ok hl.kat 1 (by rw [usedFd_in (by omega)]; exact hl.used 1 (by omega)) k (freeFd_first hlt (hl.free k (Nat.le_refl _) hlt) k 0 (by omega) hl.used)
      have HL := Lib.hid hl
      clear hl
      go_wp2_with fail
      refine HD.out.mono ?_
      rintro e w3 ⟨rfl, hk3, hkk⟩
      have HL3 : Hid (∃ fds, LIn B w w3 kb tb ob eb fds (k + 1)) := ⟨_, HL.out.dup (by omega) hk3 hkk⟩
      clear hk3 hkk HL HD HLI
      go_wp2_with fail
      go_roundw
      case rel => exact ⟨k + 1, by omega, by omega, by go_num, HL3.out⟩
      case measure => simp [intOf]; omega
    · obtain rfl : k = 16 := by omega
      obtain ⟨fds, hl⟩ := HLI.out
      have HD : Hid (Calls Tryd.prog 13 #[.pointer (some ⟨kb, 0, none⟩), .int .i64 1] wr fun e w' => NumNo E wr 19 e w') :=
        dup_full (HE.out.kept (Kept.of_below hl.below (fun _ => False)) (fun _ h => h.elim)).env hl.kat 1 (usedFd_in (j := 1) (by omega) ▸ hl.used 1 (by omega)) (freeFd_none hl.used 16 0 (by omega))
      have HL := Lib.hid hl
      clear hl HLI
      go_wp2_with fail
      refine HD.out.mono ?_
      rintro e w3 ⟨x, rfl, hx, hbx⟩
      have HL3 : Hid (∃ fds, LIn B w w3 kb tb ob eb fds 16) := ⟨_, HL.out.kat.kept (Kept.of_below hbx (fun _ => False)) (fun h => h), HL.out.used, HL.out.free, HL.out.low, below_trans HL.out.below hbx⟩
      clear hx hbx HL HD
      go_wp2_with fail
      go_loopw [40] (fun idx wr => ∃ k : Nat, k ≤ l.length ∧ idx = .int .i64 k ∧ Hid (∃ fds, LIn B w wr kb tb ob eb fds 16)) (fun idx _ => l.length - (intOf idx).toNat)
      case atStart => exact ⟨0, by omega, rfl, HL3.out⟩
      case round =>
        clear HL3
        obtain ⟨k, hk, rfl, hli⟩ := hrel
        have HLI : Hid (∃ fds, LIn B w wr kb tb ob eb fds 16) := hli
        clear hli
        by_cases hlt : k < l.length
        · have hki : (k : Int) < l.length := by omega
          obtain ⟨a', c', he, hcs⟩ := HS.out.form
          obtain ⟨rfl, _, rfl⟩ := (Value.slice.injEq ..).mp he
          obtain ⟨ad, rfl, hcell0⟩ := hcs k hlt
          have hcell : wr.cell? (ad.add k) = some (.int .i64 l[k]) := by
            obtain ⟨fds, hl⟩ := HLI.out
            exact (hl.below.cell (World.block_lt_of_cell? _ _ hcell0)).trans hcell0
          clear hcell0 hcs he
          generalize l[k] = x at hcell
          by_cases h30 : k < 30
          · have h30i : (k : Int) < 30 := by omega
            by_cases hx0 : x < 0
            · have hx0' : (x < 0) = True := eq_true hx0
              have HC : Hid (Calls Tryd.prog 14 #[.pointer (some ⟨kb, 0, none⟩), .int .i64 x] wr fun e w' => ErrNo E wr 1 e w') := by
                obtain ⟨fds, hl⟩ := HLI.out
                exact close_bad (HE.out.kept (Kept.of_below hl.below (fun _ => False)) (fun _ h => h.elim)).env hl.kat x (usedFd_low hx0)
              go_wp2_with fail
              refine HC.out.mono ?_
              rintro e w4 ⟨r, rfl, hr, hbr⟩
              have HL4 : Hid (∃ fds, LIn B w w4 kb tb ob eb fds 16) := by
                obtain ⟨fds, hl⟩ := HLI.out
                exact ⟨_, hl.kat.kept (Kept.of_below hbr (fun _ => False)) (fun h => h), hl.used, hl.free, hl.low, below_trans hl.below hbr⟩
              clear hr hbr HC HLI hcell
              go_wp2_with fail
              go_roundw
              case rel => exact ⟨k + 1, by omega, by go_num, HL4.out⟩
              case measure => simp [intOf]; omega
            · by_cases hx1 : x < 16
              · obtain ⟨m, rfl⟩ : ∃ m : Nat, x = m := ⟨x.toNat, by omega⟩
                have hm16 : m < 16 := by omega
                by_cases hm0 : m = 0
                · subst hm0
                  obtain ⟨fds, hl⟩ := HLI.out
                  have HL := Lib.hid hl
                  have HC : Hid (Calls Tryd.prog 14 #[.pointer (some ⟨kb, 0, none⟩), .int .i64 0] wr fun e w' => CloseOk wr kb tb fds ob eb 0 e w') := close_ok hl.kat 0 (by rw [usedFd_in hm16]; exact hl.used 0 hm16)
                  clear hl HLI
                  go_wp2_with fail
                  refine HC.out.mono ?_
                  rintro e w4 ⟨rfl, hk4, hkk4⟩
                  have HK4 := Lib.hid hk4
                  have HKK4 := Lib.hid hkk4
                  have HC2 : Hid (Calls Tryd.prog 14 #[.pointer (some ⟨kb, 0, none⟩), .int .i64 0] w4 fun e w' => ErrNo E w4 1 e w') :=
                    close_bad (HE.out.kept (F := fun b => w.heap.size ≤ b) (((Kept.of_below HL.out.below (fun b => w.heap.size ≤ b))).trans hkk4 (fun i hi => .inl (by have := HL.out.low; omega))) (fun b hb => Nat.le_trans HE.out.env.size hb)).env hk4 _ (by show usedFd _ ((0 : Nat) : Int) = false; rw [usedFd_in hm16]; unfold setFd; rw [if_pos rfl]; rfl)
                  clear hk4 hkk4 HC
                  go_wp2_with fail
                  refine HC2.out.mono ?_
                  rintro e w5 ⟨r, rfl, hr, hbr⟩
                  have HB5 := Lib.hid hbr
                  have HD : Hid (Calls Tryd.prog 13 #[.pointer (some ⟨kb, 0, none⟩), .int .i64 2] w5 fun e w' => DupOk w5 kb tb (setFd fds 0 none) ob eb 2 0 e w') := by
                    refine dup_ok (HK4.out.kept (Kept.of_below hbr (fun _ => False)) (fun h => h)) 2 ?_ 0 (freeFd_hole hm16 HL.out.used)
                    show usedFd _ ((2 : Nat) : Int) = true
                    rw [usedFd_in (by omega)]
                    unfold setFd
                    rw [if_neg (by omega)]
                    exact HL.out.used 2 (by omega)
                  clear hr hbr HC2
                  go_wp2_with fail
                  refine HD.out.mono ?_
                  rintro e w6 ⟨rfl, hk6, hkk6⟩
                  have HL6 : Hid (∃ fds, LIn B w w6 kb tb ob eb fds 16) := ⟨_, HL.out.turn (m := 0) (j := 2) (by omega) (by omega) HKK4.out HB5.out hk6 hkk6⟩
                  clear hk6 hkk6 HD HB5 HL HK4 HKK4 hcell
                  go_wp2_with fail
                  go_roundw
                  case rel => exact ⟨k + 1, by omega, by go_num, HL6.out⟩
                  case measure => simp [intOf]; omega
                · have hmi : ¬ (m : Int) = 0 := by omega
                  obtain ⟨fds, hl⟩ := HLI.out
                  have HL := Lib.hid hl
                  have HC : Hid (Calls Tryd.prog 14 #[.pointer (some ⟨kb, 0, none⟩), .int .i64 m] wr fun e w' => CloseOk wr kb tb fds ob eb m e w') := close_ok hl.kat m (by rw [usedFd_in hm16]; exact hl.used m hm16)
                  clear hl HLI
                  go_wp2_with fail
                  refine HC.out.mono ?_
                  rintro e w4 ⟨rfl, hk4, hkk4⟩
                  have HK4 := Lib.hid hk4
                  have HKK4 := Lib.hid hkk4
                  have HC2 : Hid (Calls Tryd.prog 14 #[.pointer (some ⟨kb, 0, none⟩), .int .i64 m] w4 fun e w' => ErrNo E w4 1 e w') :=
                    close_bad (HE.out.kept (F := fun b => w.heap.size ≤ b) (((Kept.of_below HL.out.below (fun b => w.heap.size ≤ b))).trans hkk4 (fun i hi => .inl (by have := HL.out.low; omega))) (fun b hb => Nat.le_trans HE.out.env.size hb)).env hk4 _ (by show usedFd _ ((m : Nat) : Int) = false; rw [usedFd_in hm16]; unfold setFd; rw [if_pos rfl]; rfl)
                  clear hk4 hkk4 HC
                  go_wp2_with fail
                  refine HC2.out.mono ?_
                  rintro e w5 ⟨r, rfl, hr, hbr⟩
                  have HB5 := Lib.hid hbr
                  have HD : Hid (Calls Tryd.prog 13 #[.pointer (some ⟨kb, 0, none⟩), .int .i64 0] w5 fun e w' => DupOk w5 kb tb (setFd fds m none) ob eb 0 m e w') := by
                    refine dup_ok (HK4.out.kept (Kept.of_below hbr (fun _ => False)) (fun h => h)) 0 ?_ m (freeFd_hole hm16 HL.out.used)
                    show usedFd _ ((0 : Nat) : Int) = true
                    rw [usedFd_in (by omega)]
                    unfold setFd
                    rw [if_neg (by omega)]
                    exact HL.out.used 0 (by omega)
                  clear hr hbr HC2
                  go_wp2_with fail
                  refine HD.out.mono ?_
                  rintro e w6 ⟨rfl, hk6, hkk6⟩
                  have HL6 : Hid (∃ fds, LIn B w w6 kb tb ob eb fds 16) := ⟨_, HL.out.turn (m := m) (j := 0) (by omega) (by omega) HKK4.out HB5.out hk6 hkk6⟩
                  clear hk6 hkk6 HD HB5 HL HK4 HKK4 hcell
                  go_wp2_with fail
                  go_roundw
                  case rel => exact ⟨k + 1, by omega, by go_num, HL6.out⟩
                  case measure => simp [intOf]; omega
              · have hx16 : 16 ≤ x := by omega
                have HC : Hid (Calls Tryd.prog 14 #[.pointer (some ⟨kb, 0, none⟩), .int .i64 x] wr fun e w' => ErrNo E wr 1 e w') := by
                  obtain ⟨fds, hl⟩ := HLI.out
                  exact close_bad (HE.out.kept (Kept.of_below hl.below (fun _ => False)) (fun _ h => h.elim)).env hl.kat x (usedFd_high hx16)
                go_wp2_with fail
                refine HC.out.mono ?_
                rintro e w4 ⟨r, rfl, hr, hbr⟩
                have HL4 : Hid (∃ fds, LIn B w w4 kb tb ob eb fds 16) := by
                  obtain ⟨fds, hl⟩ := HLI.out
                  exact ⟨_, hl.kat.kept (Kept.of_below hbr (fun _ => False)) (fun h => h), hl.used, hl.free, hl.low, below_trans hl.below hbr⟩
                clear hr hbr HC HLI hcell
                go_wp2_with fail
                go_roundw
                case rel => exact ⟨k + 1, by omega, by go_num, HL4.out⟩
                case measure => simp [intOf]; omega
          · have h30i : ¬ (k : Int) < 30 := by omega
            have HUA : Hid (Calls Tryd.prog 15 #[.pointer (some ⟨kb, 0, none⟩)] wr fun e w' => UsedOk wr [0, 1, 2, 3, 4, 5, 6, 7, 8, 9, 10, 11, 12, 13, 14, 15] e w') := by
              obtain ⟨fds, hl⟩ := HLI.out
              have h1 := kern_Used hl.kat
              rw [usedTo_all hl.used 16 (Nat.le_refl _)] at h1
              exact h1
            have HBR : Hid (Below w.heap.size w wr) := by
              obtain ⟨fds, hl⟩ := HLI.out
              exact hl.below
            clear HLI
            go_wp2_with fail
            refine HUA.out.mono ?_
            intro e w4 hp
            obtain ⟨v, rfl, hown5, hb5⟩ := hp
            obtain ⟨va, vc, rfl⟩ := owns_form hown5
            have HB4 := Lib.hid (below_trans HBR.out hb5)
            have HAW : Hid (Calls Tryd.prog 16 #[] w4 fun e w' => AwPost w4 e w') := awake_any w4 (HE.out.kept (Kept.of_below HB4.out (fun _ => False)) (fun _ h => h.elim))
            clear hown5 hb5 HUA
            go_wp2_with fail
            refine HAW.out.mono ?_
            rintro e w5 ⟨rfl, hb5⟩
            have HB5 := Lib.hid (below_trans HB4.out hb5)
            clear hb5 HAW
            go_wp2_with fail
            go_ret
            exact ⟨rfl, HB5.out⟩
        · have hki : ¬ (k : Int) < l.length := by omega
          have HUA : Hid (Calls Tryd.prog 15 #[.pointer (some ⟨kb, 0, none⟩)] wr fun e w' => UsedOk wr [0, 1, 2, 3, 4, 5, 6, 7, 8, 9, 10, 11, 12, 13, 14, 15] e w') := by
            obtain ⟨fds, hl⟩ := HLI.out
            have h1 := kern_Used hl.kat
            rw [usedTo_all hl.used 16 (Nat.le_refl _)] at h1
            exact h1
          have HBR : Hid (Below w.heap.size w wr) := by
            obtain ⟨fds, hl⟩ := HLI.out
            exact hl.below
          clear HLI
          go_wp2_with fail
          refine HUA.out.mono ?_
          intro e w4 hp
          obtain ⟨v, rfl, hown5, hb5⟩ := hp
          obtain ⟨va, vc, rfl⟩ := owns_form hown5
          have HB4 := Lib.hid (below_trans HBR.out hb5)
          have HAW : Hid (Calls Tryd.prog 16 #[] w4 fun e w' => AwPost w4 e w') := awake_any w4 (HE.out.kept (Kept.of_below HB4.out (fun _ => False)) (fun _ h => h.elim))
          clear hown5 hb5 HUA
          go_wp2_with fail
          refine HAW.out.mono ?_
          rintro e w5 ⟨rfl, hb5⟩
          have HB5 := Lib.hid (below_trans HB4.out hb5)
          clear hb5 HAW
          go_wp2_with fail
          go_ret
          exact ⟨rfl, HB5.out⟩
end Go.Proofs.YtiejfbkbjahcgaaDoor
