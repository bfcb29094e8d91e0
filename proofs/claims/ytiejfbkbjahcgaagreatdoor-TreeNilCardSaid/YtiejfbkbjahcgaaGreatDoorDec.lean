/-
  scan.Base and scan.Text of a number that is not below zero: its decimal digits.
-/
import Derived.Test.YtiejfbkbjahcgaaGreatDoorStr
import Derived.Lib.ItoaNum
import Derived.Lib.Hide
namespace Go.Proofs.YtiejfbkbjahcgaaGreatDoor
open Go Go.RowKit

/-- A text handed back: its bytes; it is short. -/
def DecPost (w : World) (l : List UInt8) (e : Ending) (w' : World) : Prop := ∃ S : ByteArray, e = .returned (.string S) ∧ S.data.toList = l ∧ S.size ≤ 21 ∧ Below w.heap.size w w'

theorem dec_small {m : Nat} (h : m / 10 = 0) : Lib.decDigits m = [UInt8.ofNat (48 + m % 10)] := by
  have h1 : m < 10 := by omega
  rw [Lib.decDigits, dif_pos h1, Nat.mod_eq_of_lt h1]
theorem dec_great {m : Nat} (h : m / 10 ≠ 0) : Lib.decDigits m = Lib.decDigits (m / 10) ++ [UInt8.ofNat (48 + m % 10)] := by
  have h1 : ¬ m < 10 := by omega
  rw [Lib.decDigits, dif_neg h1]

def digs : ByteArray := ⟨#[48, 49, 50, 51, 52, 53, 54, 55, 56, 57, 97, 98, 99, 100, 101, 102]⟩

/-- The digits done, at the end of the row. -/
def DigAt (w : World) (b : Nat) (done : List UInt8) : Prop :=
  ∃ c : Array Value, w.heap[b]? = some (.cells c 241 (0, 0)) ∧ c.size = 64 ∧ ∀ i (h : i < done.length), c[64 - done.length + i]? = some (.int .u8 done[i].toNat)

theorem DigAt.more {w : World} {b : Nat} {done : List UInt8} (h : DigAt w b done) (hl : done.length < 64) (d : UInt8) : DigAt (w.setCell ⟨b, 63 - done.length, none⟩ (.int .u8 d.toNat)) b (d :: done) := by
  obtain ⟨c, h1, h2, h3⟩ := h
  refine ⟨c.setIfInBounds (63 - done.length) (.int .u8 d.toNat), heap_set_same h1 _ _, by simp [h2], fun i hi => ?_⟩
  rw [Array.getElem?_setIfInBounds]
  simp only [List.length_cons] at hi ⊢
  cases i with
  | zero => rw [if_pos (by omega), if_pos (by omega)]; rfl
  | succ i =>
    rw [if_neg (by omega)]
    have h4 := h3 i (by omega)
    rw [show 64 - (done.length + 1) + (i + 1) = 64 - done.length + i by omega]
    exact h4

theorem DigAt.src {w : World} {b : Nat} {done : List UInt8} (h : DigAt w b done) : Src w (.slice (some ⟨b, 64 - done.length, none⟩) done.length done.length) done := by
  obtain ⟨c, h1, h2, h3⟩ := h
  refine .inr ⟨_, _, rfl, Nat.le_refl _, fun j hj => ?_⟩
  have e : (⟨b, 64 - done.length, none⟩ : Addr).add j = ⟨b, 64 - done.length + j, none⟩ := by
    unfold Addr.add
    by_cases hz : j = 0
    · subst hz; rfl
    · simp [hz]
  rw [e]
  exact cell_of h1 (h3 j hj)

theorem wrap_u64_div {m : Nat} (h : m < 18446744073709551616) : IntKind.u64.wrap ((m : Int) / 10) = ((m / 10 : Nat) : Int) := by
  rw [IntKind.wrap_u64]
  omega

theorem digs_at : ∀ (d : Nat) (_ : d < 10) (h : d < (⟨#[48, 49, 50, 51, 52, 53, 54, 55, 56, 57, 97, 98, 99, 100, 101, 102]⟩ : ByteArray).size), (⟨#[48, 49, 50, 51, 52, 53, 54, 55, 56, 57, 97, 98, 99, 100, 101, 102]⟩ : ByteArray)[d]'h = UInt8.ofNat (48 + d)
  | 0, _, _ => rfl
  | 1, _, _ => rfl
  | 2, _, _ => rfl
  | 3, _, _ => rfl
  | 4, _, _ => rfl
  | 5, _, _ => rfl
  | 6, _, _ => rfl
  | 7, _, _ => rfl
  | 8, _, _ => rfl
  | 9, _, _ => rfl
  | n + 10, h, _ => absurd h (by omega)

set_option maxRecDepth 100000 in
set_option maxHeartbeats 2000000 in
theorem base_ok (n : Nat) (hn : n < 18446744073709551616) (w : World) :
    Calls Tryz.prog 106 #[.int .u64 n, .int .i64 10, .bool false] w fun e w' => DecPost w (Lib.decDigits n) e w' := by
  have hlt20 : n < 10 ^ 20 := by omega
  have HN := Lib.hid hlt20
  have HN64 := Lib.hid hn
  clear hlt20 hn
  go_enter Tryz.func106, Tryz.ntmps106
  go_wp2_with fail
  have HD0 : Hid (DigAt (w.alloc (.cells (Array.replicate 64 (.int .u8 0)) 241)) w.heap.size []) := ⟨_, heap_alloc_new w _, by simp, fun i hi => by simp at hi⟩
  have HB0 : Hid (Below w.heap.size w (w.alloc (.cells (Array.replicate 64 (.int .u8 0)) 241))) := below_alloc w _
  go_loopw [0, 9] (fun s0 s9 wr => ∃ (m : Nat) (done : List UInt8), s0 = .int .u64 m ∧ s9 = .int .i64 ((64 - done.length : Nat) : Int) ∧ Hid (Lib.decDigits n = Lib.decDigits m ++ done) ∧ Hid (done.length ≤ 20 ∧ m < 10 ^ (20 - done.length) ∧ (m = 0 → done = []) ∧ m ≤ n) ∧ Hid (DigAt wr w.heap.size done) ∧ Hid (Below w.heap.size w wr)) (fun s0 _ _ => (intOf s0).toNat)
  case atStart => exact ⟨n, [], rfl, rfl, by show _ = _; simp, ⟨by simp, by simpa using HN.out, fun _ => rfl, Nat.le_refl _⟩, HD0.out, HB0.out⟩
  case round =>
    clear HD0 HB0
    obtain ⟨m, done, rfl, rfl, hdec, hbd, hdig, hb⟩ := hrel
    have hl19 : done.length ≤ 19 := by
      obtain ⟨h1, h2, h3, _⟩ := hbd.out
      by_cases hm : m = 0
      · rw [h3 hm]; simp
      · rcases Nat.lt_or_ge done.length 20 with h | h
        · omega
        · have e : done.length = 20 := by omega
          rw [e] at h2
          omega
    obtain ⟨p, hp⟩ : ∃ p : Nat, p = 64 - done.length := ⟨_, rfl⟩
    obtain ⟨q, hq⟩ : ∃ q : Nat, q = m / 10 := ⟨_, rfl⟩
    obtain ⟨D, hD⟩ : ∃ D : UInt8, D = UInt8.ofNat (48 + m % 10) := ⟨_, rfl⟩
    have hix : ∀ h, (⟨#[48, 49, 50, 51, 52, 53, 54, 55, 56, 57, 97, 98, 99, 100, 101, 102]⟩ : ByteArray)[m % 10]'h = D := by
      intro h
      rw [hD]
      exact digs_at (m % 10) (Nat.mod_lt _ (by decide)) h
    rw [← hp]
    have hp1 : 45 ≤ p := by omega
    have hp2 : p ≤ 64 := by omega
    obtain ⟨c0, hc0, hc1, hc2⟩ := hdig.out
    have g0 : ∃ v, wr.cell? ⟨w.heap.size, p - 1, none⟩ = some v := ⟨_, cell_of hc0 (Array.getElem?_eq_getElem (by omega))⟩
    obtain ⟨v0, g0⟩ := g0
    have gf : ∀ o, wr.frozen? ⟨w.heap.size, o, none⟩ = false := fun o => free_of hc0 o
    have e1 : IntKind.u64.wrap ((m : Int) / 10) = q := by rw [hq]; exact wrap_u64_div (Nat.lt_of_le_of_lt hbd.out.2.2.2 HN64.out)
    have HP := Lib.hid hp
    have HQ := Lib.hid hq
    have HDD := Lib.hid hD
    have hsl : ∀ W, (Instr.sliceAt 241 (.pointer (some ⟨w.heap.size, 0, none⟩)) (some (.int .i64 ((p : Int) - 1))) none none).run Tryz.prog W = .ok (.slice (some ⟨w.heap.size, p - 1, none⟩) (65 - p) (65 - p)) W := by
      intro W
      have hu : Tryz.prog.underlying 241 = some (.array (Tryz.prog.arrayLen 241) (Tryz.prog.elem 241)) := by kernel_rfl
      have hal : Tryz.prog.arrayLen 241 = 64 := by kernel_rfl
      have hso : (sizeOf (Tryz.prog.elem 241)).run Tryz.prog W = .ok 1 W := by kernel_rfl
      rw [run_sliceAt_array_l W 241 ⟨w.heap.size, 0, none⟩ hu .i64 _ (by omega) (by rw [hal]; omega), hso, hal]
      have e2 : ((p : Int) - 1).toNat = p - 1 := by omega
      simp only [Result.andThen, slicedAt, e2, Nat.mul_one]
      rw [if_neg (by omega)]
      have e3 : (⟨w.heap.size, 0, none⟩ : Addr).add (p - 1) = ⟨w.heap.size, p - 1, none⟩ := by
        unfold Addr.add
        rw [if_neg (by omega)]
        simp
      rw [e3]
      congr 2 <;> omega
    have HM : Hid (DigAt (wr.setCell ⟨w.heap.size, p - 1, none⟩ (.int .u8 D.toNat)) w.heap.size (D :: done)) := by
      have h := hdig.out.more (by omega) D
      rw [show 63 - done.length = p - 1 by omega] at h
      exact h
    have HBW : Hid (Below w.heap.size w (wr.setCell ⟨w.heap.size, p - 1, none⟩ (.int .u8 D.toNat))) :=
      hb.out.trans ((Kept.setCell (F := fun x => x = w.heap.size) (Kept.refl _ wr) (p := ⟨w.heap.size, p - 1, none⟩) (.inl rfl) _).below (fun x hx => by omega) hb.out.size)
    clear hp hq hD hc0 hc1 hc2
    by_cases hq0 : q = 0
    · subst hq0
      have HRES : Hid (Lib.decDigits n = D :: done) := by
        show _ = _
        rw [hdec.out, dec_small HQ.out.symm, HDD.out]
        rfl
      have hcv : (convert 44 9 (.slice (some ⟨w.heap.size, p - 1, none⟩) (65 - p) (65 - p))).run Tryz.prog (wr.setCell ⟨w.heap.size, p - 1, none⟩ (.int .u8 D.toNat)) = .ok (.string (strOf (D :: done))) (wr.setCell ⟨w.heap.size, p - 1, none⟩ (.int .u8 D.toNat)) := by
        refine run_str_src ?_
        have h := HM.out.src
        have hpo := HP.out
        rw [show 64 - (D :: done).length = p - 1 by simp; omega, show (D :: done).length = 65 - p by simp; omega] at h
        exact h
      have HSZ : Hid ((strOf (D :: done)).size ≤ 21) := by show _ ≤ _; rw [strOf_size]; simp; omega
      go_wp2_with fail
      go_ret
      exact ⟨_, rfl, by rw [HRES.out]; simp [strOf], HSZ.out, HBW.out⟩
    · have hq1 : ((q : Int) == 0) = false := by simp; omega
      have HRES : Hid (Lib.decDigits n = Lib.decDigits q ++ (D :: done)) := by
        show _ = _
        rw [hdec.out, dec_great (by rw [← HQ.out]; exact hq0), HDD.out, HQ.out]
        simp
      have hqm : q < m := by have := HQ.out; omega
      have HBD : Hid ((D :: done).length ≤ 20 ∧ q < 10 ^ (20 - (D :: done).length) ∧ (q = 0 → (D :: done) = []) ∧ q ≤ n) := by
        obtain ⟨h1, h2, h3, h4⟩ := hbd.out
        refine ⟨by simp; omega, ?_, fun h => absurd h hq0, by omega⟩
        have e : 20 - done.length = (20 - (D :: done).length) + 1 := by simp; omega
        rw [e, Nat.pow_succ] at h2
        have := HQ.out
        omega
      go_wp2_with fail
      refine ⟨⟨q, D :: done, rfl, ?_, HRES.out, HBD.out, HM.out, HBW.out⟩, ?_⟩
      · congr 1
        have := HP.out
        simp
        omega
      · simp [intOf]
        omega

/-- scan.Text, of a number that is not below zero. -/
theorem scanText_ok (n : Int) (h0 : 0 ≤ n) (h1 : n ≤ 9223372036854775807) (w : World) :
    Calls Tryz.prog 69 #[.int .i64 n] w fun e w' => DecPost w (Lib.decDigits n.toNat) e w' := by
  obtain ⟨m, rfl⟩ : ∃ m : Nat, n = m := ⟨n.toNat, by omega⟩
  have HB := Lib.hid (base_ok m (by omega) w)
  have hneg : ¬ ((m : Int) < 0) := by omega
  have hw : IntKind.u64.wrap (m : Int) = m := IntWalk.u64_in _ (by omega)
  clear h1
  go_enter Tryz.func69, Tryz.ntmps69
  go_wp2_with fail
  refine HB.out.mono ?_
  rintro e w' ⟨S, rfl, hS, hsz, hb⟩
  have HF : Hid (DecPost w (Lib.decDigits m) (.returned (.string S)) w') := ⟨S, rfl, hS, hsz, hb⟩
  clear hS hsz hb
  go_wp2_with fail
  go_ret
  exact HF.out
end Go.Proofs.YtiejfbkbjahcgaaGreatDoor
