/-
  TreePlays' walk.
-/
import Derived.Test.YtjhojohjegkinaaGreatDoorLock
import Derived.Test.YtjhojohjegkinaaGreatDoorAwake16
import Derived.Deep.RegionWith
namespace Go.Proofs.YtjhojohjegkinaaGreatDoor
open Go Go.RowKit

set_option maxRecDepth 100000 in
set_option maxHeartbeats 40000000 in
theorem treePlays_any {E : Nat → Addr} {B0 : Nat} (w : World) (hE : Ctx E B0 w) (hY : Ety B0 w) (hT : TabB w.heap.size w) (va : Option Addr) (vc : Nat) (l : List OpA) (hl : OSrc w (.slice va l.length vc) l) (_hll : l.length ≤ 9223372036854775807) (hok : ∀ x ∈ l, OpOk x) :
    Calls Tryz.prog 9 #[.slice va l.length vc] w fun e w' => AwPost w e w' := by
  have HE : Hid (∀ W, Below w.heap.size w W → Ctx E w.heap.size W) := fun W hb => hE.raise.below hb
  have HY : Hid (∀ W, Below w.heap.size w W → Ety w.heap.size W) := fun W hb => hY.raise.below hb
  have HTB : Hid (∀ W, Below w.heap.size w W → TabB w.heap.size W) := fun W hb => hT.on hb
  have HL := Lib.hid hl
  have HOK := Lib.hid hok
  clear hE hY hT hl hok
  go_enter Tryz.func9, Tryz.ntmps9
  go_wp2_with fail
  refine (tree_new w).mono ?_
  intro e w1 hp
  obtain ⟨rfl, hrep1, hb1, hs1⟩ := hp
  have HR1 := Lib.hid (hrep1 w.heap.size (Nat.le_refl _))
  have HB1 := Lib.hid hb1
  clear hrep1 hb1 hs1
  go_wp2_with fail
  refine (ref_new w.heap.size w1 HB1.out.size).mono ?_
  intro e w2 hp
  obtain ⟨R, i, rfl, hr2, hL, hnow, hi, ho, hft⟩ := hp.tree
  obtain ⟨tb, htb⟩ : ∃ tb, tb = w.heap.size + 2 := ⟨_, rfl⟩
  have HMI : Hid (MI w tb R.tb 0 w2) := ⟨_, R, _, both_new (HR1.out.below hp.below) hr2 hL hnow hi ho (Nat.le_trans HB1.out.size hp.below.size), htb.symm, rfl, below_trans HB1.out hp.below⟩
  rw [← htb]
  clear hr2 hL hnow hi ho hft hp HR1 HB1 htb
  generalize R.tb = rb at *
  go_wp2_with fail
  go_loopw [5] (fun idx wr => ∃ k : Nat, k ≤ l.length ∧ k ≤ 300 ∧ idx = .int .i64 k ∧ Hid (MI w tb rb k wr)) (fun idx _ => l.length - (intOf idx).toNat)
  case atStart => exact ⟨0, Nat.zero_le _, by decide, rfl, HMI⟩
  case round =>
    clear HMI
    obtain ⟨k, hk, hk80, rfl, hmi⟩ := hrel
    by_cases hgo : k < l.length ∧ k < 300
    · obtain ⟨hlt, h80⟩ := hgo
      have hki : (k : Int) < l.length := by omega
      have h80i : (k : Int) < 300 := by omega
      rcases HL.out with ⟨h0, _⟩ | ⟨b, o, c, hv, hcells⟩
      · rw [h0] at hlt; simp at hlt
      simp only [Value.slice.injEq, true_and] at hv
      obtain ⟨rfl, rfl⟩ := hv
      have HCL := Lib.hid hcells
      obtain ⟨T, R, f, hbo, htb, hrb, hbl⟩ := hmi.out
      have HP0 : Hid (Pl0 w tb rb k T R f wr) := ⟨hbo, htb, hrb, hbl⟩
      clear hcells hbo htb hrb hbl hmi
      have hop := HCL.out k hlt
      have hox := HOK.out _ (List.getElem_mem hlt)
      generalize l[k] = x at hop hox
      have HOP := Lib.hid hop
      have HOX := Lib.hid hox
      clear hop hox HCL
      obtain ⟨act, xp, xq, dat⟩ := x
      obtain ⟨xa, xc, hin⟩ := HOP.out
      have HIN : Hid (OpIn w b (o + k * 4) act xp xq dat xa xc) := hin
      clear hin HOP
      have HGET : Hid (∀ W, Below w.heap.size w W → W.cell? ⟨b, o + k * 4, none⟩ = some (.int .i64 act) ∧ W.cell? ⟨b, o + k * 4 + 1, none⟩ = some (.string xp) ∧ W.cell? ⟨b, o + k * 4 + 2, none⟩ = some (.string xq) ∧ W.cell? ⟨b, o + k * 4 + 3, none⟩ = some (.slice xa dat.length xc)) := fun W hb => by
        obtain ⟨g0, g1, g2, g3, _⟩ := HIN.out.up hb
        exact ⟨g0, g1, g2, g3⟩
      obtain ⟨g0, g1, g2, g3⟩ := HGET.out wr HP0.out.2.2.2
      go_wp2_with fail
      refine (sound_any ⟨act, xp, xq, dat⟩ xa xc wr).mono ?_
      rintro e w3 ⟨rfl, hb3⟩
      have HP3 := Lib.hid (HP0.out.next hb3)
      clear hb3 g0 g1 g2 g3 HP0
      by_cases hs : 0 ≤ act ∧ act ≤ 6
      · have hd : decide (0 ≤ act ∧ act ≤ 6) = true := decide_eq_true hs
        dsimp only
        rw [hd]
        obtain ⟨g0, g1, g2, g3⟩ := HGET.out w3 HP3.out.2.2.2
        have HS := Lib.hid hs
        have heq : ∀ W : World, (binOp .neq 56 (codeV (T.code (OpA.op ⟨act, xp, xq, dat⟩))) (codeV (T.code (OpA.op ⟨act, xp, xq, dat⟩)))).run Tryz.prog W = .ok (.bool false) W := fun W => codeV_neq _ W
        have hgd : ∀ (x y : Operand) (W : World), (eqGuard .neq 56 x y (codeV (T.code (OpA.op ⟨act, xp, xq, dat⟩))) (codeV (T.code (OpA.op ⟨act, xp, xq, dat⟩)))).run Tryz.prog W = .ok () W := fun x y W => codeV_guard_neq _ x y W
        have HDO : Hid (∀ W, Pl0 w tb rb k T R f W → Calls Tryz.prog 28 #[.pointer (some ⟨tb, 0, none⟩), .agg #[.int .i64 act, .string xp, .string xq, .slice xa dat.length xc]] W fun e w' => (∃ y, e = .returned y ∧ Hid (Pl1 E w tb rb k T R f (OpA.op ⟨act, xp, xq, dat⟩) y w')) ∧ w'.cell? ⟨b, o + k * 4, none⟩ = some (.int .i64 act) ∧ w'.cell? ⟨b, o + k * 4 + 1, none⟩ = some (.string xp) ∧ w'.cell? ⟨b, o + k * 4 + 2, none⟩ = some (.string xq) ∧ w'.cell? ⟨b, o + k * 4 + 3, none⟩ = some (.slice xa dat.length xc)) := fun W h => (pl_do HE.out HIN.out HOX.out HS.out h).mono fun e w' ⟨y, he, hx⟩ => ⟨⟨y, he, hx⟩, HGET.out w' hx.low⟩
        have HTL : Hid (∀ y W, Pl1 E w tb rb k T R f (OpA.op ⟨act, xp, xq, dat⟩) y W → Calls Tryz.prog 29 #[y] W fun e w' => (e = .returned (codeV (T.code (OpA.op ⟨act, xp, xq, dat⟩))) ∧ Hid (Pl1 E w tb rb k T R f (OpA.op ⟨act, xp, xq, dat⟩) y w')) ∧ w'.cell? ⟨b, o + k * 4, none⟩ = some (.int .i64 act) ∧ w'.cell? ⟨b, o + k * 4 + 1, none⟩ = some (.string xp) ∧ w'.cell? ⟨b, o + k * 4 + 2, none⟩ = some (.string xq) ∧ w'.cell? ⟨b, o + k * 4 + 3, none⟩ = some (.slice xa dat.length xc)) := fun y W h => (pl_tell HE.out HY.out h).mono fun e w' ⟨he, hx⟩ => ⟨⟨he, hx⟩, HGET.out w' hx.low⟩
        have HMO : Hid (∀ y W, Pl1 E w tb rb k T R f (OpA.op ⟨act, xp, xq, dat⟩) y W → Calls Tryz.prog 40 #[.pointer (some ⟨rb, 0, none⟩), .agg #[.int .i64 act, .string xp, .string xq, .slice xa dat.length xc]] W fun e w' => (e = .returned (codeV (T.code (OpA.op ⟨act, xp, xq, dat⟩))) ∧ ∃ s c, Hid (Pl2 w tb rb (k + 1) s c w')) ∧ w'.cell? ⟨b, o + k * 4, none⟩ = some (.int .i64 act) ∧ w'.cell? ⟨b, o + k * 4 + 1, none⟩ = some (.string xp) ∧ w'.cell? ⟨b, o + k * 4 + 2, none⟩ = some (.string xq) ∧ w'.cell? ⟨b, o + k * 4 + 3, none⟩ = some (.slice xa dat.length xc)) := fun y W h => (pl_model HIN.out HOX.out HS.out (by omega) h).mono fun e w' ⟨he, s, c, hx⟩ => ⟨⟨he, s, c, hx⟩, HGET.out w' hx.low⟩
        have HTX : Hid (∀ s c W, Pl2 w tb rb (k + 1) s c W → Calls Tryz.prog 14 #[.pointer (some ⟨tb, 0, none⟩)] W fun e w' => (e = .returned (.string s) ∧ Hid (Pl2 w tb rb (k + 1) s c w')) ∧ w'.cell? ⟨b, o + k * 4, none⟩ = some (.int .i64 act) ∧ w'.cell? ⟨b, o + k * 4 + 1, none⟩ = some (.string xp) ∧ w'.cell? ⟨b, o + k * 4 + 2, none⟩ = some (.string xq) ∧ w'.cell? ⟨b, o + k * 4 + 3, none⟩ = some (.slice xa dat.length xc)) := fun s c W h => (pl_text (by omega) h).mono fun e w' ⟨he, hx⟩ => ⟨⟨he, hx⟩, HGET.out w' hx.low⟩
        have HRX : Hid (∀ s c W, Pl2 w tb rb (k + 1) s c W → Calls Tryz.prog 39 #[.pointer (some ⟨rb, 0, none⟩)] W fun e w' => (e = .returned (.string s) ∧ Hid (Pl2 w tb rb (k + 1) s c w')) ∧ w'.cell? ⟨b, o + k * 4, none⟩ = some (.int .i64 act) ∧ w'.cell? ⟨b, o + k * 4 + 1, none⟩ = some (.string xp) ∧ w'.cell? ⟨b, o + k * 4 + 2, none⟩ = some (.string xq) ∧ w'.cell? ⟨b, o + k * 4 + 3, none⟩ = some (.slice xa dat.length xc)) := fun s c W h => (pl_rtext (by omega) HTB.out (Nat.le_refl _) h).mono fun e w' ⟨he, hx⟩ => ⟨⟨he, hx⟩, HGET.out w' hx.low⟩
        have HNW : Hid (∀ s c W, Pl2 w tb rb (k + 1) s c W → Calls Tryz.prog 15 #[.pointer (some ⟨tb, 0, none⟩)] W fun e w' => (e = .returned (.int .i64 c) ∧ Hid (Pl2 w tb rb (k + 1) s c w')) ∧ w'.cell? ⟨b, o + k * 4, none⟩ = some (.int .i64 act) ∧ w'.cell? ⟨b, o + k * 4 + 1, none⟩ = some (.string xp) ∧ w'.cell? ⟨b, o + k * 4 + 2, none⟩ = some (.string xq) ∧ w'.cell? ⟨b, o + k * 4 + 3, none⟩ = some (.slice xa dat.length xc)) := fun s c W h => (pl_now h).mono fun e w' ⟨he, hx⟩ => ⟨⟨he, hx⟩, HGET.out w' hx.low⟩
        generalize codeV (T.code (OpA.op ⟨act, xp, xq, dat⟩)) = cv at *
        go_wp2_with fail
        go_region_with (first
            | (go_at_call 28; refine (HDO.out _ (by first | with_reducible exact HP3.out | with_reducible exact HP3.out.drew)).mono ?_; rintro e w' ⟨⟨y, rfl, HX1⟩, c0, c1, c2, c3⟩)
            | (go_at_call 29; refine (HTL.out _ _ HX1.out).mono ?_; rintro e w' ⟨⟨rfl, HX2⟩, c0, c1, c2, c3⟩)
            | (go_at_call 40; refine (HMO.out _ _ HX2.out).mono ?_; rintro e w' ⟨⟨rfl, s, c, HX3⟩, c0, c1, c2, c3⟩; have d1 := HX3.out.cell)
            | (go_at_call 14; refine (HTX.out s c _ HX3.out).mono ?_; rintro e w' ⟨⟨rfl, HX4⟩, c0, c1, c2, c3⟩; have d1 := HX4.out.cell)
            | (go_at_call 39; refine (HRX.out s c _ HX4.out).mono ?_; rintro e w' ⟨⟨rfl, HX5⟩, c0, c1, c2, c3⟩; have d1 := HX5.out.cell)
            | (go_at_call 15; refine (HNW.out s c _ HX5.out).mono ?_; rintro e w' ⟨⟨rfl, HX6⟩, c0, c1, c2, c3⟩; have d1 := HX6.out.cell))
        all_goals
          have HMI6 : Hid (MI w tb rb (k + 1) w') := by
            obtain ⟨T1, R1, f1, q1, q2, q3, q4, _⟩ := HX6.out
            exact ⟨T1, R1, f1, q1, q2, q3, q4⟩
          clear HX6
          go_wp2_with fail
          go_roundw
          case rel => exact ⟨k + 1, by omega, by omega, by go_num, HMI6⟩
          case measure => simp [intOf]; omega
      · have hd : decide (0 ≤ act ∧ act ≤ 6) = false := decide_eq_false hs
        dsimp only
        rw [hd]
        have HMI5 : Hid (MI w tb rb (k + 1) w3) := ⟨T, R, f, HP3.out.1.mono (by omega), HP3.out.2.1, HP3.out.2.2.1, HP3.out.2.2.2⟩
        go_wp2_with fail
        go_roundw
        case rel => exact ⟨k + 1, by omega, by omega, by go_num, HMI5⟩
        case measure => simp [intOf]; omega
    · have HBL : Hid (Below w.heap.size w wr) := by obtain ⟨T, R, f, _, _, _, hbl⟩ := hmi.out; exact hbl
      clear hmi
      by_cases hlt : k < l.length
      · have hki : (k : Int) < l.length := by omega
        have h80i : (300 : Int) ≤ k := by omega
        go_wp2_with fail
        refine (awake16_any wr (HE.out wr HBL.out)).mono ?_
        rintro e w7 ⟨rfl, hb7⟩
        have HB7 := Lib.hid (below_trans HBL.out hb7)
        clear hb7
        go_wp2_with fail
        go_ret
        exact ⟨rfl, HB7.out⟩
      · have hki : (l.length : Int) ≤ k := by omega
        go_wp2_with fail
        refine (awake16_any wr (HE.out wr HBL.out)).mono ?_
        rintro e w7 ⟨rfl, hb7⟩
        have HB7 := Lib.hid (below_trans HBL.out hb7)
        clear hb7
        go_wp2_with fail
        go_ret
        exact ⟨rfl, HB7.out⟩
end Go.Proofs.YtjhojohjegkinaaGreatDoor
