/-
  TreeFiles' walk.
-/
import Derived.Test.YtjhojohjegkinaaGreatDoorFlow
import Derived.Test.YtjhojohjegkinaaGreatDoorArgT
import Derived.Test.YtjhojohjegkinaaGreatDoorAwake16
import Derived.Deep.RegionHeld3
import Derived.Deep.DeepCutAuto
import Derived.Deep.RegionWith
namespace Go.Proofs.YtjhojohjegkinaaGreatDoor
open Go Go.RowKit

theorem eq_guard (c : Nat) : (∀ (W : World), (binOp .neq 56 (codeV c) (codeV c)).run Tryz.prog W = .ok (.bool false) W) ∧ ∀ (x y : Operand) (W : World), (eqGuard .neq 56 x y (codeV c) (codeV c)).run Tryz.prog W = .ok () W :=
  ⟨fun W => codeV_neq c W, fun x y W => codeV_guard_neq c x y W⟩
theorem Of0.mi {w W : World} {tb rb fb yb k : Nat} {L : List UInt8} {c : Int} (h : Of0 w tb rb fb yb k L c W) : MI w tb rb k W := by
  obtain ⟨T, R, f, n, d, h1, h2, h3, h4, _⟩ := h
  exact ⟨T, R, f, h1, h2, h3, h4⟩
theorem MI.text {w W : World} {tb rb k : Nat} (h : MI w tb rb k W) : ∃ s c, Pl2 w tb rb k s c W := by
  obtain ⟨T, R, f, h1, h2, h3, h4⟩ := h
  exact ⟨_, _, T, R, f, h1, h2, h3, h4, rfl, rfl⟩
theorem MI.low {w W : World} {tb rb k : Nat} (h : MI w tb rb k W) : Below w.heap.size w W := by
  obtain ⟨T, R, f, h1, h2, h3, h4⟩ := h
  exact h4
theorem MI.next {w W W' : World} {tb rb k : Nat} (h : MI w tb rb k W) (hb : Below W.heap.size W W') : MI w tb rb k W' := by
  obtain ⟨T, R, f, h1, h2, h3, h4⟩ := h
  exact ⟨T, R, f, h1.below hb, h2, h3, h4.trans (hb.mono h1.base)⟩

def kF (c : Nat) : Int := if c = 0 then 0 else 11
theorem codeV_agg (c : Nat) : codeV c = .agg #[.int .i64 c, .int .i64 0, .int .i64 (kF c)] := by
  unfold codeV kF
  by_cases h : c = 0
  · rw [if_pos h, if_pos h, h]; rfl
  · rw [if_neg h, if_neg h]; rfl
theorem Op2.next {E : Nat → Addr} {w W W' : World} {tb rb k c : Nat} {v y v2 : Value} (h : Op2 E w tb rb k c v y v2 W) (hb : Below W.heap.size W W') : Op2 E w tb rb k c v y v2 W' := by
  rcases h with ⟨h1, h2, ⟨L, a, h3, h4⟩, h5⟩ | ⟨h1, h2, fb, yb, L, n, h3, h4, h5⟩
  · exact .inl ⟨h1, h2, ⟨L, a, h3, h4.below hb⟩, h5.next hb⟩
  · exact .inr ⟨h1, h2, fb, yb, L, n, h3, h4, h5.next hb⟩
theorem Op2.low {E : Nat → Addr} {w W : World} {tb rb k c : Nat} {v y v2 : Value} (h : Op2 E w tb rb k c v y v2 W) : Below w.heap.size w W := by
  rcases h with ⟨_, _, _, h5⟩ | ⟨_, _, fb, yb, L, n, _, _, h5⟩
  · exact h5.low
  · exact h5.low
theorem op2_tell {E : Nat → Addr} {w W : World} {tb rb k c : Nat} {v y v2 : Value} (hE : ∀ W, Below w.heap.size w W → Ctx E w.heap.size W) (hY : ∀ W, Below w.heap.size w W → Ety w.heap.size W) (hc : c ≤ 21) (h : Op2 E w tb rb k c v y v2 W) :
    Calls Tryz.prog 29 #[y] W fun e w' => e = .returned (codeV c) ∧ Below W.heap.size W w' := by
  have hl := h.low
  rcases h with ⟨h1, h2, ⟨L, a, rfl, h4⟩, h5⟩ | ⟨rfl, rfl, fb, yb, L, n, h3, h4, h5⟩
  · rw [codeV_pos h1]
    exact (tell_failed W (hE W hl).env (hY W hl) a c (by omega) hc h4).mono fun _ _ h => h
  · exact (tell_nil W).mono fun _ _ h => h
theorem Op2.mi {E : Nat → Addr} {w W : World} {tb rb k c : Nat} {v y v2 : Value} (h : Op2 E w tb rb k c v y v2 W) : MI w tb rb k W := by
  rcases h with ⟨_, _, _, h5⟩ | ⟨_, _, fb, yb, L, n, _, _, h5⟩
  · exact h5
  · exact h5.mi
theorem Op2.none {E : Nat → Addr} {w W : World} {tb rb k c : Nat} {v y v2 : Value} (h : Op2 E w tb rb k c v y v2 W) (hc : ¬ c = 0) : v = .pointer none := by
  rcases h with ⟨_, h2, _⟩ | ⟨h1, _⟩
  · exact h2
  · exact absurd h1 hc

set_option maxRecDepth 100000 in
set_option maxHeartbeats 4000000 in
theorem treeFiles_any {E : Nat → Addr} {B0 : Nat} (w : World) (hE : Ctx E B0 w) (hY : Ety B0 w) (hT : TabB w.heap.size w) (va : Option Addr) (vc : Nat) (l : List OpA) (hl : OSrc w (.slice va l.length vc) l) (hll : l.length ≤ 9223372036854775807) (hok : ∀ x ∈ l, OpOk x)
    (p : ByteArray) (hp : p.size ≤ 9223372036854775807) (way : Int) (_hway : -9223372036854775808 ≤ way ∧ way ≤ 9223372036854775807) (temp gone : Bool)
    (sa : Option Addr) (sc : Nat) (ls : List AtA) (hs : ASrc w (.slice sa ls.length sc) ls) (_hsl : ls.length ≤ 9223372036854775807) (hsok : ∀ x ∈ ls, AtOk x) :
    Calls Tryz.prog 10 #[.slice va l.length vc, .string p, .int .i64 way, .bool temp, .bool gone, .slice sa ls.length sc] w fun e w' => AwPost w e w' := by
  have HE : Hid (∀ W, Below w.heap.size w W → Ctx E w.heap.size W) := fun W hb => hE.raise.below hb
  have HY : Hid (∀ W, Below w.heap.size w W → Ety w.heap.size W) := fun W hb => hY.raise.below hb
  have HTB : Hid (∀ W, Below w.heap.size w W → TabB w.heap.size W) := fun W hb => hT.on hb
  have HMADE := Lib.hid (made_any w hE _ l hl hok hll)
  have HS := Lib.hid hs
  have HSOK := Lib.hid hsok
  have HP := Lib.hid hp
  clear hE hY hT hl hok hll hs hsok hp
  go_enter Tryz.func10, Tryz.ntmps10
  go_wp2_with fail
  refine HMADE.out.mono ?_
  rintro e w1 ⟨T, R, f, rfl, hbo, hb1⟩
  obtain ⟨tb, htb⟩ : ∃ tb, T.tb = tb := ⟨_, rfl⟩
  obtain ⟨rb, hrb⟩ : ∃ rb, R.tb = rb := ⟨_, rfl⟩
  have HBO := Lib.hid hbo
  have HB1 := Lib.hid hb1
  have HTBE := Lib.hid htb
  have HRBE := Lib.hid hrb
  rw [htb, hrb]
  clear hbo hb1 htb hrb HMADE
  go_wp2_with fail
  refine (op_open HE.out p HP.out way HBO.out HTBE.out HRBE.out HB1.out).mono ?_
  rintro e w2 ⟨v, y, rfl, hx⟩
  have HOP := Lib.hid hx
  have HCL : Hid (T.cOpen p way ≤ 21) := cOpen_le T p way
  clear hx HBO HB1 HTBE HRBE
  go_wp2_with fail
  refine (op_ropen (by decide) p HP.out HOP.out).mono ?_
  rintro e w3 ⟨v2, rfl, hx⟩
  generalize T.cOpen p way = c at *
  have HO3 := Lib.hid hx
  clear HOP hx
  have hg := eq_guard c
  have HTL0 : Hid (∀ W, Op2 E w tb rb (80 + 1) c v y v2 W → Calls Tryz.prog 29 #[y] W fun e w' => e = .returned (codeV c) ∧ Below W.heap.size W w') := fun W h => op2_tell HE.out HY.out HCL.out h
  rw [codeV_agg] at hg HTL0
  obtain ⟨hg1, hg2⟩ := hg
  rw [codeV_agg]
  generalize hkf : kF c = kf at *
  clear hkf
  obtain ⟨w4, hw4⟩ : ∃ w4, w4 = w3.alloc (.cells #[.int .i64 c, .int .i64 0, .int .i64 kf] 56) := ⟨_, rfl⟩
  have HW4 := Lib.hid hw4
  have HB34 : Hid (Below w3.heap.size w3 w4) := by rw [hw4]; exact below_alloc w3 _
  have HH4 : Hid (w4.heap[w3.heap.size]? = some (.cells #[.int .i64 c, .int .i64 0, .int .i64 kf] 56 (0, 0))) := by rw [hw4]; exact heap_alloc_new w3 _
  clear hw4
  go_upto_region 4 with fail
  rw [← HW4.out]
  clear HW4
  have HO4 := Lib.hid (HO3.out.next HB34.out)
  generalize w3.heap.size = qb at *
  clear HB34 HO3
  have HTL : Hid (∀ W, Hid (Below w4.heap.size w4 W) → Calls Tryz.prog 29 #[y] W fun e w' => e = .returned (.agg #[.int .i64 c, .int .i64 0, .int .i64 kf]) ∧ w'.cell? ⟨qb, 0, none⟩ = some (.int .i64 c) ∧ w'.cell? ⟨qb, 1, none⟩ = some (.int .i64 0) ∧ w'.cell? ⟨qb, 2, none⟩ = some (.int .i64 kf) ∧ Hid (Below w4.heap.size w4 w')) := fun W hW => by
    have hb := hW.out
    refine (HTL0.out W (HO4.out.next hb)).mono fun e w' ⟨he, hb'⟩ => ?_
    have hb2 := below_trans hb hb'
    have hh := below_heap hb2 (lt_of_heap HH4.out) HH4.out
    exact ⟨he, cell_of hh rfl, cell_of hh rfl, cell_of hh rfl, hb2⟩
  clear HTL0
  go_cut [52] from 40 to 142 (fun s52 wx => s52 = .bool false ∧ Hid (Below w4.heap.size w4 wx))
  case first =>
    have d0 := cell_of (o := 0) HH4.out rfl
    have d1 := cell_of (o := 1) HH4.out rfl
    have d2 := cell_of (o := 2) HH4.out rfl
    have HBR : Hid (Below w4.heap.size w4 w4) := Below.refl _ _
    have HBD : Hid (Below w4.heap.size w4 w4.drew) := (Below.refl _ _).drew
    by_cases hc : c = 0
    · have hq1 : ((c : Int) == 0) = true := by simp only [beq_iff_eq]; omega
      have hq2 : ((c : Int) != 0) = false := by simp only [bne, hq1]; rfl
      have hq3 : decide ((c : Int) = 0) = true := decide_eq_true (by omega)
      have hq4 : decide (¬ (c : Int) = 0) = false := decide_eq_false (by omega)
      clear hc
      first
        | (go_region_with (go_at_call 29; refine (HTL.out _ (by first | with_reducible exact HBR | with_reducible exact HBD)).mono ?_; rintro e w' ⟨rfl, c0, c1, c2, HBX⟩))
        | fail
      all_goals
        go_wp2_with fail
        go_meet
        case rel => exact ⟨rfl, HBX⟩
    · have hci : ¬ (c : Int) = 0 := by omega
      have hq1 : ((c : Int) == 0) = false := by simp only [beq_eq_false_iff_ne, ne_eq]; omega
      have hq2 : ((c : Int) != 0) = true := by simp only [bne, hq1]; rfl
      have hv := HO4.out.none hc
      subst hv
      first
        | (go_region_held3 (fun W => W.cell? ⟨qb, 0, none⟩ = some (.int .i64 c) ∧ W.cell? ⟨qb, 1, none⟩ = some (.int .i64 0) ∧ W.cell? ⟨qb, 2, none⟩ = some (.int .i64 kf)) (first | with_reducible exact ⟨by assumption, by assumption, by assumption⟩ | exact ⟨d0, d1, d2⟩)
            (first | (go_at_call 29; refine (HTL.out _ (by first | with_reducible exact HBR | with_reducible exact HBD)).mono ?_; rintro e w' ⟨rfl, c0, c1, c2, HBX⟩)))
        | fail
      all_goals
        go_wp2_with fail
        go_meet
        case rel => exact ⟨rfl, HBX⟩
  case rest =>
    obtain ⟨rfl, hbx⟩ := hcut
    have HO5 := Lib.hid (HO4.out.next hbx.out)
    have HH5 := Lib.hid (below_heap hbx.out (lt_of_heap HH4.out) HH4.out)
    clear HO4 HH4 hbx HTL hg1 hg2
    generalize wc = w5 at *
    have d0 := cell_of (o := 0) HH5.out rfl
    clear HH5
    obtain ⟨q, hq⟩ : ∃ q : Bool, q = (temp || decide (¬ c = 0)) := ⟨_, rfl⟩
    have HQ := Lib.hid hq
    clear hq
    go_upto_region 6 with fail
    go_cut [58] from 53 to 142 (fun s58 wx => s58 = .bool q ∧ w5 = wx)
    case first =>
      by_cases hc : c = 0
      · subst hc
        cases temp with
        | true =>
          go_wp2_with fail
          go_meet
          case rel => exact ⟨by rw [HQ.out]; rfl, rfl⟩
        | false =>
          go_wp2_with fail
          go_meet
          case rel => exact ⟨by rw [HQ.out]; rfl, rfl⟩
      · have hci : ¬ (c : Int) = 0 := by omega
        have hq1 : ((c : Int) == 0) = false := by simp only [beq_eq_false_iff_ne, ne_eq]; omega
        have hq2 : ((c : Int) != 0) = true := by simp only [bne, hq1]; rfl
        have hqq : q = true := by rw [HQ.out, decide_eq_true hc, Bool.or_true]
        clear HQ
        subst hqq
        cases temp with
        | true =>
          go_wp2_with fail
          go_meet
          case rel => exact ⟨rfl, rfl⟩
        | false =>
          go_wp2_with fail
          go_meet
          case rel => exact ⟨rfl, rfl⟩
    case rest =>
      obtain ⟨rfl, rfl⟩ := hcut
      clear d0
      go_upto_if 58 with fail
      go_cut [15, 17] from 26 to 142 (fun s15 s17 wx => ∃ fb yb L n, s15 = .pointer (some ⟨fb, 0, none⟩) ∧ s17 = .pointer (some ⟨yb, 0, none⟩) ∧ Hid (Of0 w tb rb fb yb 90 L n wx))
      case first =>
        cases q with
        | true =>
          clear HQ
          have HMI := Lib.hid HO5.out.mi
          clear HO5
          go_wp2_with fail
          refine (of_temp HMI.out).mono ?_
          rintro e w6 ⟨fb, rfl, n, hof⟩
          have HOF : Hid (Of0 w tb rb fb w6.heap.size 81 [] n (w6.alloc (.cells #[.bool false, .slice none 0 0, .int .i64 0] 86))) := hof
          clear hof
          go_wp2_with fail
          go_meet
          case rel => exact ⟨fb, _, [], n, rfl, rfl, HOF.out.mono (by decide)⟩
        | false =>
          have hc : c = 0 := by
            by_cases h : c = 0
            · exact h
            · have h2 := HQ.out
              rw [decide_eq_true h, Bool.or_true] at h2
              cases h2
          clear HQ
          obtain ⟨fb, yb, L, n, hv, hv2, hof⟩ : ∃ fb yb L n, v = .pointer (some ⟨fb, 0, none⟩) ∧ v2 = .pointer (some ⟨yb, 0, none⟩) ∧ Of0 w tb rb fb yb 81 L n w5 := by
            rcases HO5.out with ⟨h1, _⟩ | ⟨_, _, fb, yb, L, n, h1, h2, h3⟩
            · exact absurd hc h1
            · exact ⟨fb, yb, L, n, h1, h2, h3⟩
          have HOF := Lib.hid hof
          subst hv hv2
          clear hof HO5 hc
          cases gone with
          | false =>
            go_wp2_with fail
            go_meet
            case rel => exact ⟨fb, yb, L, n, rfl, rfl, HOF.out.mono (by decide)⟩
          | true =>
            go_wp2_with fail
            refine (om_remove HE.out p HP.out HOF.out).mono ?_
            rintro e w6 ⟨y6, cr, rfl, hcr, hx⟩
            have HCR := Lib.hid hcr
            have HX := Lib.hid hx
            have hg := eq_guard cr
            obtain ⟨hg1, hg2⟩ := hg
            have HT7 : Hid (Calls Tryz.prog 29 #[y6] w6 fun e w' => e = .returned (codeV cr) ∧ Om1 E w tb rb fb yb 81 p cr y6 w') := om_tell HE.out HY.out HCR.out HX.out
            have HR8 : Hid (∀ W, Om1 E w tb rb fb yb 81 p cr y6 W → Calls Tryz.prog 44 #[.pointer (some ⟨rb, 0, none⟩), .string p] W fun e w' => e = .returned (codeV cr) ∧ ∃ L' c', Of0 w tb rb fb yb (81 + 1) L' c' w') := fun W h => om_rremove (by decide) HP.out h
            clear hcr hx HX HOF
            generalize codeV cr = cv at *
            go_wp2_with fail
            refine HT7.out.mono ?_
            rintro e w7 ⟨rfl, hx⟩
            have HX7 := Lib.hid hx
            clear hx HT7
            go_wp2_with fail
            refine (HR8.out _ HX7.out).mono ?_
            rintro e w8 ⟨rfl, L', n', hof⟩
            have HOF := Lib.hid hof
            clear hof HX7 HR8
            go_wp2_with fail
            go_meet
            case rel => exact ⟨fb, yb, L', n', rfl, rfl, HOF.out.mono (by decide)⟩
      case rest =>
        obtain ⟨fb, yb, L, n, rfl, rfl, hof⟩ := hcut
        clear HO5
        go_wp2_with fail
        go_loopw [19] (fun iv wr => ∃ (j : Nat) (L : List UInt8) (n : Int), j ≤ ls.length ∧ j ≤ 40 ∧ iv = .int .i64 j ∧ Hid (Of0 w tb rb fb yb (90 + j) L n wr)) (fun iv _ => ls.length - (intOf iv).toNat)
        case atStart => exact ⟨0, L, n, Nat.zero_le _, Nat.zero_le _, rfl, hof⟩
        case round =>
          clear hof
          obtain ⟨j, L, n, hj, hj40, rfl, hof⟩ := hrel
          have HO1 := Lib.hid hof.out
          clear hof
          by_cases hgo : j < ls.length ∧ j < 40
          · obtain ⟨hlt, h40⟩ := hgo
            have hki : (j : Int) < ls.length := by omega
            have h40i : (j : Int) < 40 := by omega
            rcases HS.out with ⟨h0, _⟩ | ⟨b, o, c', hv, hcells⟩
            · rw [h0] at hlt; simp at hlt
            simp only [Value.slice.injEq, true_and] at hv
            obtain ⟨rfl, rfl⟩ := hv
            obtain ⟨da, dc, hst⟩ := hcells j hlt
            have hok := HSOK.out _ (List.getElem_mem hlt)
            generalize ls[j] = x at hst hok
            obtain ⟨wb, pos, nn, dat⟩ := x
            have HST := Lib.hid hst
            have HOK := Lib.hid hok
            clear hcells hst hok
            obtain ⟨g0, g1, g2, g3, _⟩ := HST.out.below HO1.out.low
            have HB4 := Lib.hid (below_alloc wr (.cells #[.bool wb, .int .i64 pos, .int .i64 nn, .slice da dat.length dc] 88))
            have HH4 := Lib.hid (heap_alloc_new wr (.cells #[.bool wb, .int .i64 pos, .int .i64 nn, .slice da dat.length dc] 88))
            go_upto_if 87 with fail
            clear g0 g1 g2 g3
            have HO4 := Lib.hid (HO1.out.next HB4.out)
            generalize wr.alloc (.cells #[.bool wb, .int .i64 pos, .int .i64 nn, .slice da dat.length dc] 88) = w9 at *
            generalize wr.heap.size = sb at *
            have HSRC : Hid (∀ W, Of0 w tb rb fb yb (90 + j) L n W → Src W (.slice da dat.length dc) dat) := fun W h => (HST.out.below h.low).2.2.2.2
            have HJ : Hid (90 + j ≤ 70000) := by show _ ≤ _; omega
            clear HB4 HO1
            go_cut [] from 88 to 133 (fun wx => ∃ L n, Hid (Of0 w tb rb fb yb (90 + j + 1) L n wx))
            case first =>
              cases wb with
              | true =>
                obtain ⟨hg1, hg2⟩ := eq_guard (wCode pos dat)
                have kp : ∀ {W W' : World}, KeepC W W' → W.heap[sb]? = some (.cells #[.bool true, .int .i64 pos, .int .i64 nn, .slice da dat.length dc] 88 (0, 0)) → W'.heap[sb]? = some (.cells #[.bool true, .int .i64 pos, .int .i64 nn, .slice da dat.length dc] 88 (0, 0)) ∧ W'.cell? ⟨sb, 1, none⟩ = some (.int .i64 pos) ∧ W'.cell? ⟨sb, 3, none⟩ = some (.slice da dat.length dc) := fun h1 h2 => by
                  have h3 := h1 _ _ _ alien_at h2
                  exact ⟨h3, cell_of h3 rfl, cell_of h3 rfl⟩
                have HWR : Hid (∀ W, Of0 w tb rb fb yb (90 + j) L n W → W.heap[sb]? = some (.cells #[.bool true, .int .i64 pos, .int .i64 nn, .slice da dat.length dc] 88 (0, 0)) → Calls Tryz.prog 45 #[.pointer (some ⟨fb, 0, none⟩), .int .i64 pos, .slice da dat.length dc] W fun e w' => (∃ y, e = .returned y ∧ Hid (Of1 E w tb rb fb yb (90 + j) L n pos dat y w')) ∧ Hid (w'.heap[sb]? = some (.cells #[.bool true, .int .i64 pos, .int .i64 nn, .slice da dat.length dc] 88 (0, 0))) ∧ w'.cell? ⟨sb, 1, none⟩ = some (.int .i64 pos) ∧ w'.cell? ⟨sb, 3, none⟩ = some (.slice da dat.length dc)) := fun W h hh => by
                  refine (of_write HE.out h pos (.slice da dat.length dc) dat (HSRC.out W h) (fun h0 x hx => src_low4 HST.out.2.2.2.2 h0 x hx) HOK.out.data).mono fun e w' ⟨y, he, h1, h2⟩ => ?_
                  exact ⟨⟨y, he, h1⟩, kp h2 hh⟩
                have HTE : Hid (∀ y W, Of1 E w tb rb fb yb (90 + j) L n pos dat y W → W.heap[sb]? = some (.cells #[.bool true, .int .i64 pos, .int .i64 nn, .slice da dat.length dc] 88 (0, 0)) → Calls Tryz.prog 29 #[y] W fun e w' => (e = .returned (codeV (wCode pos dat)) ∧ Hid (Of1 E w tb rb fb yb (90 + j) L n pos dat y w')) ∧ Hid (w'.heap[sb]? = some (.cells #[.bool true, .int .i64 pos, .int .i64 nn, .slice da dat.length dc] 88 (0, 0))) ∧ w'.cell? ⟨sb, 1, none⟩ = some (.int .i64 pos) ∧ w'.cell? ⟨sb, 3, none⟩ = some (.slice da dat.length dc)) := fun y W h hh => by
                  refine (of_tell HE.out HY.out h).mono fun e w' ⟨he, h1, h2⟩ => ?_
                  exact ⟨⟨he, h1⟩, kp h2 hh⟩
                have HRW : Hid (∀ y W, Of1 E w tb rb fb yb (90 + j) L n pos dat y W → W.heap[sb]? = some (.cells #[.bool true, .int .i64 pos, .int .i64 nn, .slice da dat.length dc] 88 (0, 0)) → Calls Tryz.prog 46 #[.pointer (some ⟨rb, 0, none⟩), .pointer (some ⟨yb, 0, none⟩), .int .i64 pos, .slice da dat.length dc] W fun e w' => (e = .returned (codeV (wCode pos dat)) ∧ Hid (∃ L' c', Of0 w tb rb fb yb (90 + j + 1) L' c' w')) ∧ Hid (w'.heap[sb]? = some (.cells #[.bool true, .int .i64 pos, .int .i64 nn, .slice da dat.length dc] 88 (0, 0))) ∧ w'.cell? ⟨sb, 1, none⟩ = some (.int .i64 pos) ∧ w'.cell? ⟨sb, 3, none⟩ = some (.slice da dat.length dc)) := fun y W h hh => by
                  refine (of_rwrite HJ.out (HST.out.below h.low).2.2.2.2 h).mono fun e w' ⟨he, h1, h2⟩ => ?_
                  exact ⟨⟨he, h1⟩, kp h2 hh⟩
                clear kp HSRC
                generalize codeV (wCode pos dat) = cv at *
                have d1 := cell_of (o := 1) HH4.out rfl
                have d3 := cell_of (o := 3) HH4.out rfl
                have HO5 : Hid (Of0 w tb rb fb yb (90 + j) L n w9.drew) := HO4.out.next (Below.refl _ _).drew
                have HH5 : Hid (w9.drew.heap[sb]? = some (.cells #[.bool true, .int .i64 pos, .int .i64 nn, .slice da dat.length dc] 88 (0, 0))) := HH4.out
                go_wp2_with fail
                go_region_held3 (fun W => W.cell? ⟨sb, 1, none⟩ = some (.int .i64 pos) ∧ W.cell? ⟨sb, 3, none⟩ = some (.slice da dat.length dc)) (first | with_reducible exact ⟨by assumption, by assumption⟩ | exact ⟨d1, d3⟩)
                  (first
                    | (go_at_call 45; refine (HWR.out _ (by first | with_reducible exact HO4.out | with_reducible exact HO5.out) (by first | with_reducible exact HH4.out | with_reducible exact HH5.out)).mono ?_; rintro e w' ⟨⟨y, rfl, HX1⟩, HA1, c1, c3⟩)
                    | (go_at_call 29; refine (HTE.out _ _ HX1.out HA1.out).mono ?_; rintro e w' ⟨⟨rfl, HX2⟩, HA2, c1, c3⟩)
                    | (go_at_call 46; refine (HRW.out _ _ HX2.out HA2.out).mono ?_; rintro e w' ⟨⟨rfl, HX3⟩, HA3, c1, c3⟩))
                all_goals
                  go_wp2_with fail
                  go_meet
                  case rel =>
                    obtain ⟨L', c', h⟩ := HX3.out
                    exact ⟨L', c', h⟩
              | false =>
                have kp : ∀ {W W' : World}, KeepC W W' → W.heap[sb]? = some (.cells #[.bool false, .int .i64 pos, .int .i64 nn, .slice da dat.length dc] 88 (0, 0)) → W'.heap[sb]? = some (.cells #[.bool false, .int .i64 pos, .int .i64 nn, .slice da dat.length dc] 88 (0, 0)) ∧ W'.cell? ⟨sb, 1, none⟩ = some (.int .i64 pos) ∧ W'.cell? ⟨sb, 2, none⟩ = some (.int .i64 nn) := fun h1 h2 => by
                  have h3 := h1 _ _ _ alien_at h2
                  exact ⟨h3, cell_of h3 rfl, cell_of h3 rfl⟩
                have HRD : Hid (∀ W, Of0 w tb rb fb yb (90 + j) L n W → W.heap[sb]? = some (.cells #[.bool false, .int .i64 pos, .int .i64 nn, .slice da dat.length dc] 88 (0, 0)) → Calls Tryz.prog 47 #[.pointer (some ⟨fb, 0, none⟩), .int .i64 pos, .int .i64 nn] W fun e w' => (∃ va vc, e = .returned (.slice va (readI L pos nn).length vc) ∧ Hid (Src w' (.slice va (readI L pos nn).length vc) (readI L pos nn)) ∧ Hid (Of0 w tb rb fb yb (90 + j) L n w')) ∧ Hid (w'.heap[sb]? = some (.cells #[.bool false, .int .i64 pos, .int .i64 nn, .slice da dat.length dc] 88 (0, 0))) ∧ w'.cell? ⟨sb, 1, none⟩ = some (.int .i64 pos) ∧ w'.cell? ⟨sb, 2, none⟩ = some (.int .i64 nn)) := fun W h hh => by
                  refine (of_read h pos nn HOK.out.n).mono fun e w' ⟨va, vc, he, h1, h2, h3⟩ => ?_
                  exact ⟨⟨va, vc, he, h1, h2⟩, kp (KeepC.of_below h3) hh⟩
                have HRR : Hid (∀ W, Of0 w tb rb fb yb (90 + j) L n W → W.heap[sb]? = some (.cells #[.bool false, .int .i64 pos, .int .i64 nn, .slice da dat.length dc] 88 (0, 0)) → Calls Tryz.prog 48 #[.pointer (some ⟨yb, 0, none⟩), .int .i64 pos, .int .i64 nn] W fun e w' => (∃ va vc, e = .returned (.slice va (readI L pos nn).length vc) ∧ Hid (Src w' (.slice va (readI L pos nn).length vc) (readI L pos nn)) ∧ Hid (Below W.heap.size W w')) ∧ Hid (w'.heap[sb]? = some (.cells #[.bool false, .int .i64 pos, .int .i64 nn, .slice da dat.length dc] 88 (0, 0))) ∧ w'.cell? ⟨sb, 1, none⟩ = some (.int .i64 pos) ∧ w'.cell? ⟨sb, 2, none⟩ = some (.int .i64 nn)) := fun W h hh => by
                  refine (of_rread h pos nn HOK.out.pos HOK.out.n).mono fun e w' ⟨va, vc, he, h1, h2⟩ => ?_
                  exact ⟨⟨va, vc, he, h1, h2⟩, kp (KeepC.of_below h2) hh⟩
                clear kp HSRC
                have d1 := cell_of (o := 1) HH4.out rfl
                have d2 := cell_of (o := 2) HH4.out rfl
                have HO5 : Hid (Of0 w tb rb fb yb (90 + j) L n w9.drew) := HO4.out.next (Below.refl _ _).drew
                have HH5 : Hid (w9.drew.heap[sb]? = some (.cells #[.bool false, .int .i64 pos, .int .i64 nn, .slice da dat.length dc] 88 (0, 0))) := HH4.out
                generalize hRL : readI L pos nn = RL at *
                clear hRL
                go_wp2_with fail
                go_region_held3 (fun W => W.cell? ⟨sb, 1, none⟩ = some (.int .i64 pos) ∧ W.cell? ⟨sb, 2, none⟩ = some (.int .i64 nn)) (first | with_reducible exact ⟨by assumption, by assumption⟩ | exact ⟨d1, d2⟩)
                  (first
                    | (go_at_call 47; refine (HRD.out _ (by first | with_reducible exact HO4.out | with_reducible exact HO5.out) (by first | with_reducible exact HH4.out | with_reducible exact HH5.out)).mono ?_; rintro e w' ⟨⟨va1, vc1, rfl, HS1, HX1⟩, HA1, c1, c2⟩)
                    | (go_at_call 48; refine (HRR.out _ HX1.out HA1.out).mono ?_; rintro e w' ⟨⟨va2, vc2, rfl, HS2, HB2⟩, HA2, c1, c2⟩; have HS3 := Lib.hid (HS1.out.kept (Kept.of_below HB2.out (fun _ => False)) (fun _ _ h => h)); have HX2 := Lib.hid (HX1.out.next HB2.out))
                    | (go_at_call 24; refine (bytes_true va1 vc1 va2 vc2 _ HS3.out HS2.out).mono ?_; rintro e w' ⟨rfl, rfl⟩))
                all_goals
                  go_wp2_with fail
                  go_meet
                  case rel => exact ⟨L, n, HX2.out.mono (Nat.le_succ _)⟩
            case rest =>
              clear HO4 HH4 HSRC HST HOK
              obtain ⟨L2, n2, HO6⟩ := hcut
              obtain ⟨da2, dc2, m0⟩ := HO6.out.data
              have m1 := HO6.out.now
              have HO7 : Hid (Of0 w tb rb fb yb (90 + j + 1) L2 n2 wc.drew) := HO6.out.next (Below.refl _ _).drew
              have HSZ : Hid (∀ W, Of0 w tb rb fb yb (90 + j + 1) L2 n2 W → Calls Tryz.prog 49 #[.pointer (some ⟨fb, 0, none⟩)] W fun e w' => e = .returned (.int .i64 L2.length) ∧ w' = W) := fun W h => of_size h
              have HNW : Hid (∀ W, Of0 w tb rb fb yb (90 + j + 1) L2 n2 W → Calls Tryz.prog 15 #[.pointer (some ⟨tb, 0, none⟩)] W fun e w' => e = .returned (.int .i64 n2) ∧ w' = W) := fun W h => of_now h
              generalize L2.length = l2 at *
              go_wp2_with fail
              go_region_held3 (fun W => W.cell? ⟨yb, 1, none⟩ = some (.slice da2 l2 dc2) ∧ W.cell? ⟨rb, 1, none⟩ = some (.int .i64 n2)) (first | with_reducible exact ⟨by assumption, by assumption⟩ | exact ⟨m0, m1⟩)
                (first
                  | (go_at_call 49; refine (HSZ.out _ (by first | with_reducible exact HO6.out | with_reducible exact HO7.out)).mono ?_; rintro e w' ⟨rfl, rfl⟩)
                  | (go_at_call 15; refine (HNW.out _ (by first | with_reducible exact HO6.out | with_reducible exact HO7.out)).mono ?_; rintro e w' ⟨rfl, rfl⟩))
              all_goals
                go_wp2_with fail
                go_roundw
                case rel => exact ⟨j + 1, L2, n2, by omega, by omega, by go_num, HO7⟩
                case measure => simp [intOf]; omega
          · obtain ⟨s, c2, hp2⟩ := HO1.out.mi.text
            have HP2 := Lib.hid hp2
            have HJ : Hid (90 + j ≤ 70000) := by show _ ≤ _; omega
            clear HO1 hp2
            have fin : ∀ W, Hid (Pl2 w tb rb (90 + j) s c2 W) → Hid (Below w.heap.size w W) := fun W h => h.out.low
            have FIN := Lib.hid fin
            clear fin
            by_cases hlt : j < ls.length
            · have hki : (j : Int) < ls.length := by omega
              have h40i : (40 : Int) ≤ j := by omega
              go_wp2_with fail
              refine (pl_text (by have := HJ.out; omega) HP2.out).mono ?_
              rintro e w7 ⟨rfl, hx⟩
              have HP7 := Lib.hid hx
              clear hx HP2
              go_wp2_with fail
              refine (pl_rtext (by have := HJ.out; omega) HTB.out (Nat.le_refl _) HP7.out).mono ?_
              rintro e w8 ⟨rfl, hx⟩
              have HB8 := FIN.out w8 hx
              clear hx HP7
              go_wp2_with fail
              refine (awake16_any w8 (HE.out w8 HB8.out)).mono ?_
              rintro e w9 ⟨rfl, hb9⟩
              have HB9 := Lib.hid (below_trans HB8.out hb9)
              clear hb9
              go_wp2_with fail
              go_ret
              exact ⟨rfl, HB9.out⟩
            · have hki : (ls.length : Int) ≤ j := by omega
              go_wp2_with fail
              refine (pl_text (by have := HJ.out; omega) HP2.out).mono ?_
              rintro e w7 ⟨rfl, hx⟩
              have HP7 := Lib.hid hx
              clear hx HP2
              go_wp2_with fail
              refine (pl_rtext (by have := HJ.out; omega) HTB.out (Nat.le_refl _) HP7.out).mono ?_
              rintro e w8 ⟨rfl, hx⟩
              have HB8 := FIN.out w8 hx
              clear hx HP7
              go_wp2_with fail
              refine (awake16_any w8 (HE.out w8 HB8.out)).mono ?_
              rintro e w9 ⟨rfl, hb9⟩
              have HB9 := Lib.hid (below_trans HB8.out hb9)
              clear hb9
              go_wp2_with fail
              go_ret
              exact ⟨rfl, HB9.out⟩
end Go.Proofs.YtjhojohjegkinaaGreatDoor
