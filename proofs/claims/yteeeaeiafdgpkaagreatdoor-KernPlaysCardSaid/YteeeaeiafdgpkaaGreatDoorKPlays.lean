/-
 KernPlays' walk.
-/
import Derived.Test.YteeeaeiafdgpkaaGreatDoorKStepX
import Derived.Test.YteeeaeiafdgpkaaGreatDoorStrA
import Derived.Deep.RegionHeld3
import Derived.Lib.Builder
namespace Go.Proofs.YteeeaeiafdgpkaaGreatDoor
open Go Go.RowKit
open Go.Lib (hid)
def KI (w : World) (P : Plc) (k : Nat) (W : World) : Prop := ∃ K X t, S0 w.heap.size w P none k K X t W
theorem KI.low {w : World} {P : Plc} {k : Nat} {W : World} (h : KI w P k W) : Below w.heap.size w W := by
 obtain ⟨K, X, t, h⟩ := h
 exact h.low
theorem infoTree : (Tryz.prog.info? 115).map (·.size) = some 3 := by kernel_rfl
theorem neq_tree_same (a : Nat) (W : World) : (binOp .neq 48 (.pointer (some ⟨a, 0, none⟩)) (.pointer (some ⟨a, 0, none⟩))).run Tryz.prog W = .ok (.bool false) W := by
 obtain ⟨j, hj⟩ : ∃ j, Tryz.prog.info? 115 = some j := by
  have h := infoTree
  cases hi : Tryz.prog.info? 115 with
  | none => rw [hi] at h; cases h
  | some j => exact ⟨j, rfl⟩
 exact Lib.run_neq_ptr_same W _ Tryz.underlying48 hj
theorem ki_new {w w2 w3 w4 : World} {R : RT} {i : Nat} {il : List UInt8} {tb root mb : Nat} (hb2 : Below w.heap.size w w2) (hrep : Rep w.heap.size w2 (zco tb root mb)) (hr2 : RRep w.heap.size w2 R) (hL : R.L = [([], i)]) (hnow : R.now = 0) (hi : R.nd i = some (zbt true)) (ho : ∀ n, n ≠ i → R.nd n = none) (hil : il.length ≤ 140737488355328)
  {K : Ks} (hK : KRep w.heap.size w3 K) (hKT : K.T = zco tb root mb) (hfd : K.fds = fds3 K.ib K.ob K.eb) (hin : K.inL = il) (hout : K.outL = []) (herr : K.errL = []) (hfl : K.fl = fun _ => none) (hb3 : Below w2.heap.size w2 w3)
  {kb n0 n1 m o0 o1 o2 : Nat} {v : Value} (hne : o0 ≠ o1 ∧ o0 ≠ o2 ∧ o1 ≠ o2) (hN : NKA w3 w4 R.tb kb n0 n1 m v il (za6 (za6 (za6 (fun _ => none) 0 (some o0)) 1 (some o1)) 2 (some o2)) [(o2, ⟨n1, false, true, false, 0, true⟩), (o1, ⟨n0, false, true, false, 0, true⟩), (o0, ⟨m, true, false, false, 0, false⟩)]) :
  KI w ⟨K.kb, tb, kb, R.tb, n0, n1⟩ 0 w4 := by
 have hbo := both_new hrep hr2 hL hnow hi ho hb2.size
 have hR3 : RRep w.heap.size w3 R := hr2.below hb3
 have hB3 : w.heap.size ≤ w3.heap.size := Nat.le_trans hb2.size hb3.size
 obtain ⟨hM, hP⟩ := kerns_new (f := fun _ => i) (n := 0) hB3 hK hR3 (by rw [hKT]; exact hbo.sim) (by rw [hKT]; exact hbo.ti) (by rw [hKT]; exact hbo.tg) hbo.rn hfd hin hout herr hfl hil (fun n d hn => by
  by_cases e : n = i
  ·rw [e, hi] at hn
   cases hn
   rfl
  ·rw [ho n e] at hn
   cases hn) hne hN
 refine ⟨K, _, _, hM, hP, ⟨⟨rfl, by rw [hKT]; rfl⟩, rfl, rfl, rfl, rfl⟩, trivial, ?_⟩
 exact (hb2.trans (hb3.mono hb2.size)).trans (hN.below.mono hB3)
set_option maxRecDepth 100000 in
set_option maxHeartbeats 4000000 in
theorem kernPlays_any {E : Nat → Addr} {B0 : Nat} (w : World) (hE : Ctx E B0 w) (hY : Ety B0 w) (hT : TabB w.heap.size w) (ia : Option Addr) (ic : Nat) (il : List UInt8) (hs0 : Src w (.slice ia il.length ic) il) (hil : il.length ≤ 140737488355328)
  (va : Option Addr) (vc : Nat) (l : List Cal) (hl : CSrc w (.slice va l.length vc) l) (_hll : l.length ≤ 9223372036854775807) (hok : ∀ x ∈ l, CalOk x) :
  Calls Tryz.prog 4 #[.slice ia il.length ic, .slice va l.length vc] w fun e w' => AwPost w e w' := by
 have HE : Hid (∀ W, Below w.heap.size w W → Ctx E w.heap.size W) := fun W hb => hE.raise.below hb
 have HY : Hid (∀ W, Below w.heap.size w W → Ety w.heap.size W) := fun W hb => hY.raise.below hb
 have HTB : Hid (∀ W, Below w.heap.size w W → TabB w.heap.size W) := fun W hb => hT.on hb
 have HL := hid hl
 have HOK := hid hok
 have HS0 : Hid (∀ W, Below w.heap.size w W → Src W (.slice ia il.length ic) il) := fun W hb => hs0.kept (Kept.of_below hb (fun _ => False)) (fun _ _ h => h)
 have HIL := hid hil
 have hnt := neq_tree_same
 have hneq := ans_neq
 have hgd := ans_guard
 clear hE hY hT hl hok hs0 hil
 go_enter Tryz.func4, Tryz.ntmps4
 go_wp2_with fail
 refine (tree_new w).mono ?_
 intro e w1 hp
 obtain ⟨rfl, hrep1, hb1, hs1⟩ := hp
 have HR1 := hid (hrep1 w.heap.size (Nat.le_refl _))
 have HB1 := hid hb1
 clear hrep1 hb1 hs1
 go_wp2_with fail
 refine (ref_new w.heap.size w1 HB1.out.size).mono ?_
 intro e w2 hp
 obtain ⟨R, i, rfl, hr2, hL, hnow, hi, ho, hft⟩ := hp.tree
 have HB2 := hid (zaf HB1.out hp.below)
 have HR2 := hid (HR1.out.below hp.below)
 have HRR := hid hr2
 have HNEW : Hid (∀ (w3 w4 : World) (K : Ks) (kb n0 n1 m o0 o1 o2 : Nat) (v : Value), KRep w.heap.size w3 K → K.T = zco (w.heap.size + 2) (w.heap.size + 1) w.heap.size → K.fds = fds3 K.ib K.ob K.eb → K.inL = il → K.outL = [] → K.errL = [] → (K.fl = fun _ => none) → Below w2.heap.size w2 w3 → (o0 ≠ o1 ∧ o0 ≠ o2 ∧ o1 ≠ o2) → NKA w3 w4 R.tb kb n0 n1 m v il (za6 (za6 (za6 (fun _ => none) 0 (some o0)) 1 (some o1)) 2 (some o2)) [(o2, ⟨n1, false, true, false, 0, true⟩), (o1, ⟨n0, false, true, false, 0, true⟩), (o0, ⟨m, true, false, false, 0, false⟩)] → KI w ⟨K.kb, w.heap.size + 2, kb, R.tb, n0, n1⟩ 0 w4) := fun w3 w4 K kb n0 n1 m o0 o1 o2 v a1 a2 a3 a4 a5 a6 a7 a8 a9 a10 => ki_new HB2.out HR2.out HRR.out hL hnow hi ho HIL.out a1 a2 a3 a4 a5 a6 a7 a8 a9 a10
 have HKN : Hid (Calls Tryz.prog 5 #[.pointer (some ⟨w.heap.size + 2, 0, none⟩), .slice ia il.length ic] w2 fun e w' => zeb w.heap.size w2 (zco (w.heap.size + 2) (w.heap.size + 1) w.heap.size) il e w') := ze3 w2 _ il (HS0.out w2 HB2.out) HIL.out HB2.out.size HR2.out
 clear hr2 hL hnow hi ho hft hp HR1 HB1 HR2 HRR
 generalize R.tb = rb at *
 go_wp2_with fail
 refine HKN.out.mono ?_
 intro e w3 hp
 obtain ⟨K, rfl, k1, k2, k3, k4, k5, k6, k7, k8, k9⟩ := hp
 have HB3 := hid (zaf HB2.out k8)
 have HRK : Hid (Calls Tryz.prog 6 #[.pointer (some ⟨rb, 0, none⟩), .slice ia il.length ic] w3 fun e w' => NewKPost w3 rb il e w') := rk_new w3 rb _ il (HS0.out w3 HB3.out) HIL.out
 have HNW2 : Hid (∀ (w4 : World) (kb n0 n1 m o0 o1 o2 : Nat) (v : Value), (o0 ≠ o1 ∧ o0 ≠ o2 ∧ o1 ≠ o2) → NKA w3 w4 rb kb n0 n1 m v il (za6 (za6 (za6 (fun _ => none) 0 (some o0)) 1 (some o1)) 2 (some o2)) [(o2, ⟨n1, false, true, false, 0, true⟩), (o1, ⟨n0, false, true, false, 0, true⟩), (o0, ⟨m, true, false, false, 0, false⟩)] → KI w ⟨K.kb, w.heap.size + 2, kb, rb, n0, n1⟩ 0 w4) := fun w4 kb n0 n1 m o0 o1 o2 v a9 a10 => HNEW.out w3 w4 K kb n0 n1 m o0 o1 o2 v k1 k2 k3 k4 k5 k6 k7 k8 a9 a10
 clear k1 k2 k3 k4 k5 k6 k7 k8 k9 HNEW HKN
 generalize K.kb = kb at *
 go_wp2_with fail
 refine HRK.out.mono ?_
 intro e w4 hp
 obtain ⟨xb, n0, n1, m, o0, o1, o2, v, rfl, hne, hNA⟩ := hp
 have HKI := hid (HNW2.out w4 xb n0 n1 m o0 o1 o2 v hne hNA)
 clear hne hNA HNW2 HRK HB2 HB3
 obtain ⟨tb, htb⟩ : ∃ tb, tb = w.heap.size + 2 := ⟨_, rfl⟩
 rw [← htb] at HKI ⊢
 clear htb
 obtain ⟨P, hP⟩ : ∃ P : Plc, P = ⟨kb, tb, xb, rb, n0, n1⟩ := ⟨_, rfl⟩
 rw [← hP] at HKI
 have p1 : kb = P.kb := by rw [hP]
 have p2 : tb = P.tb := by rw [hP]
 have p3 : xb = P.xb := by rw [hP]
 have p4 : rb = P.rb := by rw [hP]
 rw [p1, p2, p3, p4]
 clear p1 p2 p3 p4 hP
 have HTR : Hid (Calls Tryz.prog 12 #[.pointer (some ⟨P.kb, 0, none⟩)] w4 fun e w' => (e = .returned (.pointer (some ⟨P.tb, 0, none⟩)) ∧ w' = w4)) := by
  obtain ⟨K, X, t, h⟩ := HKI.out
  have := kern_Tree h.mem.krep.kern
  rw [h.plc.1.1, h.plc.1.2] at this
  exact this
 go_wp2_with fail
 refine HTR.out.mono ?_
 rintro e w' ⟨rfl, rfl⟩
 clear HTR
 go_wp2_with fail
 go_loopw [9] (fun idx wr => ∃ k : Nat, k ≤ l.length ∧ k ≤ 200 ∧ idx = .int .i64 k ∧ Hid (KI w P k wr)) (fun idx _ => l.length - (intOf idx).toNat)
 case atStart => exact ⟨0, Nat.zero_le _, by decide, rfl, HKI⟩
 case round =>
  clear HKI
  obtain ⟨k, hk, hk200, rfl, hki⟩ := hrel
  by_cases hgo : k < l.length ∧ k < 200
  ·obtain ⟨hlt, h200⟩ := hgo
   have hki' : (k : Int) < l.length := by omega
   have h200i : (k : Int) < 200 := by omega
   rcases HL.out with ⟨h0, _⟩ | ⟨b, o, c, hv, hcells⟩
   ·rw [h0] at hlt; simp at hlt
   simp only [Value.slice.injEq, true_and] at hv
   obtain ⟨rfl, rfl⟩ := hv
   have HCL := hid hcells
   obtain ⟨K, X, t, hst⟩ := hki.out
   have HST := hid hst
   clear hcells hst hki
   have hcl := HCL.out k hlt
   have hox := HOK.out _ (List.getElem_mem hlt)
   generalize l[k] = x at hcl hox
   have HOX := hid hox
   obtain ⟨xa, xc, hin⟩ := hcl
   clear hox HCL
   obtain ⟨act, cfd, cn, cp, dat⟩ := x
   have HIN : Hid (ClAt w b (o + k * 5) ⟨act, cfd, cn, cp, dat⟩ xa xc) := hin
   clear hin
   have HGET : Hid (∀ W, Below w.heap.size w W → W.cell? ⟨b, o + k * 5, none⟩ = some (.int .i64 act) ∧ W.cell? ⟨b, o + k * 5 + 1, none⟩ = some (.int .i64 cfd) ∧ W.cell? ⟨b, o + k * 5 + 2, none⟩ = some (.int .i64 cn) ∧ W.cell? ⟨b, o + k * 5 + 3, none⟩ = some (.string cp) ∧ W.cell? ⟨b, o + k * 5 + 4, none⟩ = some (.slice xa dat.length xc)) := fun W hb => by
    obtain ⟨g0, g1, g2, g3, g4, _⟩ := HIN.out.below hb
    exact ⟨g0, g1, g2, g3, g4⟩
   have HSRC : Hid (∀ W, Below w.heap.size w W → Src W (.slice xa dat.length xc) dat) := fun W hb => (HIN.out.below hb).2.2.2.2.2
   have HOWN : Hid (0 < dat.length → ∀ q, (Value.slice xa dat.length xc).ownBlock = some q → q < w.heap.size) := fun h0 q hq => src_low4 (HSRC.out w (Below.refl _ _)) h0 q hq
   have HDO : Hid (∀ W, Hid (S0 w.heap.size w P none k K X t W) → Calls Tryz.prog 8 #[.pointer (some ⟨P.kb, 0, none⟩), .agg #[.int .i64 act, .int .i64 cfd, .int .i64 cn, .string cp, .slice xa dat.length xc]] W fun e w' => (∃ a b' l' c K1, e = .returned (ansV a b' l' c) ∧ Hid (S1 w.heap.size w P none k K K1 X t ⟨act, cfd, cn, cp, dat⟩ a b' l' c w')) ∧ w'.cell? ⟨b, o + k * 5, none⟩ = some (.int .i64 act) ∧ w'.cell? ⟨b, o + k * 5 + 1, none⟩ = some (.int .i64 cfd) ∧ w'.cell? ⟨b, o + k * 5 + 2, none⟩ = some (.int .i64 cn) ∧ w'.cell? ⟨b, o + k * 5 + 3, none⟩ = some (.string cp) ∧ w'.cell? ⟨b, o + k * 5 + 4, none⟩ = some (.slice xa dat.length xc)) := fun W h => (st_do (HE.out W h.out.low) (HY.out W h.out.low) h.out ⟨act, cfd, cn, cp, dat⟩ HOX.out xa xc (HSRC.out W h.out.low) (fun h0 q hq hf => by have := HOWN.out h0 q hq; have := h.out.mem.krep.foot_low hf; omega)).mono fun e w' ⟨a, b', l', c, K1, he, hx, _⟩ => ⟨⟨a, b', l', c, K1, he, hx⟩, HGET.out w' hx.low⟩
   have HMO : Hid (∀ a b' l' c K1 W, Hid (S1 w.heap.size w P none k K K1 X t ⟨act, cfd, cn, cp, dat⟩ a b' l' c W) → Calls Tryz.prog 9 #[.pointer (some ⟨P.xb, 0, none⟩), .agg #[.int .i64 act, .int .i64 cfd, .int .i64 cn, .string cp, .slice xa dat.length xc]] W fun e w' => (e = .returned (ansV a b' l' c) ∧ Hid (KI w P (k + 1) w')) ∧ w'.cell? ⟨b, o + k * 5, none⟩ = some (.int .i64 act) ∧ w'.cell? ⟨b, o + k * 5 + 1, none⟩ = some (.int .i64 cfd) ∧ w'.cell? ⟨b, o + k * 5 + 2, none⟩ = some (.int .i64 cn) ∧ w'.cell? ⟨b, o + k * 5 + 3, none⟩ = some (.string cp) ∧ w'.cell? ⟨b, o + k * 5 + 4, none⟩ = some (.slice xa dat.length xc)) := fun a b' l' c K1 W h => (st_model (by omega) h.out HOX.out xa xc (HSRC.out W h.out.low)).mono fun e w' ⟨he, ⟨X1, t1, hx⟩, _⟩ => ⟨⟨he, ⟨K1, X1, t1, hx⟩⟩, HGET.out w' hx.low⟩
   have HUS : Hid (∀ W, Hid (KI w P (k + 1) W) → Calls Tryz.prog 18 #[.pointer (some ⟨P.kb, 0, none⟩)] W fun e w' => (∃ K1 X1 t1 ua uc, e = .returned (.slice ua (zbk K1.fds 16).length uc) ∧ Hid (S0 w.heap.size w P none (k + 1) K1 X1 t1 w' ∧ ISrc w' (.slice ua (zbk K1.fds 16).length uc) ((zbk K1.fds 16).map fun (n : Nat) => (n : Int)))) ∧ w'.cell? ⟨b, o + k * 5, none⟩ = some (.int .i64 act) ∧ w'.cell? ⟨b, o + k * 5 + 1, none⟩ = some (.int .i64 cfd) ∧ w'.cell? ⟨b, o + k * 5 + 2, none⟩ = some (.int .i64 cn) ∧ w'.cell? ⟨b, o + k * 5 + 3, none⟩ = some (.string cp) ∧ w'.cell? ⟨b, o + k * 5 + 4, none⟩ = some (.slice xa dat.length xc)) := fun W h => by
    obtain ⟨K1, X1, t1, h1⟩ := h.out
    exact (st_used h1).mono fun e w' ⟨ua, uc, he, hi, hb⟩ => ⟨⟨K1, X1, t1, ua, uc, he, h1.next hb, hi⟩, HGET.out w' (h1.next hb).low⟩
   have HRU : Hid (∀ (u : List Nat) K1 X1 t1 ua uc W, Hid (S0 w.heap.size w P none (k + 1) K1 X1 t1 W ∧ ISrc W (.slice ua (zbk K1.fds 16).length uc) ((zbk K1.fds 16).map fun (n : Nat) => (n : Int))) → zbk K1.fds 16 = u → Calls Tryz.prog 19 #[.pointer (some ⟨P.xb, 0, none⟩)] W fun e w' => (∃ va' vc', e = .returned (.slice va' u.length vc') ∧ Hid (KI w P (k + 1) w' ∧ ISrc w' (.slice ua u.length uc) (u.map fun (n : Nat) => (n : Int)) ∧ ISrc w' (.slice va' u.length vc') (u.map fun (n : Nat) => (n : Int)))) ∧ w'.cell? ⟨b, o + k * 5, none⟩ = some (.int .i64 act) ∧ w'.cell? ⟨b, o + k * 5 + 1, none⟩ = some (.int .i64 cfd) ∧ w'.cell? ⟨b, o + k * 5 + 2, none⟩ = some (.int .i64 cn) ∧ w'.cell? ⟨b, o + k * 5 + 3, none⟩ = some (.string cp) ∧ w'.cell? ⟨b, o + k * 5 + 4, none⟩ = some (.slice xa dat.length xc)) := fun u K1 X1 t1 ua uc W h hu => by
    subst hu
    exact (st_rused h.out.1).mono fun e w' ⟨va', vc', he, hi, hb⟩ => ⟨⟨va', vc', he, ⟨K1, X1, t1, h.out.1.next hb⟩, h.out.2.kept (Kept.of_below hb (fun _ => False)) (fun _ _ h => h), hi⟩, HGET.out w' (h.out.1.next hb).low⟩
   have HIS : Hid (∀ (u : List Nat) ua uc va' vc' W, Hid (KI w P (k + 1) W ∧ ISrc W (.slice ua u.length uc) (u.map fun (n : Nat) => (n : Int)) ∧ ISrc W (.slice va' u.length vc') (u.map fun (n : Nat) => (n : Int))) → u.length ≤ 16 → Calls Tryz.prog 17 #[.slice ua u.length uc, .slice va' u.length vc'] W fun e w' => (e = .returned (.bool true) ∧ Hid (KI w P (k + 1) w')) ∧ w'.cell? ⟨b, o + k * 5, none⟩ = some (.int .i64 act) ∧ w'.cell? ⟨b, o + k * 5 + 1, none⟩ = some (.int .i64 cfd) ∧ w'.cell? ⟨b, o + k * 5 + 2, none⟩ = some (.int .i64 cn) ∧ w'.cell? ⟨b, o + k * 5 + 3, none⟩ = some (.string cp) ∧ w'.cell? ⟨b, o + k * 5 + 4, none⟩ = some (.slice xa dat.length xc)) := fun u ua uc va' vc' W h hu => by
    obtain ⟨⟨K1, X1, t1, h1⟩, h2, h3⟩ := h.out
    refine (ints_any _ _ _ _ W h2 h3 (by rw [List.length_map]; omega) (by rw [List.length_map]; omega)).mono fun e w' ⟨he, hb⟩ => ⟨⟨?_, ⟨K1, X1, t1, h1.next hb⟩⟩, HGET.out w' (h1.next hb).low⟩
    rw [he, decide_eq_true rfl]
   have HLEN : Hid (∀ fds : Nat → Option End, (zbk fds 16).length ≤ 16) := fun fds => by
    have := List.length_filter_le (fun j => (fds j).isSome) (List.range 16)
    rw [List.length_range] at this
    exact this
   have HSR := HST
   have HSD : Hid (S0 w.heap.size w P none k K X t wr.drew) := HST.out.drew
   obtain ⟨g0, g1, g2, g3, g4⟩ := HGET.out wr HST.out.low
   clear HGET HSRC HOWN HIN HOX
   go_wp2_with fail
   first | (go_region_held3 (fun W => W.cell? ⟨b, o + k * 5, none⟩ = some (.int .i64 act) ∧ W.cell? ⟨b, o + k * 5 + 1, none⟩ = some (.int .i64 cfd) ∧ W.cell? ⟨b, o + k * 5 + 2, none⟩ = some (.int .i64 cn) ∧ W.cell? ⟨b, o + k * 5 + 3, none⟩ = some (.string cp) ∧ W.cell? ⟨b, o + k * 5 + 4, none⟩ = some (.slice xa dat.length xc)) (first | with_reducible exact ⟨by assumption, by assumption, by assumption, by assumption, by assumption⟩ | exact ⟨g0, g1, g2, g3, g4⟩)
    (first
     | (go_at_call 8; refine (HDO.out _ (by with_reducible assumption)).mono ?_; rintro e w' ⟨⟨a, b', l', c, K1, rfl, HX1⟩, c0, c1, c2, c3, c4⟩)
     | (go_at_call 9; refine (HMO.out _ _ _ _ _ _ HX1).mono ?_; rintro e w' ⟨⟨rfl, HX2⟩, c0, c1, c2, c3, c4⟩)
     | (go_at_call 18; refine (HUS.out _ HX2).mono ?_; rintro e w' ⟨⟨K2, X2, t2, ua, uc, rfl, HX3⟩, c0, c1, c2, c3, c4⟩; have HLU := hid (HLEN.out K2.fds); obtain ⟨u, hu⟩ : ∃ u, zbk K2.fds 16 = u := ⟨_, rfl⟩; have HU := hid hu; rw [hu] at HLU ⊢; clear hu)
     | (go_at_call 19; refine (HRU.out _ _ _ _ _ _ _ HX3 HU.out).mono ?_; rintro e w' ⟨⟨va', vc', rfl, HX4⟩, c0, c1, c2, c3, c4⟩)
     | (go_at_call 17; refine (HIS.out _ _ _ _ _ _ HX4 HLU.out).mono ?_; rintro e w' ⟨⟨rfl, HX5⟩, c0, c1, c2, c3, c4⟩))) | fail
   all_goals
    obtain ⟨K5, X5, t5, h5⟩ := HX5.out
    obtain ⟨oa, oc, q1, q2, hos⟩ := h5.con0
    obtain ⟨ea, ec, q3, q4, hes⟩ := h5.con1
    have HZ := hid h5
    have HOS := hid hos
    have HES := hid hes
    have hol := h5.pur.rel.len.1
    have hel := h5.pur.rel.len.2.1
    have HK4 : Hid (∀ W, Below w'.heap.size w' W → W.cell? ⟨P.xb, 17, none⟩ = some (.pointer (some ⟨P.n0, 0, none⟩)) ∧ W.cell? ⟨P.n0, 1, none⟩ = some (.slice oa K5.outL.length oc) ∧ W.cell? ⟨P.xb, 18, none⟩ = some (.pointer (some ⟨P.n1, 0, none⟩)) ∧ W.cell? ⟨P.n1, 1, none⟩ = some (.slice ea K5.errL.length ec)) := fun W hb => ⟨zbg hb q1, zbg hb q2, zbg hb q3, zbg hb q4⟩
    have HTXT : Hid (∀ W, Hid (Below w'.heap.size w' W) → Calls Tryz.prog 13 #[.pointer (some ⟨P.tb, 0, none⟩)] W fun e w2 => (e = .returned (.string ⟨K5.T.txt.toArray⟩) ∧ Hid (Below w'.heap.size w' w2)) ∧ w2.cell? ⟨P.xb, 17, none⟩ = some (.pointer (some ⟨P.n0, 0, none⟩)) ∧ w2.cell? ⟨P.n0, 1, none⟩ = some (.slice oa K5.outL.length oc) ∧ w2.cell? ⟨P.xb, 18, none⟩ = some (.pointer (some ⟨P.n1, 0, none⟩)) ∧ w2.cell? ⟨P.n1, 1, none⟩ = some (.slice ea K5.errL.length ec)) := fun W h => (st_text (by omega) (HZ.out.next h.out)).mono fun e w2 ⟨he, hb⟩ => ⟨⟨he, zaf h.out hb⟩, HK4.out w2 (zaf h.out hb)⟩
    have HRTX : Hid (∀ W, Hid (Below w'.heap.size w' W) → Calls Tryz.prog 14 #[.pointer (some ⟨P.rb, 0, none⟩)] W fun e w2 => (e = .returned (.string ⟨K5.T.txt.toArray⟩) ∧ Hid (Below w'.heap.size w' w2)) ∧ w2.cell? ⟨P.xb, 17, none⟩ = some (.pointer (some ⟨P.n0, 0, none⟩)) ∧ w2.cell? ⟨P.n0, 1, none⟩ = some (.slice oa K5.outL.length oc) ∧ w2.cell? ⟨P.xb, 18, none⟩ = some (.pointer (some ⟨P.n1, 0, none⟩)) ∧ w2.cell? ⟨P.n1, 1, none⟩ = some (.slice ea K5.errL.length ec)) := fun W h => (st_rtext (by omega) (HTB.out W (HZ.out.next h.out).low) (HZ.out.next h.out).low.size (HZ.out.next h.out)).mono fun e w2 ⟨he, hb⟩ => ⟨⟨he, zaf h.out hb⟩, HK4.out w2 (zaf h.out hb)⟩
    have HOT : Hid (∀ W, Hid (Below w'.heap.size w' W) → Calls Tryz.prog 11 #[.pointer (some ⟨P.kb, 0, none⟩)] W fun e w2 => (∃ va' vc', e = .returned (.slice va' K5.outL.length vc') ∧ Hid (Below w'.heap.size w' w2 ∧ Src w2 (.slice va' K5.outL.length vc') K5.outL)) ∧ w2.cell? ⟨P.xb, 17, none⟩ = some (.pointer (some ⟨P.n0, 0, none⟩)) ∧ w2.cell? ⟨P.n0, 1, none⟩ = some (.slice oa K5.outL.length oc) ∧ w2.cell? ⟨P.xb, 18, none⟩ = some (.pointer (some ⟨P.n1, 0, none⟩)) ∧ w2.cell? ⟨P.n1, 1, none⟩ = some (.slice ea K5.errL.length ec)) := fun W h => (st_out (HZ.out.next h.out)).mono fun e w2 ⟨v, he, hr, hb⟩ => by
     obtain ⟨va', vc', rfl⟩ := zak hr
     exact ⟨⟨va', vc', he, zaf h.out hb, Src.of_owns hr⟩, HK4.out w2 (zaf h.out hb)⟩
    have HET : Hid (∀ W, Hid (Below w'.heap.size w' W) → Calls Tryz.prog 20 #[.pointer (some ⟨P.kb, 0, none⟩)] W fun e w2 => (∃ va' vc', e = .returned (.slice va' K5.errL.length vc') ∧ Hid (Below w'.heap.size w' w2 ∧ Src w2 (.slice va' K5.errL.length vc') K5.errL)) ∧ w2.cell? ⟨P.xb, 17, none⟩ = some (.pointer (some ⟨P.n0, 0, none⟩)) ∧ w2.cell? ⟨P.n0, 1, none⟩ = some (.slice oa K5.outL.length oc) ∧ w2.cell? ⟨P.xb, 18, none⟩ = some (.pointer (some ⟨P.n1, 0, none⟩)) ∧ w2.cell? ⟨P.n1, 1, none⟩ = some (.slice ea K5.errL.length ec)) := fun W h => (st_err (HZ.out.next h.out)).mono fun e w2 ⟨v, he, hr, hb⟩ => by
     obtain ⟨va', vc', rfl⟩ := zak hr
     exact ⟨⟨va', vc', he, zaf h.out hb, Src.of_owns hr⟩, HK4.out w2 (zaf h.out hb)⟩
    have HBO : Hid (∀ va' vc' W, Hid (Below w'.heap.size w' W ∧ Src W (.slice va' K5.outL.length vc') K5.outL) → Calls Tryz.prog 10 #[.slice va' K5.outL.length vc', .slice oa K5.outL.length oc] W fun e w2 => (e = .returned (.bool true) ∧ Hid (Below w'.heap.size w' w2)) ∧ w2.cell? ⟨P.xb, 17, none⟩ = some (.pointer (some ⟨P.n0, 0, none⟩)) ∧ w2.cell? ⟨P.n0, 1, none⟩ = some (.slice oa K5.outL.length oc) ∧ w2.cell? ⟨P.xb, 18, none⟩ = some (.pointer (some ⟨P.n1, 0, none⟩)) ∧ w2.cell? ⟨P.n1, 1, none⟩ = some (.slice ea K5.errL.length ec)) := fun va' vc' W h => (bytes_true va' vc' oa oc W h.out.2 (src_up HOS.out h.out.1)).mono fun e w2 ⟨he, hb⟩ => by subst hb; exact ⟨⟨he, h.out.1⟩, HK4.out _ h.out.1⟩
    have HBE : Hid (∀ va' vc' W, Hid (Below w'.heap.size w' W ∧ Src W (.slice va' K5.errL.length vc') K5.errL) → Calls Tryz.prog 10 #[.slice va' K5.errL.length vc', .slice ea K5.errL.length ec] W fun e w2 => (e = .returned (.bool true) ∧ Hid (Below w'.heap.size w' w2)) ∧ w2.cell? ⟨P.xb, 17, none⟩ = some (.pointer (some ⟨P.n0, 0, none⟩)) ∧ w2.cell? ⟨P.n0, 1, none⟩ = some (.slice oa K5.outL.length oc) ∧ w2.cell? ⟨P.xb, 18, none⟩ = some (.pointer (some ⟨P.n1, 0, none⟩)) ∧ w2.cell? ⟨P.n1, 1, none⟩ = some (.slice ea K5.errL.length ec)) := fun va' vc' W h => (bytes_true va' vc' ea ec W h.out.2 (src_up HES.out h.out.1)).mono fun e w2 ⟨he, hb⟩ => by subst hb; exact ⟨⟨he, h.out.1⟩, HK4.out _ h.out.1⟩
    have HFIN : Hid (∀ W, Below w'.heap.size w' W → KI w P (k + 1) W) := fun W hb => ⟨K5, X5, t5, HZ.out.next hb⟩
    clear h5 hos hes HX5 HX1 HDO HMO HUS HRU HIS HLEN HST HSR HSD HZ HOS HES HK4 c0 c1 c2 c3 c4 g0 g1 g2 g3 g4
    generalize K5.outL = ol at *
    generalize K5.errL = el at *
    generalize K5.T.txt = tx at *
    have HBR : Hid (Below w'.heap.size w' w') := Below.refl _ _
    have HBD : Hid (Below w'.heap.size w' w'.drew) := (Below.refl _ _).drew
    go_wp2_with fail
    first | (go_region_held3 (fun W => W.cell? ⟨P.xb, 17, none⟩ = some (.pointer (some ⟨P.n0, 0, none⟩)) ∧ W.cell? ⟨P.n0, 1, none⟩ = some (.slice oa ol.length oc) ∧ W.cell? ⟨P.xb, 18, none⟩ = some (.pointer (some ⟨P.n1, 0, none⟩)) ∧ W.cell? ⟨P.n1, 1, none⟩ = some (.slice ea el.length ec)) (first | with_reducible exact ⟨by assumption, by assumption, by assumption, by assumption⟩ | exact ⟨q1, q2, q3, q4⟩)
     (first
      | (go_at_call 11; refine (HOT.out _ (by with_reducible assumption)).mono ?_; rintro e w2 ⟨⟨xa', xc', rfl, HY1⟩, d0, d1, d2, d3⟩)
      | (go_at_call_of 10 oa; refine (HBO.out _ _ _ HY1).mono ?_; rintro e w2 ⟨⟨rfl, HY2⟩, d0, d1, d2, d3⟩)
      | (go_at_call 20; refine (HET.out _ HY2).mono ?_; rintro e w2 ⟨⟨ya', yc', rfl, HY3⟩, d0, d1, d2, d3⟩)
      | (go_at_call_of 10 ea; refine (HBE.out _ _ _ HY3).mono ?_; rintro e w2 ⟨⟨rfl, HY4⟩, d0, d1, d2, d3⟩)
      | (go_at_call 13; refine (HTXT.out _ HY4).mono ?_; rintro e w2 ⟨⟨rfl, HY5⟩, d0, d1, d2, d3⟩)
      | (go_at_call 14; refine (HRTX.out _ HY5).mono ?_; rintro e w2 ⟨⟨rfl, HY6⟩, d0, d1, d2, d3⟩))) | fail
    all_goals
     have HKF := hid (HFIN.out w2 HY6.out)
     clear HY6 HFIN
     go_wp2_with fail
     go_roundw
     case rel => exact ⟨k + 1, by omega, by omega, by go_num, HKF⟩
     case measure => simp [intOf]; omega
  ·have HBL : Hid (Below w.heap.size w wr) := hki.out.low
   clear hki
   by_cases hlt : k < l.length
   ·have hki' : (k : Int) < l.length := by omega
    have h200i : (200 : Int) ≤ k := by omega
    go_wp2_with fail
    refine (awake_any wr (HE.out wr HBL.out)).mono ?_
    rintro e w7 ⟨rfl, hb7⟩
    have HB7 := hid (zaf HBL.out hb7)
    clear hb7
    go_wp2_with fail
    go_ret
    exact ⟨rfl, HB7.out⟩
   ·have hki' : (l.length : Int) ≤ k := by omega
    go_wp2_with fail
    refine (awake_any wr (HE.out wr HBL.out)).mono ?_
    rintro e w7 ⟨rfl, hb7⟩
    have HB7 := hid (zaf HBL.out hb7)
    clear hb7
    go_wp2_with fail
    go_ret
    exact ⟨rfl, HB7.out⟩
end Go.Proofs.YteeeaeiafdgpkaaGreatDoor
