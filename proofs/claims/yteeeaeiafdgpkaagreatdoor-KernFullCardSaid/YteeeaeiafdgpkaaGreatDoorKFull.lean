/-
 KernFull's walk.
-/
import Derived.Test.YteeeaeiafdgpkaaGreatDoorKStepX
import Derived.Test.YteeeaeiafdgpkaaGreatDoorStrA
import Derived.Deep.RegionHeld3
namespace Go.Proofs.YteeeaeiafdgpkaaGreatDoor
open Go Go.RowKit
open Go.Lib (hid)
def KF (w : World) (P : Plc) (ext : Option (Nat × Array Value)) (n : Nat) (W : World) : Prop := ∃ K X t, S0 w.heap.size w P ext n K X t W
def KH (w : World) (P : Plc) (ext : Option (Nat × Array Value)) (n : Nat) (x : Cal) (a b : Nat) (l : List UInt8) (c : Nat) (W : World) : Prop := ∃ K K1 X t, S1 w.heap.size w P ext n K K1 X t x a b l c W
def CbAt (cb : Nat) (act cfd cn : Int) (cp : ByteArray) (da : Option Addr) (dl dc : Nat) (W : World) : Prop := W.heap[cb]? = some (.cells #[.int .i64 act, .int .i64 cfd, .int .i64 cn, .string cp, .slice da dl dc] 30 (0, 0))
def DatOk (ext : Option (Nat × Array Value)) (da : Option Addr) (dl dc : Nat) (dat : List UInt8) : Prop :=
 (dat = [] ∧ da = none ∧ dl = 0 ∧ dc = 0) ∨ ∃ bb cur, ext = some (bb, cur) ∧ da = some ⟨bb, 0, none⟩ ∧ dl = dat.length ∧ dl ≤ dc ∧ cur.toList = u8s dat
section
variable {w W W' : World} {P : Plc} {ext : Option (Nat × Array Value)} {n : Nat}
theorem KF.next (h : KF w P ext n W) (hb : Below W.heap.size W W') : KF w P ext n W' := by
 obtain ⟨K, X, t, h⟩ := h
 exact ⟨K, X, t, h.next hb⟩
theorem KF.low (h : KF w P ext n W) : Below w.heap.size w W := by
 obtain ⟨K, X, t, h⟩ := h
 exact h.low
theorem KF.up (h : KF w P ext n W) {m : Nat} (hm : n ≤ m) : KF w P ext m W := by
 obtain ⟨K, X, t, h⟩ := h
 exact ⟨K, X, t, h.up hm⟩
theorem DatOk.src {K : Ks} {X : Rk} {da : Option Addr} {dl dc : Nat} {dat : List UInt8} (h : DatOk ext da dl dc dat) (hx : ExtOk W K X ext) : Src W (.slice da dl dc) dat := by
 rcases h with ⟨rfl, rfl, rfl, rfl⟩ | ⟨bb, cur, rfl, rfl, rfl, h1, h2⟩
 ·exact .inl ⟨rfl, rfl⟩
 ·refine .inr ⟨_, _, rfl, h1, fun j hj => ?_⟩
  have e : (⟨bb, 0, none⟩ : Addr).add j = ⟨bb, j, none⟩ := by
   simp [Addr.add]
   omega
  rw [e]
  refine zaa hx.1 ?_
  rw [← Array.getElem?_toList, h2]
  simp [u8s, hj]
theorem DatOk.off {B : Nat} {K : Ks} {X : Rk} {da : Option Addr} {dl dc : Nat} {dat : List UInt8} (h : DatOk ext da dl dc dat) (hx : ExtOk W K X ext) (hK : KRep B W K) : 0 < dat.length → ∀ q, (Value.slice da dl dc).ownBlock = some q → ¬ K.foot q := fun h0 q hq => by
 rcases h with ⟨rfl, _⟩ | ⟨bb, cur, rfl, rfl, _⟩
 ·simp at h0
 ·have : bb = q := Option.some.inj hq
  rw [← this]
  exact hK.foot_u8 hx.1 hx.2.1
theorem CbAt.cells {cb : Nat} {act cfd cn : Int} {cp : ByteArray} {da : Option Addr} {dl dc : Nat} (h : CbAt cb act cfd cn cp da dl dc W) : W.cell? ⟨cb, 0, none⟩ = some (.int .i64 act) ∧ W.cell? ⟨cb, 1, none⟩ = some (.int .i64 cfd) ∧ W.cell? ⟨cb, 2, none⟩ = some (.int .i64 cn) ∧ W.cell? ⟨cb, 3, none⟩ = some (.string cp) ∧ W.cell? ⟨cb, 4, none⟩ = some (.slice da dl dc) :=
 ⟨zaa h rfl, zaa h rfl, zaa h rfl, zaa h rfl, zaa h rfl⟩
theorem kf_do {E : Nat → Addr} {cb : Nat} {act cfd cn : Int} {cp : ByteArray} {da : Option Addr} {dl dc : Nat} {dat : List UInt8} (hdl : dl = dat.length) (hE : Ctx E w.heap.size W) (hY : Ety w.heap.size W) (ok : CalOk ⟨act, cfd, cn, cp, dat⟩) (hd : DatOk ext da dl dc dat)
  (h : KF w P ext n W) (hcb : CbAt cb act cfd cn cp da dl dc W) :
  Calls Tryz.prog 8 #[.pointer (some ⟨P.kb, 0, none⟩), .agg #[.int .i64 act, .int .i64 cfd, .int .i64 cn, .string cp, .slice da dl dc]] W fun e w' => (∃ a b l c, e = .returned (ansV a b l c) ∧ Hid (KH w P ext n ⟨act, cfd, cn, cp, dat⟩ a b l c w' ∧ CbAt cb act cfd cn cp da dl dc w' ∧ (∀ (q : Nat) (cs : Array Value), W.heap[q]? = some (.cells cs 30 (0, 0)) → w'.heap[q]? = some (.cells cs 30 (0, 0))))) ∧ w'.cell? ⟨cb, 0, none⟩ = some (.int .i64 act) ∧ w'.cell? ⟨cb, 1, none⟩ = some (.int .i64 cfd) ∧ w'.cell? ⟨cb, 2, none⟩ = some (.int .i64 cn) ∧ w'.cell? ⟨cb, 3, none⟩ = some (.string cp) ∧ w'.cell? ⟨cb, 4, none⟩ = some (.slice da dl dc) := by
 obtain ⟨K, X, t, h⟩ := h
 subst hdl
 refine (st_do hE hY h ⟨act, cfd, cn, cp, dat⟩ ok da dc (hd.src h.ext) (hd.off h.ext h.mem.krep)).mono fun e w' hp => ?_
 obtain ⟨a, b, l, c, K1, he, hs, hk⟩ := hp
 have hcb' : CbAt cb act cfd cn cp da dat.length dc w' := (hk.block cb (zab hcb) (h.mem.krep.not_foot hcb (by decide) (by decide))).trans hcb
 exact ⟨⟨a, b, l, c, he, ⟨K, K1, X, t, hs⟩, hcb', fun q cs hq => (hk.block q (zab hq) (h.mem.krep.not_foot hq (by decide) (by decide))).trans hq⟩, hcb'.cells⟩
theorem kf_model {cb : Nat} {act cfd cn : Int} {cp : ByteArray} {da : Option Addr} {dl dc : Nat} {dat : List UInt8} (hdl : dl = dat.length) (hn : n < 80000) (ok : CalOk ⟨act, cfd, cn, cp, dat⟩) (hd : DatOk ext da dl dc dat) {a b : Nat} {l : List UInt8} {c : Nat}
  (h : KH w P ext n ⟨act, cfd, cn, cp, dat⟩ a b l c W) (hcb : CbAt cb act cfd cn cp da dl dc W) :
  Calls Tryz.prog 9 #[.pointer (some ⟨P.xb, 0, none⟩), .agg #[.int .i64 act, .int .i64 cfd, .int .i64 cn, .string cp, .slice da dl dc]] W fun e w' => (e = .returned (ansV a b l c) ∧ Hid (KF w P ext (n + 1) w' ∧ (∀ (q : Nat) (cs : Array Value), W.heap[q]? = some (.cells cs 30 (0, 0)) → w'.heap[q]? = some (.cells cs 30 (0, 0))))) ∧ w'.cell? ⟨cb, 0, none⟩ = some (.int .i64 act) ∧ w'.cell? ⟨cb, 1, none⟩ = some (.int .i64 cfd) ∧ w'.cell? ⟨cb, 2, none⟩ = some (.int .i64 cn) ∧ w'.cell? ⟨cb, 3, none⟩ = some (.string cp) ∧ w'.cell? ⟨cb, 4, none⟩ = some (.slice da dl dc) := by
 obtain ⟨K, K1, X, t, h⟩ := h
 subst hdl
 refine (st_model hn h ok da dc (hd.src h.ext)).mono fun e w' hp => ?_
 obtain ⟨he, ⟨X1, t1, hs⟩, hk⟩ := hp
 have hcb' : CbAt cb act cfd cn cp da dat.length dc w' := (hk.block cb (zab hcb) (h.mem.xrep.not_foot hcb (by decide) (by decide) (by decide) (by decide) (by decide) (by decide))).trans hcb
 exact ⟨⟨he, ⟨K1, X1, t1, hs⟩, fun q cs hq => (hk.block q (zab hq) (h.mem.xrep.not_foot hq (by decide) (by decide) (by decide) (by decide) (by decide) (by decide))).trans hq⟩, hcb'.cells⟩
theorem kf_new {w w3 w4 w5 : World} {R : RT} {i tb root mb : Nat} (hb3 : Below w.heap.size w w3) {K : Ks} (hK : KRep w.heap.size w3 K) (hKT : K.T = zco tb root mb) (hfd : K.fds = fds3 K.ib K.ob K.eb) (hin : K.inL = []) (hout : K.outL = []) (herr : K.errL = []) (hfl : K.fl = fun _ => none)
  (hb4 : Below w3.heap.size w3 w4) (hR : RRep w.heap.size w4 R) (hL : R.L = [([], i)]) (hnow : R.now = 0) (hi : R.nd i = some (zbt true)) (ho : ∀ n, n ≠ i → R.nd n = none)
  {kb n0 n1 m o0 o1 o2 : Nat} {v : Value} (hne : o0 ≠ o1 ∧ o0 ≠ o2 ∧ o1 ≠ o2) (hN : NKA w4 w5 R.tb kb n0 n1 m v [] (za6 (za6 (za6 (fun _ => none) 0 (some o0)) 1 (some o1)) 2 (some o2)) [(o2, ⟨n1, false, true, false, 0, true⟩), (o1, ⟨n0, false, true, false, 0, true⟩), (o0, ⟨m, true, false, false, 0, false⟩)]) :
  KF w ⟨K.kb, tb, kb, R.tb, n0, n1⟩ none 0 w5 := by
 have hK4 := hK.below hb4
 have hB4 : w.heap.size ≤ w4.heap.size := Nat.le_trans hb3.size hb4.size
 have hbo := both_new (hKT ▸ hK4.tree) hR hL hnow hi ho hB4
 obtain ⟨hM, hP⟩ := kerns_new (f := fun _ => i) (n := 0) hB4 hK4 hR (by rw [hKT]; exact hbo.sim) (by rw [hKT]; exact hbo.ti) (by rw [hKT]; exact hbo.tg) hbo.rn hfd hin hout herr hfl (by decide) (fun n d hn => by
  by_cases e : n = i
  ·rw [e, hi] at hn
   cases hn
   rfl
  ·rw [ho n e] at hn
   cases hn) hne hN
 refine ⟨K, _, _, hM, hP, ⟨⟨rfl, by rw [hKT]; rfl⟩, rfl, rfl, rfl, rfl⟩, trivial, ?_⟩
 exact (hb3.trans (hb4.mono hb3.size)).trans (hN.below.mono hB4)
theorem KF.row {cur : Array Value} {bb : Nat} (h : KF w P none n W) (hb : Below W.heap.size W W') (hq : W'.heap[bb]? = some (.cells cur 5 (0, 0))) (hn : W.heap.size ≤ bb) : KF w P (some (bb, cur)) n W' := by
 obtain ⟨K, X, t, h⟩ := h
 have h' := h.next hb
 refine ⟨K, X, t, h'.mem, h'.pur, h'.plc, ⟨hq, fun hr => ?_, fun hr => ?_⟩, h'.low⟩
 ·have := h.mem.krep.lt (Ks.row_foot hr)
  omega
 ·have := h.mem.xrep.row_lt hr
  omega
theorem KF.set {cur : Array Value} {bb : Nat} (h : KF w P (some (bb, cur)) n W) (hB : w.heap.size ≤ bb) (j : Nat) (v : Value) : KF w P (some (bb, cur.setIfInBounds j v)) n (W.setCell ⟨bb, j, none⟩ v) := by
 obtain ⟨K, X, t, h⟩ := h
 obtain ⟨h1, h2, h3⟩ := h.ext
 have k : Kept (fun b => b = bb) W (W.setCell ⟨bb, j, none⟩ v) := (Kept.refl (fun b => b = bb) W).setCell (p := ⟨bb, j, none⟩) (.inl rfl) v
 have hk := h.mem.krep.foot_u8 h1 h2
 have hx := h.mem.xrep.foot_u8 h1 h3
 refine ⟨K, X, t, ⟨h.mem.krep.kept k (fun q hq e => hk (e ▸ hq)), h.mem.xrep.kept k (fun q hq e => hx (e ▸ hq)), h.mem.sep⟩, h.pur, h.plc, ⟨zaj h1 j v, h2, h3⟩, h.low.trans (k.below (fun q e => by rw [e]; exact hB) h.mem.base)⟩
end
theorem wrapF {x : Int} (h0 : 0 ≤ x) (h1 : x < 1000000) : wrap64 x = x := by
 unfold wrap64
 omega
theorem mod_full2 (a : Int) (b : Int) (hb : 0 < b) (hb2 : b ≤ 100000) : ∃ m : Nat, (m : Int) < b ∧ (wrap64 (a.tmod b + b)).tmod b = m := by
 have h1 : a.tmod b < b := Int.tmod_lt_of_pos _ hb
 have h2 : -b < a.tmod b := Int.lt_tmod_of_pos _ hb
 rw [wrapF (x := a.tmod b + b) (by omega) (by omega)]
 have h3 : 0 ≤ (a.tmod b + b).tmod b := Int.tmod_nonneg _ (by omega)
 have h4 : (a.tmod b + b).tmod b < b := Int.tmod_lt_of_pos _ hb
 exact ⟨((a.tmod b + b).tmod b).toNat, by omega, by omega⟩
def zem (sz k : Nat) (x : UInt8) : Array Value := ((List.replicate k (Value.int .u8 x.toNat)) ++ List.replicate (sz - k) (Value.int .u8 0)).toArray
theorem fillA_zero (sz : Nat) (x : UInt8) : (zem sz 0 x).toList = List.replicate sz (Value.int .u8 0) := by simp [zem]
theorem fillA_set {sz k : Nat} (x : UInt8) (h : k < sz) : (zem sz k x).setIfInBounds k (.int .u8 x.toNat) = zem sz (k + 1) x := by
 unfold zem
 apply Array.ext'
 rw [Array.toList_setIfInBounds]
 apply List.ext_getElem?
 intro j
 rw [List.getElem?_set]
 simp only [List.getElem?_append, List.length_replicate, List.getElem?_replicate, List.length_append]
 by_cases e : k = j
 ·subst e
  rw [if_pos rfl, if_pos (by omega), if_pos (by omega), if_pos (by omega)]
 ·rw [if_neg e]
  by_cases h1 : j < k
  ·rw [if_pos h1, if_pos h1, if_pos (by omega), if_pos (by omega)]
  ·rw [if_neg h1, if_neg (show ¬ j < k + 1 by omega)]
   by_cases h2 : j < sz
   ·rw [if_pos (by omega), if_pos (by omega)]
   ·rw [if_neg (by omega), if_neg (by omega)]
theorem fillA_all (sz : Nat) (x : UInt8) : (zem sz sz x).toList = u8s (List.replicate sz x) := by simp [zem, u8s]
theorem fillA_at {sz k : Nat} (x : UInt8) (h : k < sz) : (zem sz k x)[k]? = some (.int .u8 0) := by
 rw [← Array.getElem?_toList]
 unfold zem
 simp only [List.getElem?_append, List.length_replicate, List.getElem?_replicate]
 rw [if_neg (Nat.lt_irrefl k), if_pos (by omega)]
theorem made_block {w : World} {B bb sz : Nat} {xs : List Value} (h : w.ownsRow B 5 1 (.slice (some ⟨bb, 0, none⟩) sz sz) sz xs) : ∃ cur, w.heap[bb]? = some (.cells cur 5 (0, 0)) ∧ cur.toList = xs := by
 rcases h.2 with ⟨h1, _⟩ | ⟨g, cap, cur, h1, _, h2, _, _, h3, h4⟩
 ·cases h1
 ·cases h1
  refine ⟨cur, h2, ?_⟩
  rw [← h4, List.take_of_length_le]
  rw [Array.length_toList, h3]
  exact Nat.le_refl _
theorem made_fill (sz : Nat) (x : UInt8) : madeCells #[.int .u8 0] sz = zem sz 0 x := by
 apply Array.ext'
 rw [fillA_zero]
 unfold madeCells
 apply List.ext_getElem
 ·simp
 ·intro i h1 h2
  simp [Nat.mod_one]
set_option maxRecDepth 100000 in
set_option maxHeartbeats 4000000 in
theorem kernFull_any {E : Nat → Addr} {B0 : Nat} (w : World) (hE : Ctx E B0 w) (hY : Ety B0 w) (hT : TabB w.heap.size w) (n : Int) (_hn : -9223372036854775808 ≤ n ∧ n ≤ 9223372036854775807) (size : Int) (_hs : -9223372036854775808 ≤ size ∧ size ≤ 9223372036854775807) (times : Int) (_ht : -9223372036854775808 ≤ times ∧ times ≤ 9223372036854775807) (x : UInt8) :
  Calls Tryz.prog 3 #[.int .i64 n, .int .i64 size, .int .i64 times, .int .u8 x.toNat] w fun e w' => AwPost w e w' := by
 have HE : Hid (∀ W, Below w.heap.size w W → Ctx E w.heap.size W) := fun W hb => hE.raise.below hb
 have HY : Hid (∀ W, Below w.heap.size w W → Ety w.heap.size W) := fun W hb => hY.raise.below hb
 have HTB : Hid (∀ W, Below w.heap.size w W → TabB w.heap.size W) := fun W hb => hT.on hb
 obtain ⟨m, hm, hwn⟩ := mod_full2 n 20 (by decide) (by decide)
 obtain ⟨sz, hsz, hws⟩ := mod_full2 size 30000 (by decide) (by decide)
 obtain ⟨tm, htm, hwt⟩ := mod_full2 times 6 (by decide) (by decide)
 have HM : Hid (m < 20) := by show _ < _; omega
 have HSZ : Hid (sz < 30000) := by show _ < _; omega
 have HTM : Hid (tm < 6) := by show _ < _; omega
 have hneq := ans_neq
 have hgd := ans_guard
 clear hE hY hT hm hsz htm
 go_enter Tryz.func3, Tryz.ntmps3
 go_wp2_with fail
 clear hwn hws hwt
 refine (kern_new_nil (B := w.heap.size) w (.slice none 0 0) [] (.inl ⟨rfl, rfl⟩) (by decide) (Nat.le_refl _)).mono ?_
 intro e w3 hp
 obtain ⟨w1, hkn, hb1⟩ := hp
 obtain ⟨K, rfl, k1, k2, k3, k4, k5, k6, k7, k8, k9⟩ := hkn
 have HB3 := hid (zaf hb1 k8)
 have HNEW : Hid (∀ (w4 w5 : World) (R : RT) (i kb n0 n1 m o0 o1 o2 : Nat) (v : Value), Below w3.heap.size w3 w4 → RRep w.heap.size w4 R → R.L = [([], i)] → R.now = 0 → R.nd i = some (zbt true) → (∀ n, n ≠ i → R.nd n = none) → (o0 ≠ o1 ∧ o0 ≠ o2 ∧ o1 ≠ o2) → NKA w4 w5 R.tb kb n0 n1 m v [] (za6 (za6 (za6 (fun _ => none) 0 (some o0)) 1 (some o1)) 2 (some o2)) [(o2, ⟨n1, false, true, false, 0, true⟩), (o1, ⟨n0, false, true, false, 0, true⟩), (o0, ⟨m, true, false, false, 0, false⟩)] → KF w ⟨K.kb, w.heap.size + 2, kb, R.tb, n0, n1⟩ none 0 w5) := fun w4 w5 R i kb n0 n1 m o0 o1 o2 v a1 a2 a3 a4 a5 a6 a7 a8 => kf_new HB3.out k1 k2 k3 k4 k5 k6 k7 a1 a2 a3 a4 a5 a6 a7 a8
 clear k1 k2 k3 k4 k5 k6 k7 k8 k9 hb1
 generalize K.kb = kb at *
 go_wp2_with fail
 refine (ref_new w.heap.size w3 HB3.out.size).mono ?_
 intro e w4 hp
 obtain ⟨R, i, rfl, hr2, hL, hnow, hi, ho, hft⟩ := hp.tree
 have HNW2 : Hid (∀ (w5 : World) (xb n0 n1 m o0 o1 o2 : Nat) (v : Value), (o0 ≠ o1 ∧ o0 ≠ o2 ∧ o1 ≠ o2) → NKA w4 w5 R.tb xb n0 n1 m v [] (za6 (za6 (za6 (fun _ => none) 0 (some o0)) 1 (some o1)) 2 (some o2)) [(o2, ⟨n1, false, true, false, 0, true⟩), (o1, ⟨n0, false, true, false, 0, true⟩), (o0, ⟨m, true, false, false, 0, false⟩)] → KF w ⟨kb, w.heap.size + 2, xb, R.tb, n0, n1⟩ none 0 w5) := fun w5 xb n0 n1 m o0 o1 o2 v a7 a8 => HNEW.out w4 w5 R i xb n0 n1 m o0 o1 o2 v hp.below hr2 hL hnow hi ho a7 a8
 clear hr2 hL hnow hi ho hft hp HNEW HB3
 generalize R.tb = rb at *
 go_wp2_with fail
 refine (rk_new w4 rb (.slice none 0 0) [] (.inl ⟨rfl, rfl⟩) (by decide)).mono ?_
 intro e w5 hp
 obtain ⟨xb, n0, n1, nm, o0, o1, o2, v, rfl, hne, hNA⟩ := hp
 have HKF := hid (HNW2.out w5 xb n0 n1 nm o0 o1 o2 v hne hNA)
 clear hne hNA HNW2
 obtain ⟨P, hP⟩ : ∃ P : Plc, P = ⟨kb, w.heap.size + 2, xb, rb, n0, n1⟩ := ⟨_, rfl⟩
 rw [← hP] at HKF
 have p1 : kb = P.kb := by rw [hP]
 have p3 : xb = P.xb := by rw [hP]
 rw [p1, p3]
 clear p1 p3 hP
 have HDO : Hid (∀ (ext : Option (Nat × Array Value)) (n cb : Nat) (act cfd cn : Int) (cp : ByteArray) (da : Option Addr) (dl dc : Nat) (dat : List UInt8) (W : World), dl = dat.length → CalOk ⟨act, cfd, cn, cp, dat⟩ → DatOk ext da dl dc dat → Hid (KF w P ext n W ∧ CbAt cb act cfd cn cp da dl dc W) → Calls Tryz.prog 8 #[.pointer (some ⟨P.kb, 0, none⟩), .agg #[.int .i64 act, .int .i64 cfd, .int .i64 cn, .string cp, .slice da dl dc]] W fun e w' => (∃ a b l c, e = .returned (ansV a b l c) ∧ Hid (KH w P ext n ⟨act, cfd, cn, cp, dat⟩ a b l c w' ∧ CbAt cb act cfd cn cp da dl dc w' ∧ (∀ (q : Nat) (cs : Array Value), W.heap[q]? = some (.cells cs 30 (0, 0)) → w'.heap[q]? = some (.cells cs 30 (0, 0))))) ∧ w'.cell? ⟨cb, 0, none⟩ = some (.int .i64 act) ∧ w'.cell? ⟨cb, 1, none⟩ = some (.int .i64 cfd) ∧ w'.cell? ⟨cb, 2, none⟩ = some (.int .i64 cn) ∧ w'.cell? ⟨cb, 3, none⟩ = some (.string cp) ∧ w'.cell? ⟨cb, 4, none⟩ = some (.slice da dl dc)) := fun ext n cb act cfd cn cp da dl dc dat W hdl ok hd h => kf_do hdl (HE.out W h.out.1.low) (HY.out W h.out.1.low) ok hd h.out.1 h.out.2
 have HMO : Hid (∀ (ext : Option (Nat × Array Value)) (n cb : Nat) (act cfd cn : Int) (cp : ByteArray) (da : Option Addr) (dl dc : Nat) (dat : List UInt8) (a b : Nat) (l : List UInt8) (c : Nat) (W : World), dl = dat.length → n < 80000 → CalOk ⟨act, cfd, cn, cp, dat⟩ → DatOk ext da dl dc dat → KH w P ext n ⟨act, cfd, cn, cp, dat⟩ a b l c W → CbAt cb act cfd cn cp da dl dc W → Calls Tryz.prog 9 #[.pointer (some ⟨P.xb, 0, none⟩), .agg #[.int .i64 act, .int .i64 cfd, .int .i64 cn, .string cp, .slice da dl dc]] W fun e w' => (e = .returned (ansV a b l c) ∧ Hid (KF w P ext (n + 1) w' ∧ (∀ (q : Nat) (cs : Array Value), W.heap[q]? = some (.cells cs 30 (0, 0)) → w'.heap[q]? = some (.cells cs 30 (0, 0))))) ∧ w'.cell? ⟨cb, 0, none⟩ = some (.int .i64 act) ∧ w'.cell? ⟨cb, 1, none⟩ = some (.int .i64 cfd) ∧ w'.cell? ⟨cb, 2, none⟩ = some (.int .i64 cn) ∧ w'.cell? ⟨cb, 3, none⟩ = some (.string cp) ∧ w'.cell? ⟨cb, 4, none⟩ = some (.slice da dl dc)) := fun ext n cb act cfd cn cp da dl dc dat a b l c W hdl hn ok hd h hcb => kf_model hdl hn ok hd h hcb
 go_wp2_with fail
 go_loopw [34] (fun idx wr => ∃ k : Nat, k ≤ m ∧ idx = .int .i64 k ∧ Hid (KF w P none k wr)) (fun idx _ => m - (intOf idx).toNat)
 case atStart => exact ⟨0, Nat.zero_le _, rfl, HKF⟩
 case round =>
  clear HKF
  obtain ⟨k, hk, rfl, hkf⟩ := hrel
  by_cases hgo : k < m
  ·have hki : (k : Int) < m := by omega
   have hk20 : k < 20 := by have := HM.out; omega
   have hk8 : k < 80000 := by have := HM.out; omega
   have HK8 := hid hk8
   clear hk8
   obtain ⟨W0, hW0⟩ : ∃ W0, W0 = wr.alloc (.cells #[.int .i64 2, .int .i64 1, .int .i64 0, .string ⟨#[]⟩, .slice none 0 0] 30) := ⟨_, rfl⟩
   have HKB : Hid (KF w P none (k) W0) := by rw [hW0]; exact hkf.out.next (zad _ _)
   have HCB : Hid (CbAt wr.heap.size 2 1 0 ⟨#[]⟩ none 0 0 W0) := by rw [hW0]; exact heap_alloc_new _ _
   have HBW : Hid (Below wr.heap.size wr W0) := by rw [hW0]; exact zad _ _
   have HW0 := hid hW0
   clear hW0 hkf
   go_upto_region 6 with fail
   rw [← HW0.out]
   clear HW0
   generalize wr.heap.size = cb at *
   have HX0 : Hid (KF w P none (k) W0 ∧ CbAt cb 2 1 0 ⟨#[]⟩ none 0 0 W0) := ⟨HKB.out, HCB.out⟩
   have HX0D : Hid (KF w P none (k) W0.drew ∧ CbAt cb 2 1 0 ⟨#[]⟩ none 0 0 W0.drew) := ⟨HKB.out.next (Below.refl _ _).drew, HCB.out⟩
   have HDX := hid (fun W => HDO.out none (k) cb 2 1 0 ⟨#[]⟩ none 0 0 [] W rfl ⟨by decide, by decide, by decide, by decide, by decide⟩ (.inl ⟨rfl, rfl, rfl, rfl⟩))
   have HMX := hid (fun a b l c W => HMO.out none (k) cb 2 1 0 ⟨#[]⟩ none 0 0 [] a b l c W rfl HK8.out ⟨by decide, by decide, by decide, by decide, by decide⟩ (.inl ⟨rfl, rfl, rfl, rfl⟩))
   obtain ⟨g0, g1, g2, g3, g4⟩ := HCB.out.cells
   clear HKB
   first | (go_region_held3 (fun W => W.cell? ⟨cb, 0, none⟩ = some (.int .i64 2) ∧ W.cell? ⟨cb, 1, none⟩ = some (.int .i64 1) ∧ W.cell? ⟨cb, 2, none⟩ = some (.int .i64 0) ∧ W.cell? ⟨cb, 3, none⟩ = some (.string ⟨#[]⟩) ∧ W.cell? ⟨cb, 4, none⟩ = some (.slice none 0 0)) (first | with_reducible exact ⟨by assumption, by assumption, by assumption, by assumption, by assumption⟩ | exact ⟨g0, g1, g2, g3, g4⟩)
    (first
     | (go_at_call 8; refine (HDX.out _ (by with_reducible assumption)).mono ?_; rintro e w' ⟨⟨a, b, l, c, rfl, HX1⟩, c0, c1, c2, c3, c4⟩)
     | (go_at_call 9; refine (HMX.out _ _ _ _ _ HX1.out.1 HX1.out.2.1).mono ?_; rintro e w' ⟨⟨rfl, HX2⟩, c0, c1, c2, c3, c4⟩))) | fail
   all_goals
    have HX3 : Hid (KF w P none (k + 1) w') := HX2.out.1
    clear c0 c1 c2 c3 c4 HX0 HX0D HX1 HX2 HDX HMX HCB g0 g1 g2 g3 g4 HBW
    go_wp2_with fail
    go_roundw
    case rel => exact ⟨k + 1, by omega, by go_num, HX3⟩
    case measure => simp [intOf]; omega
  ·have hki : (m : Int) ≤ k := by omega
   have HKG : Hid (KF w P none 20 wr) := hkf.out.up (by have := HM.out; omega)
   clear hkf hk
   obtain ⟨wl, hwl⟩ : ∃ wl, wl = wr.alloc (.cells #[.int .i64 1, .int .i64 0, .int .i64 0, .string ⟨#[]⟩, .slice none 0 0, .int .i64 0, .int .i64 0, .int .i64 1, .string ⟨#[102]⟩, .slice none 0 0, .int .i64 0, .int .i64 0, .int .i64 2, .string ⟨#[102]⟩, .slice none 0 0] 30) := ⟨_, rfl⟩
   have HKL : Hid (KF w P none 20 wl) := by rw [hwl]; exact HKG.out.next (zad _ _)
   have HLI : Hid (wl.heap[wr.heap.size]? = some (.cells #[.int .i64 1, .int .i64 0, .int .i64 0, .string ⟨#[]⟩, .slice none 0 0, .int .i64 0, .int .i64 0, .int .i64 1, .string ⟨#[102]⟩, .slice none 0 0, .int .i64 0, .int .i64 0, .int .i64 2, .string ⟨#[102]⟩, .slice none 0 0] 30 (0, 0))) := by rw [hwl]; exact heap_alloc_new _ _
   have HWL := hid hwl
   clear hwl HKG
   go_wp2_with fail
   (try simp only [show decide (k < m) = false from decide_eq_false hgo])
   clear hki hgo
   rw [← HWL.out]
   clear HWL
   generalize wr.heap.size = lb at *
   obtain ⟨LC, hLC⟩ : ∃ LC : Array Value, LC = #[.int .i64 1, .int .i64 0, .int .i64 0, .string ⟨#[]⟩, .slice none 0 0, .int .i64 0, .int .i64 0, .int .i64 1, .string ⟨#[102]⟩, .slice none 0 0, .int .i64 0, .int .i64 0, .int .i64 2, .string ⟨#[102]⟩, .slice none 0 0] := ⟨_, rfl⟩
   rw [← hLC] at HLI
   have HLC := hid hLC
   clear hLC
   go_loopw [50] (fun idx wr => ∃ k : Nat, k ≤ 3 ∧ idx = .int .i64 k ∧ Hid (KF w P none (20 + k) wr) ∧ Hid (wr.heap[lb]? = some (.cells LC 30 (0, 0)))) (fun idx _ => 3 - (intOf idx).toNat)
   case atStart => exact ⟨0, by decide, rfl, HKL, HLI⟩
   case round =>
    clear HKL HLI
    obtain ⟨k, hk, rfl, hkf, HLI⟩ := hrel
    by_cases hgo : k < 3
    ·rcases (show k = 0 ∨ k = 1 ∨ k = 2 by omega) with rfl | rfl | rfl
     ·have HLX : Hid (wr.heap[lb]? = some (.cells #[.int .i64 1, .int .i64 0, .int .i64 0, .string ⟨#[]⟩, .slice none 0 0, .int .i64 0, .int .i64 0, .int .i64 1, .string ⟨#[102]⟩, .slice none 0 0, .int .i64 0, .int .i64 0, .int .i64 2, .string ⟨#[102]⟩, .slice none 0 0] 30 (0, 0))) := by show _ = _; rw [← HLC.out]; exact HLI.out
      have l0 : wr.cell? ⟨lb, 0, none⟩ = some (.int .i64 1) := zaa (o := 0) HLX.out rfl
      have l1 : wr.cell? ⟨lb, 1, none⟩ = some (.int .i64 0) := zaa (o := 1) HLX.out rfl
      have l2 : wr.cell? ⟨lb, 2, none⟩ = some (.int .i64 0) := zaa (o := 2) HLX.out rfl
      have l3 : wr.cell? ⟨lb, 3, none⟩ = some (.string ⟨#[]⟩) := zaa (o := 3) HLX.out rfl
      have l4 : wr.cell? ⟨lb, 4, none⟩ = some (.slice none 0 0) := zaa (o := 4) HLX.out rfl
      clear HLX
      obtain ⟨W0, hW0⟩ : ∃ W0, W0 = wr.alloc (.cells #[.int .i64 1, .int .i64 0, .int .i64 0, .string ⟨#[]⟩, .slice none 0 0] 30) := ⟨_, rfl⟩
      have HKB : Hid (KF w P none (20 + 0) W0) := by rw [hW0]; exact hkf.out.next (zad _ _)
      have HCB : Hid (CbAt wr.heap.size 1 0 0 ⟨#[]⟩ none 0 0 W0) := by rw [hW0]; exact heap_alloc_new _ _
      have HBW : Hid (Below wr.heap.size wr W0) := by rw [hW0]; exact zad _ _
      have HW0 := hid hW0
      have HLK : Hid (W0.drew.heap[lb]? = some (.cells LC 30 (0, 0))) := zae HBW.out (zab HLI.out) HLI.out
      clear hW0 hkf
      go_upto_region 12 with fail
      rw [← HW0.out]
      clear HW0
      generalize wr.heap.size = cb at *
      have HX0 : Hid (KF w P none (20 + 0) W0 ∧ CbAt cb 1 0 0 ⟨#[]⟩ none 0 0 W0) := ⟨HKB.out, HCB.out⟩
      have HX0D : Hid (KF w P none (20 + 0) W0.drew ∧ CbAt cb 1 0 0 ⟨#[]⟩ none 0 0 W0.drew) := ⟨HKB.out.next (Below.refl _ _).drew, HCB.out⟩
      have HDX := hid (fun W => HDO.out none (20 + 0) cb 1 0 0 ⟨#[]⟩ none 0 0 [] W rfl ⟨by decide, by decide, by decide, by decide, by decide⟩ (.inl ⟨rfl, rfl, rfl, rfl⟩))
      have HMX := hid (fun a b l c W => HMO.out none (20 + 0) cb 1 0 0 ⟨#[]⟩ none 0 0 [] a b l c W rfl (by decide) ⟨by decide, by decide, by decide, by decide, by decide⟩ (.inl ⟨rfl, rfl, rfl, rfl⟩))
      obtain ⟨g0, g1, g2, g3, g4⟩ := HCB.out.cells
      clear HKB l0 l1 l2 l3 l4 HLI
      first | (go_region_held3 (fun W => W.cell? ⟨cb, 0, none⟩ = some (.int .i64 1) ∧ W.cell? ⟨cb, 1, none⟩ = some (.int .i64 0) ∧ W.cell? ⟨cb, 2, none⟩ = some (.int .i64 0) ∧ W.cell? ⟨cb, 3, none⟩ = some (.string ⟨#[]⟩) ∧ W.cell? ⟨cb, 4, none⟩ = some (.slice none 0 0)) (first | with_reducible exact ⟨by assumption, by assumption, by assumption, by assumption, by assumption⟩ | exact ⟨g0, g1, g2, g3, g4⟩)
       (first
        | (go_at_call 8; refine (HDX.out _ (by with_reducible assumption)).mono ?_; rintro e w' ⟨⟨a, b, l, c, rfl, HX1⟩, c0, c1, c2, c3, c4⟩)
        | (go_at_call 9; refine (HMX.out _ _ _ _ _ HX1.out.1 HX1.out.2.1).mono ?_; rintro e w' ⟨⟨rfl, HX2⟩, c0, c1, c2, c3, c4⟩))) | fail
      all_goals
       have HX3 : Hid (KF w P none (20 + 1) w') := HX2.out.1
       have HLJ : Hid (w'.heap[lb]? = some (.cells LC 30 (0, 0))) := HX2.out.2 _ _ (HX1.out.2.2 _ _ (HLK.out))
       clear c0 c1 c2 c3 c4 HX0 HX0D HX1 HX2 HDX HMX HCB g0 g1 g2 g3 g4 HBW HLK
       go_wp2_with fail
       go_roundw
       case rel => exact ⟨1, by omega, by go_num, HX3, HLJ⟩
       case measure => simp [intOf]
     ·have HLX : Hid (wr.heap[lb]? = some (.cells #[.int .i64 1, .int .i64 0, .int .i64 0, .string ⟨#[]⟩, .slice none 0 0, .int .i64 0, .int .i64 0, .int .i64 1, .string ⟨#[102]⟩, .slice none 0 0, .int .i64 0, .int .i64 0, .int .i64 2, .string ⟨#[102]⟩, .slice none 0 0] 30 (0, 0))) := by show _ = _; rw [← HLC.out]; exact HLI.out
      have l0 : wr.cell? ⟨lb, 5, none⟩ = some (.int .i64 0) := zaa (o := 5) HLX.out rfl
      have l1 : wr.cell? ⟨lb, 6, none⟩ = some (.int .i64 0) := zaa (o := 6) HLX.out rfl
      have l2 : wr.cell? ⟨lb, 7, none⟩ = some (.int .i64 1) := zaa (o := 7) HLX.out rfl
      have l3 : wr.cell? ⟨lb, 8, none⟩ = some (.string ⟨#[102]⟩) := zaa (o := 8) HLX.out rfl
      have l4 : wr.cell? ⟨lb, 9, none⟩ = some (.slice none 0 0) := zaa (o := 9) HLX.out rfl
      clear HLX
      obtain ⟨W0, hW0⟩ : ∃ W0, W0 = wr.alloc (.cells #[.int .i64 0, .int .i64 0, .int .i64 1, .string ⟨#[102]⟩, .slice none 0 0] 30) := ⟨_, rfl⟩
      have HKB : Hid (KF w P none (20 + 1) W0) := by rw [hW0]; exact hkf.out.next (zad _ _)
      have HCB : Hid (CbAt wr.heap.size 0 0 1 ⟨#[102]⟩ none 0 0 W0) := by rw [hW0]; exact heap_alloc_new _ _
      have HBW : Hid (Below wr.heap.size wr W0) := by rw [hW0]; exact zad _ _
      have HW0 := hid hW0
      have HLK : Hid (W0.drew.heap[lb]? = some (.cells LC 30 (0, 0))) := zae HBW.out (zab HLI.out) HLI.out
      clear hW0 hkf
      go_upto_region 12 with fail
      rw [← HW0.out]
      clear HW0
      generalize wr.heap.size = cb at *
      have HX0 : Hid (KF w P none (20 + 1) W0 ∧ CbAt cb 0 0 1 ⟨#[102]⟩ none 0 0 W0) := ⟨HKB.out, HCB.out⟩
      have HX0D : Hid (KF w P none (20 + 1) W0.drew ∧ CbAt cb 0 0 1 ⟨#[102]⟩ none 0 0 W0.drew) := ⟨HKB.out.next (Below.refl _ _).drew, HCB.out⟩
      have HDX := hid (fun W => HDO.out none (20 + 1) cb 0 0 1 ⟨#[102]⟩ none 0 0 [] W rfl ⟨by decide, by decide, by decide, by decide, by decide⟩ (.inl ⟨rfl, rfl, rfl, rfl⟩))
      have HMX := hid (fun a b l c W => HMO.out none (20 + 1) cb 0 0 1 ⟨#[102]⟩ none 0 0 [] a b l c W rfl (by decide) ⟨by decide, by decide, by decide, by decide, by decide⟩ (.inl ⟨rfl, rfl, rfl, rfl⟩))
      obtain ⟨g0, g1, g2, g3, g4⟩ := HCB.out.cells
      clear HKB l0 l1 l2 l3 l4 HLI
      first | (go_region_held3 (fun W => W.cell? ⟨cb, 0, none⟩ = some (.int .i64 0) ∧ W.cell? ⟨cb, 1, none⟩ = some (.int .i64 0) ∧ W.cell? ⟨cb, 2, none⟩ = some (.int .i64 1) ∧ W.cell? ⟨cb, 3, none⟩ = some (.string ⟨#[102]⟩) ∧ W.cell? ⟨cb, 4, none⟩ = some (.slice none 0 0)) (first | with_reducible exact ⟨by assumption, by assumption, by assumption, by assumption, by assumption⟩ | exact ⟨g0, g1, g2, g3, g4⟩)
       (first
        | (go_at_call 8; refine (HDX.out _ (by with_reducible assumption)).mono ?_; rintro e w' ⟨⟨a, b, l, c, rfl, HX1⟩, c0, c1, c2, c3, c4⟩)
        | (go_at_call 9; refine (HMX.out _ _ _ _ _ HX1.out.1 HX1.out.2.1).mono ?_; rintro e w' ⟨⟨rfl, HX2⟩, c0, c1, c2, c3, c4⟩))) | fail
      all_goals
       have HX3 : Hid (KF w P none (20 + 2) w') := HX2.out.1
       have HLJ : Hid (w'.heap[lb]? = some (.cells LC 30 (0, 0))) := HX2.out.2 _ _ (HX1.out.2.2 _ _ (HLK.out))
       clear c0 c1 c2 c3 c4 HX0 HX0D HX1 HX2 HDX HMX HCB g0 g1 g2 g3 g4 HBW HLK
       go_wp2_with fail
       go_roundw
       case rel => exact ⟨2, by omega, by go_num, HX3, HLJ⟩
       case measure => simp [intOf]
     ·have HLX : Hid (wr.heap[lb]? = some (.cells #[.int .i64 1, .int .i64 0, .int .i64 0, .string ⟨#[]⟩, .slice none 0 0, .int .i64 0, .int .i64 0, .int .i64 1, .string ⟨#[102]⟩, .slice none 0 0, .int .i64 0, .int .i64 0, .int .i64 2, .string ⟨#[102]⟩, .slice none 0 0] 30 (0, 0))) := by show _ = _; rw [← HLC.out]; exact HLI.out
      have l0 : wr.cell? ⟨lb, 10, none⟩ = some (.int .i64 0) := zaa (o := 10) HLX.out rfl
      have l1 : wr.cell? ⟨lb, 11, none⟩ = some (.int .i64 0) := zaa (o := 11) HLX.out rfl
      have l2 : wr.cell? ⟨lb, 12, none⟩ = some (.int .i64 2) := zaa (o := 12) HLX.out rfl
      have l3 : wr.cell? ⟨lb, 13, none⟩ = some (.string ⟨#[102]⟩) := zaa (o := 13) HLX.out rfl
      have l4 : wr.cell? ⟨lb, 14, none⟩ = some (.slice none 0 0) := zaa (o := 14) HLX.out rfl
      clear HLX
      obtain ⟨W0, hW0⟩ : ∃ W0, W0 = wr.alloc (.cells #[.int .i64 0, .int .i64 0, .int .i64 2, .string ⟨#[102]⟩, .slice none 0 0] 30) := ⟨_, rfl⟩
      have HKB : Hid (KF w P none (20 + 2) W0) := by rw [hW0]; exact hkf.out.next (zad _ _)
      have HCB : Hid (CbAt wr.heap.size 0 0 2 ⟨#[102]⟩ none 0 0 W0) := by rw [hW0]; exact heap_alloc_new _ _
      have HBW : Hid (Below wr.heap.size wr W0) := by rw [hW0]; exact zad _ _
      have HW0 := hid hW0
      have HLK : Hid (W0.drew.heap[lb]? = some (.cells LC 30 (0, 0))) := zae HBW.out (zab HLI.out) HLI.out
      clear hW0 hkf
      go_upto_region 12 with fail
      rw [← HW0.out]
      clear HW0
      generalize wr.heap.size = cb at *
      have HX0 : Hid (KF w P none (20 + 2) W0 ∧ CbAt cb 0 0 2 ⟨#[102]⟩ none 0 0 W0) := ⟨HKB.out, HCB.out⟩
      have HX0D : Hid (KF w P none (20 + 2) W0.drew ∧ CbAt cb 0 0 2 ⟨#[102]⟩ none 0 0 W0.drew) := ⟨HKB.out.next (Below.refl _ _).drew, HCB.out⟩
      have HDX := hid (fun W => HDO.out none (20 + 2) cb 0 0 2 ⟨#[102]⟩ none 0 0 [] W rfl ⟨by decide, by decide, by decide, by decide, by decide⟩ (.inl ⟨rfl, rfl, rfl, rfl⟩))
      have HMX := hid (fun a b l c W => HMO.out none (20 + 2) cb 0 0 2 ⟨#[102]⟩ none 0 0 [] a b l c W rfl (by decide) ⟨by decide, by decide, by decide, by decide, by decide⟩ (.inl ⟨rfl, rfl, rfl, rfl⟩))
      obtain ⟨g0, g1, g2, g3, g4⟩ := HCB.out.cells
      clear HKB l0 l1 l2 l3 l4 HLI
      first | (go_region_held3 (fun W => W.cell? ⟨cb, 0, none⟩ = some (.int .i64 0) ∧ W.cell? ⟨cb, 1, none⟩ = some (.int .i64 0) ∧ W.cell? ⟨cb, 2, none⟩ = some (.int .i64 2) ∧ W.cell? ⟨cb, 3, none⟩ = some (.string ⟨#[102]⟩) ∧ W.cell? ⟨cb, 4, none⟩ = some (.slice none 0 0)) (first | with_reducible exact ⟨by assumption, by assumption, by assumption, by assumption, by assumption⟩ | exact ⟨g0, g1, g2, g3, g4⟩)
       (first
        | (go_at_call 8; refine (HDX.out _ (by with_reducible assumption)).mono ?_; rintro e w' ⟨⟨a, b, l, c, rfl, HX1⟩, c0, c1, c2, c3, c4⟩)
        | (go_at_call 9; refine (HMX.out _ _ _ _ _ HX1.out.1 HX1.out.2.1).mono ?_; rintro e w' ⟨⟨rfl, HX2⟩, c0, c1, c2, c3, c4⟩))) | fail
      all_goals
       have HX3 : Hid (KF w P none (20 + 3) w') := HX2.out.1
       have HLJ : Hid (w'.heap[lb]? = some (.cells LC 30 (0, 0))) := HX2.out.2 _ _ (HX1.out.2.2 _ _ (HLK.out))
       clear c0 c1 c2 c3 c4 HX0 HX0D HX1 HX2 HDX HMX HCB g0 g1 g2 g3 g4 HBW HLK
       go_wp2_with fail
       go_roundw
       case rel => exact ⟨3, by omega, by go_num, HX3, HLJ⟩
       case measure => simp [intOf]
    ·obtain rfl : k = 3 := by omega
     have HKG : Hid (KF w P none 23 wr) := hkf.out
     clear hkf hgo hk HLI HLC
     obtain ⟨i, hi, hz0, hz1, hz2⟩ := info_parts infoU8
     have HZ2 := hid hz2
     go_wp2_with (at_make; refine wpList_make_full _ rfl _ _ _ rfl wr.heap.size _ i (.int .u8 0) 1 Tryz.underlying28 hi hz0 hz1 _ _ _ _ sz rfl rfl rfl rfl (by rw [HZ2.out]; have := HSZ.out; omega) (by unfold maxLen; have := HSZ.out; omega) (Nat.le_refl _) ?_)
     intro w6 hown hgrow
     have HBB : Hid (Below wr.heap.size wr w6) := ⟨hgrow.os, hgrow.tape, hgrow.output, hgrow.size, fun x hx => hgrow.block x hx (by simp)⟩
     obtain ⟨cu, hcu, hcl⟩ := made_block hown
     have HKB : Hid (KF w P (some (wr.heap.size, zem sz 0 x)) 23 w6) := by
      have e : cu = zem sz 0 x := by
       apply Array.ext'
       rw [hcl, ← made_fill sz x]
      rw [← e]
      exact HKG.out.row HBB.out hcu (Nat.le_refl _)
     have HBL : Hid (w.heap.size ≤ wr.heap.size) := HKG.out.low.size
     clear hown hgrow hcu hcl HBB HKG hi hz0 hz1 hz2 HZ2
     generalize wr.heap.size = bb at *
     go_wp2_with fail
     go_loopw [66] (fun idx wr => ∃ k : Nat, k ≤ sz ∧ idx = .int .i64 k ∧ Hid (KF w P (some (bb, zem sz k x)) 23 wr)) (fun idx _ => sz - (intOf idx).toNat)
     case atStart => exact ⟨0, Nat.zero_le _, rfl, HKB⟩
     case round =>
      clear HKB
      obtain ⟨k, hk, rfl, hkf⟩ := hrel
      by_cases hgo : k < sz
      ·have hki : (k : Int) < sz := by omega
       have hk30 : k < 30000 := by have := HSZ.out; omega
       have q1 : wr.cell? ⟨bb, k, none⟩ = some (.int .u8 0) := by
        obtain ⟨K, X, t, h⟩ := hkf.out
        exact zaa h.ext.1 (fillA_at x hgo)
       have q2 : wr.frozen? ⟨bb, k, none⟩ = false := by
        obtain ⟨K, X, t, h⟩ := hkf.out
        exact zah h.ext.1 k
       have HKN : Hid (KF w P (some (bb, zem sz (k + 1) x)) 23 (wr.setCell ⟨bb, k, none⟩ (.int .u8 x.toNat))) := by
        show KF _ _ _ _ _
        rw [← fillA_set x hgo]
        exact hkf.out.set HBL.out k _
       clear hkf
       go_wp2_with fail
       go_roundw
       case rel => exact ⟨k + 1, by omega, by go_num, HKN⟩
       case measure => simp [intOf]; omega
      ·obtain rfl : k = sz := by omega
       have HCL : Hid ((zem k k x).toList = u8s (List.replicate k x)) := fillA_all k x
       have HKG : Hid (KF w P (some (bb, zem k k x)) 23 wr) := hkf.out
       clear hkf hgo hk HBL
       generalize zem k k x = cur at *
       go_wp2_with fail
       go_loopw [75] (fun idx wr => ∃ j : Nat, j ≤ tm ∧ idx = .int .i64 j ∧ Hid (KF w P (some (bb, cur)) (23 + 15 * j) wr)) (fun idx _ => tm - (intOf idx).toNat)
       case atStart => exact ⟨0, Nat.zero_le _, rfl, HKG⟩
       case round =>
        clear HKG
        obtain ⟨j, hj, rfl, hkf⟩ := hrel
        by_cases hgo : j < tm
        ·have hji : (j : Int) < tm := by omega
         have HJ6 : Hid (j < 6) := by have := HTM.out; show _ < _; omega
         have HKI : Hid (KF w P (some (bb, cur)) (23 + 15 * j + 0) wr) := hkf.out
         have HJT := hid hgo
         clear hkf hj
         go_wp2_with fail
         (try simp only [show decide (j < tm) = true from decide_eq_true hgo])
         clear hji hgo
         go_loopw [16] (fun idx wr => ∃ fd : Nat, 1 ≤ fd ∧ fd ≤ 16 ∧ idx = .int .i64 fd ∧ Hid (KF w P (some (bb, cur)) (23 + 15 * j + (fd - 1)) wr)) (fun idx _ => 16 - (intOf idx).toNat)
         case atStart => exact ⟨1, by decide, by decide, rfl, HKI⟩
         case round =>
          clear HKI
          obtain ⟨fd, hfd1, hfd, rfl, hkf⟩ := hrel
          by_cases hlt : fd < 16
          ·have hfi : (fd : Int) < 16 := by omega
           have HFD : Hid (1 ≤ fd ∧ fd < 16) := ⟨hfd1, hlt⟩
           have HDL : Hid (k = (List.replicate k x).length) := by show _ = _; rw [List.length_replicate]
           have HOKC : Hid (CalOk ⟨6, fd, 0, ⟨#[]⟩, List.replicate k x⟩) := ⟨⟨by show (-9223372036854775808 : Int) ≤ 6; decide, by show (6 : Int) ≤ 9223372036854775807; decide⟩, ⟨by show (-9223372036854775808 : Int) ≤ (fd : Int); omega, by show (fd : Int) ≤ _; omega⟩, ⟨by show (-9223372036854775808 : Int) ≤ 0; decide, by show (0 : Int) ≤ 9223372036854775807; decide⟩, by show (⟨#[]⟩ : ByteArray).size ≤ 9223372036854775807; decide, by show (List.replicate k x).length ≤ _; rw [List.length_replicate]; have := HSZ.out; omega⟩
           have HDAT : Hid (DatOk (some (bb, cur)) (some ⟨bb, 0, none⟩) k k (List.replicate k x)) := .inr ⟨bb, cur, rfl, rfl, HDL.out, Nat.le_refl _, HCL.out⟩
           have hn8 : 23 + 15 * j + (fd - 1) < 80000 := by have := HJ6.out; omega
           have HN8 := hid hn8
           clear hn8
           obtain ⟨W0, hW0⟩ : ∃ W0, W0 = wr.alloc (.cells #[.int .i64 6, .int .i64 fd, .int .i64 0, .string ⟨#[]⟩, .slice (some ⟨bb, 0, none⟩) k k] 30) := ⟨_, rfl⟩
           have HKB : Hid (KF w P (some (bb, cur)) (23 + 15 * j + (fd - 1)) W0) := by rw [hW0]; exact hkf.out.next (zad _ _)
           have HCB : Hid (CbAt wr.heap.size 6 fd 0 ⟨#[]⟩ (some ⟨bb, 0, none⟩) k k W0) := by rw [hW0]; exact heap_alloc_new _ _
           have HBW : Hid (Below wr.heap.size wr W0) := by rw [hW0]; exact zad _ _
           have HW0 := hid hW0
           clear hW0 hkf
           go_upto_region 27 with fail
           rw [← HW0.out]
           clear HW0
           generalize wr.heap.size = cb at *
           have HX0 : Hid (KF w P (some (bb, cur)) (23 + 15 * j + (fd - 1)) W0 ∧ CbAt cb 6 fd 0 ⟨#[]⟩ (some ⟨bb, 0, none⟩) k k W0) := ⟨HKB.out, HCB.out⟩
           have HX0D : Hid (KF w P (some (bb, cur)) (23 + 15 * j + (fd - 1)) W0.drew ∧ CbAt cb 6 fd 0 ⟨#[]⟩ (some ⟨bb, 0, none⟩) k k W0.drew) := ⟨HKB.out.next (Below.refl _ _).drew, HCB.out⟩
           have HDX := hid (fun W => HDO.out (some (bb, cur)) (23 + 15 * j + (fd - 1)) cb 6 fd 0 ⟨#[]⟩ (some ⟨bb, 0, none⟩) k k (List.replicate k x) W HDL.out HOKC.out HDAT.out)
           have HMX := hid (fun a b l c W => HMO.out (some (bb, cur)) (23 + 15 * j + (fd - 1)) cb 6 fd 0 ⟨#[]⟩ (some ⟨bb, 0, none⟩) k k (List.replicate k x) a b l c W HDL.out HN8.out HOKC.out HDAT.out)
           obtain ⟨g0, g1, g2, g3, g4⟩ := HCB.out.cells
           clear HKB
           first | (go_region_held3 (fun W => W.cell? ⟨cb, 0, none⟩ = some (.int .i64 6) ∧ W.cell? ⟨cb, 1, none⟩ = some (.int .i64 fd) ∧ W.cell? ⟨cb, 2, none⟩ = some (.int .i64 0) ∧ W.cell? ⟨cb, 3, none⟩ = some (.string ⟨#[]⟩) ∧ W.cell? ⟨cb, 4, none⟩ = some (.slice (some ⟨bb, 0, none⟩) k k)) (first | with_reducible exact ⟨by assumption, by assumption, by assumption, by assumption, by assumption⟩ | exact ⟨g0, g1, g2, g3, g4⟩)
            (first
             | (go_at_call 8; refine (HDX.out _ (by with_reducible assumption)).mono ?_; rintro e w' ⟨⟨a, b, l, c, rfl, HX1⟩, c0, c1, c2, c3, c4⟩)
             | (go_at_call 9; refine (HMX.out _ _ _ _ _ HX1.out.1 HX1.out.2.1).mono ?_; rintro e w' ⟨⟨rfl, HX2⟩, c0, c1, c2, c3, c4⟩))) | fail
           all_goals
            have HX3 : Hid (KF w P (some (bb, cur)) (23 + 15 * j + ((fd + 1) - 1)) w') := by
             have h := HX2.out.1
             have e : 23 + 15 * j + ((fd + 1) - 1) = 23 + 15 * j + (fd - 1) + 1 := by have := HFD.out; omega
             show KF _ _ _ _ _
             rw [e]
             exact h
            clear c0 c1 c2 c3 c4 HX0 HX0D HX1 HX2 HDX HMX HCB g0 g1 g2 g3 g4 HBW
            go_wp2_with fail
            go_roundw
            case rel => exact ⟨fd + 1, by omega, by omega, by go_num, HX3⟩
            case measure => simp [intOf]; omega
          ·obtain rfl : fd = 16 := by omega
           have HX3 : Hid (KF w P (some (bb, cur)) (23 + 15 * (j + 1)) wr) := hkf.out
           have hj6 : j < 6 := HJ6.out
           clear hkf
           go_wp2_with fail
           go_roundw
           case rel => exact ⟨j + 1, by have := HJT.out; omega, by go_num, HX3⟩
           case measure => have := HJT.out; simp [intOf]; omega
        ·have hji : (tm : Int) ≤ j := by omega
         have HJ6 : Hid (j ≤ 6) := by have := HTM.out; show _ ≤ _; omega
         obtain ⟨K5, X5, t5, h5⟩ := hkf.out
         obtain ⟨oa, oc, q1, q2, hos⟩ := h5.con0
         have q3 : wr.cell? ⟨P.xb, 0, none⟩ = some (.pointer (some ⟨P.rb, 0, none⟩)) := by
          have h1 := h5.mem.xrep.kern.tree
          rw [h5.plc.2.1, h5.plc.2.2.1] at h1
          exact h1
         have HZ := hid h5
         have HOS := hid hos
         have HK3 : Hid (∀ W, Below wr.heap.size wr W → W.cell? ⟨P.xb, 17, none⟩ = some (.pointer (some ⟨P.n0, 0, none⟩)) ∧ W.cell? ⟨P.n0, 1, none⟩ = some (.slice oa K5.outL.length oc) ∧ W.cell? ⟨P.xb, 0, none⟩ = some (.pointer (some ⟨P.rb, 0, none⟩))) := fun W hb => ⟨zbg hb q1, zbg hb q2, zbg hb q3⟩
         have HTXT : Hid (∀ W, Hid (Below wr.heap.size wr W) → Calls Tryz.prog 13 #[.pointer (some ⟨P.tb, 0, none⟩)] W fun e w2 => (e = .returned (.string ⟨K5.T.txt.toArray⟩) ∧ Hid (Below wr.heap.size wr w2)) ∧ w2.cell? ⟨P.xb, 17, none⟩ = some (.pointer (some ⟨P.n0, 0, none⟩)) ∧ w2.cell? ⟨P.n0, 1, none⟩ = some (.slice oa K5.outL.length oc) ∧ w2.cell? ⟨P.xb, 0, none⟩ = some (.pointer (some ⟨P.rb, 0, none⟩))) := fun W h => (st_text (by have := HJ6.out; omega) (HZ.out.next h.out)).mono fun e w2 ⟨he, hb⟩ => ⟨⟨he, zaf h.out hb⟩, HK3.out w2 (zaf h.out hb)⟩
         have HRTX : Hid (∀ W, Hid (Below wr.heap.size wr W) → Calls Tryz.prog 14 #[.pointer (some ⟨P.rb, 0, none⟩)] W fun e w2 => (e = .returned (.string ⟨K5.T.txt.toArray⟩) ∧ Hid (Below wr.heap.size wr w2)) ∧ w2.cell? ⟨P.xb, 17, none⟩ = some (.pointer (some ⟨P.n0, 0, none⟩)) ∧ w2.cell? ⟨P.n0, 1, none⟩ = some (.slice oa K5.outL.length oc) ∧ w2.cell? ⟨P.xb, 0, none⟩ = some (.pointer (some ⟨P.rb, 0, none⟩))) := fun W h => (st_rtext (by have := HJ6.out; omega) (HTB.out W (HZ.out.next h.out).low) (HZ.out.next h.out).low.size (HZ.out.next h.out)).mono fun e w2 ⟨he, hb⟩ => ⟨⟨he, zaf h.out hb⟩, HK3.out w2 (zaf h.out hb)⟩
         have HOT : Hid (∀ W, Hid (Below wr.heap.size wr W) → Calls Tryz.prog 11 #[.pointer (some ⟨P.kb, 0, none⟩)] W fun e w2 => (∃ va' vc', e = .returned (.slice va' K5.outL.length vc') ∧ Hid (Below wr.heap.size wr w2 ∧ Src w2 (.slice va' K5.outL.length vc') K5.outL)) ∧ w2.cell? ⟨P.xb, 17, none⟩ = some (.pointer (some ⟨P.n0, 0, none⟩)) ∧ w2.cell? ⟨P.n0, 1, none⟩ = some (.slice oa K5.outL.length oc) ∧ w2.cell? ⟨P.xb, 0, none⟩ = some (.pointer (some ⟨P.rb, 0, none⟩))) := fun W h => (st_out (HZ.out.next h.out)).mono fun e w2 ⟨v, he, hr, hb⟩ => by
          obtain ⟨va', vc', rfl⟩ := zak hr
          exact ⟨⟨va', vc', he, zaf h.out hb, Src.of_owns hr⟩, HK3.out w2 (zaf h.out hb)⟩
         have HBO : Hid (∀ va' vc' W, Hid (Below wr.heap.size wr W ∧ Src W (.slice va' K5.outL.length vc') K5.outL) → Calls Tryz.prog 10 #[.slice va' K5.outL.length vc', .slice oa K5.outL.length oc] W fun e w2 => (e = .returned (.bool true) ∧ Hid (Below wr.heap.size wr w2)) ∧ w2.cell? ⟨P.xb, 17, none⟩ = some (.pointer (some ⟨P.n0, 0, none⟩)) ∧ w2.cell? ⟨P.n0, 1, none⟩ = some (.slice oa K5.outL.length oc) ∧ w2.cell? ⟨P.xb, 0, none⟩ = some (.pointer (some ⟨P.rb, 0, none⟩))) := fun va' vc' W h => (bytes_true va' vc' oa oc W h.out.2 (src_up HOS.out h.out.1)).mono fun e w2 ⟨he, hb⟩ => by subst hb; exact ⟨⟨he, h.out.1⟩, HK3.out _ h.out.1⟩
         have HTR : Hid (∀ W, Hid (Below wr.heap.size wr W) → Calls Tryz.prog 12 #[.pointer (some ⟨P.kb, 0, none⟩)] W fun e w2 => (e = .returned (.pointer (some ⟨P.tb, 0, none⟩)) ∧ Hid (Below wr.heap.size wr w2)) ∧ w2.cell? ⟨P.xb, 17, none⟩ = some (.pointer (some ⟨P.n0, 0, none⟩)) ∧ w2.cell? ⟨P.n0, 1, none⟩ = some (.slice oa K5.outL.length oc) ∧ w2.cell? ⟨P.xb, 0, none⟩ = some (.pointer (some ⟨P.rb, 0, none⟩))) := fun W h => by
          have h2 := HZ.out.next h.out
          have hd := kern_Tree h2.mem.krep.kern
          rw [h2.plc.1.1, h2.plc.1.2] at hd
          exact hd.mono fun e w2 ⟨he, hw⟩ => by subst hw; exact ⟨⟨he, h.out⟩, HK3.out _ h.out⟩
         have HAW : Hid (∀ W, Hid (Below wr.heap.size wr W) → Calls Tryz.prog 15 #[] W fun e w2 => (e = .returned (.bool true) ∧ Hid (Below w.heap.size w w2)) ∧ w2.cell? ⟨P.xb, 17, none⟩ = some (.pointer (some ⟨P.n0, 0, none⟩)) ∧ w2.cell? ⟨P.n0, 1, none⟩ = some (.slice oa K5.outL.length oc) ∧ w2.cell? ⟨P.xb, 0, none⟩ = some (.pointer (some ⟨P.rb, 0, none⟩))) := fun W h => (awake_any W (HE.out W (HZ.out.next h.out).low)).mono fun e w2 ⟨he, hb⟩ => ⟨⟨he, (HZ.out.next h.out).low.trans (hb.mono (HZ.out.next h.out).low.size)⟩, HK3.out w2 (zaf h.out hb)⟩
         clear h5 hos hkf HZ HOS HK3
         generalize K5.outL = ol at *
         generalize K5.T.txt = tx at *
         have HBR : Hid (Below wr.heap.size wr wr) := Below.refl _ _
         have HBD : Hid (Below wr.heap.size wr wr.drew) := (Below.refl _ _).drew
         go_wp2_with fail
         first | (go_region_held3 (fun W => W.cell? ⟨P.xb, 17, none⟩ = some (.pointer (some ⟨P.n0, 0, none⟩)) ∧ W.cell? ⟨P.n0, 1, none⟩ = some (.slice oa ol.length oc) ∧ W.cell? ⟨P.xb, 0, none⟩ = some (.pointer (some ⟨P.rb, 0, none⟩))) (first | with_reducible exact ⟨by assumption, by assumption, by assumption⟩ | exact ⟨q1, q2, q3⟩)
          (first
           | (go_at_call 11; refine (HOT.out _ (by with_reducible assumption)).mono ?_; rintro e w2 ⟨⟨xa', xc', rfl, HY1⟩, d0, d1, d2⟩)
           | (go_at_call 10; refine (HBO.out _ _ _ HY1).mono ?_; rintro e w2 ⟨⟨rfl, HY2⟩, d0, d1, d2⟩)
           | (go_at_call 12; refine (HTR.out _ HY2).mono ?_; rintro e w2 ⟨⟨rfl, HY3⟩, d0, d1, d2⟩)
           | (go_at_call 13; refine (HTXT.out _ HY3).mono ?_; rintro e w2 ⟨⟨rfl, HY4⟩, d0, d1, d2⟩)
           | (go_at_call 14; refine (HRTX.out _ HY4).mono ?_; rintro e w2 ⟨⟨rfl, HY5⟩, d0, d1, d2⟩)
           | (go_at_call 15; refine (HAW.out _ HY5).mono ?_; rintro e w2 ⟨⟨rfl, HY6⟩, d0, d1, d2⟩))) | fail
         all_goals
          go_wp2_with fail
          go_ret
          exact ⟨rfl, HY6.out⟩
end Go.Proofs.YteeeaeiafdgpkaaGreatDoor
