/-
 The document's kern: Put into the console, Put into a file.
 The document's kern: Put into a file.
 The document's kern: Write.
 The document's kern: Pipe.
 The document's kern: NewKern.
-/
import Derived.Test.YteeeaeiafdgpkaaGreatDoorRKernX
import Derived.Maps.AppendAt
namespace Go.Proofs.YteeeaeiafdgpkaaGreatDoor
open Go Go.RowKit
open Go.Lib (hid)
section
theorem ap_known_at {w : World} (base : Nat) (v : Value) (n : Nat) (xs : List Value) (hown : w.ownsRow base 5 1 v n xs) (sv : Value) (l : List UInt8) (hl : Src w sv l) (hn : n + l.length ≤ 140737488355328) (hbase : base ≤ w.heap.size) :
  ApOk w v sv ∧ apN w v sv = n + l.length ∧ (apW w v sv).ownsRow base 5 1 (.slice (apA w v sv) (apN w v sv) (apC w v sv)) (n + l.length) (xs ++ u8s l) ∧ w.grownBy (apW w v sv) v.ownBlock ∧
   ((Value.slice (apA w v sv) (apN w v sv) (apC w v sv)).ownBlock = v.ownBlock ∨ (Value.slice (apA w v sv) (apN w v sv) (apC w v sv)).ownBlock = some w.heap.size) := by
 have key : ∃ v' w', (Builtin.append_ #[28, 28] 28 #[v, sv]).run Tryz.prog w = .ok v' w' ∧ w'.ownsRow base 5 1 v' (n + l.length) (xs ++ u8s l) ∧ w.grownBy w' v.ownBlock ∧ (v'.ownBlock = v.ownBlock ∨ v'.ownBlock = some w.heap.size) := by
  obtain ⟨i, hi, hz0, hz1, hz2⟩ := info_parts infoU8
  rcases hl with ⟨rfl, rfl⟩ | ⟨ad, c, rfl, _, hcell⟩
  ·have hrun := run_append_owned_none (P := Tryz.prog) (w := w) base 28 28 5 i 1 Tryz.underlying28 hi v n xs hown
   exact ⟨v, w, hrun, by simpa [u8s] using hown, ⟨rfl, rfl, rfl, Nat.le_refl _, fun _ _ _ => rfl⟩, .inl rfl⟩
  ·have hcells : ∀ j u, (u8s l)[j]? = some u → w.cell? (ad.add j) = some u := by
    intro j u hu
    have hj : j < l.length := by
     have := (List.getElem?_eq_some_iff.1 hu).1
     simpa [u8s] using this
    have h1 := hcell j hj
    have : u = .int .u8 l[j].toNat := by
     unfold u8s at hu
     rw [List.getElem?_map, List.getElem?_eq_getElem hj] at hu
     simpa using hu.symm
    rw [this]
    exact h1
   have hone : ∀ u ∈ u8s l, u.oneCell' = true := by
    intro u hu
    unfold u8s at hu
    obtain ⟨y, _, rfl⟩ := List.mem_map.1 hu
    rfl
   obtain ⟨v', w', h1, h2, h3, _, h4⟩ := Go.run_append_own_at (P := Tryz.prog) w base 28 28 5 i (.int .u8 0) 1 1 Tryz.underlying28 hi hz0 hz1 hz2 rfl (by decide) v n xs hown ad l.length c (u8s l) (by simp [u8s]) hcells hone (by unfold maxLen; omega) (by omega) hbase
   exact ⟨v', w', h1, h2, h3, h4⟩
 obtain ⟨v', w', h1, h2, h3, h4⟩ := key
 obtain ⟨a, c, rfl⟩ := zak h2
 have hr : apRun w v sv = .ok (.slice a (n + l.length) c) w' := h1
 have e1 : apA w v sv = a := by unfold apA; rw [hr]
 have e2 : apN w v sv = n + l.length := by unfold apN; rw [hr]
 have e3 : apC w v sv = c := by unfold apC; rw [hr]
 have e4 : apW w v sv = w' := by unfold apW; rw [hr]
 rw [e1, e2, e3, e4]
 exact ⟨⟨a, _, c, w', hr⟩, rfl, h2, h3, h4⟩
def RLogPost (B : Nat) (w : World) (m : Nat) (v : Value) (tk : Int) (l : List UInt8) (e : Ending) (w' : World) : Prop :=
 e = .returned flt0 ∧ ∃ v', w'.heap[m]? = some (.cells #[.bool false, v', .int .i64 tk] 41 (0, 0)) ∧ w'.ownsRow B 5 1 v' l.length (u8s l) ∧ Kept (fun q => q = m ∨ v.ownBlock = some q) w w' ∧ (∀ q, v'.ownBlock = some q → v.ownBlock = some q ∨ w.heap.size ≤ q)
section
attribute [local go_sem ↓] ap_rule2
set_option maxRecDepth 100000 in
set_option maxHeartbeats 2000000 in
theorem rk_put_log {B : Nat} {w : World} {o : Nat} {x : ROp} (hx : zbi w o x) (ho : x.out = true) (hl : x.log = true) {v : Value} {tk : Int} {l : List UInt8} (hB : B ≤ w.heap.size) (hm : w.heap[x.node]? = some (.cells #[.bool false, v, .int .i64 tk] 41 (0, 0))) (hrow : w.ownsRow B 5 1 v l.length (u8s l)) (rt : Nat) (bv : Value) (b : List UInt8) (hs : Src w bv b) (hfit : l.length + b.length ≤ 65536) :
  Calls Tryz.prog 63 #[.pointer (some ⟨o, 0, none⟩), .pointer (some ⟨rt, 0, none⟩), bv] w fun e w' => RLogPost B w x.node v tk (l ++ b) e w' := by
 have hbv : ∃ ba bc, bv = .slice ba b.length bc := by
  rcases hs with ⟨h1, h2⟩ | ⟨ad, c, h1, _⟩
  ·exact ⟨none, 0, by rw [h1, h2]; rfl⟩
  ·exact ⟨_, _, h1⟩
 obtain ⟨ba, bc, rfl⟩ := hbv
 obtain ⟨va, vc, rfl⟩ := zak hrow
 obtain ⟨m, i0, i1, i2, pl, lg⟩ := x
 have ho : i1 = true := ho
 have hl : lg = true := hl
 subst ho hl
 have hm : w.heap[m]? = some (.cells #[.bool false, .slice va l.length vc, .int .i64 tk] 41 (0, 0)) := hm
 have HB0 := hid (zad w (.cells #[.int .i64 0, .int .i64 0, .int .i64 0] 32))
 have HH0 := hid (heap_alloc_new w (.cells #[.int .i64 0, .int .i64 0, .int .i64 0] 32))
 have HBS := hid hB
 have HX0 : Hid (zbi (w.alloc (.cells #[.int .i64 0, .int .i64 0, .int .i64 0] 32)) o ⟨m, i0, true, i2, pl, true⟩) := zae HB0.out (zab hx) hx
 have HM0 := hid (zae HB0.out (zab hm) hm)
 have HRW := hid (zai hrow (Kept.of_below HB0.out (fun _ => False)) (fun _ _ h => h))
 have HSR := hid (hs.kept (Kept.of_below HB0.out (fun _ => False)) (fun _ _ h => h))
 have HVR : Hid (∀ q, (Value.slice va l.length vc).ownBlock = some q → q < w.heap.size ∧ q ≠ m ∧ q ≠ o) := fun q hq => by
  obtain ⟨cur, hc⟩ := zaq hrow hq
  exact ⟨zab hc, fun h => by rw [h] at hc; exact zac hc hm (by decide) rfl, fun h => by rw [h] at hc; exact zac hc hx (by decide) rfl⟩
 have HML : Hid (m < w.heap.size) := zab hm
 have HMO : Hid (m ≠ o) := hid (fun h => by rw [h] at hm; exact zac hm hx (by decide) rfl)
 have HFIT := hid hfit
 have hl1 : l.length ≤ 65536 := by omega
 have e1 : IntKind.i64.wrap (65536 - (l.length : Int)) = 65536 - l.length := IntWalk.i64_in _ (by omega)
 have h2 : ¬ 65536 - (l.length : Int) < b.length := by omega
 clear hx hm hrow hs hB hfit hl1
 have q0 := zaa (o := 0) HX0.out rfl
 have q2 := zaa (o := 2) HX0.out rfl
 have q5 := zaa (o := 5) HX0.out rfl
 have k1 := zaa (o := 1) HM0.out rfl
 go_enter Tryz.func63, Tryz.ntmps63
 go_upto_region 6 with fail
 clear e1 h2 q2 q5
 generalize w.alloc (.cells #[.int .i64 0, .int .i64 0, .int .i64 0] 32) = w0 at *
 obtain ⟨hok, hn2, hown2, hgrow2, hat2⟩ := ap_known_at (w := w0.drew) B (.slice va l.length vc) l.length (u8s l) (World.ownsRow.drew HRW.out) (.slice ba b.length bc) b (HSR.out.kept (Kept.of_below (Below.refl _ _).drew (fun _ => False)) (fun _ _ h => h)) (by have := HFIT.out; omega) (Nat.le_trans HBS.out HB0.out.size)
 have HO2 := hid hown2
 have HG2 := hid hgrow2
 have HA2 := hid hat2
 have hn2 : apN w0.drew (.slice va l.length vc) (.slice ba b.length bc) = l.length + b.length := hn2
 have HXA : Hid (zbi (apW w0.drew (.slice va l.length vc) (.slice ba b.length bc)) o ⟨m, i0, true, i2, pl, true⟩) := (hgrow2.block o (zab HX0.out) (fun h => (HVR.out o h.symm).2.2 rfl)).trans HX0.out
 have HMA : Hid ((apW w0.drew (.slice va l.length vc) (.slice ba b.length bc)).heap[m]? = some (.cells #[.bool false, .slice va l.length vc, .int .i64 tk] 41 (0, 0))) := (hgrow2.block m (zab HM0.out) (fun h => (HVR.out m h.symm).2.1 rfl)).trans HM0.out
 have HHA : Hid ((apW w0.drew (.slice va l.length vc) (.slice ba b.length bc)).heap[w.heap.size]? = some (.cells #[.int .i64 0, .int .i64 0, .int .i64 0] 32 (0, 0))) := (hgrow2.block _ (zab HH0.out) (fun h => by have := (HVR.out _ h.symm).1; omega)).trans HH0.out
 have HOA : Hid ((apW w0.drew (.slice va l.length vc) (.slice ba b.length bc)).ownsRow B 5 1 (.slice (apA w0.drew (.slice va l.length vc) (.slice ba b.length bc)) (l.length + b.length) (apC w0.drew (.slice va l.length vc) (.slice ba b.length bc))) (l ++ b).length (u8s (l ++ b))) := by
  show World.ownsRow _ _ _ _ _ _ _
  rw [List.length_append, zbw, ← hn2]
  rw [hn2] at hown2 ⊢
  exact hown2
 have HKA : Hid (Kept (fun q => q = m ∨ (Value.slice va l.length vc).ownBlock = some q) w (apW w0.drew (.slice va l.length vc) (.slice ba b.length bc))) := ((Kept.of_below HB0.out _).drew).grown hgrow2 (fun k hk => .inl (.inr hk))
 have HFA : Hid (∀ q, (Value.slice (apA w0.drew (.slice va l.length vc) (.slice ba b.length bc)) (l.length + b.length) (apC w0.drew (.slice va l.length vc) (.slice ba b.length bc))).ownBlock = some q → (Value.slice va l.length vc).ownBlock = some q ∨ w.heap.size ≤ q) := fun q hq => by
  rw [hn2] at hat2
  rcases hat2 with h | h
  ·exact .inl (h.symm.trans hq)
  ·rw [h] at hq
   have h1 : w0.drew.heap.size = q := Option.some.inj hq
   have h2 : w.heap.size < w0.heap.size := zab HH0.out
   have h3 : w0.drew.heap.size = w0.heap.size := rfl
   exact .inr (by omega)
 have HMQ : Hid (∀ q, (Value.slice (apA w0.drew (.slice va l.length vc) (.slice ba b.length bc)) (l.length + b.length) (apC w0.drew (.slice va l.length vc) (.slice ba b.length bc))).ownBlock = some q → q ≠ m ∧ q ≠ w.heap.size) := fun q hq => by
  rw [hn2] at hat2
  rcases hat2 with h | h
  ·have h1 := HVR.out q (h.symm.trans hq)
   exact ⟨h1.2.1, by omega⟩
  ·rw [h] at hq
   have h1 : w0.drew.heap.size = q := Option.some.inj hq
   have h2 : w.heap.size < w0.heap.size := zab HH0.out
   have h3 : w0.drew.heap.size = w0.heap.size := rfl
   have h4 := HML.out
   exact ⟨by omega, by omega⟩
 have HM5 : Hid (((apW w0.drew (.slice va l.length vc) (.slice ba b.length bc)).setCell ⟨m, 1, none⟩ (.slice (apA w0.drew (.slice va l.length vc) (.slice ba b.length bc)) (l.length + b.length) (apC w0.drew (.slice va l.length vc) (.slice ba b.length bc)))).heap[m]? = some (.cells #[.bool false, (.slice (apA w0.drew (.slice va l.length vc) (.slice ba b.length bc)) (l.length + b.length) (apC w0.drew (.slice va l.length vc) (.slice ba b.length bc))), .int .i64 tk] 41 (0, 0))) := zaj HMA.out 1 _
 have HK5 : Hid (Kept (fun q => q = m ∨ (Value.slice va l.length vc).ownBlock = some q) w ((apW w0.drew (.slice va l.length vc) (.slice ba b.length bc)).setCell ⟨m, 1, none⟩ (.slice (apA w0.drew (.slice va l.length vc) (.slice ba b.length bc)) (l.length + b.length) (apC w0.drew (.slice va l.length vc) (.slice ba b.length bc))))) := HKA.out.setCell (p := ⟨m, 1, none⟩) (.inl (.inl rfl)) _
 have HR5 : Hid (((apW w0.drew (.slice va l.length vc) (.slice ba b.length bc)).setCell ⟨m, 1, none⟩ (.slice (apA w0.drew (.slice va l.length vc) (.slice ba b.length bc)) (l.length + b.length) (apC w0.drew (.slice va l.length vc) (.slice ba b.length bc)))).ownsRow B 5 1 (.slice (apA w0.drew (.slice va l.length vc) (.slice ba b.length bc)) (l.length + b.length) (apC w0.drew (.slice va l.length vc) (.slice ba b.length bc))) (l ++ b).length (u8s (l ++ b))) := zai HOA.out ((Kept.refl (fun q => q = m) _).setCell (p := ⟨m, 1, none⟩) (.inl rfl) _) (fun q hq hf => (HMQ.out q hq).1 hf)
 have HH5 : Hid (((apW w0.drew (.slice va l.length vc) (.slice ba b.length bc)).setCell ⟨m, 1, none⟩ (.slice (apA w0.drew (.slice va l.length vc) (.slice ba b.length bc)) (l.length + b.length) (apC w0.drew (.slice va l.length vc) (.slice ba b.length bc)))).heap[w.heap.size]? = some (.cells #[.int .i64 0, .int .i64 0, .int .i64 0] 32 (0, 0))) := (zag _ _ _ (show w.heap.size ≠ m by have := HML.out; omega)).trans HHA.out
 clear hown2 hgrow2 hat2
 have p0 := zaa (o := 0) HXA.out rfl
 have j1 := zaa (o := 1) HMA.out rfl
 have jf := fun q => zah HMA.out q
 have mf := fun q => zah HM0.out q
 go_region
 all_goals
  clear p0 j1 jf mf q0 k1 hok hn2 HOA HKA HXA HMA HHA
  generalize (apW w0.drew (.slice va l.length vc) (.slice ba b.length bc)).setCell ⟨m, 1, none⟩ (.slice (apA w0.drew (.slice va l.length vc) (.slice ba b.length bc)) (l.length + b.length) (apC w0.drew (.slice va l.length vc) (.slice ba b.length bc))) = w6 at *
  generalize ((.slice (apA w0.drew (.slice va l.length vc) (.slice ba b.length bc)) (l.length + b.length) (apC w0.drew (.slice va l.length vc) (.slice ba b.length bc))) : Value) = v6 at *
  obtain ⟨g0, g1, g2⟩ := zz3 HH5.out
  have gf := fun o => zah HH5.out o
  have HY := hid (zap HH5.out (.int .i64 0) (.int .i64 0) (.int .i64 0))
  have HKS := hid (zao w6 w.heap.size (.int .i64 0) (.int .i64 0) (.int .i64 0))
  go_wp2_with fail
  clear g0 g1 g2 gf
  generalize ((w6.setCell ⟨w.heap.size, 0, none⟩ (.int .i64 0)).setCell ⟨w.heap.size, 1, none⟩ (.int .i64 0)).setCell ⟨w.heap.size, 2, none⟩ (.int .i64 0) = W at *
  obtain ⟨r0, r1, r2⟩ := zz3 HY.out
  refine bodyPost_ret (v := flt0) ?_ rfl (⟨rfl, v6, (HKS.out.block m (zab HM5.out) (fun h => by have := HML.out; omega)).trans HM5.out, zai HR5.out HKS.out (fun q hq hf => (HMQ.out q hq).2 hf), HK5.out.trans HKS.out (fun b h => .inr (by rw [h]; exact Nat.le_refl _)), HFA.out⟩)
  simp [results, Tryz.results63, go_sem, r0, r1, r2, flt0]
end
end
section
def ROp.at (x : ROp) (dl : Nat) : Int := if x.add then dl else x.place
structure RPutPost (B : Nat) (w : World) (R : RT) (o : Nat) (x : ROp) (d : RNd) (pos : Int) (b : List UInt8) (e : Ending) (w' : World) : Prop where
 kept : Kept (fun q => R.foot q ∨ q = o) w w'
 case : (∃ c, c ≠ 0 ∧ e = .returned (fltV c) ∧ RRep B w' R ∧ zbi w' o x ∧ ((c = 1 ∧ pos < 0) ∨ (c = 19 ∧ 0 ≤ pos ∧ 65536 < pos + b.length))) ∨
  (e = .returned flt0 ∧ 0 ≤ pos ∧ pos + b.length ≤ 65536 ∧ zbi w' o { x with place := pos + b.length } ∧
   ∃ R', RRep B w' R' ∧ ((b = [] ∧ R' = R) ∨ (0 < b.length ∧ R'.tb = R.tb ∧ RTurned R R' x.node d (zb9 d.data pos.toNat b) ∧ za5 w.heap.size R R')))
set_option maxRecDepth 100000 in
set_option maxHeartbeats 1000000 in
theorem rk_put_file_a {B : Nat} {R : RT} {w : World} (hR : RRep B w R) (hrb : RB R) {o m : Nat} {i0 : Bool} {pl : Int} (hx : zbi w o ⟨m, i0, true, true, pl, false⟩) {d : RNd} (hd : R.nd m = some d) (hdl : d.data.length ≤ 65536) (bv : Value) (b : List UInt8) (hs : Src w bv b) (hbl : b.length ≤ 140737488355328) :
  Calls Tryz.prog 63 #[.pointer (some ⟨o, 0, none⟩), .pointer (some ⟨R.tb, 0, none⟩), bv] w fun e w' => RPutPost B w R o ⟨m, i0, true, true, pl, false⟩ d (d.data.length : Int) b e w' := by
 have hbv : ∃ ba bc, bv = .slice ba b.length bc := by
  rcases hs with ⟨h1, h2⟩ | ⟨ad, c, h1, _⟩
  ·exact ⟨none, 0, by rw [h1, h2]; rfl⟩
  ·exact ⟨_, _, h1⟩
 obtain ⟨ba, bc, rfl⟩ := hbv
 have HR := hid hR
 have HOR : Hid (¬ R.foot o) := hR.not_foot hx (by decide) (by decide) (by decide) (by decide)
 have HB0 := hid (zad w (.cells #[.int .i64 0, .int .i64 0, .int .i64 0] 32))
 have HH0 := hid (heap_alloc_new w (.cells #[.int .i64 0, .int .i64 0, .int .i64 0] 32))
 have HOL : Hid (o ≠ w.heap.size) := hid (by have := zab hx; omega)
 have hx0 : zbi (w.alloc (.cells #[.int .i64 0, .int .i64 0, .int .i64 0] 32)) o ⟨m, i0, true, true, pl, false⟩ := zae HB0.out (zab hx) hx
 have HX0 := hid hx0
 have HW : Hid (∀ W, Below w.heap.size w W → Calls Tryz.prog 89 #[.pointer (some ⟨R.tb, 0, none⟩), .pointer (some ⟨m, 0, none⟩), .int .i64 (d.data.length : Int), .slice ba b.length bc] W fun e w' => RWAPost B W R m d (d.data.length : Int) b e w') := fun W hW => ref_writeAt (d.data.length : Int) _ b W (hR.below hW) hrb m d hd hdl (hs.kept (Kept.of_below hW (fun _ => False)) (fun _ _ h => h))
 have q0 : _ = some (Value.pointer (some ⟨m, 0, none⟩)) := zaa (o := 0) hx0 rfl
 have q2 : _ = some (Value.bool true) := zaa (o := 2) hx0 rfl
 have q3 : _ = some (Value.bool true) := zaa (o := 3) hx0 rfl
 have q4 : _ = some (Value.int .i64 pl) := zaa (o := 4) hx0 rfl
 have q5 : _ = some (Value.bool false) := zaa (o := 5) hx0 rfl
 obtain ⟨va, vc, hv⟩ := zak (hR.node _ d hd).2
 have k1 : (w.alloc (.cells #[.int .i64 0, .int .i64 0, .int .i64 0] 32)).cell? ⟨m, 1, none⟩ = some (.slice va d.data.length vc) := by rw [← hv]; exact zaa (o := 1) ((hR.below HB0.out).node _ d hd).1 rfl
 have hwr : IntKind.i64.wrap ((d.data.length : Int) + b.length) = (d.data.length : Int) + b.length := IntWalk.i64_in _ (by omega)
 have HWR := hid hwr
 clear hR hrb hx hx0 hd hs hbl hdl hv hwr
 go_enter Tryz.func63, Tryz.ntmps63
 go_wp2_with fail
 generalize w.alloc (.cells #[.int .i64 0, .int .i64 0, .int .i64 0] 32) = w0 at *
 refine (HW.out w0 HB0.out).mono ?_
 intro e w2 hp
 have HR1 := hid (HR.out.below HB0.out)
 have HH2 : Hid (w2.heap[w.heap.size]? = some (.cells #[.int .i64 0, .int .i64 0, .int .i64 0] 32 (0, 0))) := (hp.kept.block _ (zab HH0.out) (HR1.out.not_foot HH0.out (by decide) (by decide) (by decide) (by decide))).trans HH0.out
 have HX2 : Hid (zbi w2 o ⟨m, i0, true, true, pl, false⟩) := (hp.kept.block _ (zab HX0.out) HOR.out).trans HX0.out
 have HKP : Hid (Kept (fun q => R.foot q ∨ q = o) w w2) := (Kept.of_below HB0.out _).trans hp.kept (fun b h => .inl (.inl h))
 have HFB : Hid (w.heap.size ≠ w2.heap.size) := hid (by have := zab HH2.out; omega)
 have HOF : Hid (o ≠ w2.heap.size) := hid (by have := zab HX2.out; omega)
 have HS0 : Hid (w.heap.size ≤ w0.heap.size) := HB0.out.size
 clear q0 q2 q3 q4 q5 k1
 have hcs : (∃ c, c ≠ 0 ∧ e = .returned (fltV c) ∧ RRep B w2 R ∧ ((c = 1 ∧ (d.data.length : Int) < 0) ∨ (c = 19 ∧ 0 ≤ (d.data.length : Int) ∧ 65536 < (d.data.length : Int) + b.length))) ∨
   (e = .returned flt0 ∧ 0 ≤ (d.data.length : Int) ∧ (d.data.length : Int) + b.length ≤ 65536 ∧ ∃ R', RRep B w2 R' ∧ ((b = [] ∧ R' = R) ∨ (0 < b.length ∧ R'.tb = R.tb ∧ RTurned R R' m d (zb9 d.data ((d.data.length : Int)).toNat b) ∧ za5 w.heap.size R R'))) := by
  rcases hp.case with ⟨c, hc, h1, h2, _, h3⟩ | ⟨h1, h2, h3, h4, h5, _⟩ | ⟨h1, h2, h3, h4, R', h5, h6, h7, h8⟩
  ·exact .inl ⟨c, hc, h1, h2, h3⟩
  ·exact .inr ⟨h1, h2, h3, R, h5, .inl ⟨h4, rfl⟩⟩
  ·exact .inr ⟨h1, h2, h3, R', h5, .inr ⟨h4, h6, h7, h8.mono HS0.out⟩⟩
 clear hp
 rcases hcs with ⟨cc, hc, rfl, hrr, hno⟩ | ⟨rfl, hz0, hz1, R', hrr, hdo⟩
 ·have HRR := hid hrr
  have HNO := hid hno
  have HC := hid hc
  have hci : ¬ (cc : Int) = 0 := by omega
  have hc1 : ((cc : Int) == 0) = false := by simp only [beq_eq_false_iff_ne, ne_eq]; omega
  clear hrr hno hc
  simp only [fltV]
  obtain ⟨w3, hw3⟩ : ∃ w3, w3 = w2.alloc (.cells #[.int .i64 cc, .int .i64 0, .int .i64 11] 32) := ⟨_, rfl⟩
  have HW3 := hid hw3
  have HB3 : Hid (Below w2.heap.size w2 w3) := by rw [hw3]; exact zad w2 _
  have HH3 : Hid (w3.heap[w.heap.size]? = some (.cells #[.int .i64 0, .int .i64 0, .int .i64 0] 32 (0, 0))) := zae HB3.out (zab HH2.out) HH2.out
  have HF3 : Hid (w3.heap[w2.heap.size]? = some (.cells #[.int .i64 cc, .int .i64 0, .int .i64 11] 32 (0, 0))) := by rw [hw3]; exact heap_alloc_new w2 _
  have HX3 : Hid (zbi w3 o ⟨m, i0, true, true, pl, false⟩) := zae HB3.out (zab HX2.out) HX2.out
  clear hw3
  go_upto_region 14 with fail
  rw [← HW3.out]
  clear HW3
  have HR3 := hid (HRR.out.below HB3.out)
  have HKP3 : Hid (Kept (fun q => R.foot q ∨ q = o) w w3) := HKP.out.trans (Kept.of_below HB3.out (fun _ => False)) (fun _ h => h.elim)
  generalize w2.heap.size = fb at *
  obtain ⟨g0, g1, g2⟩ := zz3 HH3.out
  have gf := fun o => zah HH3.out o
  have f0 := zaa (o := 0) HF3.out rfl
  have f1 := zaa (o := 1) HF3.out rfl
  have f2 := zaa (o := 2) HF3.out rfl
  have hne : w.heap.size ≠ fb := HFB.out
  have hne2 : fb ≠ w.heap.size := HFB.out.symm
  have HY := hid (zap HH3.out (.int .i64 cc) (.int .i64 0) (.int .i64 11))
  have HKS := hid (zao w3 w.heap.size (.int .i64 cc) (.int .i64 0) (.int .i64 11))
  go_wp2_with fail
  clear g0 g1 g2 gf f0 f1 f2 hne hne2
  generalize ((w3.setCell ⟨w.heap.size, 0, none⟩ (.int .i64 cc)).setCell ⟨w.heap.size, 1, none⟩ (.int .i64 0)).setCell ⟨w.heap.size, 2, none⟩ (.int .i64 11) = W at *
  obtain ⟨r0, r1, r2⟩ := zz3 HY.out
  have HRW : Hid (RRep B W R) := HR3.out.kept HKS.out (fun b hb hf => HR3.out.not_foot HH3.out (by decide) (by decide) (by decide) (by decide) (by rw [← hf]; exact hb))
  have HXW : Hid (zbi W o ⟨m, i0, true, true, pl, false⟩) := (HKS.out.block o (zab HX3.out) HOL.out).trans HX3.out
  refine bodyPost_ret (v := fltV cc) ?_ rfl ⟨HKP3.out.trans HKS.out (fun b h => .inr (by rw [h]; exact Nat.le_refl _)), .inl ⟨cc, HC.out, rfl, HRW.out, HXW.out, HNO.out⟩⟩
  simp [results, Tryz.results63, go_sem, r0, r1, r2, fltV]
 ·have HRR := hid hrr
  have HZ0 := hid hz0
  have HZ1 := hid hz1
  have HDO := hid hdo
  clear hrr hz0 hz1 hdo
  simp only [flt0]
  obtain ⟨w3, hw3⟩ : ∃ w3, w3 = w2.alloc (.cells #[.int .i64 0, .int .i64 0, .int .i64 0] 32) := ⟨_, rfl⟩
  have HW3 := hid hw3
  have HB3 : Hid (Below w2.heap.size w2 w3) := by rw [hw3]; exact zad w2 _
  have HH3 : Hid (w3.heap[w.heap.size]? = some (.cells #[.int .i64 0, .int .i64 0, .int .i64 0] 32 (0, 0))) := zae HB3.out (zab HH2.out) HH2.out
  have HF3 : Hid (w3.heap[w2.heap.size]? = some (.cells #[.int .i64 0, .int .i64 0, .int .i64 0] 32 (0, 0))) := by rw [hw3]; exact heap_alloc_new w2 _
  have HX3 : Hid (zbi w3 o ⟨m, i0, true, true, pl, false⟩) := zae HB3.out (zab HX2.out) HX2.out
  clear hw3
  have hwr : IntKind.i64.wrap ((d.data.length : Int) + b.length) = (d.data.length : Int) + b.length := HWR.out
  go_upto_region 13 with fail
  rw [← HW3.out]
  clear HW3
  have HR3 := hid (HRR.out.below HB3.out)
  have HKP3 : Hid (Kept (fun q => R.foot q ∨ q = o) w w3) := HKP.out.trans (Kept.of_below HB3.out (fun _ => False)) (fun _ h => h.elim)
  generalize w2.heap.size = fb at *
  have HHS : Hid ((w3.setCell ⟨o, 4, none⟩ (.int .i64 ((d.data.length : Int) + b.length))).heap[w.heap.size]? = some (.cells #[.int .i64 0, .int .i64 0, .int .i64 0] 32 (0, 0))) := (zag w3 _ _ HOL.out.symm).trans HH3.out
  have HFS : Hid ((w3.setCell ⟨o, 4, none⟩ (.int .i64 ((d.data.length : Int) + b.length))).heap[fb]? = some (.cells #[.int .i64 0, .int .i64 0, .int .i64 0] 32 (0, 0))) := (zag w3 _ _ HOF.out.symm).trans HF3.out
  have HXS : Hid (zbi (w3.setCell ⟨o, 4, none⟩ (.int .i64 ((d.data.length : Int) + b.length))) o ⟨m, i0, true, true, (d.data.length : Int) + b.length, false⟩) := zaj HX3.out 4 _
  have HKB : Hid (Kept (fun q => R.foot q ∨ q = o) w (w3.setCell ⟨o, 4, none⟩ (.int .i64 ((d.data.length : Int) + b.length)))) := HKP3.out.setCell (p := ⟨o, 4, none⟩) (.inl (.inr rfl)) _
  have HRS : Hid (RRep B (w3.setCell ⟨o, 4, none⟩ (.int .i64 ((d.data.length : Int) + b.length))) R') := HR3.out.kept ((Kept.refl (fun b => b = o) w3).setCell (p := ⟨o, 4, none⟩) (.inl rfl) _) (fun b hb hf => HR3.out.not_foot HX3.out (by decide) (by decide) (by decide) (by decide) (by rw [← hf]; exact hb))
  have x4 := zaa (o := 4) HX3.out rfl
  have xf := fun q => zah HX3.out q
  go_upto_region 14 with fail
  clear x4 xf hwr
  generalize w3.setCell ⟨o, 4, none⟩ (.int .i64 ((d.data.length : Int) + b.length)) = w6 at *
  obtain ⟨g0, g1, g2⟩ := zz3 HHS.out
  have gf := fun o => zah HHS.out o
  have f0 := zaa (o := 0) HFS.out rfl
  have f1 := zaa (o := 1) HFS.out rfl
  have f2 := zaa (o := 2) HFS.out rfl
  have hne : w.heap.size ≠ fb := HFB.out
  have hne2 : fb ≠ w.heap.size := HFB.out.symm
  have HY := hid (zap HHS.out (.int .i64 0) (.int .i64 0) (.int .i64 0))
  have HKS := hid (zao w6 w.heap.size (.int .i64 0) (.int .i64 0) (.int .i64 0))
  go_wp2_with fail
  clear g0 g1 g2 gf f0 f1 f2 hne hne2
  generalize ((w6.setCell ⟨w.heap.size, 0, none⟩ (.int .i64 0)).setCell ⟨w.heap.size, 1, none⟩ (.int .i64 0)).setCell ⟨w.heap.size, 2, none⟩ (.int .i64 0) = W at *
  obtain ⟨r0, r1, r2⟩ := zz3 HY.out
  have HRW : Hid (RRep B W R') := HRS.out.kept HKS.out (fun b hb hf => HRS.out.not_foot HHS.out (by decide) (by decide) (by decide) (by decide) (by rw [← hf]; exact hb))
  have HXW : Hid (zbi W o ⟨m, i0, true, true, (d.data.length : Int) + b.length, false⟩) := (HKS.out.block o (zab HXS.out) HOL.out).trans HXS.out
  refine bodyPost_ret (v := flt0) ?_ rfl ⟨HKB.out.trans HKS.out (fun b h => .inr (by rw [h]; exact Nat.le_refl _)), .inr ⟨rfl, HZ0.out, HZ1.out, HXW.out, R', HRW.out, HDO.out⟩⟩
  simp [results, Tryz.results63, go_sem, r0, r1, r2, flt0]
set_option maxRecDepth 100000 in
set_option maxHeartbeats 1000000 in
theorem rk_put_file_p {B : Nat} {R : RT} {w : World} (hR : RRep B w R) (hrb : RB R) {o m : Nat} {i0 : Bool} {pl : Int} (hx : zbi w o ⟨m, i0, true, false, pl, false⟩) {d : RNd} (hd : R.nd m = some d) (hdl : d.data.length ≤ 65536) (hp1 : pl ≤ 4611686018427387904) (hp0 : -4611686018427387904 ≤ pl) (bv : Value) (b : List UInt8) (hs : Src w bv b) (hbl : b.length ≤ 140737488355328) :
  Calls Tryz.prog 63 #[.pointer (some ⟨o, 0, none⟩), .pointer (some ⟨R.tb, 0, none⟩), bv] w fun e w' => RPutPost B w R o ⟨m, i0, true, false, pl, false⟩ d pl b e w' := by
 have hbv : ∃ ba bc, bv = .slice ba b.length bc := by
  rcases hs with ⟨h1, h2⟩ | ⟨ad, c, h1, _⟩
  ·exact ⟨none, 0, by rw [h1, h2]; rfl⟩
  ·exact ⟨_, _, h1⟩
 obtain ⟨ba, bc, rfl⟩ := hbv
 have HR := hid hR
 have HOR : Hid (¬ R.foot o) := hR.not_foot hx (by decide) (by decide) (by decide) (by decide)
 have HB0 := hid (zad w (.cells #[.int .i64 0, .int .i64 0, .int .i64 0] 32))
 have HH0 := hid (heap_alloc_new w (.cells #[.int .i64 0, .int .i64 0, .int .i64 0] 32))
 have HOL : Hid (o ≠ w.heap.size) := hid (by have := zab hx; omega)
 have hx0 : zbi (w.alloc (.cells #[.int .i64 0, .int .i64 0, .int .i64 0] 32)) o ⟨m, i0, true, false, pl, false⟩ := zae HB0.out (zab hx) hx
 have HX0 := hid hx0
 have HW : Hid (∀ W, Below w.heap.size w W → Calls Tryz.prog 89 #[.pointer (some ⟨R.tb, 0, none⟩), .pointer (some ⟨m, 0, none⟩), .int .i64 pl, .slice ba b.length bc] W fun e w' => RWAPost B W R m d pl b e w') := fun W hW => ref_writeAt pl _ b W (hR.below hW) hrb m d hd hdl (hs.kept (Kept.of_below hW (fun _ => False)) (fun _ _ h => h))
 have q0 : _ = some (Value.pointer (some ⟨m, 0, none⟩)) := zaa (o := 0) hx0 rfl
 have q2 : _ = some (Value.bool true) := zaa (o := 2) hx0 rfl
 have q3 : _ = some (Value.bool false) := zaa (o := 3) hx0 rfl
 have q4 : _ = some (Value.int .i64 pl) := zaa (o := 4) hx0 rfl
 have q5 : _ = some (Value.bool false) := zaa (o := 5) hx0 rfl
 obtain ⟨va, vc, hv⟩ := zak (hR.node _ d hd).2
 have k1 : (w.alloc (.cells #[.int .i64 0, .int .i64 0, .int .i64 0] 32)).cell? ⟨m, 1, none⟩ = some (.slice va d.data.length vc) := by rw [← hv]; exact zaa (o := 1) ((hR.below HB0.out).node _ d hd).1 rfl
 have hwr : IntKind.i64.wrap (pl + b.length) = pl + b.length := IntWalk.i64_in _ (by omega)
 have HWR := hid hwr
 clear hR hrb hx hx0 hd hs hbl hdl hp1 hp0 hv hwr
 go_enter Tryz.func63, Tryz.ntmps63
 go_wp2_with fail
 generalize w.alloc (.cells #[.int .i64 0, .int .i64 0, .int .i64 0] 32) = w0 at *
 refine (HW.out w0 HB0.out).mono ?_
 intro e w2 hp
 have HR1 := hid (HR.out.below HB0.out)
 have HH2 : Hid (w2.heap[w.heap.size]? = some (.cells #[.int .i64 0, .int .i64 0, .int .i64 0] 32 (0, 0))) := (hp.kept.block _ (zab HH0.out) (HR1.out.not_foot HH0.out (by decide) (by decide) (by decide) (by decide))).trans HH0.out
 have HX2 : Hid (zbi w2 o ⟨m, i0, true, false, pl, false⟩) := (hp.kept.block _ (zab HX0.out) HOR.out).trans HX0.out
 have HKP : Hid (Kept (fun q => R.foot q ∨ q = o) w w2) := (Kept.of_below HB0.out _).trans hp.kept (fun b h => .inl (.inl h))
 have HFB : Hid (w.heap.size ≠ w2.heap.size) := hid (by have := zab HH2.out; omega)
 have HOF : Hid (o ≠ w2.heap.size) := hid (by have := zab HX2.out; omega)
 have HS0 : Hid (w.heap.size ≤ w0.heap.size) := HB0.out.size
 clear q0 q2 q3 q4 q5 k1
 have hcs : (∃ c, c ≠ 0 ∧ e = .returned (fltV c) ∧ RRep B w2 R ∧ ((c = 1 ∧ pl < 0) ∨ (c = 19 ∧ 0 ≤ pl ∧ 65536 < pl + b.length))) ∨
   (e = .returned flt0 ∧ 0 ≤ pl ∧ pl + b.length ≤ 65536 ∧ ∃ R', RRep B w2 R' ∧ ((b = [] ∧ R' = R) ∨ (0 < b.length ∧ R'.tb = R.tb ∧ RTurned R R' m d (zb9 d.data (pl).toNat b) ∧ za5 w.heap.size R R'))) := by
  rcases hp.case with ⟨c, hc, h1, h2, _, h3⟩ | ⟨h1, h2, h3, h4, h5, _⟩ | ⟨h1, h2, h3, h4, R', h5, h6, h7, h8⟩
  ·exact .inl ⟨c, hc, h1, h2, h3⟩
  ·exact .inr ⟨h1, h2, h3, R, h5, .inl ⟨h4, rfl⟩⟩
  ·exact .inr ⟨h1, h2, h3, R', h5, .inr ⟨h4, h6, h7, h8.mono HS0.out⟩⟩
 clear hp
 rcases hcs with ⟨cc, hc, rfl, hrr, hno⟩ | ⟨rfl, hz0, hz1, R', hrr, hdo⟩
 ·have HRR := hid hrr
  have HNO := hid hno
  have HC := hid hc
  have hci : ¬ (cc : Int) = 0 := by omega
  have hc1 : ((cc : Int) == 0) = false := by simp only [beq_eq_false_iff_ne, ne_eq]; omega
  clear hrr hno hc
  simp only [fltV]
  obtain ⟨w3, hw3⟩ : ∃ w3, w3 = w2.alloc (.cells #[.int .i64 cc, .int .i64 0, .int .i64 11] 32) := ⟨_, rfl⟩
  have HW3 := hid hw3
  have HB3 : Hid (Below w2.heap.size w2 w3) := by rw [hw3]; exact zad w2 _
  have HH3 : Hid (w3.heap[w.heap.size]? = some (.cells #[.int .i64 0, .int .i64 0, .int .i64 0] 32 (0, 0))) := zae HB3.out (zab HH2.out) HH2.out
  have HF3 : Hid (w3.heap[w2.heap.size]? = some (.cells #[.int .i64 cc, .int .i64 0, .int .i64 11] 32 (0, 0))) := by rw [hw3]; exact heap_alloc_new w2 _
  have HX3 : Hid (zbi w3 o ⟨m, i0, true, false, pl, false⟩) := zae HB3.out (zab HX2.out) HX2.out
  clear hw3
  go_upto_region 14 with fail
  rw [← HW3.out]
  clear HW3
  have HR3 := hid (HRR.out.below HB3.out)
  have HKP3 : Hid (Kept (fun q => R.foot q ∨ q = o) w w3) := HKP.out.trans (Kept.of_below HB3.out (fun _ => False)) (fun _ h => h.elim)
  generalize w2.heap.size = fb at *
  obtain ⟨g0, g1, g2⟩ := zz3 HH3.out
  have gf := fun o => zah HH3.out o
  have f0 := zaa (o := 0) HF3.out rfl
  have f1 := zaa (o := 1) HF3.out rfl
  have f2 := zaa (o := 2) HF3.out rfl
  have hne : w.heap.size ≠ fb := HFB.out
  have hne2 : fb ≠ w.heap.size := HFB.out.symm
  have HY := hid (zap HH3.out (.int .i64 cc) (.int .i64 0) (.int .i64 11))
  have HKS := hid (zao w3 w.heap.size (.int .i64 cc) (.int .i64 0) (.int .i64 11))
  go_wp2_with fail
  clear g0 g1 g2 gf f0 f1 f2 hne hne2
  generalize ((w3.setCell ⟨w.heap.size, 0, none⟩ (.int .i64 cc)).setCell ⟨w.heap.size, 1, none⟩ (.int .i64 0)).setCell ⟨w.heap.size, 2, none⟩ (.int .i64 11) = W at *
  obtain ⟨r0, r1, r2⟩ := zz3 HY.out
  have HRW : Hid (RRep B W R) := HR3.out.kept HKS.out (fun b hb hf => HR3.out.not_foot HH3.out (by decide) (by decide) (by decide) (by decide) (by rw [← hf]; exact hb))
  have HXW : Hid (zbi W o ⟨m, i0, true, false, pl, false⟩) := (HKS.out.block o (zab HX3.out) HOL.out).trans HX3.out
  refine bodyPost_ret (v := fltV cc) ?_ rfl ⟨HKP3.out.trans HKS.out (fun b h => .inr (by rw [h]; exact Nat.le_refl _)), .inl ⟨cc, HC.out, rfl, HRW.out, HXW.out, HNO.out⟩⟩
  simp [results, Tryz.results63, go_sem, r0, r1, r2, fltV]
 ·have HRR := hid hrr
  have HZ0 := hid hz0
  have HZ1 := hid hz1
  have HDO := hid hdo
  clear hrr hz0 hz1 hdo
  simp only [flt0]
  obtain ⟨w3, hw3⟩ : ∃ w3, w3 = w2.alloc (.cells #[.int .i64 0, .int .i64 0, .int .i64 0] 32) := ⟨_, rfl⟩
  have HW3 := hid hw3
  have HB3 : Hid (Below w2.heap.size w2 w3) := by rw [hw3]; exact zad w2 _
  have HH3 : Hid (w3.heap[w.heap.size]? = some (.cells #[.int .i64 0, .int .i64 0, .int .i64 0] 32 (0, 0))) := zae HB3.out (zab HH2.out) HH2.out
  have HF3 : Hid (w3.heap[w2.heap.size]? = some (.cells #[.int .i64 0, .int .i64 0, .int .i64 0] 32 (0, 0))) := by rw [hw3]; exact heap_alloc_new w2 _
  have HX3 : Hid (zbi w3 o ⟨m, i0, true, false, pl, false⟩) := zae HB3.out (zab HX2.out) HX2.out
  clear hw3
  have hwr : IntKind.i64.wrap (pl + b.length) = pl + b.length := HWR.out
  go_upto_region 13 with fail
  rw [← HW3.out]
  clear HW3
  have HR3 := hid (HRR.out.below HB3.out)
  have HKP3 : Hid (Kept (fun q => R.foot q ∨ q = o) w w3) := HKP.out.trans (Kept.of_below HB3.out (fun _ => False)) (fun _ h => h.elim)
  generalize w2.heap.size = fb at *
  have HHS : Hid ((w3.setCell ⟨o, 4, none⟩ (.int .i64 (pl + b.length))).heap[w.heap.size]? = some (.cells #[.int .i64 0, .int .i64 0, .int .i64 0] 32 (0, 0))) := (zag w3 _ _ HOL.out.symm).trans HH3.out
  have HFS : Hid ((w3.setCell ⟨o, 4, none⟩ (.int .i64 (pl + b.length))).heap[fb]? = some (.cells #[.int .i64 0, .int .i64 0, .int .i64 0] 32 (0, 0))) := (zag w3 _ _ HOF.out.symm).trans HF3.out
  have HXS : Hid (zbi (w3.setCell ⟨o, 4, none⟩ (.int .i64 (pl + b.length))) o ⟨m, i0, true, false, pl + b.length, false⟩) := zaj HX3.out 4 _
  have HKB : Hid (Kept (fun q => R.foot q ∨ q = o) w (w3.setCell ⟨o, 4, none⟩ (.int .i64 (pl + b.length)))) := HKP3.out.setCell (p := ⟨o, 4, none⟩) (.inl (.inr rfl)) _
  have HRS : Hid (RRep B (w3.setCell ⟨o, 4, none⟩ (.int .i64 (pl + b.length))) R') := HR3.out.kept ((Kept.refl (fun b => b = o) w3).setCell (p := ⟨o, 4, none⟩) (.inl rfl) _) (fun b hb hf => HR3.out.not_foot HX3.out (by decide) (by decide) (by decide) (by decide) (by rw [← hf]; exact hb))
  have x4 := zaa (o := 4) HX3.out rfl
  have xf := fun q => zah HX3.out q
  go_upto_region 14 with fail
  clear x4 xf hwr
  generalize w3.setCell ⟨o, 4, none⟩ (.int .i64 (pl + b.length)) = w6 at *
  obtain ⟨g0, g1, g2⟩ := zz3 HHS.out
  have gf := fun o => zah HHS.out o
  have f0 := zaa (o := 0) HFS.out rfl
  have f1 := zaa (o := 1) HFS.out rfl
  have f2 := zaa (o := 2) HFS.out rfl
  have hne : w.heap.size ≠ fb := HFB.out
  have hne2 : fb ≠ w.heap.size := HFB.out.symm
  have HY := hid (zap HHS.out (.int .i64 0) (.int .i64 0) (.int .i64 0))
  have HKS := hid (zao w6 w.heap.size (.int .i64 0) (.int .i64 0) (.int .i64 0))
  go_wp2_with fail
  clear g0 g1 g2 gf f0 f1 f2 hne hne2
  generalize ((w6.setCell ⟨w.heap.size, 0, none⟩ (.int .i64 0)).setCell ⟨w.heap.size, 1, none⟩ (.int .i64 0)).setCell ⟨w.heap.size, 2, none⟩ (.int .i64 0) = W at *
  obtain ⟨r0, r1, r2⟩ := zz3 HY.out
  have HRW : Hid (RRep B W R') := HRS.out.kept HKS.out (fun b hb hf => HRS.out.not_foot HHS.out (by decide) (by decide) (by decide) (by decide) (by rw [← hf]; exact hb))
  have HXW : Hid (zbi W o ⟨m, i0, true, false, pl + b.length, false⟩) := (HKS.out.block o (zab HXS.out) HOL.out).trans HXS.out
  refine bodyPost_ret (v := flt0) ?_ rfl ⟨HKB.out.trans HKS.out (fun b h => .inr (by rw [h]; exact Nat.le_refl _)), .inr ⟨rfl, HZ0.out, HZ1.out, HXW.out, R', HRW.out, HDO.out⟩⟩
  simp [results, Tryz.results63, go_sem, r0, r1, r2, flt0]
theorem rk_put_file {B : Nat} {R : RT} {w : World} (hR : RRep B w R) (hrb : RB R) {o : Nat} {x : ROp} (hx : zbi w o x) (ho : x.out = true) (hl : x.log = false) {d : RNd} (hd : R.nd x.node = some d) (hdl : d.data.length ≤ 65536) (hp1 : x.place ≤ 4611686018427387904) (hp0 : -4611686018427387904 ≤ x.place) (bv : Value) (b : List UInt8) (hs : Src w bv b) (hbl : b.length ≤ 140737488355328) :
  Calls Tryz.prog 63 #[.pointer (some ⟨o, 0, none⟩), .pointer (some ⟨R.tb, 0, none⟩), bv] w fun e w' => RPutPost B w R o x d (x.at d.data.length) b e w' := by
 obtain ⟨m, i0, i1, i2, pl, lg⟩ := x
 have ho : i1 = true := ho
 have hl : lg = false := hl
 subst ho hl
 cases i2 with
 | true => exact rk_put_file_a hR hrb hx hd hdl bv b hs hbl
 | false => exact rk_put_file_p hR hrb hx hd hdl hp1 hp0 bv b hs hbl
end
section
theorem rkw_cells {w : World} {kb rt : Nat} {fds : Nat → Option Nat} {n0 n1 fd o : Nat} (h : RKAt w kb rt fds n0 n1) (hf16 : fd < 16) (ho : fds fd = some o) : w.cell? ⟨kb, 1 + fd, none⟩ = some (.pointer (some ⟨o, 0, none⟩)) ∧ w.cell? ⟨kb, 0, none⟩ = some (.pointer (some ⟨rt, 0, none⟩)) := by
 have h1 := h.fd fd hf16
 rw [ho] at h1
 exact ⟨h1, h.tree⟩
set_option maxRecDepth 100000 in
set_option maxHeartbeats 1000000 in
theorem rk_write_bad {w : World} {kb rt : Nat} {fds : Nat → Option Nat} {n0 n1 : Nat} (h : RKAt w kb rt fds n0 n1) (fd : Int) (hu : zbr fds fd = false) (bv : Value) :
  Calls Tryz.prog 36 #[.pointer (some ⟨kb, 0, none⟩), .int .i64 fd, bv] w fun e w' => RNo w (fltV 1) e w' := by
 have H := hid h
 have HB0 := hid (zad w (.cells #[.int .i64 0, .int .i64 0, .int .i64 0] 32))
 have HH0 := hid (heap_alloc_new w (.cells #[.int .i64 0, .int .i64 0, .int .i64 0] 32))
 clear h
 have HU := hid (hu ▸ zcu (H.out.below HB0.out) fd)
 clear hu
 go_enter Tryz.func36, Tryz.ntmps36
 go_wp2_with fail
 generalize w.alloc (.cells #[.int .i64 0, .int .i64 0, .int .i64 0] 32) = w0 at *
 refine HU.out.mono ?_
 rintro e w2 ⟨rfl, rfl⟩
 go_wp2_with fail
 refine (zax 1 w2).mono ?_
 rintro e w9 ⟨rfl, hb9⟩
 have HB9 := hid (zaf HB0.out hb9)
 have HH9 : Hid (w9.heap[w.heap.size]? = some (.cells #[.int .i64 0, .int .i64 0, .int .i64 0] 32 (0, 0))) := zae hb9 (zab HH0.out) HH0.out
 clear hb9
 obtain ⟨g0, g1, g2⟩ := zz3 HH9.out
 have gf := fun o => zah HH9.out o
 obtain ⟨hx, hy⟩ := zat HB9.out (Nat.le_refl _) HH9.out (.int .i64 1) (.int .i64 0) (.int .i64 11)
 have HX := hid hx
 have HY := hid hy
 clear hx hy
 simp only [fltV]
 go_wp2_with fail
 clear g0 g1 g2 gf
 generalize ((w9.setCell ⟨w.heap.size, 0, none⟩ (.int .i64 1)).setCell ⟨w.heap.size, 1, none⟩ (.int .i64 0)).setCell ⟨w.heap.size, 2, none⟩ (.int .i64 11) = W at *
 obtain ⟨r0, r1, r2⟩ := zz3 HY.out
 refine bodyPost_ret (v := fltV 1) ?_ rfl (⟨rfl, HX.out⟩)
 simp [results, Tryz.results36, go_sem, r0, r1, r2, fltV]
set_option maxRecDepth 100000 in
set_option maxHeartbeats 1000000 in
theorem rk_write {w : World} {kb rt : Nat} {fds : Nat → Option Nat} {n0 n1 : Nat} (h : RKAt w kb rt fds n0 n1) (fd : Nat) (hf16 : fd < 16) {o : Nat} (ho : fds fd = some o) (bv : Value) {Q : World → Int → Int → World → Prop} (hput : ∀ W, Below w.heap.size w W → Calls Tryz.prog 63 #[.pointer (some ⟨o, 0, none⟩), .pointer (some ⟨rt, 0, none⟩), bv] W fun e w' => ∃ x y, e = .returned (.agg #[.int .i64 x, .int .i64 0, .int .i64 y]) ∧ Q W x y w' ∧ RKAt w' kb rt fds n0 n1 ∧ (∀ q, w.heap.size ≤ q → q < W.heap.size → w'.heap[q]? = W.heap[q]?)) :
  Calls Tryz.prog 36 #[.pointer (some ⟨kb, 0, none⟩), .int .i64 fd, bv] w fun e w' => ∃ x y W w1, e = .returned (.agg #[.int .i64 x, .int .i64 0, .int .i64 y]) ∧ Below w.heap.size w W ∧ Q W x y w1 ∧ (∃ cs, w1.heap[w.heap.size]? = some (.cells cs 32 (0, 0))) ∧ Kept (fun b => b = w.heap.size) w1 w' := by
 have H := hid h
 have HB0 := hid (zad w (.cells #[.int .i64 0, .int .i64 0, .int .i64 0] 32))
 have HH0 := hid (heap_alloc_new w (.cells #[.int .i64 0, .int .i64 0, .int .i64 0] 32))
 clear h
 have hu : zbr fds (fd : Int) = true := by
  unfold zbr
  rw [decide_eq_true (by omega), decide_eq_true (by omega), Int.toNat_natCast, ho]
  rfl
 have HU := hid (hu ▸ zcu (H.out.below HB0.out) (fd : Int))
 have q1 := (H.out.below HB0.out).fd fd hf16
 have q0 := (H.out.below HB0.out).tree
 rw [ho] at q1
 simp only [zau] at q1
 have hfi : (fd : Int) < 16 := by omega
 have HP : Hid (∀ W, Hid (Below (w.alloc (.cells #[.int .i64 0, .int .i64 0, .int .i64 0] 32)).heap.size (w.alloc (.cells #[.int .i64 0, .int .i64 0, .int .i64 0] 32)) W) → Calls Tryz.prog 63 #[.pointer (some ⟨o, 0, none⟩), .pointer (some ⟨rt, 0, none⟩), bv] W fun e w' => ∃ x y, e = .returned (.agg #[.int .i64 x, .int .i64 0, .int .i64 y]) ∧ Hid (∃ W, Below w.heap.size w W ∧ Q W x y w') ∧ Hid (w'.heap[w.heap.size]? = some (.cells #[.int .i64 0, .int .i64 0, .int .i64 0] 32 (0, 0))) ∧ Hid (RKAt w' kb rt fds n0 n1)) := fun W hW =>
  (hput W (zaf HB0.out hW.out)).mono fun e w' ⟨x, y, he, hq, hka, hk⟩ => by
   have h1 := zae hW.out (zab HH0.out) HH0.out
   exact ⟨x, y, he, ⟨W, zaf HB0.out hW.out, hq⟩, (hk _ (Nat.le_refl _) (zab h1)).trans h1, hka⟩
 have HFO : Hid (fds fd = some o) := ho
 have HNE : Hid (kb ≠ w.heap.size) := hid (by have := H.out.lt; omega)
 clear hu hput ho
 go_enter Tryz.func36, Tryz.ntmps36
 go_wp2_with fail
 generalize w.alloc (.cells #[.int .i64 0, .int .i64 0, .int .i64 0] 32) = w0 at *
 refine HU.out.mono ?_
 rintro e w2 ⟨rfl, rfl⟩
 have HBR : Hid (Below w2.heap.size w2 w2) := Below.refl _ _
 have HBD : Hid (Below w2.heap.size w2 w2.drew) := (Below.refl _ _).drew
 go_wp2_with fail
 go_region_held3 (fun W => W.cell? ⟨kb, 1 + fd, none⟩ = some (.pointer (some ⟨o, 0, none⟩)) ∧ W.cell? ⟨kb, 0, none⟩ = some (.pointer (some ⟨rt, 0, none⟩))) (first | with_reducible exact ⟨by assumption, by assumption⟩ | exact ⟨q1, q0⟩)
  (first | (go_at_call 63; refine (HP.out _ (by with_reducible assumption)).mono ?_; rintro e w' ⟨x, y, rfl, HQ, HH9, HK9⟩; have g0 := zaa (o := 0) HH9.out rfl; have g1 := zaa (o := 1) HH9.out rfl; have g2 := zaa (o := 2) HH9.out rfl; have gf := fun o => zah HH9.out o; obtain ⟨c0, c1⟩ := rkw_cells HK9.out hf16 HFO.out; obtain ⟨s0, s1⟩ := rkw_cells (HK9.out.kept (zao w' w.heap.size (.int .i64 x) (.int .i64 0) (.int .i64 y)) HNE.out) hf16 HFO.out))
 all_goals
  have HY := hid (zap HH9.out (.int .i64 x) (.int .i64 0) (.int .i64 y))
  have HKS := hid (zao w' w.heap.size (.int .i64 x) (.int .i64 0) (.int .i64 y))
  go_wp2_with fail
  clear g0 g1 g2 gf c0 c1 s0 s1
  generalize ((w'.setCell ⟨w.heap.size, 0, none⟩ (.int .i64 x)).setCell ⟨w.heap.size, 1, none⟩ (.int .i64 0)).setCell ⟨w.heap.size, 2, none⟩ (.int .i64 y) = W at *
  obtain ⟨r0, r1, r2⟩ := zz3 HY.out
  obtain ⟨W0, hW0, hq⟩ := HQ.out
  refine bodyPost_ret (v := .agg #[.int .i64 x, .int .i64 0, .int .i64 y]) ?_ rfl ⟨x, y, W0, w', rfl, hW0, hq, ⟨_, HH9.out⟩, HKS.out⟩
  simp [results, Tryz.results36, go_sem, r0, r1, r2]
end
section
theorem nums_heap2 {w : World} {base : Nat} {v : Value} {j k : Nat} {r : List Nat} (h : w.ownsRow base 3 1 v (j :: k :: r).length (zeh (j :: k :: r))) : ∃ g c cur, v = .slice (some ⟨g, 0, none⟩) (r.length + 1 + 1) c ∧ w.heap[g]? = some (.cells cur 3 (0, 0)) ∧ cur[0]? = some (.int .i64 j) ∧ cur[1]? = some (.int .i64 k) ∧ base ≤ g ∧ r.length + 1 + 1 ≤ c := by
 rcases h.2 with ⟨_, h0⟩ | ⟨g, cap, cur, hv, hb, hh, hc, _, _, ht⟩
 ·simp at h0
 ·subst hv
  refine ⟨g, cap, cur, rfl, hh, ?_, ?_, hb, by simpa using hc⟩
  ·have := congrArg (fun x => x[0]?) ht
   simpa [zeh, List.getElem?_take] using this
  ·have := congrArg (fun x => x[1]?) ht
   simpa [zeh, List.getElem?_take] using this
theorem frees_two {fds : Nat → Option Nat} {j k : Nat} {r : List Nat} (h : zd0 fds = j :: k :: r) : k < 16 ∧ fds k = none ∧ j ≠ k := by
 have hm : k ∈ zd0 fds := by rw [h]; simp
 have hnd : (zd0 fds).Nodup := List.Nodup.sublist List.filter_sublist List.nodup_range
 rw [h] at hnd
 unfold zd0 uTo at hm
 rw [List.mem_filter, List.mem_range] at hm
 refine ⟨hm.1, by simpa using hm.2, fun e => ?_⟩
 rw [e] at hnd
 simp at hnd
def RPipePost (w : World) (kb rt : Nat) (fds : Nat → Option Nat) (n0 n1 : Nat) (j k : Nat) (e : Ending) (w' : World) : Prop :=
 e = .returned (.tuple #[.int .i64 j, .int .i64 k, flt0]) ∧ Kept (fun b => b = kb) w w' ∧ ∃ m oa ob, w.heap.size ≤ m ∧ w.heap.size ≤ oa ∧ w.heap.size ≤ ob ∧ oa ≠ ob ∧
  w'.heap[m]? = some (.cells #[.bool false, .slice none 0 0, .int .i64 0] 41 (0, 0)) ∧ zbi w' oa ⟨m, false, true, false, 0, false⟩ ∧ zbi w' ob ⟨m, true, false, false, 0, false⟩ ∧ RKAt w' kb rt (za6 (za6 fds j (some oa)) k (some ob)) n0 n1
set_option maxRecDepth 100000 in
set_option maxHeartbeats 1000000 in
theorem rk_pipe_full {w : World} {kb rt : Nat} {fds : Nat → Option Nat} {n0 n1 : Nat} (h : RKAt w kb rt fds n0 n1) (hl : (zd0 fds).length < 2) :
  Calls Tryz.prog 31 #[.pointer (some ⟨kb, 0, none⟩)] w fun e w' => RNo w (.tuple #[.int .i64 0, .int .i64 0, fltV 19]) e w' := by
 have H := hid h
 have HB0 := hid (zad w (.cells #[.int .i64 0, .int .i64 0, .int .i64 0] 32))
 have HH0 := hid (heap_alloc_new w (.cells #[.int .i64 0, .int .i64 0, .int .i64 0] 32))
 clear h
 go_enter Tryz.func31, Tryz.ntmps31
 go_wp2_with fail
 generalize w.alloc (.cells #[.int .i64 0, .int .i64 0, .int .i64 0] 32) = w0 at *
 refine (ze8 (H.out.below HB0.out)).mono ?_
 rintro e w1 ⟨v, rfl, hown, hb⟩
 have HB1 := hid (zaf HB0.out hb)
 have HH1 : Hid (w1.heap[w.heap.size]? = some (.cells #[.int .i64 0, .int .i64 0, .int .i64 0] 32 (0, 0))) := zae hb (zab HH0.out) HH0.out
 obtain ⟨a, c, rfl⟩ := zak hown
 have hlt : ((uTo (fun j => (fds j).isNone) 16).length : Int) < 2 := by have : (uTo (fun j => (fds j).isNone) 16).length < 2 := hl; omega
 clear hown hl hb
 go_wp2_with fail
 refine (zax 19 w1).mono ?_
 rintro e w9 ⟨rfl, hb9⟩
 have HB9 := hid (zaf HB1.out hb9)
 have HH9 : Hid (w9.heap[w.heap.size]? = some (.cells #[.int .i64 0, .int .i64 0, .int .i64 0] 32 (0, 0))) := zae hb9 (zab HH1.out) HH1.out
 clear hb9
 obtain ⟨g0, g1, g2⟩ := zz3 HH9.out
 have gf := fun o => zah HH9.out o
 obtain ⟨hx, hy⟩ := zat HB9.out (Nat.le_refl _) HH9.out (.int .i64 19) (.int .i64 0) (.int .i64 11)
 have HX := hid hx
 have HY := hid hy
 clear hx hy
 simp only [fltV]
 go_wp2_with fail
 clear g0 g1 g2 gf
 generalize ((w9.setCell ⟨w.heap.size, 0, none⟩ (.int .i64 19)).setCell ⟨w.heap.size, 1, none⟩ (.int .i64 0)).setCell ⟨w.heap.size, 2, none⟩ (.int .i64 11) = W at *
 obtain ⟨r0, r1, r2⟩ := zz3 HY.out
 refine bodyPost_ret (v := .tuple #[.int .i64 0, .int .i64 0, fltV 19]) ?_ rfl (⟨rfl, HX.out⟩)
 simp [results, Tryz.results31, go_sem, r0, r1, r2, fltV]
set_option maxRecDepth 100000 in
set_option maxHeartbeats 1000000 in
theorem rk_pipe {w : World} {kb rt : Nat} {fds : Nat → Option Nat} {n0 n1 : Nat} (h : RKAt w kb rt fds n0 n1) {j k : Nat} {r : List Nat} (hl : zd0 fds = j :: k :: r) :
  Calls Tryz.prog 31 #[.pointer (some ⟨kb, 0, none⟩)] w fun e w' => RPipePost w kb rt fds n0 n1 j k e w' := by
 have H := hid h
 have HB0 := hid (zad w (.cells #[.int .i64 0, .int .i64 0, .int .i64 0] 32))
 have HH0 := hid (heap_alloc_new w (.cells #[.int .i64 0, .int .i64 0, .int .i64 0] 32))
 clear h
 obtain ⟨hj16, hjn⟩ := frees_head hl
 obtain ⟨hk16, hkn, hjk⟩ := frees_two hl
 go_enter Tryz.func31, Tryz.ntmps31
 go_wp2_with fail
 generalize w.alloc (.cells #[.int .i64 0, .int .i64 0, .int .i64 0] 32) = w0 at *
 refine (ze8 (H.out.below HB0.out)).mono ?_
 rintro e w1 ⟨v, rfl, hown, hb⟩
 have HB1 := hid (zaf HB0.out hb)
 have HH1 : Hid (w1.heap[w.heap.size]? = some (.cells #[.int .i64 0, .int .i64 0, .int .i64 0] 32 (0, 0))) := zae hb (zab HH0.out) HH0.out
 have hrow : w1.ownsRow w0.heap.size 3 1 v (j :: k :: r).length (zeh (j :: k :: r)) := by rw [← hl]; exact hown
 obtain ⟨g, c, cur, rfl, hgh, hgc0, hgc1, hgb, hgc⟩ := nums_heap2 hrow
 have HK1 := hid (H.out.below HB1.out)
 have HNE : Hid (w.heap.size ≠ kb) := hid (by have := H.out.lt; omega)
 have HGK : Hid (kb ≠ g) := hid (by have := H.out.lt; have := HB0.out.size; omega)
 have HGH := hid hgh
 have HGC := hid hgc0
 have HGD := hid hgc1
 have HS1 : Hid (w.heap.size < w1.heap.size) := zab HH1.out
 have HKL : Hid (kb < w.heap.size) := H.out.lt
 clear hown hrow hb hl hgb hgh hgc0 hgc1
 have hr1 : ¬ (r.length : Int) + 1 + 1 < 2 := by omega
 obtain ⟨w2, hw2⟩ : ∃ w2, w2 = w1.alloc (.cells #[.bool false, .slice none 0 0, .int .i64 0] 41) := ⟨_, rfl⟩
 have HW2 := hid hw2
 have HB2 : Hid (Below w1.heap.size w1 w2) := by rw [hw2]; exact zad w1 _
 have HM2 : Hid (w2.heap[w1.heap.size]? = some (.cells #[.bool false, .slice none 0 0, .int .i64 0] 41 (0, 0))) := by rw [hw2]; exact heap_alloc_new w1 _
 have HH2 : Hid (w2.heap[w.heap.size]? = some (.cells #[.int .i64 0, .int .i64 0, .int .i64 0] 32 (0, 0))) := zae HB2.out (zab HH1.out) HH1.out
 have HG2 : Hid (w2.heap[g]? = some (.cells cur 3 (0, 0))) := zae HB2.out (zab HGH.out) HGH.out
 have HK2 := hid (HK1.out.below HB2.out)
 have HBB := hid (zaf HB1.out HB2.out)
 clear hw2
 go_upto_region 5 with fail
 rw [← HW2.out]
 clear HW2
 have HML : Hid (w.heap.size ≤ w1.heap.size) := Nat.le_of_lt HS1.out
 generalize w1.heap.size = m at *
 replace HG2 : Hid (w2.heap[g]? = some (.cells cur 3 (0, 0))) := HG2.out
 have HGw2 := HG2
 have HHw2 := HH2
 have HMw2 := HM2
 have HKw2 := HK2
 have HKPw2 : Hid (Kept (fun b => b = kb) w w2) := Kept.of_below HBB.out _
 have HMK : Hid (m ≠ kb) := hid (by have := HML.out; have := HKL.out; omega)
 clear HG2 HH2 HM2 HK2 HB1 HH1 HK1 HB2 HGH
 have q2 := HKw2.out.fd j hj16
 have qf := fun o => HKw2.out.free o
 rw [hjn] at q2
 simp only [za0] at q2
 have hfi : (j : Int) < 16 := by omega
 have hg0 : w2.cell? ⟨g, 0, none⟩ = some (.int .i64 j) := zaa HGw2.out HGC.out
 have HBO := hid (zad w2 (.cells #[.pointer (some ⟨m, 0, none⟩), .bool false, .bool true, .bool false, .int .i64 0, .bool false] 68))
 have HOw3 : Hid ((w2.alloc (.cells #[.pointer (some ⟨m, 0, none⟩), .bool false, .bool true, .bool false, .int .i64 0, .bool false] 68)).heap[w2.heap.size]? = some (.cells #[.pointer (some ⟨m, 0, none⟩), .bool false, .bool true, .bool false, .int .i64 0, .bool false] 68 (0, 0))) := heap_alloc_new w2 _
 have q3 := (HKw2.out.below HBO.out).fd j hj16
 have qg := fun o => (HKw2.out.below HBO.out).free o
 have hg1 : (w2.alloc (.cells #[.pointer (some ⟨m, 0, none⟩), .bool false, .bool true, .bool false, .int .i64 0, .bool false] 68)).cell? ⟨g, 0, none⟩ = some (.int .i64 j) := zaa (zae HBO.out (zab HGw2.out) HGw2.out) HGC.out
 rw [hjn] at q3
 simp only [za0] at q3
 have HKS := hid ((HKw2.out.below HBO.out).set j hj16 (some w2.heap.size))
 have HKPw3 : Hid (Kept (fun b => b = kb) w ((w2.alloc (.cells #[.pointer (some ⟨m, 0, none⟩), .bool false, .bool true, .bool false, .int .i64 0, .bool false] 68)).setCell ⟨kb, 1 + j, none⟩ (.pointer (some ⟨w2.heap.size, 0, none⟩)))) := (HKPw2.out.trans (Kept.of_below HBO.out (fun _ => False)) (fun _ h => h.elim)).setCell (p := ⟨kb, 1 + j, none⟩) (.inl rfl) _
 have HKO : Hid (kb < w2.heap.size) := HKw2.out.lt
 have HOOw3 : Hid (((w2.alloc (.cells #[.pointer (some ⟨m, 0, none⟩), .bool false, .bool true, .bool false, .int .i64 0, .bool false] 68)).setCell ⟨kb, 1 + j, none⟩ (.pointer (some ⟨w2.heap.size, 0, none⟩))).heap[w2.heap.size]? = some (.cells #[.pointer (some ⟨m, 0, none⟩), .bool false, .bool true, .bool false, .int .i64 0, .bool false] 68 (0, 0))) := (zag _ _ _ (show w2.heap.size ≠ kb by have := HKO.out; omega)).trans HOw3.out
 have HHw3 : Hid (((w2.alloc (.cells #[.pointer (some ⟨m, 0, none⟩), .bool false, .bool true, .bool false, .int .i64 0, .bool false] 68)).setCell ⟨kb, 1 + j, none⟩ (.pointer (some ⟨w2.heap.size, 0, none⟩))).heap[w.heap.size]? = some (.cells #[.int .i64 0, .int .i64 0, .int .i64 0] 32 (0, 0))) := (zag _ _ _ (HNE.out)).trans (zae HBO.out (zab HHw2.out) HHw2.out)
 have HGw3 : Hid (((w2.alloc (.cells #[.pointer (some ⟨m, 0, none⟩), .bool false, .bool true, .bool false, .int .i64 0, .bool false] 68)).setCell ⟨kb, 1 + j, none⟩ (.pointer (some ⟨w2.heap.size, 0, none⟩))).heap[g]? = some (.cells cur 3 (0, 0))) := (zag _ _ _ (HGK.out.symm)).trans (zae HBO.out (zab HGw2.out) HGw2.out)
 have HMw3 : Hid (((w2.alloc (.cells #[.pointer (some ⟨m, 0, none⟩), .bool false, .bool true, .bool false, .int .i64 0, .bool false] 68)).setCell ⟨kb, 1 + j, none⟩ (.pointer (some ⟨w2.heap.size, 0, none⟩))).heap[m]? = some (.cells #[.bool false, .slice none 0 0, .int .i64 0] 41 (0, 0))) := (zag _ _ _ (HMK.out)).trans (zae HBO.out (zab HMw2.out) HMw2.out)
 simp only [zau] at HKS
 go_region
 all_goals
  have HKw3 : Hid (RKAt ((w2.alloc (.cells #[.pointer (some ⟨m, 0, none⟩), .bool false, .bool true, .bool false, .int .i64 0, .bool false] 68)).setCell ⟨kb, 1 + j, none⟩ (.pointer (some ⟨w2.heap.size, 0, none⟩))).drew kb rt (za6 fds j (some w2.heap.size)) n0 n1) := HKS.out.below (Below.refl _ _).drew
  clear q2 qf hg0 hg1 q3 qg HKS HBO HOw3 HKw2 HKPw2
  have HSw3 : Hid (w2.heap.size < ((w2.alloc (.cells #[.pointer (some ⟨m, 0, none⟩), .bool false, .bool true, .bool false, .int .i64 0, .bool false] 68)).setCell ⟨kb, 1 + j, none⟩ (.pointer (some ⟨w2.heap.size, 0, none⟩))).heap.size) := zab HOOw3.out
  generalize (w2.alloc (.cells #[.pointer (some ⟨m, 0, none⟩), .bool false, .bool true, .bool false, .int .i64 0, .bool false] 68)).setCell ⟨kb, 1 + j, none⟩ (.pointer (some ⟨w2.heap.size, 0, none⟩)) = w3' at *
  have HOw3 : Hid (w3'.drew.heap[w2.heap.size]? = some (.cells #[.pointer (some ⟨m, 0, none⟩), .bool false, .bool true, .bool false, .int .i64 0, .bool false] 68 (0, 0))) := HOOw3.out
  replace HKPw3 : Hid (Kept (fun b => b = kb) w w3'.drew) := HKPw3.out.drew
  replace HSw3 : Hid (w2.heap.size < w3'.drew.heap.size) := HSw3.out
  replace HHw3 : Hid (w3'.drew.heap[w.heap.size]? = some (.cells #[.int .i64 0, .int .i64 0, .int .i64 0] 32 (0, 0))) := HHw3.out
  replace HGw3 : Hid (w3'.drew.heap[g]? = some (.cells cur 3 (0, 0))) := HGw3.out
  replace HMw3 : Hid (w3'.drew.heap[m]? = some (.cells #[.bool false, .slice none 0 0, .int .i64 0] 41 (0, 0))) := HMw3.out
  clear HOOw3
  generalize w3'.drew = w3 at *
  have HSA : Hid (w.heap.size ≤ w2.heap.size) := HBB.out.size
  clear HBB
  generalize w2.heap.size = oa at *
  have HOK : Hid (oa ≠ kb) := hid (by have := HKL.out; have := HSA.out; omega)
  have hkn2 : za6 fds j (some oa) k = none := by unfold za6; rw [if_neg (fun h => hjk h.symm)]; exact hkn
  go_wp2_with fail
  have q2 := HKw3.out.fd k hk16
  have qf := fun o => HKw3.out.free o
  rw [hkn2] at q2
  simp only [za0] at q2
  have hfi : (k : Int) < 16 := by omega
  have hg0 : w3.cell? ⟨g, 1, none⟩ = some (.int .i64 k) := zaa HGw3.out HGD.out
  have HBO := hid (zad w3 (.cells #[.pointer (some ⟨m, 0, none⟩), .bool true, .bool false, .bool false, .int .i64 0, .bool false] 68))
  have HPw4 : Hid ((w3.alloc (.cells #[.pointer (some ⟨m, 0, none⟩), .bool true, .bool false, .bool false, .int .i64 0, .bool false] 68)).heap[w3.heap.size]? = some (.cells #[.pointer (some ⟨m, 0, none⟩), .bool true, .bool false, .bool false, .int .i64 0, .bool false] 68 (0, 0))) := heap_alloc_new w3 _
  have q3 := (HKw3.out.below HBO.out).fd k hk16
  have qg := fun o => (HKw3.out.below HBO.out).free o
  have hg1 : (w3.alloc (.cells #[.pointer (some ⟨m, 0, none⟩), .bool true, .bool false, .bool false, .int .i64 0, .bool false] 68)).cell? ⟨g, 1, none⟩ = some (.int .i64 k) := zaa (zae HBO.out (zab HGw3.out) HGw3.out) HGD.out
  rw [hkn2] at q3
  simp only [za0] at q3
  have HKS := hid ((HKw3.out.below HBO.out).set k hk16 (some w3.heap.size))
  have HKPw4 : Hid (Kept (fun b => b = kb) w ((w3.alloc (.cells #[.pointer (some ⟨m, 0, none⟩), .bool true, .bool false, .bool false, .int .i64 0, .bool false] 68)).setCell ⟨kb, 1 + k, none⟩ (.pointer (some ⟨w3.heap.size, 0, none⟩)))) := (HKPw3.out.trans (Kept.of_below HBO.out (fun _ => False)) (fun _ h => h.elim)).setCell (p := ⟨kb, 1 + k, none⟩) (.inl rfl) _
  have HKO : Hid (kb < w3.heap.size) := HKw3.out.lt
  have HPOw4 : Hid (((w3.alloc (.cells #[.pointer (some ⟨m, 0, none⟩), .bool true, .bool false, .bool false, .int .i64 0, .bool false] 68)).setCell ⟨kb, 1 + k, none⟩ (.pointer (some ⟨w3.heap.size, 0, none⟩))).heap[w3.heap.size]? = some (.cells #[.pointer (some ⟨m, 0, none⟩), .bool true, .bool false, .bool false, .int .i64 0, .bool false] 68 (0, 0))) := (zag _ _ _ (show w3.heap.size ≠ kb by have := HKO.out; omega)).trans HPw4.out
  have HHw4 : Hid (((w3.alloc (.cells #[.pointer (some ⟨m, 0, none⟩), .bool true, .bool false, .bool false, .int .i64 0, .bool false] 68)).setCell ⟨kb, 1 + k, none⟩ (.pointer (some ⟨w3.heap.size, 0, none⟩))).heap[w.heap.size]? = some (.cells #[.int .i64 0, .int .i64 0, .int .i64 0] 32 (0, 0))) := (zag _ _ _ (HNE.out)).trans (zae HBO.out (zab HHw3.out) HHw3.out)
  have HGw4 : Hid (((w3.alloc (.cells #[.pointer (some ⟨m, 0, none⟩), .bool true, .bool false, .bool false, .int .i64 0, .bool false] 68)).setCell ⟨kb, 1 + k, none⟩ (.pointer (some ⟨w3.heap.size, 0, none⟩))).heap[g]? = some (.cells cur 3 (0, 0))) := (zag _ _ _ (HGK.out.symm)).trans (zae HBO.out (zab HGw3.out) HGw3.out)
  have HMw4 : Hid (((w3.alloc (.cells #[.pointer (some ⟨m, 0, none⟩), .bool true, .bool false, .bool false, .int .i64 0, .bool false] 68)).setCell ⟨kb, 1 + k, none⟩ (.pointer (some ⟨w3.heap.size, 0, none⟩))).heap[m]? = some (.cells #[.bool false, .slice none 0 0, .int .i64 0] 41 (0, 0))) := (zag _ _ _ (HMK.out)).trans (zae HBO.out (zab HMw3.out) HMw3.out)
  have HOw4 : Hid (((w3.alloc (.cells #[.pointer (some ⟨m, 0, none⟩), .bool true, .bool false, .bool false, .int .i64 0, .bool false] 68)).setCell ⟨kb, 1 + k, none⟩ (.pointer (some ⟨w3.heap.size, 0, none⟩))).heap[oa]? = some (.cells #[.pointer (some ⟨m, 0, none⟩), .bool false, .bool true, .bool false, .int .i64 0, .bool false] 68 (0, 0))) := (zag _ _ _ (HOK.out)).trans (zae HBO.out (zab HOw3.out) HOw3.out)
  simp only [zau] at HKS
  go_region
  all_goals
   have HKw4 : Hid (RKAt ((w3.alloc (.cells #[.pointer (some ⟨m, 0, none⟩), .bool true, .bool false, .bool false, .int .i64 0, .bool false] 68)).setCell ⟨kb, 1 + k, none⟩ (.pointer (some ⟨w3.heap.size, 0, none⟩))).drew kb rt (za6 (za6 fds j (some oa)) k (some w3.heap.size)) n0 n1) := HKS.out.below (Below.refl _ _).drew
   clear q2 qf hg0 hg1 q3 qg HKS HBO HPw4 HKw3 HKPw3
   have HSw4 : Hid (w3.heap.size < ((w3.alloc (.cells #[.pointer (some ⟨m, 0, none⟩), .bool true, .bool false, .bool false, .int .i64 0, .bool false] 68)).setCell ⟨kb, 1 + k, none⟩ (.pointer (some ⟨w3.heap.size, 0, none⟩))).heap.size) := zab HPOw4.out
   generalize (w3.alloc (.cells #[.pointer (some ⟨m, 0, none⟩), .bool true, .bool false, .bool false, .int .i64 0, .bool false] 68)).setCell ⟨kb, 1 + k, none⟩ (.pointer (some ⟨w3.heap.size, 0, none⟩)) = w4' at *
   have HPw4 : Hid (w4'.drew.heap[w3.heap.size]? = some (.cells #[.pointer (some ⟨m, 0, none⟩), .bool true, .bool false, .bool false, .int .i64 0, .bool false] 68 (0, 0))) := HPOw4.out
   replace HKPw4 : Hid (Kept (fun b => b = kb) w w4'.drew) := HKPw4.out.drew
   replace HSw4 : Hid (w3.heap.size < w4'.drew.heap.size) := HSw4.out
   replace HHw4 : Hid (w4'.drew.heap[w.heap.size]? = some (.cells #[.int .i64 0, .int .i64 0, .int .i64 0] 32 (0, 0))) := HHw4.out
   replace HGw4 : Hid (w4'.drew.heap[g]? = some (.cells cur 3 (0, 0))) := HGw4.out
   replace HMw4 : Hid (w4'.drew.heap[m]? = some (.cells #[.bool false, .slice none 0 0, .int .i64 0] 41 (0, 0))) := HMw4.out
   replace HOw4 : Hid (w4'.drew.heap[oa]? = some (.cells #[.pointer (some ⟨m, 0, none⟩), .bool false, .bool true, .bool false, .int .i64 0, .bool false] 68 (0, 0))) := HOw4.out
   clear HPOw4
   generalize w4'.drew = w4 at *
   have HSB : Hid (oa < w3.heap.size) := HSw3.out
   generalize w3.heap.size = ob at *
   have HPL : Hid (ob < w4.heap.size) := zab HPw4.out
   obtain ⟨g0, g1, g2⟩ := zz3 HHw4.out
   have gf := fun o => zah HHw4.out o
   have x0 : w4.cell? ⟨g, 0, none⟩ = some (.int .i64 j) := zaa HGw4.out HGC.out
   have x1 : w4.cell? ⟨g, 1, none⟩ = some (.int .i64 k) := zaa HGw4.out HGD.out
   have HY := hid (zap HHw4.out (.int .i64 0) (.int .i64 0) (.int .i64 0))
   have HKS := hid (zao w4 w.heap.size (.int .i64 0) (.int .i64 0) (.int .i64 0))
   have HGW : Hid (g ≠ w.heap.size) := hid (fun h => by have h1 := HHw4.out; rw [← h] at h1; exact zac HGw4.out h1 (by decide) rfl)
   have HGS : Hid ((((w4.setCell ⟨w.heap.size, 0, none⟩ (.int .i64 0)).setCell ⟨w.heap.size, 1, none⟩ (.int .i64 0)).setCell ⟨w.heap.size, 2, none⟩ (.int .i64 0)).heap[g]? = some (.cells cur 3 (0, 0))) := (HKS.out.block g (zab HGw4.out) HGW.out).trans HGw4.out
   have y0 := zaa HGS.out HGC.out
   have y1 := zaa HGS.out HGD.out
   go_wp2_with fail
   go_region
   all_goals
    go_wp2_with fail
    clear g0 g1 g2 gf x0 x1 y0 y1 HGS
    generalize ((w4.setCell ⟨w.heap.size, 0, none⟩ (.int .i64 0)).setCell ⟨w.heap.size, 1, none⟩ (.int .i64 0)).setCell ⟨w.heap.size, 2, none⟩ (.int .i64 0) = W at *
    obtain ⟨r0, r1, r2⟩ := zz3 HY.out
    have hmw : m ≠ w.heap.size := fun h => by have h1 := HHw4.out; rw [← h] at h1; exact zac HMw4.out h1 (by decide) rfl
    have haw : oa ≠ w.heap.size := fun h => by have h1 := HHw4.out; rw [← h] at h1; exact zac HOw4.out h1 (by decide) rfl
    have hbw : ob ≠ w.heap.size := fun h => by have h1 := HHw4.out; rw [← h] at h1; exact zac HPw4.out h1 (by decide) rfl
    refine bodyPost_ret (v := .tuple #[.int .i64 j, .int .i64 k, flt0]) ?_ rfl ⟨rfl, (HKPw4.out.trans HKS.out (fun b h => .inr (by rw [h]; exact Nat.le_refl _))).drew, m, oa, ob, HML.out, HSA.out, by have := HSA.out; have := HSB.out; omega, by have := HSB.out; omega, (HKS.out.block m (zab HMw4.out) hmw).trans HMw4.out, (HKS.out.block oa (zab HOw4.out) haw).trans HOw4.out, (HKS.out.block ob (zab HPw4.out) hbw).trans HPw4.out, (HKw4.out.kept HKS.out (fun h => HNE.out h.symm)).below (Below.refl _ _).drew⟩
    simp [results, Tryz.results31, go_sem, r0, r1, r2, flt0]
end
section
theorem none16 {rt a b : Nat} (j : Nat) (hj : j < 16) : (#[.pointer (some ⟨rt, 0, none⟩), .pointer none, .pointer none, .pointer none, .pointer none, .pointer none, .pointer none, .pointer none, .pointer none, .pointer none, .pointer none, .pointer none, .pointer none, .pointer none, .pointer none, .pointer none, .pointer none, .pointer (some ⟨a, 0, none⟩), .pointer (some ⟨b, 0, none⟩)] : Array Value)[1 + j]? = some (ptrV none) := by
 have h : j = 0 ∨ j = 1 ∨ j = 2 ∨ j = 3 ∨ j = 4 ∨ j = 5 ∨ j = 6 ∨ j = 7 ∨ j = 8 ∨ j = 9 ∨ j = 10 ∨ j = 11 ∨ j = 12 ∨ j = 13 ∨ j = 14 ∨ j = 15 := by omega
 rcases h with rfl | rfl | rfl | rfl | rfl | rfl | rfl | rfl | rfl | rfl | rfl | rfl | rfl | rfl | rfl | rfl <;> rfl
theorem RKAt.con0 {w : World} {kb rt : Nat} {fds : Nat → Option Nat} {c0 c1 : Nat} (h : RKAt w kb rt fds c0 c1) : w.cell? ⟨kb, 17, none⟩ = some (.pointer (some ⟨c0, 0, none⟩)) := by
 obtain ⟨c, h1, _, _, _, h2, _⟩ := h.cells
 exact zaa h1 h2
theorem RKAt.con1 {w : World} {kb rt : Nat} {fds : Nat → Option Nat} {c0 c1 : Nat} (h : RKAt w kb rt fds c0 c1) : w.cell? ⟨kb, 18, none⟩ = some (.pointer (some ⟨c1, 0, none⟩)) := by
 obtain ⟨c, h1, _, _, _, _, h2⟩ := h.cells
 exact zaa h1 h2
structure NKA (w W : World) (rt kb n0 n1 m : Nat) (v : Value) (b : List UInt8) (fds : Nat → Option Nat) (os : List (Nat × ROp)) : Prop where
 below : Below w.heap.size w W
 kern : RKAt W kb rt fds n0 n1
 c0 : W.heap[n0]? = some (.cells #[.bool false, .slice none 0 0, .int .i64 0] 41 (0, 0))
 c1 : W.heap[n1]? = some (.cells #[.bool false, .slice none 0 0, .int .i64 0] 41 (0, 0))
 inp : W.heap[m]? = some (.cells #[.bool false, v, .int .i64 0] 41 (0, 0))
 row : W.ownsRow w.heap.size 5 1 v b.length (u8s b)
 ops : ∀ p ∈ os, zbi W p.1 p.2 ∧ w.heap.size ≤ p.1
 ge : w.heap.size ≤ kb ∧ w.heap.size ≤ n0 ∧ w.heap.size ≤ n1 ∧ w.heap.size ≤ m
 ne : n0 ≠ n1 ∧ n0 ≠ m ∧ n1 ≠ m
theorem NKA.drew {w W : World} {rt kb n0 n1 m : Nat} {v : Value} {b : List UInt8} {fds : Nat → Option Nat} {os : List (Nat × ROp)} (h : NKA w W rt kb n0 n1 m v b fds os) : NKA w W.drew rt kb n0 n1 m v b fds os :=
 ⟨h.below.drew, h.kern.below (Below.refl _ _).drew, h.c0, h.c1, h.inp, World.ownsRow.drew h.row, h.ops, h.ge, h.ne⟩
def opnObj (x : ROp) : Obj := .cells #[.pointer (some ⟨x.node, 0, none⟩), .bool x.inn, .bool x.out, .bool x.add, .int .i64 x.place, .bool x.log] 68
theorem NKA.next {w W : World} {rt kb n0 n1 m : Nat} {v : Value} {b : List UInt8} {fds : Nat → Option Nat} {os : List (Nat × ROp)} (h : NKA w W rt kb n0 n1 m v b fds os) (j : Nat) (hj : j < 16) (x : ROp) :
  NKA w ((W.alloc (opnObj x)).setCell ⟨kb, 1 + j, none⟩ (.pointer (some ⟨W.heap.size, 0, none⟩))) rt kb n0 n1 m v b (za6 fds j (some W.heap.size)) ((W.heap.size, x) :: os) := by
 have hb := zad W (opnObj x)
 have hk := h.kern.lt
 have up : ∀ {q : Nat} {c : Array Value} {t : TypeId}, t ≠ 47 → W.heap[q]? = some (.cells c t (0, 0)) → ((W.alloc (opnObj x)).setCell ⟨kb, 1 + j, none⟩ (.pointer (some ⟨W.heap.size, 0, none⟩))).heap[q]? = some (.cells c t (0, 0)) := fun {q c t} ht hq => by
  have hne : q ≠ kb := fun e => by
   obtain ⟨d, h1, _⟩ := h.kern.cells
   rw [e] at hq
   exact zac hq h1 ht rfl
  exact (zag _ _ _ hne).trans (zae hb (zab hq) hq)
 refine ⟨(h.below.alloc h.below.size _).setCell h.ge.1 _, (h.kern.below hb).set j hj (some W.heap.size), up (by decide) h.c0, up (by decide) h.c1, up (by decide) h.inp, ?_, ?_, h.ge, h.ne⟩
 ·refine zai h.row ((Kept.of_below hb (fun q => q = kb)).setCell (p := ⟨kb, 1 + j, none⟩) (.inl rfl) _) (fun q hq hf => ?_)
  obtain ⟨cur, hc⟩ := zaq h.row hq
  obtain ⟨d, h1, _⟩ := h.kern.cells
  rw [show q = kb from hf] at hc
  exact zac hc h1 (by decide) rfl
 ·intro p hp
  rcases List.mem_cons.1 hp with rfl | hp
  ·exact ⟨(zag _ _ _ (show W.heap.size ≠ kb by omega)).trans (heap_alloc_new W (opnObj x)), h.below.size⟩
  ·exact ⟨up (by decide) (h.ops p hp).1, (h.ops p hp).2⟩
def NewKPost (w : World) (rt : Nat) (b : List UInt8) (e : Ending) (w' : World) : Prop :=
 ∃ kb n0 n1 m o0 o1 o2 v, e = .returned (.pointer (some ⟨kb, 0, none⟩)) ∧ (o0 ≠ o1 ∧ o0 ≠ o2 ∧ o1 ≠ o2) ∧ NKA w w' rt kb n0 n1 m v b (za6 (za6 (za6 (fun _ => none) 0 (some o0)) 1 (some o1)) 2 (some o2)) [(o2, ⟨n1, false, true, false, 0, true⟩), (o1, ⟨n0, false, true, false, 0, true⟩), (o0, ⟨m, true, false, false, 0, false⟩)]
section
attribute [local go_sem ↓] ap_rule
set_option maxRecDepth 100000 in
set_option maxHeartbeats 1000000 in
theorem rk_new (w : World) (rt : Nat) (bv : Value) (b : List UInt8) (hs : Src w bv b) (hbl : b.length ≤ 140737488355328) :
  Calls Tryz.prog 6 #[.pointer (some ⟨rt, 0, none⟩), bv] w fun e w' => NewKPost w rt b e w' := by
 have hbv : ∃ ba bc, bv = .slice ba b.length bc := by
  rcases hs with ⟨h1, h2⟩ | ⟨ad, c, h1, _⟩
  ·exact ⟨none, 0, by rw [h1, h2]; rfl⟩
  ·exact ⟨_, _, h1⟩
 obtain ⟨ba, bc, rfl⟩ := hbv
 have HSR := hid hs
 have HBL := hid hbl
 have HB3 : Hid (Below w.heap.size w (((w.alloc (.cells #[.bool false, .slice none 0 0, .int .i64 0] 41)).alloc (.cells #[.bool false, .slice none 0 0, .int .i64 0] 41)).alloc (.cells #[.pointer (some ⟨rt, 0, none⟩), .pointer none, .pointer none, .pointer none, .pointer none, .pointer none, .pointer none, .pointer none, .pointer none, .pointer none, .pointer none, .pointer none, .pointer none, .pointer none, .pointer none, .pointer none, .pointer none, .pointer (some ⟨w.heap.size, 0, none⟩), .pointer (some ⟨w.heap.size + 1, 0, none⟩)] 47))) := hid (((zad w _).alloc (by simp) _).alloc (by simp; omega) _)
 have HK3 : Hid ((((w.alloc (.cells #[.bool false, .slice none 0 0, .int .i64 0] 41)).alloc (.cells #[.bool false, .slice none 0 0, .int .i64 0] 41)).alloc (.cells #[.pointer (some ⟨rt, 0, none⟩), .pointer none, .pointer none, .pointer none, .pointer none, .pointer none, .pointer none, .pointer none, .pointer none, .pointer none, .pointer none, .pointer none, .pointer none, .pointer none, .pointer none, .pointer none, .pointer none, .pointer (some ⟨w.heap.size, 0, none⟩), .pointer (some ⟨w.heap.size + 1, 0, none⟩)] 47)).heap[w.heap.size + 1 + 1]? = some (.cells #[.pointer (some ⟨rt, 0, none⟩), .pointer none, .pointer none, .pointer none, .pointer none, .pointer none, .pointer none, .pointer none, .pointer none, .pointer none, .pointer none, .pointer none, .pointer none, .pointer none, .pointer none, .pointer none, .pointer none, .pointer (some ⟨w.heap.size, 0, none⟩), .pointer (some ⟨w.heap.size + 1, 0, none⟩)] 47 (0, 0))) := hid (by
  have h := heap_alloc_new ((w.alloc (.cells #[.bool false, .slice none 0 0, .int .i64 0] 41)).alloc (.cells #[.bool false, .slice none 0 0, .int .i64 0] 41)) (.cells #[.pointer (some ⟨rt, 0, none⟩), .pointer none, .pointer none, .pointer none, .pointer none, .pointer none, .pointer none, .pointer none, .pointer none, .pointer none, .pointer none, .pointer none, .pointer none, .pointer none, .pointer none, .pointer none, .pointer none, .pointer (some ⟨w.heap.size, 0, none⟩), .pointer (some ⟨w.heap.size + 1, 0, none⟩)] 47)
  simpa using h)
 have HN1 : Hid ((((w.alloc (.cells #[.bool false, .slice none 0 0, .int .i64 0] 41)).alloc (.cells #[.bool false, .slice none 0 0, .int .i64 0] 41)).alloc (.cells #[.pointer (some ⟨rt, 0, none⟩), .pointer none, .pointer none, .pointer none, .pointer none, .pointer none, .pointer none, .pointer none, .pointer none, .pointer none, .pointer none, .pointer none, .pointer none, .pointer none, .pointer none, .pointer none, .pointer none, .pointer (some ⟨w.heap.size, 0, none⟩), .pointer (some ⟨w.heap.size + 1, 0, none⟩)] 47)).heap[w.heap.size + 1]? = some (.cells #[.bool false, .slice none 0 0, .int .i64 0] 41 (0, 0))) := hid (by
  have h := heap_alloc_new (w.alloc (.cells #[.bool false, .slice none 0 0, .int .i64 0] 41)) (.cells #[.bool false, .slice none 0 0, .int .i64 0] 41)
  have h2 := zae (zad _ (.cells #[.pointer (some ⟨rt, 0, none⟩), .pointer none, .pointer none, .pointer none, .pointer none, .pointer none, .pointer none, .pointer none, .pointer none, .pointer none, .pointer none, .pointer none, .pointer none, .pointer none, .pointer none, .pointer none, .pointer none, .pointer (some ⟨w.heap.size, 0, none⟩), .pointer (some ⟨w.heap.size + 1, 0, none⟩)] 47)) (zab h) h
  simpa using h2)
 have HN0 : Hid ((((w.alloc (.cells #[.bool false, .slice none 0 0, .int .i64 0] 41)).alloc (.cells #[.bool false, .slice none 0 0, .int .i64 0] 41)).alloc (.cells #[.pointer (some ⟨rt, 0, none⟩), .pointer none, .pointer none, .pointer none, .pointer none, .pointer none, .pointer none, .pointer none, .pointer none, .pointer none, .pointer none, .pointer none, .pointer none, .pointer none, .pointer none, .pointer none, .pointer none, .pointer (some ⟨w.heap.size, 0, none⟩), .pointer (some ⟨w.heap.size + 1, 0, none⟩)] 47)).heap[w.heap.size]? = some (.cells #[.bool false, .slice none 0 0, .int .i64 0] 41 (0, 0))) := hid (by
  have h := heap_alloc_new w (.cells #[.bool false, .slice none 0 0, .int .i64 0] 41)
  have h1 := zae (zad _ (.cells #[.bool false, .slice none 0 0, .int .i64 0] 41)) (zab h) h
  exact zae (zad _ (.cells #[.pointer (some ⟨rt, 0, none⟩), .pointer none, .pointer none, .pointer none, .pointer none, .pointer none, .pointer none, .pointer none, .pointer none, .pointer none, .pointer none, .pointer none, .pointer none, .pointer none, .pointer none, .pointer none, .pointer none, .pointer (some ⟨w.heap.size, 0, none⟩), .pointer (some ⟨w.heap.size + 1, 0, none⟩)] 47)) (zab h1) h1)
 clear hs hbl
 go_enter Tryz.func6, Tryz.ntmps6
 go_upto_region 2 with fail
 generalize ((w.alloc (.cells #[.bool false, .slice none 0 0, .int .i64 0] 41)).alloc (.cells #[.bool false, .slice none 0 0, .int .i64 0] 41)).alloc (.cells #[.pointer (some ⟨rt, 0, none⟩), .pointer none, .pointer none, .pointer none, .pointer none, .pointer none, .pointer none, .pointer none, .pointer none, .pointer none, .pointer none, .pointer none, .pointer none, .pointer none, .pointer none, .pointer none, .pointer none, .pointer (some ⟨w.heap.size, 0, none⟩), .pointer (some ⟨w.heap.size + 1, 0, none⟩)] 47) = w3 at *
 obtain ⟨hok, hn2, hown2, hgrow2, hat2⟩ := ap_known_at (w := w3.drew) w.heap.size (.slice none 0 0) 0 [] (World.ownsRow_nil _ _ _ _) (.slice ba b.length bc) b (HSR.out.kept (Kept.of_below HB3.out.drew (fun _ => False)) (fun _ _ h => h)) (by have := HBL.out; omega) HB3.out.size
 have hn2 : apN w3.drew (.slice none 0 0) (.slice ba b.length bc) = b.length := by rw [hn2]; omega
 have HOW : Hid ((apW w3.drew (.slice none 0 0) (.slice ba b.length bc)).ownsRow w.heap.size 5 1 (.slice (apA w3.drew (.slice none 0 0) (.slice ba b.length bc)) b.length (apC w3.drew (.slice none 0 0) (.slice ba b.length bc))) b.length (u8s b)) := hid (by rw [hn2] at hown2; simpa using hown2)
 have hbel : Below w3.heap.size w3 (apW w3.drew (.slice none 0 0) (.slice ba b.length bc)) := (Below.refl _ _).drew.grown hgrow2 (Nat.le_refl _) (fun q hq => by simp [Value.ownBlock] at hq)
 have HBA := hid (zaf HB3.out hbel)
 have HKA : Hid ((apW w3.drew (.slice none 0 0) (.slice ba b.length bc)).heap[w.heap.size + 1 + 1]? = some (.cells #[.pointer (some ⟨rt, 0, none⟩), .pointer none, .pointer none, .pointer none, .pointer none, .pointer none, .pointer none, .pointer none, .pointer none, .pointer none, .pointer none, .pointer none, .pointer none, .pointer none, .pointer none, .pointer none, .pointer none, .pointer (some ⟨w.heap.size, 0, none⟩), .pointer (some ⟨w.heap.size + 1, 0, none⟩)] 47 (0, 0))) := zae hbel (zab HK3.out) HK3.out
 have HN0A : Hid ((apW w3.drew (.slice none 0 0) (.slice ba b.length bc)).heap[w.heap.size]? = some (.cells #[.bool false, .slice none 0 0, .int .i64 0] 41 (0, 0))) := zae hbel (zab HN0.out) HN0.out
 have HN1A : Hid ((apW w3.drew (.slice none 0 0) (.slice ba b.length bc)).heap[w.heap.size + 1]? = some (.cells #[.bool false, .slice none 0 0, .int .i64 0] 41 (0, 0))) := zae hbel (zab HN1.out) HN1.out
 clear hown2 hgrow2 hat2 hbel HK3 HN0 HN1
 have HSZ : Hid (w.heap.size + 1 + 1 < (apW w3.drew (.slice none 0 0) (.slice ba b.length bc)).heap.size) := zab HKA.out
 have HMA : Hid (((apW w3.drew (.slice none 0 0) (.slice ba b.length bc)).alloc (.cells #[.bool false, (.slice (apA w3.drew (.slice none 0 0) (.slice ba b.length bc)) b.length (apC w3.drew (.slice none 0 0) (.slice ba b.length bc))), .int .i64 0] 41)).heap[(apW w3.drew (.slice none 0 0) (.slice ba b.length bc)).heap.size]? = some (.cells #[.bool false, (.slice (apA w3.drew (.slice none 0 0) (.slice ba b.length bc)) b.length (apC w3.drew (.slice none 0 0) (.slice ba b.length bc))), .int .i64 0] 41 (0, 0))) := heap_alloc_new _ _
 have HB4 : Hid (Below (apW w3.drew (.slice none 0 0) (.slice ba b.length bc)).heap.size (apW w3.drew (.slice none 0 0) (.slice ba b.length bc)) (((apW w3.drew (.slice none 0 0) (.slice ba b.length bc)).alloc (.cells #[.bool false, (.slice (apA w3.drew (.slice none 0 0) (.slice ba b.length bc)) b.length (apC w3.drew (.slice none 0 0) (.slice ba b.length bc))), .int .i64 0] 41)).alloc (.cells #[.pointer (some ⟨(apW w3.drew (.slice none 0 0) (.slice ba b.length bc)).heap.size, 0, none⟩), .bool true, .bool false, .bool false, .int .i64 0, .bool false] 68))) := ((zad _ _).alloc (by simp) _)
 have HNK : Hid (NKA w ((apW w3.drew (.slice none 0 0) (.slice ba b.length bc)).alloc (.cells #[.bool false, (.slice (apA w3.drew (.slice none 0 0) (.slice ba b.length bc)) b.length (apC w3.drew (.slice none 0 0) (.slice ba b.length bc))), .int .i64 0] 41)) rt (w.heap.size + 1 + 1) w.heap.size (w.heap.size + 1) (apW w3.drew (.slice none 0 0) (.slice ba b.length bc)).heap.size (.slice (apA w3.drew (.slice none 0 0) (.slice ba b.length bc)) b.length (apC w3.drew (.slice none 0 0) (.slice ba b.length bc))) b (fun _ => none) []) := by
  have hba := zad (apW w3.drew (.slice none 0 0) (.slice ba b.length bc)) (.cells #[.bool false, (.slice (apA w3.drew (.slice none 0 0) (.slice ba b.length bc)) b.length (apC w3.drew (.slice none 0 0) (.slice ba b.length bc))), .int .i64 0] 41)
  exact ⟨zaf HBA.out hba, ⟨⟨_, zae hba (zab HKA.out) HKA.out, rfl, rfl, none16, rfl, rfl⟩⟩, zae hba (zab HN0A.out) HN0A.out, zae hba (zab HN1A.out) HN1A.out, HMA.out, zai HOW.out (Kept.of_below hba (fun _ => False)) (fun _ _ h => h), by simp, ⟨by omega, by omega, by omega, HBA.out.size⟩, ⟨by omega, by have := HSZ.out; omega, by have := HSZ.out; omega⟩⟩
 have HNX := hid (HNK.out.next 0 (by decide) ⟨(apW w3.drew (.slice none 0 0) (.slice ba b.length bc)).heap.size, true, false, false, 0, false⟩)
 have HKR := hid (HNK.out.kern.below (zad _ (.cells #[.pointer (some ⟨(apW w3.drew (.slice none 0 0) (.slice ba b.length bc)).heap.size, 0, none⟩), .bool true, .bool false, .bool false, .int .i64 0, .bool false] 68)))
 have q1 : (((apW w3.drew (.slice none 0 0) (.slice ba b.length bc)).alloc (.cells #[.bool false, (.slice (apA w3.drew (.slice none 0 0) (.slice ba b.length bc)) b.length (apC w3.drew (.slice none 0 0) (.slice ba b.length bc))), .int .i64 0] 41)).alloc (.cells #[.pointer (some ⟨(apW w3.drew (.slice none 0 0) (.slice ba b.length bc)).heap.size, 0, none⟩), .bool true, .bool false, .bool false, .int .i64 0, .bool false] 68)).cell? ⟨w.heap.size + 1 + 1, 1, none⟩ = some (.pointer none) := HKR.out.fd 0 (by decide)
 have qf := fun o => HKR.out.free o
 have hne1 : w.heap.size + 1 + 1 ≠ (apW w3.drew (.slice none 0 0) (.slice ba b.length bc)).heap.size := by have := HSZ.out; omega
 have hne2 : w.heap.size + 1 + 1 ≠ (apW w3.drew (.slice none 0 0) (.slice ba b.length bc)).heap.size + 1 := by have := HSZ.out; omega
 have HNY : Hid (NKA w ((((apW w3.drew (.slice none 0 0) (.slice ba b.length bc)).alloc (.cells #[.bool false, (.slice (apA w3.drew (.slice none 0 0) (.slice ba b.length bc)) b.length (apC w3.drew (.slice none 0 0) (.slice ba b.length bc))), .int .i64 0] 41)).alloc (.cells #[.pointer (some ⟨(apW w3.drew (.slice none 0 0) (.slice ba b.length bc)).heap.size, 0, none⟩), .bool true, .bool false, .bool false, .int .i64 0, .bool false] 68)).setCell ⟨w.heap.size + 1 + 1, 1, none⟩ (.pointer (some ⟨(apW w3.drew (.slice none 0 0) (.slice ba b.length bc)).heap.size + 1, 0, none⟩))) rt (w.heap.size + 1 + 1) w.heap.size (w.heap.size + 1) (apW w3.drew (.slice none 0 0) (.slice ba b.length bc)).heap.size (.slice (apA w3.drew (.slice none 0 0) (.slice ba b.length bc)) b.length (apC w3.drew (.slice none 0 0) (.slice ba b.length bc))) b (za6 (fun _ => none) 0 (some ((apW w3.drew (.slice none 0 0) (.slice ba b.length bc)).heap.size + 1))) [((apW w3.drew (.slice none 0 0) (.slice ba b.length bc)).heap.size + 1, ⟨(apW w3.drew (.slice none 0 0) (.slice ba b.length bc)).heap.size, true, false, false, 0, false⟩)]) := by
  have h := HNX.out
  rw [show ((apW w3.drew (.slice none 0 0) (.slice ba b.length bc)).alloc (.cells #[.bool false, (.slice (apA w3.drew (.slice none 0 0) (.slice ba b.length bc)) b.length (apC w3.drew (.slice none 0 0) (.slice ba b.length bc))), .int .i64 0] 41)).heap.size = (apW w3.drew (.slice none 0 0) (.slice ba b.length bc)).heap.size + 1 by simp] at h
  exact h
 go_region
 all_goals
  clear q1 qf hne1 hne2 hok hn2 HOW HBA HKA HN0A HN1A HMA HB4 HKR HB3 HSR HNX HNK HBL
  generalize (((apW w3.drew (.slice none 0 0) (.slice ba b.length bc)).alloc (.cells #[.bool false, (.slice (apA w3.drew (.slice none 0 0) (.slice ba b.length bc)) b.length (apC w3.drew (.slice none 0 0) (.slice ba b.length bc))), .int .i64 0] 41)).alloc (.cells #[.pointer (some ⟨(apW w3.drew (.slice none 0 0) (.slice ba b.length bc)).heap.size, 0, none⟩), .bool true, .bool false, .bool false, .int .i64 0, .bool false] 68)).setCell ⟨w.heap.size + 1 + 1, 1, none⟩ (.pointer (some ⟨(apW w3.drew (.slice none 0 0) (.slice ba b.length bc)).heap.size + 1, 0, none⟩)) = w5 at *
  generalize ((.slice (apA w3.drew (.slice none 0 0) (.slice ba b.length bc)) b.length (apC w3.drew (.slice none 0 0) (.slice ba b.length bc))) : Value) = v at *
  have HMN : Hid (w.heap.size + 1 + 1 < (apW w3.drew (.slice none 0 0) (.slice ba b.length bc)).heap.size) := HSZ.out
  clear HSZ
  generalize (apW w3.drew (.slice none 0 0) (.slice ba b.length bc)).heap.size = m at *
  have HOL0 : Hid (m + 1 < w5.heap.size) := zab (HNY.out.ops _ (List.mem_cons_self ..)).1
  have q17 := (HNY.out.kern).con0
  have q1 : w5.cell? ⟨w.heap.size + 1 + 1, 2, none⟩ = some (.pointer none) := (HNY.out.kern).fd 1 (by decide)
  have qf := fun o => (HNY.out.kern).free o
  have p17 := (HNY.out.kern.below (zad _ (.cells #[.pointer (some ⟨w.heap.size, 0, none⟩), .bool false, .bool true, .bool false, .int .i64 0, .bool true] 68))).con0
  have p1 : (w5.alloc (.cells #[.pointer (some ⟨w.heap.size, 0, none⟩), .bool false, .bool true, .bool false, .int .i64 0, .bool true] 68)).cell? ⟨w.heap.size + 1 + 1, 2, none⟩ = some (.pointer none) := (HNY.out.kern.below (zad _ (.cells #[.pointer (some ⟨w.heap.size, 0, none⟩), .bool false, .bool true, .bool false, .int .i64 0, .bool true] 68))).fd 1 (by decide)
  have pf := fun o => (HNY.out.kern.below (zad _ (.cells #[.pointer (some ⟨w.heap.size, 0, none⟩), .bool false, .bool true, .bool false, .int .i64 0, .bool true] 68))).free o
  have hne : w.heap.size + 1 + 1 ≠ w5.heap.size := by have := (HNY.out.kern).lt; omega
  have HNZ : Hid (NKA w ((w5.alloc (.cells #[.pointer (some ⟨w.heap.size, 0, none⟩), .bool false, .bool true, .bool false, .int .i64 0, .bool true] 68)).setCell ⟨w.heap.size + 1 + 1, 2, none⟩ (.pointer (some ⟨w5.heap.size, 0, none⟩))).drew rt (w.heap.size + 1 + 1) w.heap.size (w.heap.size + 1) m v b (za6 (za6 (fun _ => none) 0 (some (m + 1))) 1 (some w5.heap.size)) ((w5.heap.size, ⟨w.heap.size, false, true, false, 0, true⟩) :: [(m + 1, ⟨m, true, false, false, 0, false⟩)])) := (HNY.out.next 1 (by decide) ⟨w.heap.size, false, true, false, 0, true⟩).drew
  have HOL1 : Hid (w5.heap.size < ((w5.alloc (.cells #[.pointer (some ⟨w.heap.size, 0, none⟩), .bool false, .bool true, .bool false, .int .i64 0, .bool true] 68)).setCell ⟨w.heap.size + 1 + 1, 2, none⟩ (.pointer (some ⟨w5.heap.size, 0, none⟩))).drew.heap.size) := zab (HNZ.out.ops _ (List.mem_cons_self ..)).1
  go_wp2_with fail
  go_region
  all_goals
   clear q1 q17 qf p1 p17 pf hne HNY
   have HNY := HNZ
   clear HNZ
   generalize ((w5.alloc (.cells #[.pointer (some ⟨w.heap.size, 0, none⟩), .bool false, .bool true, .bool false, .int .i64 0, .bool true] 68)).setCell ⟨w.heap.size + 1 + 1, 2, none⟩ (.pointer (some ⟨w5.heap.size, 0, none⟩))).drew = w6 at *
   generalize w5.heap.size = o1 at *
   have q18 := (HNY.out.kern).con1
   have q1 : w6.cell? ⟨w.heap.size + 1 + 1, 3, none⟩ = some (.pointer none) := (HNY.out.kern).fd 2 (by decide)
   have qf := fun o => (HNY.out.kern).free o
   have p18 := (HNY.out.kern.below (zad _ (.cells #[.pointer (some ⟨w.heap.size + 1, 0, none⟩), .bool false, .bool true, .bool false, .int .i64 0, .bool true] 68))).con1
   have p1 : (w6.alloc (.cells #[.pointer (some ⟨w.heap.size + 1, 0, none⟩), .bool false, .bool true, .bool false, .int .i64 0, .bool true] 68)).cell? ⟨w.heap.size + 1 + 1, 3, none⟩ = some (.pointer none) := (HNY.out.kern.below (zad _ (.cells #[.pointer (some ⟨w.heap.size + 1, 0, none⟩), .bool false, .bool true, .bool false, .int .i64 0, .bool true] 68))).fd 2 (by decide)
   have pf := fun o => (HNY.out.kern.below (zad _ (.cells #[.pointer (some ⟨w.heap.size + 1, 0, none⟩), .bool false, .bool true, .bool false, .int .i64 0, .bool true] 68))).free o
   have hne : w.heap.size + 1 + 1 ≠ w6.heap.size := by have := (HNY.out.kern).lt; omega
   have HNZ : Hid (NKA w ((w6.alloc (.cells #[.pointer (some ⟨w.heap.size + 1, 0, none⟩), .bool false, .bool true, .bool false, .int .i64 0, .bool true] 68)).setCell ⟨w.heap.size + 1 + 1, 3, none⟩ (.pointer (some ⟨w6.heap.size, 0, none⟩))).drew rt (w.heap.size + 1 + 1) w.heap.size (w.heap.size + 1) m v b (za6 (za6 (za6 (fun _ => none) 0 (some (m + 1))) 1 (some o1)) 2 (some w6.heap.size)) ((w6.heap.size, ⟨w.heap.size + 1, false, true, false, 0, true⟩) :: ((o1, ⟨w.heap.size, false, true, false, 0, true⟩) :: [(m + 1, ⟨m, true, false, false, 0, false⟩)]))) := (HNY.out.next 2 (by decide) ⟨w.heap.size + 1, false, true, false, 0, true⟩).drew
   have HOL2 : Hid (w6.heap.size < ((w6.alloc (.cells #[.pointer (some ⟨w.heap.size + 1, 0, none⟩), .bool false, .bool true, .bool false, .int .i64 0, .bool true] 68)).setCell ⟨w.heap.size + 1 + 1, 3, none⟩ (.pointer (some ⟨w6.heap.size, 0, none⟩))).drew.heap.size) := zab (HNZ.out.ops _ (List.mem_cons_self ..)).1
   go_wp2_with fail
   go_region
   all_goals
    clear q1 q18 qf p1 p18 pf hne HNY
    have HNY := HNZ
    clear HNZ
    generalize ((w6.alloc (.cells #[.pointer (some ⟨w.heap.size + 1, 0, none⟩), .bool false, .bool true, .bool false, .int .i64 0, .bool true] 68)).setCell ⟨w.heap.size + 1 + 1, 3, none⟩ (.pointer (some ⟨w6.heap.size, 0, none⟩))).drew = w7 at *
    generalize w6.heap.size = o2 at *
    go_wp2_with fail
    go_ret
    exact ⟨_, _, _, m, m + 1, o1, o2, v, rfl, ⟨by have := HOL0.out; omega, by have := HOL0.out; have := HOL1.out; omega, by have := HOL1.out; omega⟩, HNY.out⟩
end
end
end Go.Proofs.YteeeaeiafdgpkaaGreatDoor
