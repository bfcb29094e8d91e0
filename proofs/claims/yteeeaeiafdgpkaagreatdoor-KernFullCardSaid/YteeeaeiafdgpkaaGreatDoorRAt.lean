/-
 The document's WriteAt and ReadAt; the program's ReadAt of negative numbers.
-/
import Derived.Test.YteeeaeiafdgpkaaGreatDoorRefB
import Derived.Test.YteeeaeiafdgpkaaGreatDoorKFileA
import Derived.Deep.DeepCutAuto
namespace Go.Proofs.YteeeaeiafdgpkaaGreatDoor
open Go Go.RowKit
open Go.Lib (hid)
def zdr (d : List UInt8) (pos n : Int) : List UInt8 := if pos < 0 ∨ n < 0 then [] else zb8 d pos.toNat n.toNat
set_option maxRecDepth 100000 in
set_option maxHeartbeats 1000000 in
theorem rread_none (k : Nat) (a : Option Addr) (len c : Nat) (pos n : Int) (w : World) (hk : w.cell? ⟨k, 1, none⟩ = some (.slice a len c)) (h : pos < 0 ∨ n < 0 ∨ (len : Int) ≤ pos) :
  Calls Tryz.prog 88 #[.pointer (some ⟨k, 0, none⟩), .int .i64 pos, .int .i64 n] w fun e w' => zcx w [] e w' := by
 go_enter Tryz.func88, Tryz.ntmps88
 by_cases h1 : pos < 0
 ·go_wp2_with fail
  go_ret
  exact ⟨_, rfl, World.ownsRow_nil _ _ _ _, Below.refl _ _⟩
 ·by_cases h2 : n < 0
  ·go_wp2_with fail
   go_ret
   exact ⟨_, rfl, World.ownsRow_nil _ _ _ _, Below.refl _ _⟩
  ·have h3 : (len : Int) ≤ pos := by omega
   clear h
   go_wp2_with fail
   go_ret
   exact ⟨_, rfl, World.ownsRow_nil _ _ _ _, Below.refl _ _⟩
section
attribute [local go_sem ↓] ap_rule
set_option maxRecDepth 100000 in
set_option maxHeartbeats 1000000 in
theorem rread_some (pos n : Nat) (k : Nat) (g len c : Nat) (w : World) (hn : (n : Int) ≤ 9223372036854775807) (hlt : pos < len) (hlen : len ≤ 140737488355328) (hc : len ≤ c)
  (hk : w.cell? ⟨k, 1, none⟩ = some (.slice (some ⟨g, 0, none⟩) len c))
  (l : List UInt8) (hll : l.length = len) (hs : Src w (.slice (some ⟨g, 0, none⟩) len c) l) :
  Calls Tryz.prog 88 #[.pointer (some ⟨k, 0, none⟩), .int .i64 pos, .int .i64 n] w fun e w' => zcx w (zb8 l pos n) e w' := by
 have hli : (pos : Int) < len := by omega
 have hleni : (len : Int) ≤ 140737488355328 := by omega
 obtain ⟨m, hm⟩ : ∃ m : Nat, m = min n (len - pos) := ⟨_, rfl⟩
 obtain ⟨q, hq⟩ : ∃ q : Nat, q = pos + m := ⟨_, rfl⟩
 have hrl : (zb8 l pos n).length = m := by unfold zb8; rw [List.length_take, List.length_drop, hll, hm]
 have hsrc : Src w.drew (.slice (some ⟨g, pos, none⟩) m (c - pos)) (zb8 l pos n) := by
  have h := src_cut (g := g) (o := 0) (c := c) (hll.symm ▸ hs) pos m (by omega) (by omega)
  rw [Nat.zero_add] at h
  have e : (l.drop pos).take m = zb8 l pos n := by
   unfold zb8
   rw [hm, ← hll, ← List.length_drop, List.take_eq_take_iff]
   simp
  rw [e] at h
  exact h
 obtain ⟨hok, hn2, hown2, hgrow2⟩ := zex (w := w.drew) w.heap.size (.slice none 0 0) 0 [] (World.ownsRow_nil _ _ _ _) _ _ hsrc (by omega) (Nat.le_refl _)
 have HO2 : Hid ((apW w.drew (.slice none 0 0) (.slice (some ⟨g, pos, none⟩) m (c - pos))).ownsRow w.heap.size 5 1 (.slice (apA w.drew (.slice none 0 0) (.slice (some ⟨g, pos, none⟩) m (c - pos))) (apN w.drew (.slice none 0 0) (.slice (some ⟨g, pos, none⟩) m (c - pos))) (apC w.drew (.slice none 0 0) (.slice (some ⟨g, pos, none⟩) m (c - pos)))) (zb8 l pos n).length (u8s (zb8 l pos n))) := by
  show World.ownsRow _ _ _ _ _ _ _
  have h := hown2
  rw [Nat.zero_add, List.nil_append] at h
  exact h
 have HG2 : Hid (Below w.heap.size w (apW w.drew (.slice none 0 0) (.slice (some ⟨g, pos, none⟩) m (c - pos)))) := ⟨hgrow2.os, hgrow2.tape, hgrow2.output, hgrow2.size, fun x hx => hgrow2.block x hx (by simp [Value.ownBlock])⟩
 have e1 : IntKind.i64.wrap ((len : Int) - pos) = (len : Int) - pos := IntWalk.i64_in _ (by omega)
 have e2 : min (n : Int) ((len : Int) - pos) = m := by omega
 have e3 : IntKind.i64.wrap ((pos : Int) + m) = q := by rw [IntWalk.i64_in _ (by omega)]; omega
 have hqc : (q : Int) ≤ c := by omega
 have hpq : pos ≤ q := by omega
 have hqp : q - pos = m := by omega
 have hcp : ¬ c = pos := by omega
 have HM := hid hm
 have HQ := hid hq
 have HLL := hid hll
 have HRL := hid hrl
 have HLEN := hid hlen
 clear hs hm hq hll hrl hsrc hn2 hown2 hgrow2 hlen
 go_enter Tryz.func88, Tryz.ntmps88
 go_wp2_with fail
 go_region
 go_wp2_with fail
 go_ret
 exact ⟨_, rfl, HO2.out, HG2.out⟩
end
theorem readI_le (d : List UInt8) (pos n : Int) : (zdr d pos n).length ≤ d.length := by
 unfold zdr
 split
 ·exact Nat.zero_le _
 ·rw [zef]; omega
theorem refPut_eq (d : List UInt8) (pos : Nat) (b : List UInt8) : (if pos + b.length < d.length then d.take pos ++ List.replicate (pos - d.length) 0 ++ b ++ d.drop (pos + b.length) else d.take pos ++ List.replicate (pos - d.length) 0 ++ b) = zb9 d pos b := by
 unfold zb9
 by_cases h : pos + b.length < d.length
 ·have h0 : pos + b.length - d.length = 0 := by omega
  have h1 : pos - d.length = 0 := by omega
  rw [if_pos h, h0, h1]
  simp
 ·rw [if_neg h]
  have e : (d ++ List.replicate (pos + b.length - d.length) (0 : UInt8)).drop (pos + b.length) = [] := List.drop_eq_nil_of_le (by simp; omega)
  rw [e, List.append_nil, List.take_append, List.take_replicate]
  have e2 : min (pos - d.length) (pos + b.length - d.length) = pos - d.length := by omega
  rw [e2]
theorem putAt_len {d : List UInt8} {pos : Nat} {b : List UInt8} (hd : d.length ≤ 65536) (hp : pos + b.length ≤ 65536) : (zb9 d pos b).length ≤ 65536 := by
 rw [← refPut_eq]
 split <;> simp <;> omega
structure RWAPost (B : Nat) (w : World) (R : RT) (m : Nat) (d : RNd) (pos : Int) (b : List UInt8) (e : Ending) (w' : World) : Prop where
 kept : Kept R.foot w w'
 case : (∃ c, c ≠ 0 ∧ e = .returned (fltV c) ∧ RRep B w' R ∧ Below w.heap.size w w' ∧ ((c = 1 ∧ pos < 0) ∨ (c = 19 ∧ 0 ≤ pos ∧ 65536 < pos + b.length))) ∨
  (e = .returned flt0 ∧ 0 ≤ pos ∧ pos + b.length ≤ 65536 ∧ b = [] ∧ RRep B w' R ∧ Below w.heap.size w w') ∨
  (e = .returned flt0 ∧ 0 ≤ pos ∧ pos + b.length ≤ 65536 ∧ 0 < b.length ∧ ∃ R', RRep B w' R' ∧ R'.tb = R.tb ∧ RTurned R R' m d (zb9 d.data pos.toNat b) ∧ za5 w.heap.size R R')
set_option maxRecDepth 100000 in
set_option maxHeartbeats 1000000 in
theorem rwa_arg {B : Nat} {R : RT} (pos : Int) (bv : Value) (b : List UInt8) (w : World) (hR : RRep B w R) (m : Nat) (d : RNd) (hp : pos < 0) :
  Calls Tryz.prog 89 #[.pointer (some ⟨R.tb, 0, none⟩), .pointer (some ⟨m, 0, none⟩), .int .i64 pos, bv] w fun e w' => RWAPost B w R m d pos b e w' := by
 have HR := hid hR
 have HB0 := hid (zad w (.cells #[.int .i64 0, .int .i64 0, .int .i64 0] 32))
 have HH0 := hid (heap_alloc_new w (.cells #[.int .i64 0, .int .i64 0, .int .i64 0] 32))
 clear hR
 go_enter Tryz.func89, Tryz.ntmps89
 go_wp2_with fail
 generalize w.alloc (.cells #[.int .i64 0, .int .i64 0, .int .i64 0] 32) = w0 at *
 refine (zax 1 w0).mono ?_
 rintro e w9 ⟨rfl, hb9⟩
 have HB9 := hid (zaf HB0.out hb9)
 have HH9 : Hid (w9.heap[w.heap.size]? = some (.cells #[.int .i64 0, .int .i64 0, .int .i64 0] 32 (0, 0))) := zae hb9 (zab HH0.out) HH0.out
 clear hb9
 obtain ⟨g0, g1, g2⟩ := zz3 HH9.out
 have gf := fun o => zah HH9.out o
 obtain ⟨hx, hy⟩ := zat HB9.out (Nat.le_refl _) HH9.out (.int .i64 1) (.int .i64 0) (.int .i64 11)
 have HX := hid hx
 have HY := hid hy
 clear hx hy
 simp only [fltV]
 go_wp2_with fail
 clear g0 g1 g2 gf
 generalize ((w9.setCell ⟨w.heap.size, 0, none⟩ (.int .i64 1)).setCell ⟨w.heap.size, 1, none⟩ (.int .i64 0)).setCell ⟨w.heap.size, 2, none⟩ (.int .i64 11) = W at *
 obtain ⟨r0, r1, r2⟩ := zz3 HY.out
 refine bodyPost_ret (v := fltV 1) ?_ rfl ⟨Kept.of_below HX.out _, .inl ⟨1, by decide, rfl, HR.out.below HX.out, HX.out, .inl ⟨rfl, hp⟩⟩⟩
 simp [results, Tryz.results89, go_sem, r0, r1, r2, fltV]
set_option maxRecDepth 100000 in
set_option maxHeartbeats 1000000 in
theorem rwa_full {B : Nat} {R : RT} (pos : Int) (ba : Option Addr) (bc : Nat) (b : List UInt8) (w : World) (hR : RRep B w R) (m : Nat) (d : RNd) (hp : 0 ≤ pos) (hpb : 65536 < pos + b.length) :
  Calls Tryz.prog 89 #[.pointer (some ⟨R.tb, 0, none⟩), .pointer (some ⟨m, 0, none⟩), .int .i64 pos, .slice ba b.length bc] w fun e w' => RWAPost B w R m d pos b e w' := by
 have HR := hid hR
 have HB0 := hid (zad w (.cells #[.int .i64 0, .int .i64 0, .int .i64 0] 32))
 have HH0 := hid (heap_alloc_new w (.cells #[.int .i64 0, .int .i64 0, .int .i64 0] 32))
 have HPB := hid hpb
 have hn : ¬ pos < 0 := by omega
 clear hR hpb
 go_enter Tryz.func89, Tryz.ntmps89
 have key : ∀ w0, Hid (Below w.heap.size w w0) → Hid (w0.heap[w.heap.size]? = some (.cells #[.int .i64 0, .int .i64 0, .int .i64 0] 32 (0, 0))) → Calls Tryz.prog 59 #[.int .i64 19] w0 fun e w9 => e = .returned (fltV 19) ∧ Hid (Below w.heap.size w w9) ∧ Hid (w9.heap[w.heap.size]? = some (.cells #[.int .i64 0, .int .i64 0, .int .i64 0] 32 (0, 0))) := fun w0 h1 h2 =>
  (zax 19 w0).mono fun e w9 ⟨he, hb9⟩ => ⟨he, zaf h1.out hb9, zae hb9 (zab h2.out) h2.out⟩
 have KEY := hid key
 clear key
 by_cases h1 : (65536 : Int) < pos
 ·go_wp2_with fail
  generalize w.alloc (.cells #[.int .i64 0, .int .i64 0, .int .i64 0] 32) = w0 at *
  refine (KEY.out w0 HB0 HH0).mono ?_
  rintro e w9 ⟨rfl, HB9, HH9⟩
  obtain ⟨g0, g1, g2⟩ := zz3 HH9.out
  have gf := fun o => zah HH9.out o
  obtain ⟨hx, hy⟩ := zat HB9.out (Nat.le_refl _) HH9.out (.int .i64 19) (.int .i64 0) (.int .i64 11)
  have HX := hid hx
  have HY := hid hy
  clear hx hy
  simp only [fltV]
  go_wp2_with fail
  clear g0 g1 g2 gf
  generalize ((w9.setCell ⟨w.heap.size, 0, none⟩ (.int .i64 19)).setCell ⟨w.heap.size, 1, none⟩ (.int .i64 0)).setCell ⟨w.heap.size, 2, none⟩ (.int .i64 11) = W at *
  obtain ⟨r0, r1, r2⟩ := zz3 HY.out
  refine bodyPost_ret (v := fltV 19) ?_ rfl ⟨Kept.of_below HX.out _, .inl ⟨19, by decide, rfl, HR.out.below HX.out, HX.out, .inr ⟨rfl, hp, HPB.out⟩⟩⟩
  simp [results, Tryz.results89, go_sem, r0, r1, r2, fltV]
 ·have e1 : IntKind.i64.wrap (65536 - pos) = 65536 - pos := IntWalk.i64_in _ (by omega)
  have h2 : 65536 - pos < (b.length : Int) := by have := HPB.out; omega
  go_wp2_with fail
  generalize w.alloc (.cells #[.int .i64 0, .int .i64 0, .int .i64 0] 32) = w0 at *
  refine (KEY.out w0 HB0 HH0).mono ?_
  rintro e w9 ⟨rfl, HB9, HH9⟩
  obtain ⟨g0, g1, g2⟩ := zz3 HH9.out
  have gf := fun o => zah HH9.out o
  obtain ⟨hx, hy⟩ := zat HB9.out (Nat.le_refl _) HH9.out (.int .i64 19) (.int .i64 0) (.int .i64 11)
  have HX := hid hx
  have HY := hid hy
  clear hx hy
  simp only [fltV]
  go_wp2_with fail
  clear g0 g1 g2 gf
  generalize ((w9.setCell ⟨w.heap.size, 0, none⟩ (.int .i64 19)).setCell ⟨w.heap.size, 1, none⟩ (.int .i64 0)).setCell ⟨w.heap.size, 2, none⟩ (.int .i64 11) = W at *
  obtain ⟨r0, r1, r2⟩ := zz3 HY.out
  refine bodyPost_ret (v := fltV 19) ?_ rfl ⟨Kept.of_below HX.out _, .inl ⟨19, by decide, rfl, HR.out.below HX.out, HX.out, .inr ⟨rfl, hp, HPB.out⟩⟩⟩
  simp [results, Tryz.results89, go_sem, r0, r1, r2, fltV]
set_option maxRecDepth 100000 in
set_option maxHeartbeats 1000000 in
theorem rwa_none {B : Nat} {R : RT} (pos : Int) (ba : Option Addr) (bc : Nat) (w : World) (hR : RRep B w R) (m : Nat) (d : RNd) (hp : 0 ≤ pos) (hpb : pos ≤ 65536) :
  Calls Tryz.prog 89 #[.pointer (some ⟨R.tb, 0, none⟩), .pointer (some ⟨m, 0, none⟩), .int .i64 pos, .slice ba 0 bc] w fun e w' => RWAPost B w R m d pos [] e w' := by
 have HR := hid hR
 have HB0 := hid (zad w (.cells #[.int .i64 0, .int .i64 0, .int .i64 0] 32))
 have HH0 := hid (heap_alloc_new w (.cells #[.int .i64 0, .int .i64 0, .int .i64 0] 32))
 have hn : ¬ pos < 0 := by omega
 have h1 : ¬ (65536 : Int) < pos := by omega
 have e1 : IntKind.i64.wrap (65536 - pos) = 65536 - pos := IntWalk.i64_in _ (by omega)
 have h2 : ¬ 65536 - pos < (0 : Int) := by omega
 clear hR
 go_enter Tryz.func89, Tryz.ntmps89
 go_upto_region 6 with fail
 generalize w.alloc (.cells #[.int .i64 0, .int .i64 0, .int .i64 0] 32) = w9 at *
 obtain ⟨g0, g1, g2⟩ := zz3 HH0.out
 have gf := fun o => zah HH0.out o
 obtain ⟨hx, hy⟩ := zat HB0.out (Nat.le_refl _) HH0.out (.int .i64 0) (.int .i64 0) (.int .i64 0)
 have HX := hid hx
 have HY := hid hy
 clear hx hy
 go_wp2_with fail
 clear g0 g1 g2 gf
 generalize ((w9.setCell ⟨w.heap.size, 0, none⟩ (.int .i64 0)).setCell ⟨w.heap.size, 1, none⟩ (.int .i64 0)).setCell ⟨w.heap.size, 2, none⟩ (.int .i64 0) = W at *
 obtain ⟨r0, r1, r2⟩ := zz3 HY.out
 refine bodyPost_ret (v := flt0) ?_ rfl ⟨Kept.of_below HX.out _, .inr (.inl ⟨rfl, hp, by simpa using hpb, rfl, HR.out.below HX.out, HX.out⟩)⟩
 simp [results, Tryz.results89, go_sem, r0, r1, r2, flt0]
def lenV : Value → Nat
 | .slice _ n _ => n
 | _ => 0
def zfe (j : Nat) : List UInt8 := List.replicate j 0
theorem zerosB_succ (j : Nat) : zfe (j + 1) = zfe j ++ [0] := List.replicate_succ'
theorem za5.stamp {n k : Nat} {R R1 : RT} {d1 : RNd} (h : za5 n R R1) (hd : R1.nd k = some d1) : za5 n R (R1.stamp1 k d1) := by
 intro x d b hx hb
 have hx : (if x = k then some { d1 with tick := R1.now + 1 } else R1.nd x) = some d := hx
 by_cases e : x = k
 ·rw [if_pos e] at hx
  cases hx
  exact h k d1 b hd hb
 ·rw [if_neg e] at hx
  exact h x d b hx hb
theorem ap_rule2 {w : World} {a : Act} {d : Option Tmp} {s t : Nat} {pos : String} {af : Array Edge} {g : Option (Nat × Bool)} (h : ApOk w (a.eval (.tmp s)) (a.eval (.tmp t))) :
  (execOp a.eval ⟨d, .call { callee := .builtin .append, args := #[.tmp s, .tmp t], argTypes := #[28, 28] }, 28, pos, af, g⟩).run Tryz.prog w =
   .ok (.value (.slice (apA w (a.eval (.tmp s)) (a.eval (.tmp t))) (apN w (a.eval (.tmp s)) (a.eval (.tmp t))) (apC w (a.eval (.tmp s)) (a.eval (.tmp t))))) (apW w (a.eval (.tmp s)) (a.eval (.tmp t))) := by
 have hr := apOk_run h
 unfold apRun at hr
 unfold execOp
 simp only [resolve, invoke, builtin, Sem.run_bind, Sem.run_pure, Result.andThen_ok, List.map_toArray, List.map_cons, List.map_nil, hr]
section
attribute [local go_sem ↓] ap_rule2
set_option maxRecDepth 100000 in
set_option maxHeartbeats 2000000 in
theorem rwa_ok {B : Nat} {R : RT} (p : Nat) (bv : Value) (b : List UInt8) (w : World) (hR : RRep B w R) (hb : RB R) (m : Nat) (d : RNd) (hd : R.nd m = some d) (hdl : d.data.length ≤ 65536) (hpb : p + b.length ≤ 65536) (hbl : 0 < b.length) (hs : Src w bv b) :
  Calls Tryz.prog 89 #[.pointer (some ⟨R.tb, 0, none⟩), .pointer (some ⟨m, 0, none⟩), .int .i64 p, bv] w fun e w' => RWAPost B w R m d p b e w' := by
 have hbv : ∃ ba bc, bv = .slice ba b.length bc := by
  rcases hs with ⟨h1, h2⟩ | ⟨ad, c, h1, _⟩
  ·exact ⟨none, 0, by rw [h1, h2]; rfl⟩
  ·exact ⟨_, _, h1⟩
 obtain ⟨ba, bc, rfl⟩ := hbv
 have HS := hid hs
 have HR := hid hR
 have HRB := hid hb
 have HD := hid hd
 have HB0 := hid (zad w (.cells #[.int .i64 0, .int .i64 0, .int .i64 0] 32))
 have HH0 := hid (heap_alloc_new w (.cells #[.int .i64 0, .int .i64 0, .int .i64 0] 32))
 obtain ⟨dl, hdle⟩ : ∃ dl, d.data.length = dl := ⟨_, rfl⟩
 obtain ⟨q, hq⟩ : ∃ q, q = min p dl := ⟨_, rfl⟩
 have hdl2 : dl ≤ 65536 := by omega
 have HDL := hid hdle
 have HQ := hid hq
 have htl : (d.data.take p).length = q := by rw [List.length_take]; omega
 have HTL := hid htl
 have HPB := hid hpb
 have HBL := hid hbl
 have hrow := (hR.node m d hd).2
 have HROW : Hid ((d.dv = .slice none 0 0 ∧ dl = 0) ∨ ∃ g c, d.dv = .slice (some ⟨g, 0, none⟩) dl c ∧ dl ≤ c) := by
  show _ ∨ _
  rcases hrow.2 with ⟨h, h0⟩ | ⟨g, cap, cur, hbv, _, _, hc, _⟩
  ·exact .inl ⟨h, by omega⟩
  ·exact .inr ⟨g, cap, by rw [hbv, hdle], by omega⟩
 have hn : ¬ (p : Int) < 0 := by omega
 have h1 : ¬ (65536 : Int) < p := by omega
 have e1 : IntKind.i64.wrap (65536 - (p : Int)) = 65536 - p := IntWalk.i64_in _ (by omega)
 have h2 : ¬ 65536 - (p : Int) < b.length := by omega
 have h3 : ¬ (b.length : Int) = 0 := by omega
 have h3b : ((b.length : Int) == 0) = false := by simp only [beq_eq_false_iff_ne, ne_eq]; omega
 have e2 : min (p : Int) dl = q := by omega
 clear hR hb hs hd hdl hdle hq htl hrow
 go_enter Tryz.func89, Tryz.ntmps89
 go_upto_region 8 with fail
 clear hn h1 e1 h2
 generalize w.alloc (.cells #[.int .i64 0, .int .i64 0, .int .i64 0] 32) = w0 at *
 have HR0 := hid (HR.out.below HB0.out)
 go_cut [9] from 27 to 77 (fun s9 wx => ∃ va vc, s9 = .slice va q vc ∧ Hid (wx.ownsRow w.heap.size 5 1 (.slice va q vc) q (u8s (d.data.take p))) ∧ Hid (Below w.heap.size w wx) ∧ Hid (wx.heap[w.heap.size]? = some (.cells #[.int .i64 0, .int .i64 0, .int .i64 0] 32 (0, 0))))
 case first =>
  have c1 := zaa (o := 1) (HR0.out.node m d HD.out).1 rfl
  rcases HROW.out with ⟨hdv, h0⟩ | ⟨g, c, hdv, hdc⟩
  ·replace c1 : w0.cell? ⟨m, 1, none⟩ = some (.slice none 0 0) := by rw [← hdv]; exact c1
   have hq0 : q = 0 := by have := HQ.out; omega
   have HTAK : Hid (d.data.take p = []) := by
    show _ = _
    have := HTL.out
    rw [hq0] at this
    exact List.length_eq_zero_iff.1 this
   obtain ⟨hok, hn2, hown2, hgrow2⟩ := zex (w := w0.drew) w.heap.size (.slice none 0 0) 0 [] (World.ownsRow_nil _ _ _ _) (.slice none 0 0) [] (Src.nil _) (by simp) HB0.out.size
   have HO2 := hid hown2
   have HG2 := hid hgrow2
   replace hn2 : apN w0.drew (.slice none 0 0) (.slice none 0 0) = 0 := hn2
   clear hown2 hgrow2 hdv
   subst hq0 h0
   replace e2 : min (p : Int) 0 = 0 := by omega
   go_region
   all_goals
    go_wp2_with fail
    go_meet
    case rel =>
     refine ⟨_, _, by first | rfl | rw [hn2], ?_, ?_, ?_⟩
     ·show World.ownsRow _ _ _ _ _ _ _
      rw [HTAK.out]
      have := HO2.out
      rw [hn2] at this
      exact this
     ·exact (HB0.out.drew).grown HG2.out HB0.out.size (fun q hq => by cases hq)
     ·exact (HG2.out.block _ (zab HH0.out) (fun h => by cases h)).trans HH0.out
  ·replace c1 : w0.cell? ⟨m, 1, none⟩ = some (.slice (some ⟨g, 0, none⟩) dl c) := by rw [← hdv]; exact c1
   have hsrc : Src w0.drew (.slice (some ⟨g, 0, none⟩) q c) (d.data.take p) := by
    have h := Src.of_owns (HR0.out.node m d HD.out).2
    rw [hdv] at h
    have h' := src_cut (g := g) (o := 0) (c := c) (w := w0) (l := d.data) (by rw [HDL.out]; exact h) 0 q (by rw [HDL.out]; have := HQ.out; omega) (Nat.zero_le _)
    have e : (d.data.drop 0).take q = d.data.take p := by
     rw [List.drop_zero, HQ.out, ← HDL.out]
     simp
    rw [e] at h'
    exact h'
   obtain ⟨hok, hn2, hown2, hgrow2⟩ := zex (w := w0.drew) w.heap.size (.slice none 0 0) 0 [] (World.ownsRow_nil _ _ _ _) _ _ hsrc (by rw [HTL.out]; have := HQ.out; omega) HB0.out.size
   replace hn2 : apN w0.drew (.slice none 0 0) (.slice (some ⟨g, 0, none⟩) q c) = q := by rw [hn2, HTL.out, Nat.zero_add]
   have HO2 : Hid ((apW w0.drew (.slice none 0 0) (.slice (some ⟨g, 0, none⟩) q c)).ownsRow w.heap.size 5 1 (.slice (apA w0.drew (.slice none 0 0) (.slice (some ⟨g, 0, none⟩) q c)) q (apC w0.drew (.slice none 0 0) (.slice (some ⟨g, 0, none⟩) q c))) q (u8s (d.data.take p))) := by
    show World.ownsRow _ _ _ _ _ _ _
    have h := hown2
    rw [Nat.zero_add, List.nil_append, HTL.out, hn2] at h
    exact h
   have HG2 := hid hgrow2
   have hqc : (q : Int) ≤ c := by have := HQ.out; omega
   clear hown2 hgrow2 hdv hsrc
   go_region
   all_goals
    go_wp2_with fail
    go_meet
    case rel =>
     refine ⟨_, _, by first | rfl | rw [hn2], HO2, ?_, ?_⟩
     ·exact (HB0.out.drew).grown HG2.out HB0.out.size (fun q hq => by cases hq)
     ·exact (HG2.out.block _ (zab HH0.out) (fun h => by cases h)).trans HH0.out
 case rest =>
  clear HR0 HB0 HH0 e2
  obtain ⟨va, vc, rfl, hown, hb1, hh1⟩ := hcut
  go_wp2_with fail
  go_loopw [9] (fun (s9 : Value) wr => ∃ (j : Nat) (va : Option Addr) (vc : Nat), q + j ≤ p ∧ s9 = .slice va (q + j) vc ∧ Hid (wr.ownsRow w.heap.size 5 1 (.slice va (q + j) vc) (q + j) (u8s (d.data.take p ++ zfe j))) ∧ Hid (Below w.heap.size w wr) ∧ Hid (wr.heap[w.heap.size]? = some (.cells #[.int .i64 0, .int .i64 0, .int .i64 0] 32 (0, 0)))) (fun s9 _ => p - lenV s9)
  case atStart => exact ⟨0, va, vc, by have := HQ.out; omega, rfl, by rw [show d.data.take p ++ zfe 0 = d.data.take p by simp [zfe]]; exact hown, hb1, hh1⟩
  case round =>
   clear hown hb1 hh1
   obtain ⟨j, va, vc, hj, rfl, hown, hb1, hh1⟩ := hrel
   by_cases hlt : q + j < p
   ·have hli : ((q + j : Nat) : Int) < p := by omega
    go_wp2_with (at_builtin; refine zas rfl _ _ rfl w.heap.size (.slice va (q + j) vc) (q + j) (u8s (d.data.take p ++ zfe j)) rfl (World.ownsRow.alloc hown.out _) (.slice (some ⟨wr.heap.size, 0, none⟩) 1 1) [0] rfl (.inr ⟨⟨wr.heap.size, 0, none⟩, 1, rfl, Nat.le_refl _, fun j hj => ?c1⟩) (by simp; omega) (hb1.out.alloc hb1.out.size _).size ?_)
    case c1 =>
     match j, hj with
     | 0, _ => exact zaa (heap_alloc_new wr _) rfl
    intro v' w5 hown5 hgrow
    have HB5 : Hid (Below w.heap.size w w5) := (hb1.out.alloc hb1.out.size _).grown hgrow (hb1.out.alloc hb1.out.size _).size (fun q hq => (hown.out.lt q hq).1)
    have HH5 : Hid (w5.heap[w.heap.size]? = some (.cells #[.int .i64 0, .int .i64 0, .int .i64 0] 32 (0, 0))) := (hgrow.block _ (by have := zab hh1.out; simp; omega) (fun h => by
     obtain ⟨cur, hc⟩ := zaq hown.out h.symm
     exact zac hh1.out hc (by decide) rfl)).trans ((Below.heap_alloc _ _ _ (zab hh1.out)).trans hh1.out)
    obtain ⟨va', vc', rfl⟩ : ∃ va' vc', v' = .slice va' (q + (j + 1)) vc' := by
     have h : w5.ownsRow w.heap.size 5 1 v' (q + (j + 1)) _ := hown5
     exact zak h
    have HO5 : Hid (w5.ownsRow w.heap.size 5 1 (.slice va' (q + (j + 1)) vc') (q + (j + 1)) (u8s (d.data.take p ++ zfe (j + 1)))) := by
     show World.ownsRow _ _ _ _ _ _ _
     rw [zerosB_succ, ← List.append_assoc, zbw]
     exact hown5
    clear hown5 hgrow hown hb1 hh1
    go_wp2_with fail
    go_roundw
    case rel => exact ⟨j + 1, va', vc', by omega, rfl, HO5, HB5, HH5⟩
    case measure => simp [lenV]; omega
   ·have hpe : q + j = p := by omega
    rw [hpe] at hown ⊢
    have HJ : Hid (j = p - dl) := by show _ = _; have := HQ.out; omega
    have HS1 : Hid (Src wr (.slice ba b.length bc) b) := HS.out.kept (Kept.of_below hb1.out (fun _ => False)) (fun _ _ h => h)
    clear hj hlt
    obtain ⟨D1, hD1⟩ : ∃ D1, D1 = d.data.take p ++ zfe j := ⟨_, rfl⟩
    rw [← hD1] at hown
    have HD1 := hid hD1
    clear hD1
    obtain ⟨t, ht⟩ : ∃ t, t = p + b.length := ⟨_, rfl⟩
    have HT := hid ht
    go_wp2_with (at_builtin; refine zas rfl _ _ rfl w.heap.size (.slice va p vc) p (u8s D1) rfl hown.out (.slice ba b.length bc) b rfl HS1.out (by omega) hb1.out.size ?_)
    intro v' w5 hown5 hgrow
    have HB5 : Hid (Below w.heap.size w w5) := hb1.out.grown hgrow hb1.out.size (fun q hq => (hown.out.lt q hq).1)
    have HH5 : Hid (w5.heap[w.heap.size]? = some (.cells #[.int .i64 0, .int .i64 0, .int .i64 0] 32 (0, 0))) := (hgrow.block _ (zab hh1.out) (fun h => by
     obtain ⟨cur, hc⟩ := zaq hown.out h.symm
     exact zac hh1.out hc (by decide) rfl)).trans hh1.out
    rw [← ht, ← zbw] at hown5
    obtain ⟨va5, vc5, rfl⟩ := zak hown5
    have HO5 := hid hown5
    have hvl : p + b.length = t := ht.symm
    clear hown5 hgrow hown hb1 hh1 HS1
    obtain ⟨D, hD⟩ : ∃ D, D = zb9 d.data p b := ⟨_, rfl⟩
    have HDD := hid hD
    have HPUT : Hid (D = if t < dl then D1 ++ b ++ d.data.drop t else D1 ++ b) := by
     show _ = _
     rw [hD, ← refPut_eq, HD1.out, HJ.out, ht, HDL.out]
     rfl
    have HTD : Hid ((D1 ++ b).length = t) := by
     show _ = _
     rw [List.length_append, HD1.out, List.length_append, HTL.out, ht]
     simp only [zfe, List.length_replicate]
     omega
    clear hD ht
    have HR5 := hid (HR.out.below HB5.out)
    obtain ⟨oa, oc, hof⟩ := zak (HR.out.node m d HD.out).2
    have c1 : w5.cell? ⟨m, 1, none⟩ = some (.slice oa dl oc) := by rw [← HDL.out, ← hof]; exact zaa (HR5.out.node m d HD.out).1 rfl
    have HOF := hid hof
    clear hof
    go_upto_if 58 with fail
    go_cut [9] from 41 to 77 (fun s9 wx => ∃ va vc, s9 = .slice va D.length vc ∧ Hid (wx.ownsRow w.heap.size 5 1 (.slice va D.length vc) D.length (u8s D)) ∧ Hid (Below w.heap.size w wx) ∧ Hid (wx.heap[w.heap.size]? = some (.cells #[.int .i64 0, .int .i64 0, .int .i64 0] 32 (0, 0))))
    case first =>
     by_cases hbig : t < dl
     ·have hbi : (t : Int) < dl := by omega
      obtain ⟨g, c, hdv, hdc⟩ : ∃ g c, d.dv = .slice (some ⟨g, 0, none⟩) dl c ∧ dl ≤ c := by
       rcases HROW.out with ⟨_, h0⟩ | h
       ·omega
       ·exact h
      have hsrc : Src w5 (.slice (some ⟨g, t, none⟩) (dl - t) (c - t)) (d.data.drop t) := by
       have h := Src.of_owns (HR5.out.node m d HD.out).2
       rw [hdv] at h
       have h' := src_cut (g := g) (o := 0) (c := c) (w := w5) (l := d.data) (by rw [HDL.out]; exact h) t (dl - t) (by rw [HDL.out]; omega) (by omega)
       rw [Nat.zero_add, List.take_of_length_le (by rw [List.length_drop, HDL.out]; exact Nat.le_refl _)] at h'
       exact h'
      have HSR := hid hsrc
      replace c1 : w5.cell? ⟨m, 1, none⟩ = some (.slice (some ⟨g, 0, none⟩) dl c) := by rw [← hdv]; exact zaa (HR5.out.node m d HD.out).1 rfl
      have htc : t ≤ c := by omega
      have htd : t ≤ dl := by omega
      have HE6 : Hid (D = D1 ++ b ++ d.data.drop t) := by show _ = _; rw [HPUT.out, if_pos hbig]
      have hdz : (d.data.drop t).length = dl - t := by rw [List.length_drop, HDL.out]
      have HDZ := hid hdz
      clear hsrc hdv hdz hbig
      go_wp2_with (at_builtin; refine zas rfl _ _ rfl w.heap.size (.slice va5 t vc5) t (u8s (D1 ++ b)) rfl HO5.out (.slice (some ⟨g, t, none⟩) (dl - t) (c - t)) (d.data.drop t) rfl HSR.out (by rw [HDZ.out]; omega) HB5.out.size ?_)
      intro v6 w6 hown6 hgrow6
      have HB6 : Hid (Below w.heap.size w w6) := HB5.out.grown hgrow6 HB5.out.size (fun q hq => (HO5.out.lt q hq).1)
      have HH6 : Hid (w6.heap[w.heap.size]? = some (.cells #[.int .i64 0, .int .i64 0, .int .i64 0] 32 (0, 0))) := (hgrow6.block _ (zab HH5.out) (fun h => by
       obtain ⟨cur, hc⟩ := zaq HO5.out h.symm
       exact zac HH5.out hc (by decide) rfl)).trans HH5.out
      have hlen6 : t + (d.data.drop t).length = D.length := by rw [HE6.out, List.length_append, HTD.out]
      replace hown6 : w6.ownsRow w.heap.size 5 1 v6 D.length (u8s D) := by
       rw [← hlen6, HE6.out, zbw, HDZ.out]
       rw [HDL.out] at hown6
       exact hown6
      obtain ⟨va6, vc6, rfl⟩ := zak hown6
      have HO6 := hid hown6
      clear hown6 hgrow6
      go_wp2_with fail
      go_meet
      case rel => exact ⟨va6, vc6, rfl, HO6, HB6, HH6⟩
     ·have hbi : ¬ (t : Int) < dl := by omega
      have HE6 : Hid (D = D1 ++ b) := by show _ = _; rw [HPUT.out, if_neg hbig]
      have hlen6 : D.length = t := by rw [HE6.out, HTD.out]
      have HL6 := hid hlen6
      clear hlen6 hbig
      go_wp2_with fail
      go_meet
      case rel => exact ⟨va5, vc5, by rw [HL6.out], by show World.ownsRow _ _ _ _ _ _ _; rw [HL6.out, HE6.out]; exact HO5.out, HB5, HH5⟩
    case rest =>
     clear c1 HOF HR5 HB5 HH5 HO5 HPUT HTD HT HROW hvl
     obtain ⟨va6, vc6, rfl, HO6, HB6, HH6⟩ := hcut
     have HR6 := hid (HR.out.below HB6.out)
     have HKL : Hid (m < w.heap.size) := zab (HR.out.node m d HD.out).1
     have HCM : Hid (Came R R) := fun n' d' h => .inr ⟨n', d', h, rfl⟩
     have HFD := hid (zeu (R' := R) HR.out HO6.out HCM.out)
     have HFR := hid (za5.data (k := m) (d0 := d) (D := D) HO6.out HCM.out)
     have HRD := hid (HR6.out.dataed HD.out (zb4 HO6.out HR.out.base) HFD.out)
     have HN7 : Hid ((R.setData m d (.slice va6 D.length vc6) D).nd m = some { d with dv := .slice va6 D.length vc6, data := D }) := if_pos rfl
     have HNB : Hid (w.heap.size ≠ m) := hid (by have := HKL.out; omega)
     have HTB : Hid (w.heap.size ≠ R.tb) := hid (by have := zab HR.out.tree; omega)
     obtain ⟨oa, oc, hof⟩ := zak (HR.out.node m d HD.out).2
     have c1 : wc.cell? ⟨m, 1, none⟩ = some (.slice oa dl oc) := by rw [← HDL.out, ← hof]; exact zaa (HR6.out.node m d HD.out).1 rfl
     have cf := fun o => zah (HR6.out.node m d HD.out).1 o
     have HH7 : Hid ((wc.setCell ⟨m, 1, none⟩ (.slice va6 D.length vc6)).heap[w.heap.size]? = some (.cells #[.int .i64 0, .int .i64 0, .int .i64 0] 32 (0, 0))) := (zag wc _ _ HNB.out).trans HH6.out
     have HK7 : Hid (Kept R.foot w (wc.setCell ⟨m, 1, none⟩ (.slice va6 D.length vc6))) := (Kept.of_below HB6.out R.foot).setCell (p := ⟨m, 1, none⟩) (.inl (.inr (.inr (.inl ⟨d, HD.out⟩)))) _
     clear hof
     go_upto_region 15 with fail
     clear c1 cf
     generalize wc.setCell ⟨m, 1, none⟩ (.slice va6 D.length vc6) = w7 at *
     have HBA := hid (zad w7 (.cells #[.pointer (some ⟨m, 0, none⟩)] 42))
     have HSA := hid (heap_alloc_new w7 (.cells #[.pointer (some ⟨m, 0, none⟩)] 42))
     go_wp2_with fail
     generalize w7.alloc (.cells #[.pointer (some ⟨m, 0, none⟩)] 42) = wA at *
     have HRA := hid (HRD.out.below HBA.out)
     have HHA : Hid (wA.heap[w.heap.size]? = some (.cells #[.int .i64 0, .int .i64 0, .int .i64 0] 32 (0, 0))) := zae HBA.out (zab HH7.out) HH7.out
     refine (stamp1 HRB.out.now0 HRB.out.now1 HRA.out.tree (HRA.out.node m _ HN7.out).1 HSA.out).mono ?_
     intro e w9 hp9
     have HR9 := hid (HRA.out.stamped1 HN7.out hp9)
     have HK9 : Hid (Kept (fun b => b = R.tb ∨ b = m) wA w9) := hp9.kept
     obtain rfl := hp9.ret
     have HH9 : Hid (w9.heap[w.heap.size]? = some (.cells #[.int .i64 0, .int .i64 0, .int .i64 0] 32 (0, 0))) := (HK9.out.block _ (zab HHA.out) (fun h => by
      rcases h with h | h
      ·exact HTB.out h
      ·exact HNB.out h)).trans HHA.out
     have HKK : Hid (Kept R.foot w w9) := (HK7.out.trans (Kept.of_below HBA.out (fun _ => False)) (fun _ h => h.elim)).trans HK9.out (fun b h => by
      rcases h with h | h
      ·exact .inl (.inl h)
      ·exact .inl (.inr (.inr (.inl ⟨d, by rw [h]; exact HD.out⟩))))
     clear hp9 HK9 HHA HRA HBA HSA
     obtain ⟨g0, g1, g2⟩ := zz3 HH9.out
     have gf := fun o => zah HH9.out o
     have HY := hid (zap HH9.out (.int .i64 0) (.int .i64 0) (.int .i64 0))
     have HKS := hid (zao w9 w.heap.size (.int .i64 0) (.int .i64 0) (.int .i64 0))
     go_wp2_with fail
     clear g0 g1 g2 gf
     generalize ((w9.setCell ⟨w.heap.size, 0, none⟩ (.int .i64 0)).setCell ⟨w.heap.size, 1, none⟩ (.int .i64 0)).setCell ⟨w.heap.size, 2, none⟩ (.int .i64 0) = W at *
     obtain ⟨r0, r1, r2⟩ := zz3 HY.out
     refine bodyPost_ret (v := flt0) ?_ rfl ⟨HKK.out.trans HKS.out (fun b h => .inr (by rw [h]; exact Nat.le_refl _)), .inr (.inr ⟨rfl, by omega, by have := HPB.out; omega, HBL.out, _, HR9.out.kept HKS.out (fun b hb hf => HR9.out.not_foot HH9.out (by decide) (by decide) (by decide) (by decide) (by rw [← hf]; exact hb)), rfl, ⟨rfl, rfl, ⟨.slice va6 D.length vc6, (if_pos rfl).trans (by rw [Int.toNat_natCast, ← HDD.out]; rfl)⟩, fun x hx => (if_neg hx).trans (if_neg hx)⟩, HFR.out.stamp HN7.out⟩)⟩
     simp [results, Tryz.results89, go_sem, r0, r1, r2, flt0]
end
theorem ref_writeAt {B : Nat} {R : RT} (pos : Int) (bv : Value) (b : List UInt8) (w : World) (hR : RRep B w R) (hb : RB R) (m : Nat) (d : RNd) (hd : R.nd m = some d) (hdl : d.data.length ≤ 65536) (hs : Src w bv b) :
  Calls Tryz.prog 89 #[.pointer (some ⟨R.tb, 0, none⟩), .pointer (some ⟨m, 0, none⟩), .int .i64 pos, bv] w fun e w' => RWAPost B w R m d pos b e w' := by
 by_cases h0 : pos < 0
 ·exact rwa_arg pos bv b w hR m d h0
 ·obtain ⟨p, rfl⟩ : ∃ p : Nat, pos = p := ⟨pos.toNat, by omega⟩
  by_cases hf : p + b.length ≤ 65536
  ·by_cases hz : 0 < b.length
   ·exact rwa_ok p bv b w hR hb m d hd hdl hf hz hs
   ·have hb0 : b = [] := List.eq_nil_of_length_eq_zero (by omega)
    subst hb0
    rcases hs with ⟨h1, h2⟩ | ⟨ad, c, h1, _⟩
    ·rw [h1]
     exact rwa_none p none 0 w hR m d (by omega) (by simp at hf; omega)
    ·rw [h1]
     exact rwa_none p (some ad) c w hR m d (by omega) (by simp at hf; omega)
  ·have hbv : ∃ ba bc, bv = .slice ba b.length bc := by
    rcases hs with ⟨h1, h2⟩ | ⟨ad, c, h1, _⟩
    ·exact ⟨none, 0, by rw [h1, h2]; rfl⟩
    ·exact ⟨_, _, h1⟩
   obtain ⟨ba, bc, rfl⟩ := hbv
   exact rwa_full p ba bc b w hR m d (by omega) (by omega)
end Go.Proofs.YteeeaeiafdgpkaaGreatDoor
