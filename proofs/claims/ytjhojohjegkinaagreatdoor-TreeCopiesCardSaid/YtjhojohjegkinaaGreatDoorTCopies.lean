/-
  TreeCopies' walk.
-/
import Derived.Test.YtjhojohjegkinaaGreatDoorCopyY
import Derived.Test.YtjhojohjegkinaaGreatDoorCopyG
import Derived.Test.YtjhojohjegkinaaGreatDoorLock
import Derived.Test.YtjhojohjegkinaaGreatDoorAwake16
import Derived.Deep.RegionHeld3
namespace Go.Proofs.YtjhojohjegkinaaGreatDoor
open Go Go.RowKit

theorem NodeAt.lower {B B' : Nat} {w : World} {n : Nat} {d : Nd} (h : NodeAt B w n d) (hb : B' ≤ B) : NodeAt B' w n d := ⟨h.cells, World.ownsRow.mono h.row hb, h.map, h.file⟩
theorem Rep.lower {B B' : Nat} {w : World} {T : Tr} (h : Rep B w T) (hb : B' ≤ B) : Rep B' w T :=
  ⟨fun q hq => Nat.le_trans hb (h.low q hq), h.tree, fun n d hn => (h.node n d hn).lower hb, h.maps, h.rows, h.root, h.kids⟩
/-- A tree in memory that matches some rows. -/
structure One (B : Nat) (W : World) (tb n : Nat) (T : Tr) (R : RT) (f : Nat → Nat) : Prop where
  rep : Rep B W T
  pp : Pp T R f n
  gh : Gh R
  htb : T.tb = tb
  base : B ≤ W.heap.size
def Aside (T C : Tr) : Prop := ∀ q, T.foot q → C.foot q → False
/-- The tree and its copy. -/
structure Duo (w : World) (tb cb n : Nat) (T C : Tr) (R : RT) (f g : Nat → Nat) (W : World) : Prop where
  t : One w.heap.size W tb n T R f
  c : One w.heap.size W cb n C R g
  tc : Aside T C
  low : Below w.heap.size w W
def DI (w : World) (tb cb n : Nat) (W : World) : Prop := ∃ T C R f g, Duo w tb cb n T C R f g W
/-- And one more copy. -/
def TriI (w : World) (tb cb ub n m : Nat) (W : World) : Prop := ∃ T C R f g U S h, Duo w tb cb n T C R f g W ∧ One w.heap.size W ub m U S h ∧ Aside T U ∧ Aside C U
section
variable {w W W' : World} {tb cb ub n m : Nat} {T C : Tr} {R : RT} {f g : Nat → Nat}
theorem One.next {B : Nat} (h : One B W tb n T R f) (hb : Below W.heap.size W W') : One B W' tb n T R f := ⟨h.rep.below hb, h.pp, h.gh, h.htb, Nat.le_trans h.base hb.size⟩
theorem One.up {B : Nat} (h : One B W tb n T R f) {k : Nat} (hk : n ≤ k) : One B W tb k T R f := ⟨h.rep, h.pp.mono hk, h.gh, h.htb, h.base⟩
theorem Duo.next (h : Duo w tb cb n T C R f g W) (hb : Below W.heap.size W W') : Duo w tb cb n T C R f g W' := ⟨h.t.next hb, h.c.next hb, h.tc, h.low.trans (hb.mono h.t.base)⟩
theorem Duo.up (h : Duo w tb cb n T C R f g W) {k : Nat} (hk : n ≤ k) : Duo w tb cb k T C R f g W := ⟨h.t.up hk, h.c.up hk, h.tc, h.low⟩
theorem TriI.low (h : TriI w tb cb ub n m W) : Below w.heap.size w W := by
  obtain ⟨T, C, R, f, g, U, S, h, h1, _⟩ := h
  exact h1.low
theorem TriI.next (h : TriI w tb cb ub n m W) (hb : Below W.heap.size W W') : TriI w tb cb ub n m W' := by
  obtain ⟨T, C, R, f, g, U, S, h, h1, h2, h3⟩ := h
  exact ⟨T, C, R, f, g, U, S, h, h1.next hb, h2.next hb, h3⟩
theorem TriI.up (h : TriI w tb cb ub n m W) {k : Nat} (hk : m ≤ k) : TriI w tb cb ub n k W := by
  obtain ⟨T, C, R, f, g, U, S, h, h1, h2, h3⟩ := h
  exact ⟨T, C, R, f, g, U, S, h, h1, h2.up hk, h3⟩
/-- A copy stands beside what was there. -/
theorem copy_one {B : Nat} (h : One B W tb n T R f) {e : Ending} {w2 : World} (hp : CopyPost W T e w2) : ∃ ub U k, e = .returned (.pointer (some ⟨ub, 0, none⟩)) ∧ One B w2 ub n U R k ∧ (∀ q, U.foot q → W.heap.size ≤ q) ∧ U.clock = T.clock ∧ Below W.heap.size W w2 := by
  obtain ⟨ub, r, L, C, he, h1, h2, h3, h4⟩ := hp
  exact ⟨ub, cTr T ub r C, _, he, ⟨h1.lower h.base, h.pp.copy h2 h3 ub, h.gh, rfl, Nat.le_trans h.base h4.size⟩, h1.low, rfl, h4⟩
theorem one_copy {B : Nat} (h : One B W tb n T R f) : Calls Tryz.prog 26 #[.pointer (some ⟨tb, 0, none⟩)] W fun e w' => CopyPost W T e w' := by
  have := copy_any h.rep h.pp.ti 50001 h.pp.deep
  rw [h.htb] at this
  exact this
theorem one_text {B : Nat} (hn : n ≤ 100000) (h : One B W tb n T R f) : Calls Tryz.prog 14 #[.pointer (some ⟨tb, 0, none⟩)] W fun e w' => e = .returned (.string ⟨R.txt.toArray⟩) ∧ Below W.heap.size W w' := by
  have := (h.pp.txt hn).text h.rep
  rw [h.htb, h.pp.txt_same] at this
  exact this
theorem one_now {B : Nat} (h : One B W tb n T R f) : Calls Tryz.prog 15 #[.pointer (some ⟨tb, 0, none⟩)] W fun e w' => e = .returned (.int .i64 R.now) ∧ Below W.heap.size W w' := by
  have := tree_now T.tb _ _ T.clock W h.rep.tree
  rw [h.htb, ← h.pp.sim.now] at this
  exact this.mono fun e w' ⟨he, hw⟩ => ⟨he, by rw [hw]; exact Below.refl _ _⟩
/-- One call at one tree. -/
structure Did (E : Nat → Addr) (B : Nat) (W : World) (T : Tr) (o : AOp) (y : Value) (T1 : Tr) (w' : World) : Prop where
  rep : Rep B w' T1
  nx : Nx T T1 o
  kept : Kept T.foot W w'
  foot : ∀ q, T1.foot q → T.foot q ∨ W.heap.size ≤ q
  htb : T1.tb = T.tb
  told : Told E W T o (.returned y) w'
theorem one_do {E : Nat → Addr} {B : Nat} (hE : Ctx E B W) (h : One B W tb n T R f) {act : Int} {xp xq : ByteArray} {dat : List UInt8} {xa : Option Addr} {xc : Nat} (hox : OpOk ⟨act, xp, xq, dat⟩) (hs : 0 ≤ act ∧ act ≤ 6) (hsrc : Src W (.slice xa dat.length xc) dat) (hlow : 0 < dat.length → ∀ q, (Value.slice xa dat.length xc).ownBlock = some q → q < B) :
    Calls Tryz.prog 28 #[.pointer (some ⟨tb, 0, none⟩), .agg #[.int .i64 act, .string xp, .string xq, .slice xa dat.length xc]] W fun e w' => ∃ y T1, e = .returned y ∧ Did E B W T (OpA.op ⟨act, xp, xq, dat⟩) y T1 w' := by
  have hd := do_any (OpA.op ⟨act, xp, xq, dat⟩) (.slice xa dat.length xc) W hE h.rep h.pp.ti h.pp.num (by show act.toNat ≤ 6; omega) hox.path hox.other hsrc (fun h0 q hq hf => by
    have h1 := hlow h0 q hq
    have h2 := h.rep.low q hf
    omega)
  rw [← opAV_op (x := ⟨act, xp, xq, dat⟩) hs.1, h.htb] at hd
  refine hd.mono fun e w' hp => ?_
  rcases hp with ⟨h0, h1⟩ | ⟨h0, h1, T', h2, h3, h4, h5, h6⟩
  · obtain ⟨a, he, hf, hb⟩ := h1
    exact ⟨_, T, he, h.rep.below hb, .inl ⟨h0, rfl⟩, Kept.of_below hb _, fun q hq => .inl hq, rfl, .inl ⟨h0, a, rfl, hf, hb⟩⟩
  · exact ⟨_, T', h1, h2, .inr ⟨h0, h6⟩, h3, h4, h5, .inr ⟨h0, rfl⟩⟩
/-- A tree aside stands. -/
theorem Did.aside {E : Nat → Addr} {B : Nat} {o : AOp} {y : Value} {T1 : Tr} (h : Did E B W T o y T1 W') (hC : Rep B W C) (ha : Aside T C) : Rep B W' C ∧ Aside T1 C :=
  ⟨hC.kept h.kept (fun q hq hf => ha q hf hq), fun q h1 h2 => by
    rcases h.foot q h1 with h3 | h3
    · exact ha q h3 h2
    · have := hC.lt h2
      omega⟩
theorem Aside.symm (h : Aside T C) : Aside C T := fun q h1 h2 => h q h2 h1
theorem tri_do {E : Nat → Addr} (hE : Ctx E w.heap.size W) (hm : m ≤ 70000) (h : TriI w tb cb ub n m W) {act : Int} {xp xq : ByteArray} {dat : List UInt8} {xa : Option Addr} {xc : Nat} (hox : OpOk ⟨act, xp, xq, dat⟩) (hs : 0 ≤ act ∧ act ≤ 6) (hsrc : Src w (.slice xa dat.length xc) dat) :
    Calls Tryz.prog 28 #[.pointer (some ⟨ub, 0, none⟩), .agg #[.int .i64 act, .string xp, .string xq, .slice xa dat.length xc]] W fun e w' => ∃ y, e = .returned y ∧ TriI w tb cb ub n (m + 1) w' := by
  obtain ⟨T, C, R, f, g, U, S, h, h1, h2, h3, h4⟩ := h
  refine (one_do hE h2 hox hs (hsrc.kept (Kept.of_below h1.low (fun _ => False)) (fun _ _ h => h)) (src_low4 hsrc)).mono fun e w' hp => ?_
  obtain ⟨y, U1, he, hd⟩ := hp
  obtain ⟨_, hl⟩ := lock h2.pp h2.pp h2.gh hm (OpA.op ⟨act, xp, xq, dat⟩) (by show act.toNat ≤ 6; omega) hox.path hox.other hox.data
  obtain ⟨S', k1, _, q1, _, q3⟩ := hl U1 U1 hd.nx hd.nx
  obtain ⟨a1, a2⟩ := hd.aside h1.t.rep h3.symm
  obtain ⟨a3, a4⟩ := hd.aside h1.c.rep h4.symm
  have hs' : w.heap.size ≤ w'.heap.size := Nat.le_trans h1.t.base hd.kept.size
  exact ⟨y, he, T, C, R, f, g, U1, S', k1, ⟨⟨a1, h1.t.pp, h1.t.gh, h1.t.htb, hs'⟩, ⟨a3, h1.c.pp, h1.c.gh, h1.c.htb, hs'⟩, h1.tc, h1.low.trans (hd.kept.below h2.rep.low h1.t.base)⟩, ⟨hd.rep, q1, q3, hd.htb.trans h2.htb, hs'⟩, a2.symm, a4.symm⟩
/-- Behind the tree's call. -/
structure D1 (E : Nat → Addr) (w : World) (tb cb n : Nat) (T C : Tr) (R : RT) (f g : Nat → Nat) (o : AOp) (y : Value) (W : World) : Prop where
  ex : ∃ T1 W0 w1, Rep w.heap.size W T1 ∧ Rep w.heap.size W C ∧ Aside T1 C ∧ Nx T T1 o ∧ T1.tb = tb ∧ Told E W0 T o (.returned y) w1 ∧ Below w1.heap.size w1 W
  base : w.heap.size ≤ W.heap.size
  low : Below w.heap.size w W
/-- Behind both calls. -/
structure D3 (E : Nat → Addr) (w : World) (tb cb n : Nat) (T C : Tr) (R : RT) (f g : Nat → Nat) (o : AOp) (y : Value) (W : World) : Prop where
  ex : ∃ T1 C1 W0 w1, Rep w.heap.size W T1 ∧ Rep w.heap.size W C1 ∧ Aside T1 C1 ∧ Nx T T1 o ∧ T1.tb = tb ∧ Nx C C1 o ∧ C1.tb = cb ∧ Told E W0 C o (.returned y) w1 ∧ Below w1.heap.size w1 W
  base : w.heap.size ≤ W.heap.size
  low : Below w.heap.size w W
theorem D1.next {E : Nat → Addr} {o : AOp} {y : Value} (h : D1 E w tb cb n T C R f g o y W) (hb : Below W.heap.size W W') : D1 E w tb cb n T C R f g o y W' := by
  obtain ⟨T1, W0, w1, h1, h2, h3, h4, h5, h6, h7⟩ := h.ex
  exact ⟨⟨T1, W0, w1, h1.below hb, h2.below hb, h3, h4, h5, h6, h7.trans (hb.mono h7.size)⟩, Nat.le_trans h.base hb.size, h.low.trans (hb.mono h.base)⟩
theorem D3.next {E : Nat → Addr} {o : AOp} {y : Value} (h : D3 E w tb cb n T C R f g o y W) (hb : Below W.heap.size W W') : D3 E w tb cb n T C R f g o y W' := by
  obtain ⟨T1, C1, W0, w1, h1, h2, h3, h4, h5, h6, h7, h8, h9⟩ := h.ex
  exact ⟨⟨T1, C1, W0, w1, h1.below hb, h2.below hb, h3, h4, h5, h6, h7, h8, h9.trans (hb.mono h9.size)⟩, Nat.le_trans h.base hb.size, h.low.trans (hb.mono h.base)⟩
theorem duo_do {E : Nat → Addr} (hE : Ctx E w.heap.size W) (h : Duo w tb cb n T C R f g W) {act : Int} {xp xq : ByteArray} {dat : List UInt8} {xa : Option Addr} {xc : Nat} (hox : OpOk ⟨act, xp, xq, dat⟩) (hs : 0 ≤ act ∧ act ≤ 6) (hsrc : Src w (.slice xa dat.length xc) dat) :
    Calls Tryz.prog 28 #[.pointer (some ⟨tb, 0, none⟩), .agg #[.int .i64 act, .string xp, .string xq, .slice xa dat.length xc]] W fun e w' => ∃ y, e = .returned y ∧ D1 E w tb cb n T C R f g (OpA.op ⟨act, xp, xq, dat⟩) y w' := by
  refine (one_do hE h.t hox hs (hsrc.kept (Kept.of_below h.low (fun _ => False)) (fun _ _ h => h)) (src_low4 hsrc)).mono fun e w' hp => ?_
  obtain ⟨y, T1, he, hd⟩ := hp
  obtain ⟨a1, a2⟩ := hd.aside h.c.rep h.tc
  exact ⟨y, he, ⟨T1, W, w', hd.rep, a1, a2, hd.nx, hd.htb.trans h.t.htb, hd.told, Below.refl _ _⟩, Nat.le_trans h.t.base hd.kept.size, h.low.trans (hd.kept.below h.t.rep.low h.t.base)⟩
theorem duo_do2 {E : Nat → Addr} (hE : Ctx E w.heap.size W) {y0 : Value} {act : Int} {xp xq : ByteArray} {dat : List UInt8} {xa : Option Addr} {xc : Nat} (q : Pp C R g n) (hcb : C.tb = cb) (h : D1 E w tb cb n T C R f g (OpA.op ⟨act, xp, xq, dat⟩) y0 W) (hox : OpOk ⟨act, xp, xq, dat⟩) (hs : 0 ≤ act ∧ act ≤ 6) (hsrc : Src w (.slice xa dat.length xc) dat) (hgh : Gh R) :
    Calls Tryz.prog 28 #[.pointer (some ⟨cb, 0, none⟩), .agg #[.int .i64 act, .string xp, .string xq, .slice xa dat.length xc]] W fun e w' => ∃ y, e = .returned y ∧ D3 E w tb cb n T C R f g (OpA.op ⟨act, xp, xq, dat⟩) y w' := by
  obtain ⟨T1, W0, w1, h1, h2, h3, h4, h5, h6, h7⟩ := h.ex
  refine (one_do hE (⟨h2, q, hgh, hcb, h.base⟩ : One w.heap.size W cb n C R g) hox hs (hsrc.kept (Kept.of_below h.low (fun _ => False)) (fun _ _ h => h)) (src_low4 hsrc)).mono fun e w' hp => ?_
  obtain ⟨y, C1, he, hd⟩ := hp
  obtain ⟨a1, a2⟩ := hd.aside h1 h3.symm
  exact ⟨y, he, ⟨T1, C1, W, w', a1, hd.rep, a2.symm, h4, h5, hd.nx, hd.htb.trans hcb, hd.told, Below.refl _ _⟩, Nat.le_trans h.base hd.kept.size, h.low.trans (hd.kept.below h2.low h.base)⟩
theorem duo_tell {E : Nat → Addr} (hE : Env E w.heap.size W) (hY : Ety w.heap.size W) {o : AOp} {y : Value} (h : D1 E w tb cb n T C R f g o y W) : Calls Tryz.prog 29 #[y] W fun e w' => e = .returned (codeV (T.code o)) ∧ D1 E w tb cb n T C R f g o y w' := by
  obtain ⟨T1, W0, w1, h1, h2, h3, h4, h5, h6, h7⟩ := h.ex
  exact (terr_tell h6 (code_le T o) h7 hE hY).mono fun e w' ⟨he, hb⟩ => ⟨he, h.next hb⟩
theorem duo_tell2 {E : Nat → Addr} (hE : Env E w.heap.size W) (hY : Ety w.heap.size W) {o : AOp} {y : Value} (h : D3 E w tb cb n T C R f g o y W) : Calls Tryz.prog 29 #[y] W fun e w' => e = .returned (codeV (C.code o)) ∧ D3 E w tb cb n T C R f g o y w' := by
  obtain ⟨T1, C1, W0, w1, h1, h2, h3, h4, h5, h6, h7, h8, h9⟩ := h.ex
  exact (terr_tell h8 (code_le C o) h9 hE hY).mono fun e w' ⟨he, hb⟩ => ⟨he, h.next hb⟩
/-- Both turned alike. -/
theorem duo_end {E : Nat → Addr} {o : AOp} {y : Value} (hn : n ≤ 70000) (p : Pp T R f n) (q : Pp C R g n) (hgh : Gh R) (hact : o.act ≤ 6) (hsz : o.path.size ≤ 9223372036854775807) (hso : o.other.size ≤ 9223372036854775807) (hd : o.data.length ≤ 140737488355328) (h : D3 E w tb cb n T C R f g o y W) : DI w tb cb (n + 1) W := by
  obtain ⟨T1, C1, W0, w1, h1, h2, h3, h4, h5, h6, h7, h8, h9⟩ := h.ex
  obtain ⟨R', f', g', q1, q2, q3⟩ := (lock p q hgh hn o hact hsz hso hd).2 T1 C1 h4 h6
  exact ⟨T1, C1, R', f', g', ⟨h1, q1, q3, h5, h.base⟩, ⟨h2, q2, q3, h7, h.base⟩, h3, h.low⟩
end
set_option maxRecDepth 100000 in
set_option maxHeartbeats 16000000 in
theorem treeCopies_any {E : Nat → Addr} {B0 : Nat} (w : World) (hE : Ctx E B0 w) (hY : Ety B0 w) (va : Option Addr) (vc : Nat) (l : List OpA) (hl : OSrc w (.slice va l.length vc) l) (hll : l.length ≤ 9223372036854775807) (hok : ∀ x ∈ l, OpOk x)
    (ma : Option Addr) (mc : Nat) (ml : List OpA) (hml : OSrc w (.slice ma ml.length mc) ml) (_hmll : ml.length ≤ 9223372036854775807) (hmok : ∀ x ∈ ml, OpOk x) (oa : Option Addr) (oc : Nat) (ol : List OpA) (hol : OSrc w (.slice oa ol.length oc) ol) (_holl : ol.length ≤ 9223372036854775807) (hook : ∀ x ∈ ol, OpOk x) :
    Calls Tryz.prog 6 #[.slice va l.length vc, .slice ma ml.length mc, .slice oa ol.length oc] w fun e w' => AwPost w e w' := by
  have HE : Hid (∀ W, Below w.heap.size w W → Ctx E w.heap.size W) := fun W hb => hE.raise.below hb
  have HY : Hid (∀ W, Below w.heap.size w W → Ety w.heap.size W) := fun W hb => hY.raise.below hb
  have HMADE := Lib.hid (made_any w hE _ l hl hok hll)
  have HML := Lib.hid hml
  have HMOK := Lib.hid hmok
  have HOL := Lib.hid hol
  have HOOK := Lib.hid hook
  clear hE hY hl hok hll hml hmok hol hook
  go_enter Tryz.func6, Tryz.ntmps6
  go_wp2_with fail
  refine HMADE.out.mono ?_
  rintro e w1 ⟨T, R, f, rfl, hbo, hb1⟩
  have HT1 : Hid (One w.heap.size w1 T.tb 200 T R f) := ⟨hbo.rep, hbo.pp.mono (by decide), ⟨_, w1, hbo.rrep, hbo.base⟩, rfl, hbo.base⟩
  have HB1 := Lib.hid hb1
  clear hbo hb1 HMADE
  generalize T.tb = tb at *
  generalize R.tb = rb at *
  go_wp2_with fail
  refine (one_copy HT1.out).mono ?_
  intro e w2 hp
  obtain ⟨cb, C, g, rfl, hc, hcf, hclk, hb2⟩ := copy_one HT1.out hp
  have HDU : Hid (Duo w tb cb 200 T C R f g w2) := ⟨HT1.out.next hb2, hc, fun q h1 h2 => by have := HT1.out.rep.lt h1; have := hcf q h2; omega, HB1.out.trans (hb2.mono HT1.out.base)⟩
  clear hp hc hcf hclk hb2 HT1 HB1
  go_wp2_with fail
  refine (one_text (by decide) HDU.out.c).mono ?_
  rintro e w3 ⟨rfl, hb⟩
  have HDU3 := Lib.hid (HDU.out.next hb)
  clear hb HDU
  go_wp2_with fail
  refine (one_text (by decide) HDU3.out.t).mono ?_
  rintro e w4 ⟨rfl, hb⟩
  have HDU4 := Lib.hid (HDU3.out.next hb)
  clear hb HDU3
  go_wp2_with fail
  refine (one_now HDU4.out.c).mono ?_
  rintro e w5 ⟨rfl, hb⟩
  have HDU5 := Lib.hid (HDU4.out.next hb)
  clear hb HDU4
  go_wp2_with fail
  refine (one_now HDU5.out.t).mono ?_
  rintro e w6 ⟨rfl, hb⟩
  have HDU6 := Lib.hid (HDU5.out.next hb)
  clear hb HDU5
  go_wp2_with fail
  refine (one_copy HDU6.out.t).mono ?_
  intro e w7 hp
  obtain ⟨ub, U, k, rfl, hu, huf, huc, hb⟩ := copy_one HDU6.out.t hp
  have HTRI : Hid (TriI w tb cb ub 200 200 w7) := ⟨T, C, R, f, g, U, R, k, HDU6.out.next hb, hu, fun q h1 h2 => by have := HDU6.out.t.rep.lt h1; have := huf q h2; omega, fun q h1 h2 => by have := HDU6.out.c.rep.lt h1; have := huf q h2; omega⟩
  clear hp hu huf huc hb HDU6
  go_wp2_with fail
  go_loopw [11] (fun idx wr => ∃ k : Nat, k ≤ ol.length ∧ k ≤ 30 ∧ idx = .int .i64 k ∧ Hid (TriI w tb cb ub 200 (200 + k) wr)) (fun idx _ => ol.length - (intOf idx).toNat)
  case atStart => exact ⟨0, Nat.zero_le _, by decide, rfl, HTRI⟩
  case round =>
    clear HTRI
    obtain ⟨k, hk, hk30, rfl, htri⟩ := hrel
    by_cases hgo : k < ol.length ∧ k < 30
    · obtain ⟨hlt, h30⟩ := hgo
      have hki : (k : Int) < ol.length := by omega
      have h30i : (k : Int) < 30 := by omega
      rcases HOL.out with ⟨h0, _⟩ | ⟨b, o, c, hv, hcells⟩
      · rw [h0] at hlt; simp at hlt
      simp only [Value.slice.injEq, true_and] at hv
      obtain ⟨rfl, rfl⟩ := hv
      have hop := hcells k hlt
      have hox := HOOK.out _ (List.getElem_mem hlt)
      generalize ol[k] = x at hop hox
      have HOX := Lib.hid hox
      obtain ⟨act, xp, xq, dat⟩ := x
      obtain ⟨xa, xc, hin⟩ := hop
      have HIN : Hid (OpIn w b (o + k * 4) act xp xq dat xa xc) := hin
      clear hin hcells hox
      obtain ⟨g0, g1, g2, g3, _⟩ := HIN.out.up htri.out.low
      go_wp2_with fail
      refine (sound_any ⟨act, xp, xq, dat⟩ xa xc wr).mono ?_
      rintro e w3 ⟨rfl, hb3⟩
      have HT3 := Lib.hid (htri.out.next hb3)
      clear hb3 g0 g1 g2 g3 htri
      by_cases hs : 0 ≤ act ∧ act ≤ 6
      · have hd : decide (0 ≤ act ∧ act ≤ 6) = true := decide_eq_true hs
        dsimp only
        rw [hd]
        obtain ⟨g0, g1, g2, g3, _⟩ := HIN.out.up HT3.out.low
        have HS := Lib.hid hs
        go_wp2_with fail
        refine (tri_do (HE.out _ HT3.out.low) (by omega) HT3.out HOX.out HS.out HIN.out.2.2.2.2).mono ?_
        rintro e w4 ⟨y, rfl, ht4⟩
        have HT4 : Hid (TriI w tb cb ub 200 (200 + (k + 1)) w4) := ht4
        clear ht4 g0 g1 g2 g3 HT3
        go_wp2_with fail
        go_roundw
        case rel => exact ⟨k + 1, by omega, by omega, by go_num, HT4⟩
        case measure => simp [intOf]; omega
      · have hd : decide (0 ≤ act ∧ act ≤ 6) = false := decide_eq_false hs
        dsimp only
        rw [hd]
        have HT4 : Hid (TriI w tb cb ub 200 (200 + (k + 1)) w3) := HT3.out.up (by omega)
        go_wp2_with fail
        go_roundw
        case rel => exact ⟨k + 1, by omega, by omega, by go_num, HT4⟩
        case measure => simp [intOf]; omega
    · have HDI : Hid (DI w tb cb 200 wr) := by
        obtain ⟨T, C, R, f, g, U, S, h, h1, _⟩ := htri.out
        exact ⟨T, C, R, f, g, h1⟩
      clear htri
      have htest : (k : Int) < ol.length → ¬ ((k : Int) < 30) := fun h1 h2 => hgo ⟨by omega, by omega⟩
      by_cases hlt : k < ol.length
      · have hki : (k : Int) < ol.length := by omega
        have h30i : (30 : Int) ≤ k := by omega
        clear hgo htest
        go_wp2_with fail
        clear hki hlt hk hk30
        go_loopw [12] (fun idx wr => ∃ k : Nat, k ≤ ml.length ∧ k ≤ 30 ∧ idx = .int .i64 k ∧ Hid (DI w tb cb (200 + k) wr)) (fun idx _ => ml.length - (intOf idx).toNat)
        case atStart => exact ⟨0, Nat.zero_le _, by decide, rfl, HDI⟩
        case round =>
          clear HDI
          obtain ⟨k, hk, hk30, rfl, hdi⟩ := hrel
          by_cases hgo : k < ml.length ∧ k < 30
          · obtain ⟨hlt, h30⟩ := hgo
            have hki : (k : Int) < ml.length := by omega
            have h30i : (k : Int) < 30 := by omega
            rcases HML.out with ⟨h0, _⟩ | ⟨b, o, c, hv, hcells⟩
            · rw [h0] at hlt; simp at hlt
            simp only [Value.slice.injEq, true_and] at hv
            obtain ⟨rfl, rfl⟩ := hv
            have hop := hcells k hlt
            have hox := HMOK.out _ (List.getElem_mem hlt)
            generalize ml[k] = x at hop hox
            have HOX := Lib.hid hox
            obtain ⟨act, xp, xq, dat⟩ := x
            obtain ⟨xa, xc, hin⟩ := hop
            have HIN : Hid (OpIn w b (o + k * 4) act xp xq dat xa xc) := hin
            clear hin hcells hox
            have HGET : Hid (∀ W, Below w.heap.size w W → W.cell? ⟨b, o + k * 4, none⟩ = some (.int .i64 act) ∧ W.cell? ⟨b, o + k * 4 + 1, none⟩ = some (.string xp) ∧ W.cell? ⟨b, o + k * 4 + 2, none⟩ = some (.string xq) ∧ W.cell? ⟨b, o + k * 4 + 3, none⟩ = some (.slice xa dat.length xc)) := fun W hb => by
              obtain ⟨g0, g1, g2, g3, _⟩ := HIN.out.up hb
              exact ⟨g0, g1, g2, g3⟩
            obtain ⟨T, C, R, f, g, hdu⟩ := hdi.out
            have HDU := Lib.hid hdu
            have HDD := Lib.hid (hdu.next (Below.refl _ _).drew)
            clear hdu hdi
            obtain ⟨g0, g1, g2, g3⟩ := HGET.out wr HDU.out.low
            have HK7 : Hid (200 + k ≤ 70000) := by show _ ≤ _; omega
            by_cases hs : 0 ≤ act ∧ act ≤ 6
            · have HS := Lib.hid hs
              have HSO : Hid (∀ W, Hid (Duo w tb cb (200 + k) T C R f g W) → Calls Tryz.prog 27 #[.agg #[.int .i64 act, .string xp, .string xq, .slice xa dat.length xc]] W fun e w' => (e = .returned (.bool true) ∧ Hid (Duo w tb cb (200 + k) T C R f g w')) ∧ w'.cell? ⟨b, o + k * 4, none⟩ = some (.int .i64 act) ∧ w'.cell? ⟨b, o + k * 4 + 1, none⟩ = some (.string xp) ∧ w'.cell? ⟨b, o + k * 4 + 2, none⟩ = some (.string xq) ∧ w'.cell? ⟨b, o + k * 4 + 3, none⟩ = some (.slice xa dat.length xc)) := fun W h => (sound_any ⟨act, xp, xq, dat⟩ xa xc W).mono fun e w' ⟨he, hb⟩ => ⟨⟨by rw [he, decide_eq_true HS.out], h.out.next hb⟩, HGET.out w' (h.out.next hb).low⟩
              have HDO : Hid (∀ W, Hid (Duo w tb cb (200 + k) T C R f g W) → Calls Tryz.prog 28 #[.pointer (some ⟨tb, 0, none⟩), .agg #[.int .i64 act, .string xp, .string xq, .slice xa dat.length xc]] W fun e w' => (∃ y, e = .returned y ∧ Hid (D1 E w tb cb (200 + k) T C R f g (OpA.op ⟨act, xp, xq, dat⟩) y w')) ∧ w'.cell? ⟨b, o + k * 4, none⟩ = some (.int .i64 act) ∧ w'.cell? ⟨b, o + k * 4 + 1, none⟩ = some (.string xp) ∧ w'.cell? ⟨b, o + k * 4 + 2, none⟩ = some (.string xq) ∧ w'.cell? ⟨b, o + k * 4 + 3, none⟩ = some (.slice xa dat.length xc)) := fun W h => (duo_do (HE.out W h.out.low) h.out HOX.out HS.out HIN.out.2.2.2.2).mono fun e w' ⟨y, he, hd⟩ => ⟨⟨y, he, hd⟩, HGET.out w' hd.low⟩
              have HTL : Hid (∀ y W, Hid (D1 E w tb cb (200 + k) T C R f g (OpA.op ⟨act, xp, xq, dat⟩) y W) → Calls Tryz.prog 29 #[y] W fun e w' => (e = .returned (codeV (T.code (OpA.op ⟨act, xp, xq, dat⟩))) ∧ Hid (D1 E w tb cb (200 + k) T C R f g (OpA.op ⟨act, xp, xq, dat⟩) y w')) ∧ w'.cell? ⟨b, o + k * 4, none⟩ = some (.int .i64 act) ∧ w'.cell? ⟨b, o + k * 4 + 1, none⟩ = some (.string xp) ∧ w'.cell? ⟨b, o + k * 4 + 2, none⟩ = some (.string xq) ∧ w'.cell? ⟨b, o + k * 4 + 3, none⟩ = some (.slice xa dat.length xc)) := fun y W h => (duo_tell (HE.out W h.out.low).env (HY.out W h.out.low) h.out).mono fun e w' ⟨he, hd⟩ => ⟨⟨he, hd⟩, HGET.out w' hd.low⟩
              have HDO2 : Hid (∀ y W, Hid (D1 E w tb cb (200 + k) T C R f g (OpA.op ⟨act, xp, xq, dat⟩) y W) → Calls Tryz.prog 28 #[.pointer (some ⟨cb, 0, none⟩), .agg #[.int .i64 act, .string xp, .string xq, .slice xa dat.length xc]] W fun e w' => (∃ y, e = .returned y ∧ Hid (D3 E w tb cb (200 + k) T C R f g (OpA.op ⟨act, xp, xq, dat⟩) y w')) ∧ w'.cell? ⟨b, o + k * 4, none⟩ = some (.int .i64 act) ∧ w'.cell? ⟨b, o + k * 4 + 1, none⟩ = some (.string xp) ∧ w'.cell? ⟨b, o + k * 4 + 2, none⟩ = some (.string xq) ∧ w'.cell? ⟨b, o + k * 4 + 3, none⟩ = some (.slice xa dat.length xc)) := fun y W h => (duo_do2 (HE.out W h.out.low) HDU.out.c.pp HDU.out.c.htb h.out HOX.out HS.out HIN.out.2.2.2.2 HDU.out.c.gh).mono fun e w' ⟨y, he, hd⟩ => ⟨⟨y, he, hd⟩, HGET.out w' hd.low⟩
              have hact : (OpA.op ⟨act, xp, xq, dat⟩).act ≤ 6 := by show act.toNat ≤ 6; have := HS.out; omega
              have hcd := (lock HDU.out.t.pp HDU.out.c.pp HDU.out.t.gh HK7.out (OpA.op ⟨act, xp, xq, dat⟩) hact HOX.out.path HOX.out.other HOX.out.data).1
              have HTL2 : Hid (∀ y W, Hid (D3 E w tb cb (200 + k) T C R f g (OpA.op ⟨act, xp, xq, dat⟩) y W) → Calls Tryz.prog 29 #[y] W fun e w' => (e = .returned (codeV (T.code (OpA.op ⟨act, xp, xq, dat⟩))) ∧ Hid (DI w tb cb (200 + (k + 1)) w')) ∧ w'.cell? ⟨b, o + k * 4, none⟩ = some (.int .i64 act) ∧ w'.cell? ⟨b, o + k * 4 + 1, none⟩ = some (.string xp) ∧ w'.cell? ⟨b, o + k * 4 + 2, none⟩ = some (.string xq) ∧ w'.cell? ⟨b, o + k * 4 + 3, none⟩ = some (.slice xa dat.length xc)) := fun y W h => (duo_tell2 (HE.out W h.out.low).env (HY.out W h.out.low) h.out).mono fun e w' ⟨he, hd⟩ => ⟨⟨by rw [he, hcd], duo_end HK7.out HDU.out.t.pp HDU.out.c.pp HDU.out.t.gh hact HOX.out.path HOX.out.other HOX.out.data hd⟩, HGET.out w' hd.low⟩
              have hneq : ∀ W : World, (binOp .neq 56 (codeV (T.code (OpA.op ⟨act, xp, xq, dat⟩))) (codeV (T.code (OpA.op ⟨act, xp, xq, dat⟩)))).run Tryz.prog W = .ok (.bool false) W := fun W => codeV_neq _ W
              have hgd : ∀ (x y : Operand) (W : World), (eqGuard .neq 56 x y (codeV (T.code (OpA.op ⟨act, xp, xq, dat⟩))) (codeV (T.code (OpA.op ⟨act, xp, xq, dat⟩)))).run Tryz.prog W = .ok () W := fun x y W => codeV_guard_neq _ x y W
              generalize codeV (T.code (OpA.op ⟨act, xp, xq, dat⟩)) = cv at *
              clear hcd hact hs HGET
              go_wp2_with fail
              first | (go_region_held3 (fun W => W.cell? ⟨b, o + k * 4, none⟩ = some (.int .i64 act) ∧ W.cell? ⟨b, o + k * 4 + 1, none⟩ = some (.string xp) ∧ W.cell? ⟨b, o + k * 4 + 2, none⟩ = some (.string xq) ∧ W.cell? ⟨b, o + k * 4 + 3, none⟩ = some (.slice xa dat.length xc)) (first | with_reducible exact ⟨by assumption, by assumption, by assumption, by assumption⟩ | exact ⟨g0, g1, g2, g3⟩)
                (first
                  | (go_at_call 27; refine (HSO.out _ (by with_reducible assumption)).mono ?_; rintro e w' ⟨⟨rfl, HX0⟩, c0, c1, c2, c3⟩)
                  | (go_at_call_of 28 tb; refine (HDO.out _ HX0).mono ?_; rintro e w' ⟨⟨y1, rfl, HX1⟩, c0, c1, c2, c3⟩)
                  | (go_at_call_of 29 y1; refine (HTL.out _ _ HX1).mono ?_; rintro e w' ⟨⟨rfl, HX2⟩, c0, c1, c2, c3⟩)
                  | (go_at_call_of 28 cb; refine (HDO2.out _ _ HX2).mono ?_; rintro e w' ⟨⟨y2, rfl, HX3⟩, c0, c1, c2, c3⟩)
                  | (go_at_call_of 29 y2; refine (HTL2.out _ _ HX3).mono ?_; rintro e w' ⟨⟨rfl, HX4⟩, c0, c1, c2, c3⟩))) | fail
              all_goals
                go_wp2_with fail
                go_roundw
                case rel => exact ⟨k + 1, by omega, by omega, by go_num, HX4⟩
                case measure => simp [intOf]; omega
            · have HSO : Hid (∀ W, Hid (Duo w tb cb (200 + k) T C R f g W) → Calls Tryz.prog 27 #[.agg #[.int .i64 act, .string xp, .string xq, .slice xa dat.length xc]] W fun e w' => (e = .returned (.bool false) ∧ Hid (DI w tb cb (200 + (k + 1)) w')) ∧ w'.cell? ⟨b, o + k * 4, none⟩ = some (.int .i64 act) ∧ w'.cell? ⟨b, o + k * 4 + 1, none⟩ = some (.string xp) ∧ w'.cell? ⟨b, o + k * 4 + 2, none⟩ = some (.string xq) ∧ w'.cell? ⟨b, o + k * 4 + 3, none⟩ = some (.slice xa dat.length xc)) := fun W h => (sound_any ⟨act, xp, xq, dat⟩ xa xc W).mono fun e w' ⟨he, hb⟩ => ⟨⟨by rw [he, decide_eq_false hs], T, C, R, f, g, (h.out.next hb).up (by omega)⟩, HGET.out w' (h.out.next hb).low⟩
              clear hs HGET
              go_wp2_with fail
              refine wp_region_any (by kernel_rfl) ?_
              (try (change wpAny _ _ _ _ _ _ _ (World.drew _)))
              refine wpAny_take (i := 0) (v := ?_) rfl (by kernel_rfl) (by kernel_rfl) (by kernel_rfl) (fun _ _ _ h => h) (Or.inl ⟨by kernel_rfl, ?_⟩) ?_
              rotate_left
              · (intro w; go_simp; rfl)
              refine wpAny_take (i := 1) (v := ?_) rfl (by kernel_rfl) (by kernel_rfl) (by kernel_rfl) (fun _ _ _ h => h) (Or.inl ⟨by kernel_rfl, ?_⟩) ?_
              rotate_left
              · (intro w; go_simp; rfl)
              refine wpAny_take (i := 2) (v := ?_) rfl (by kernel_rfl) (by kernel_rfl) (by kernel_rfl) (fun _ _ _ h => h) (Or.inl ⟨by kernel_rfl, ?_⟩) ?_
              rotate_left
              · (intro w; go_simp; rfl)
              refine wpAny_ready (rs := [3]) (by kernel_rfl) (by simp) ?_
              refine AllReady.cons rfl (fun K hK => ?_) AllReady.nil
              go_simp
              refine hK _ _ ?_
              clear hK K
              refine wpAny_ready (rs := [4]) (by kernel_rfl) (by simp) ?_
              refine AllReady.cons rfl (fun K hK => ?_) AllReady.nil
              go_simp
              go_at_call 27
              refine (HSO.out _ (by with_reducible assumption)).mono ?_
              rintro e w' ⟨⟨rfl, HX4⟩, c0, c1, c2, c3⟩
              go_simp
              refine hK _ _ ?_
              clear hK K
              refine wpAny_take (i := 5) (v := ?_) rfl (by kernel_rfl) (by kernel_rfl) (by kernel_rfl) (fun _ _ _ h => h) (Or.inl ⟨by kernel_rfl, ?_⟩) ?_
              rotate_left
              · (intro w; go_simp; rfl)
              refine wpAny_take (i := 6) (v := undef) rfl (by kernel_rfl) (by kernel_rfl) (by kernel_rfl) (fun _ _ _ h => h) (Or.inr ⟨by kernel_rfl, rfl⟩) ?_
              refine wpAny_take (i := 7) (v := undef) rfl (by kernel_rfl) (by kernel_rfl) (by kernel_rfl) (fun _ _ _ h => h) (Or.inr ⟨by kernel_rfl, rfl⟩) ?_
              refine wpAny_take (i := 8) (v := undef) rfl (by kernel_rfl) (by kernel_rfl) (by kernel_rfl) (fun _ _ _ h => h) (Or.inr ⟨by kernel_rfl, rfl⟩) ?_
              refine wpAny_take (i := 9) (v := undef) rfl (by kernel_rfl) (by kernel_rfl) (by kernel_rfl) (fun _ _ _ h => h) (Or.inr ⟨by kernel_rfl, rfl⟩) ?_
              refine wpAny_take (i := 10) (v := undef) rfl (by kernel_rfl) (by kernel_rfl) (by kernel_rfl) (fun _ _ _ h => h) (Or.inr ⟨by kernel_rfl, rfl⟩) ?_
              refine wpAny_take (i := 13) (v := undef) rfl (by kernel_rfl) (by kernel_rfl) (by kernel_rfl) (fun _ _ _ h => h) (Or.inr ⟨by kernel_rfl, rfl⟩) ?_
              refine wpAny_take (i := 14) (v := undef) rfl (by kernel_rfl) (by kernel_rfl) (by kernel_rfl) (fun _ _ _ h => h) (Or.inr ⟨by kernel_rfl, rfl⟩) ?_
              refine wpAny_take (i := 15) (v := undef) rfl (by kernel_rfl) (by kernel_rfl) (by kernel_rfl) (fun _ _ _ h => h) (Or.inr ⟨by kernel_rfl, rfl⟩) ?_
              refine wpAny_take (i := 16) (v := undef) rfl (by kernel_rfl) (by kernel_rfl) (by kernel_rfl) (fun _ _ _ h => h) (Or.inr ⟨by kernel_rfl, rfl⟩) ?_
              refine wpAny_take (i := 17) (v := undef) rfl (by kernel_rfl) (by kernel_rfl) (by kernel_rfl) (fun _ _ _ h => h) (Or.inr ⟨by kernel_rfl, rfl⟩) ?_
              refine wpAny_ready (rs := [11]) (by kernel_rfl) (by simp) ?_
              refine AllReady.cons rfl (fun K hK => ?_) AllReady.nil
              go_simp
              refine hK _ _ ?_
              clear hK K
              refine wpAny_ready (rs := [12]) (by kernel_rfl) (by simp) ?_
              refine AllReady.cons rfl (fun K hK => ?_) AllReady.nil
              go_simp
              refine hK _ _ ?_
              clear hK K
              refine wpAny_ready (rs := [18]) (by kernel_rfl) (by simp) ?_
              refine AllReady.cons rfl (fun K hK => ?_) AllReady.nil
              go_simp
              refine hK _ _ ?_
              clear hK K
              refine wpAny_ready (rs := [19]) (by kernel_rfl) (by simp) ?_
              refine AllReady.cons rfl (fun K hK => ?_) AllReady.nil
              go_simp
              refine hK _ _ ?_
              clear hK K
              refine wpAny_take (i := 20) (v := undef) rfl (by kernel_rfl) (by kernel_rfl) (by kernel_rfl) (fun _ _ _ h => h) (Or.inr ⟨by kernel_rfl, rfl⟩) ?_
              refine wpAny_take (i := 21) (v := ?_) rfl (by kernel_rfl) (by kernel_rfl) (by kernel_rfl) (fun _ _ _ h => h) (Or.inl ⟨by kernel_rfl, ?_⟩) ?_
              rotate_left
              · (intro w; go_simp; rfl)
              refine wpAny_done (by kernel_rfl) ?_ _
              go_wp2_with fail
              go_roundw
              case rel => exact ⟨k + 1, by omega, by omega, by go_num, HX4⟩
              case measure => simp [intOf]; omega
          · obtain ⟨T, C, R, f, g, hdu⟩ := hdi.out
            have HDU := Lib.hid hdu
            have hk2 : 200 + k ≤ 100000 := by omega
            have HK2 := Lib.hid hk2
            clear hdu hdi hk2
            by_cases hlt : k < ml.length
            · have hki : (k : Int) < ml.length := by omega
              have h30i : (30 : Int) ≤ k := by omega
              clear hgo
              go_wp2_with fail
              refine (one_text HK2.out HDU.out.c).mono ?_
              rintro e w3 ⟨rfl, hb⟩
              have HDU3 := Lib.hid (HDU.out.next hb)
              clear hb
              go_wp2_with fail
              refine (one_text HK2.out HDU3.out.t).mono ?_
              rintro e w4 ⟨rfl, hb⟩
              have HDU4 := Lib.hid (HDU3.out.next hb)
              clear hb
              go_wp2_with fail
              refine (awake16_any w4 (HE.out w4 HDU4.out.low)).mono ?_
              rintro e w7 ⟨rfl, hb7⟩
              have HB7 := Lib.hid (below_trans HDU4.out.low hb7)
              clear hb7
              go_wp2_with fail
              go_ret
              exact ⟨rfl, HB7.out⟩
            · have hki : (ml.length : Int) ≤ k := by omega
              clear hgo
              go_wp2_with fail
              refine (one_text HK2.out HDU.out.c).mono ?_
              rintro e w3 ⟨rfl, hb⟩
              have HDU3 := Lib.hid (HDU.out.next hb)
              clear hb
              go_wp2_with fail
              refine (one_text HK2.out HDU3.out.t).mono ?_
              rintro e w4 ⟨rfl, hb⟩
              have HDU4 := Lib.hid (HDU3.out.next hb)
              clear hb
              go_wp2_with fail
              refine (awake16_any w4 (HE.out w4 HDU4.out.low)).mono ?_
              rintro e w7 ⟨rfl, hb7⟩
              have HB7 := Lib.hid (below_trans HDU4.out.low hb7)
              clear hb7
              go_wp2_with fail
              go_ret
              exact ⟨rfl, HB7.out⟩
      · have hki : (ol.length : Int) ≤ k := by omega
        clear hgo htest
        go_wp2_with fail
        clear hki hlt hk hk30
        go_loopw [12] (fun idx wr => ∃ k : Nat, k ≤ ml.length ∧ k ≤ 30 ∧ idx = .int .i64 k ∧ Hid (DI w tb cb (200 + k) wr)) (fun idx _ => ml.length - (intOf idx).toNat)
        case atStart => exact ⟨0, Nat.zero_le _, by decide, rfl, HDI⟩
        case round =>
          clear HDI
          obtain ⟨k, hk, hk30, rfl, hdi⟩ := hrel
          by_cases hgo : k < ml.length ∧ k < 30
          · obtain ⟨hlt, h30⟩ := hgo
            have hki : (k : Int) < ml.length := by omega
            have h30i : (k : Int) < 30 := by omega
            rcases HML.out with ⟨h0, _⟩ | ⟨b, o, c, hv, hcells⟩
            · rw [h0] at hlt; simp at hlt
            simp only [Value.slice.injEq, true_and] at hv
            obtain ⟨rfl, rfl⟩ := hv
            have hop := hcells k hlt
            have hox := HMOK.out _ (List.getElem_mem hlt)
            generalize ml[k] = x at hop hox
            have HOX := Lib.hid hox
            obtain ⟨act, xp, xq, dat⟩ := x
            obtain ⟨xa, xc, hin⟩ := hop
            have HIN : Hid (OpIn w b (o + k * 4) act xp xq dat xa xc) := hin
            clear hin hcells hox
            have HGET : Hid (∀ W, Below w.heap.size w W → W.cell? ⟨b, o + k * 4, none⟩ = some (.int .i64 act) ∧ W.cell? ⟨b, o + k * 4 + 1, none⟩ = some (.string xp) ∧ W.cell? ⟨b, o + k * 4 + 2, none⟩ = some (.string xq) ∧ W.cell? ⟨b, o + k * 4 + 3, none⟩ = some (.slice xa dat.length xc)) := fun W hb => by
              obtain ⟨g0, g1, g2, g3, _⟩ := HIN.out.up hb
              exact ⟨g0, g1, g2, g3⟩
            obtain ⟨T, C, R, f, g, hdu⟩ := hdi.out
            have HDU := Lib.hid hdu
            have HDD := Lib.hid (hdu.next (Below.refl _ _).drew)
            clear hdu hdi
            obtain ⟨g0, g1, g2, g3⟩ := HGET.out wr HDU.out.low
            have HK7 : Hid (200 + k ≤ 70000) := by show _ ≤ _; omega
            by_cases hs : 0 ≤ act ∧ act ≤ 6
            · have HS := Lib.hid hs
              have HSO : Hid (∀ W, Hid (Duo w tb cb (200 + k) T C R f g W) → Calls Tryz.prog 27 #[.agg #[.int .i64 act, .string xp, .string xq, .slice xa dat.length xc]] W fun e w' => (e = .returned (.bool true) ∧ Hid (Duo w tb cb (200 + k) T C R f g w')) ∧ w'.cell? ⟨b, o + k * 4, none⟩ = some (.int .i64 act) ∧ w'.cell? ⟨b, o + k * 4 + 1, none⟩ = some (.string xp) ∧ w'.cell? ⟨b, o + k * 4 + 2, none⟩ = some (.string xq) ∧ w'.cell? ⟨b, o + k * 4 + 3, none⟩ = some (.slice xa dat.length xc)) := fun W h => (sound_any ⟨act, xp, xq, dat⟩ xa xc W).mono fun e w' ⟨he, hb⟩ => ⟨⟨by rw [he, decide_eq_true HS.out], h.out.next hb⟩, HGET.out w' (h.out.next hb).low⟩
              have HDO : Hid (∀ W, Hid (Duo w tb cb (200 + k) T C R f g W) → Calls Tryz.prog 28 #[.pointer (some ⟨tb, 0, none⟩), .agg #[.int .i64 act, .string xp, .string xq, .slice xa dat.length xc]] W fun e w' => (∃ y, e = .returned y ∧ Hid (D1 E w tb cb (200 + k) T C R f g (OpA.op ⟨act, xp, xq, dat⟩) y w')) ∧ w'.cell? ⟨b, o + k * 4, none⟩ = some (.int .i64 act) ∧ w'.cell? ⟨b, o + k * 4 + 1, none⟩ = some (.string xp) ∧ w'.cell? ⟨b, o + k * 4 + 2, none⟩ = some (.string xq) ∧ w'.cell? ⟨b, o + k * 4 + 3, none⟩ = some (.slice xa dat.length xc)) := fun W h => (duo_do (HE.out W h.out.low) h.out HOX.out HS.out HIN.out.2.2.2.2).mono fun e w' ⟨y, he, hd⟩ => ⟨⟨y, he, hd⟩, HGET.out w' hd.low⟩
              have HTL : Hid (∀ y W, Hid (D1 E w tb cb (200 + k) T C R f g (OpA.op ⟨act, xp, xq, dat⟩) y W) → Calls Tryz.prog 29 #[y] W fun e w' => (e = .returned (codeV (T.code (OpA.op ⟨act, xp, xq, dat⟩))) ∧ Hid (D1 E w tb cb (200 + k) T C R f g (OpA.op ⟨act, xp, xq, dat⟩) y w')) ∧ w'.cell? ⟨b, o + k * 4, none⟩ = some (.int .i64 act) ∧ w'.cell? ⟨b, o + k * 4 + 1, none⟩ = some (.string xp) ∧ w'.cell? ⟨b, o + k * 4 + 2, none⟩ = some (.string xq) ∧ w'.cell? ⟨b, o + k * 4 + 3, none⟩ = some (.slice xa dat.length xc)) := fun y W h => (duo_tell (HE.out W h.out.low).env (HY.out W h.out.low) h.out).mono fun e w' ⟨he, hd⟩ => ⟨⟨he, hd⟩, HGET.out w' hd.low⟩
              have HDO2 : Hid (∀ y W, Hid (D1 E w tb cb (200 + k) T C R f g (OpA.op ⟨act, xp, xq, dat⟩) y W) → Calls Tryz.prog 28 #[.pointer (some ⟨cb, 0, none⟩), .agg #[.int .i64 act, .string xp, .string xq, .slice xa dat.length xc]] W fun e w' => (∃ y, e = .returned y ∧ Hid (D3 E w tb cb (200 + k) T C R f g (OpA.op ⟨act, xp, xq, dat⟩) y w')) ∧ w'.cell? ⟨b, o + k * 4, none⟩ = some (.int .i64 act) ∧ w'.cell? ⟨b, o + k * 4 + 1, none⟩ = some (.string xp) ∧ w'.cell? ⟨b, o + k * 4 + 2, none⟩ = some (.string xq) ∧ w'.cell? ⟨b, o + k * 4 + 3, none⟩ = some (.slice xa dat.length xc)) := fun y W h => (duo_do2 (HE.out W h.out.low) HDU.out.c.pp HDU.out.c.htb h.out HOX.out HS.out HIN.out.2.2.2.2 HDU.out.c.gh).mono fun e w' ⟨y, he, hd⟩ => ⟨⟨y, he, hd⟩, HGET.out w' hd.low⟩
              have hact : (OpA.op ⟨act, xp, xq, dat⟩).act ≤ 6 := by show act.toNat ≤ 6; have := HS.out; omega
              have hcd := (lock HDU.out.t.pp HDU.out.c.pp HDU.out.t.gh HK7.out (OpA.op ⟨act, xp, xq, dat⟩) hact HOX.out.path HOX.out.other HOX.out.data).1
              have HTL2 : Hid (∀ y W, Hid (D3 E w tb cb (200 + k) T C R f g (OpA.op ⟨act, xp, xq, dat⟩) y W) → Calls Tryz.prog 29 #[y] W fun e w' => (e = .returned (codeV (T.code (OpA.op ⟨act, xp, xq, dat⟩))) ∧ Hid (DI w tb cb (200 + (k + 1)) w')) ∧ w'.cell? ⟨b, o + k * 4, none⟩ = some (.int .i64 act) ∧ w'.cell? ⟨b, o + k * 4 + 1, none⟩ = some (.string xp) ∧ w'.cell? ⟨b, o + k * 4 + 2, none⟩ = some (.string xq) ∧ w'.cell? ⟨b, o + k * 4 + 3, none⟩ = some (.slice xa dat.length xc)) := fun y W h => (duo_tell2 (HE.out W h.out.low).env (HY.out W h.out.low) h.out).mono fun e w' ⟨he, hd⟩ => ⟨⟨by rw [he, hcd], duo_end HK7.out HDU.out.t.pp HDU.out.c.pp HDU.out.t.gh hact HOX.out.path HOX.out.other HOX.out.data hd⟩, HGET.out w' hd.low⟩
              have hneq : ∀ W : World, (binOp .neq 56 (codeV (T.code (OpA.op ⟨act, xp, xq, dat⟩))) (codeV (T.code (OpA.op ⟨act, xp, xq, dat⟩)))).run Tryz.prog W = .ok (.bool false) W := fun W => codeV_neq _ W
              have hgd : ∀ (x y : Operand) (W : World), (eqGuard .neq 56 x y (codeV (T.code (OpA.op ⟨act, xp, xq, dat⟩))) (codeV (T.code (OpA.op ⟨act, xp, xq, dat⟩)))).run Tryz.prog W = .ok () W := fun x y W => codeV_guard_neq _ x y W
              generalize codeV (T.code (OpA.op ⟨act, xp, xq, dat⟩)) = cv at *
              clear hcd hact hs HGET
              go_wp2_with fail
              first | (go_region_held3 (fun W => W.cell? ⟨b, o + k * 4, none⟩ = some (.int .i64 act) ∧ W.cell? ⟨b, o + k * 4 + 1, none⟩ = some (.string xp) ∧ W.cell? ⟨b, o + k * 4 + 2, none⟩ = some (.string xq) ∧ W.cell? ⟨b, o + k * 4 + 3, none⟩ = some (.slice xa dat.length xc)) (first | with_reducible exact ⟨by assumption, by assumption, by assumption, by assumption⟩ | exact ⟨g0, g1, g2, g3⟩)
                (first
                  | (go_at_call 27; refine (HSO.out _ (by with_reducible assumption)).mono ?_; rintro e w' ⟨⟨rfl, HX0⟩, c0, c1, c2, c3⟩)
                  | (go_at_call_of 28 tb; refine (HDO.out _ HX0).mono ?_; rintro e w' ⟨⟨y1, rfl, HX1⟩, c0, c1, c2, c3⟩)
                  | (go_at_call_of 29 y1; refine (HTL.out _ _ HX1).mono ?_; rintro e w' ⟨⟨rfl, HX2⟩, c0, c1, c2, c3⟩)
                  | (go_at_call_of 28 cb; refine (HDO2.out _ _ HX2).mono ?_; rintro e w' ⟨⟨y2, rfl, HX3⟩, c0, c1, c2, c3⟩)
                  | (go_at_call_of 29 y2; refine (HTL2.out _ _ HX3).mono ?_; rintro e w' ⟨⟨rfl, HX4⟩, c0, c1, c2, c3⟩))) | fail
              all_goals
                go_wp2_with fail
                go_roundw
                case rel => exact ⟨k + 1, by omega, by omega, by go_num, HX4⟩
                case measure => simp [intOf]; omega
            · have HSO : Hid (∀ W, Hid (Duo w tb cb (200 + k) T C R f g W) → Calls Tryz.prog 27 #[.agg #[.int .i64 act, .string xp, .string xq, .slice xa dat.length xc]] W fun e w' => (e = .returned (.bool false) ∧ Hid (DI w tb cb (200 + (k + 1)) w')) ∧ w'.cell? ⟨b, o + k * 4, none⟩ = some (.int .i64 act) ∧ w'.cell? ⟨b, o + k * 4 + 1, none⟩ = some (.string xp) ∧ w'.cell? ⟨b, o + k * 4 + 2, none⟩ = some (.string xq) ∧ w'.cell? ⟨b, o + k * 4 + 3, none⟩ = some (.slice xa dat.length xc)) := fun W h => (sound_any ⟨act, xp, xq, dat⟩ xa xc W).mono fun e w' ⟨he, hb⟩ => ⟨⟨by rw [he, decide_eq_false hs], T, C, R, f, g, (h.out.next hb).up (by omega)⟩, HGET.out w' (h.out.next hb).low⟩
              clear hs HGET
              go_wp2_with fail
              refine wp_region_any (by kernel_rfl) ?_
              (try (change wpAny _ _ _ _ _ _ _ (World.drew _)))
              refine wpAny_take (i := 0) (v := ?_) rfl (by kernel_rfl) (by kernel_rfl) (by kernel_rfl) (fun _ _ _ h => h) (Or.inl ⟨by kernel_rfl, ?_⟩) ?_
              rotate_left
              · (intro w; go_simp; rfl)
              refine wpAny_take (i := 1) (v := ?_) rfl (by kernel_rfl) (by kernel_rfl) (by kernel_rfl) (fun _ _ _ h => h) (Or.inl ⟨by kernel_rfl, ?_⟩) ?_
              rotate_left
              · (intro w; go_simp; rfl)
              refine wpAny_take (i := 2) (v := ?_) rfl (by kernel_rfl) (by kernel_rfl) (by kernel_rfl) (fun _ _ _ h => h) (Or.inl ⟨by kernel_rfl, ?_⟩) ?_
              rotate_left
              · (intro w; go_simp; rfl)
              refine wpAny_ready (rs := [3]) (by kernel_rfl) (by simp) ?_
              refine AllReady.cons rfl (fun K hK => ?_) AllReady.nil
              go_simp
              refine hK _ _ ?_
              clear hK K
              refine wpAny_ready (rs := [4]) (by kernel_rfl) (by simp) ?_
              refine AllReady.cons rfl (fun K hK => ?_) AllReady.nil
              go_simp
              go_at_call 27
              refine (HSO.out _ (by with_reducible assumption)).mono ?_
              rintro e w' ⟨⟨rfl, HX4⟩, c0, c1, c2, c3⟩
              go_simp
              refine hK _ _ ?_
              clear hK K
              refine wpAny_take (i := 5) (v := ?_) rfl (by kernel_rfl) (by kernel_rfl) (by kernel_rfl) (fun _ _ _ h => h) (Or.inl ⟨by kernel_rfl, ?_⟩) ?_
              rotate_left
              · (intro w; go_simp; rfl)
              refine wpAny_take (i := 6) (v := undef) rfl (by kernel_rfl) (by kernel_rfl) (by kernel_rfl) (fun _ _ _ h => h) (Or.inr ⟨by kernel_rfl, rfl⟩) ?_
              refine wpAny_take (i := 7) (v := undef) rfl (by kernel_rfl) (by kernel_rfl) (by kernel_rfl) (fun _ _ _ h => h) (Or.inr ⟨by kernel_rfl, rfl⟩) ?_
              refine wpAny_take (i := 8) (v := undef) rfl (by kernel_rfl) (by kernel_rfl) (by kernel_rfl) (fun _ _ _ h => h) (Or.inr ⟨by kernel_rfl, rfl⟩) ?_
              refine wpAny_take (i := 9) (v := undef) rfl (by kernel_rfl) (by kernel_rfl) (by kernel_rfl) (fun _ _ _ h => h) (Or.inr ⟨by kernel_rfl, rfl⟩) ?_
              refine wpAny_take (i := 10) (v := undef) rfl (by kernel_rfl) (by kernel_rfl) (by kernel_rfl) (fun _ _ _ h => h) (Or.inr ⟨by kernel_rfl, rfl⟩) ?_
              refine wpAny_take (i := 13) (v := undef) rfl (by kernel_rfl) (by kernel_rfl) (by kernel_rfl) (fun _ _ _ h => h) (Or.inr ⟨by kernel_rfl, rfl⟩) ?_
              refine wpAny_take (i := 14) (v := undef) rfl (by kernel_rfl) (by kernel_rfl) (by kernel_rfl) (fun _ _ _ h => h) (Or.inr ⟨by kernel_rfl, rfl⟩) ?_
              refine wpAny_take (i := 15) (v := undef) rfl (by kernel_rfl) (by kernel_rfl) (by kernel_rfl) (fun _ _ _ h => h) (Or.inr ⟨by kernel_rfl, rfl⟩) ?_
              refine wpAny_take (i := 16) (v := undef) rfl (by kernel_rfl) (by kernel_rfl) (by kernel_rfl) (fun _ _ _ h => h) (Or.inr ⟨by kernel_rfl, rfl⟩) ?_
              refine wpAny_take (i := 17) (v := undef) rfl (by kernel_rfl) (by kernel_rfl) (by kernel_rfl) (fun _ _ _ h => h) (Or.inr ⟨by kernel_rfl, rfl⟩) ?_
              refine wpAny_ready (rs := [11]) (by kernel_rfl) (by simp) ?_
              refine AllReady.cons rfl (fun K hK => ?_) AllReady.nil
              go_simp
              refine hK _ _ ?_
              clear hK K
              refine wpAny_ready (rs := [12]) (by kernel_rfl) (by simp) ?_
              refine AllReady.cons rfl (fun K hK => ?_) AllReady.nil
              go_simp
              refine hK _ _ ?_
              clear hK K
              refine wpAny_ready (rs := [18]) (by kernel_rfl) (by simp) ?_
              refine AllReady.cons rfl (fun K hK => ?_) AllReady.nil
              go_simp
              refine hK _ _ ?_
              clear hK K
              refine wpAny_ready (rs := [19]) (by kernel_rfl) (by simp) ?_
              refine AllReady.cons rfl (fun K hK => ?_) AllReady.nil
              go_simp
              refine hK _ _ ?_
              clear hK K
              refine wpAny_take (i := 20) (v := undef) rfl (by kernel_rfl) (by kernel_rfl) (by kernel_rfl) (fun _ _ _ h => h) (Or.inr ⟨by kernel_rfl, rfl⟩) ?_
              refine wpAny_take (i := 21) (v := ?_) rfl (by kernel_rfl) (by kernel_rfl) (by kernel_rfl) (fun _ _ _ h => h) (Or.inl ⟨by kernel_rfl, ?_⟩) ?_
              rotate_left
              · (intro w; go_simp; rfl)
              refine wpAny_done (by kernel_rfl) ?_ _
              go_wp2_with fail
              go_roundw
              case rel => exact ⟨k + 1, by omega, by omega, by go_num, HX4⟩
              case measure => simp [intOf]; omega
          · obtain ⟨T, C, R, f, g, hdu⟩ := hdi.out
            have HDU := Lib.hid hdu
            have hk2 : 200 + k ≤ 100000 := by omega
            have HK2 := Lib.hid hk2
            clear hdu hdi hk2
            by_cases hlt : k < ml.length
            · have hki : (k : Int) < ml.length := by omega
              have h30i : (30 : Int) ≤ k := by omega
              clear hgo
              go_wp2_with fail
              refine (one_text HK2.out HDU.out.c).mono ?_
              rintro e w3 ⟨rfl, hb⟩
              have HDU3 := Lib.hid (HDU.out.next hb)
              clear hb
              go_wp2_with fail
              refine (one_text HK2.out HDU3.out.t).mono ?_
              rintro e w4 ⟨rfl, hb⟩
              have HDU4 := Lib.hid (HDU3.out.next hb)
              clear hb
              go_wp2_with fail
              refine (awake16_any w4 (HE.out w4 HDU4.out.low)).mono ?_
              rintro e w7 ⟨rfl, hb7⟩
              have HB7 := Lib.hid (below_trans HDU4.out.low hb7)
              clear hb7
              go_wp2_with fail
              go_ret
              exact ⟨rfl, HB7.out⟩
            · have hki : (ml.length : Int) ≤ k := by omega
              clear hgo
              go_wp2_with fail
              refine (one_text HK2.out HDU.out.c).mono ?_
              rintro e w3 ⟨rfl, hb⟩
              have HDU3 := Lib.hid (HDU.out.next hb)
              clear hb
              go_wp2_with fail
              refine (one_text HK2.out HDU3.out.t).mono ?_
              rintro e w4 ⟨rfl, hb⟩
              have HDU4 := Lib.hid (HDU3.out.next hb)
              clear hb
              go_wp2_with fail
              refine (awake16_any w4 (HE.out w4 HDU4.out.low)).mono ?_
              rintro e w7 ⟨rfl, hb7⟩
              have HB7 := Lib.hid (below_trans HDU4.out.low hb7)
              clear hb7
              go_wp2_with fail
              go_ret
              exact ⟨rfl, HB7.out⟩
end Go.Proofs.YtjhojohjegkinaaGreatDoor
