/-
 Both kerns: any call: what the program's do tells, the document's model tells.
 Both kerns: the new ones; what a round of the laws keeps.
-/
import Derived.Test.YteeeaeiafdgpkaaGreatDoorKDoX
import Derived.Test.YteeeaeiafdgpkaaGreatDoorArgC
import Derived.Test.YteeeaeiafdgpkaaGreatDoorLock
import Derived.Test.YteeeaeiafdgpkaaGreatDoorAwA
import Derived.Deep.Onto
namespace Go.Proofs.YteeeaeiafdgpkaaGreatDoor
open Go Go.RowKit
section
def calV (x : Cal) (da : Option Addr) (dc : Nat) : Value := .agg #[.int .i64 x.act, .int .i64 x.fd, .int .i64 x.n, .string x.path, .slice da x.data.length dc]
def PAny (K : Ks) (x : Cal) (a b : Nat) (l : List UInt8) (c : Nat) (K' : Ks) : Prop :=
 (x.act = 0 ∧ (b = 0 ∧ l = [] ∧ POpen K x.path x.n a c K')) ∨ (x.act = 1 ∧ (l = [] ∧ PPipe K a b c K')) ∨ (x.act = 2 ∧ (b = 0 ∧ l = [] ∧ PDup K x.fd a c K')) ∨
 (x.act = 3 ∧ (a = 0 ∧ b = 0 ∧ l = [] ∧ PMove K x.fd x.n c K')) ∨ (x.act = 4 ∧ (a = 0 ∧ b = 0 ∧ l = [] ∧ PClose K x.fd c K')) ∨ (x.act = 5 ∧ (a = 0 ∧ b = 0 ∧ PRead K x.fd x.n l c K')) ∨
 (x.act = 6 ∧ (a = 0 ∧ b = 0 ∧ l = [] ∧ PWrite K x.fd x.data c K')) ∨ ((x.act < 0 ∨ 6 < x.act) ∧ (a = 0 ∧ b = 0 ∧ l = [] ∧ PRem K x.path c K'))
theorem eight {i : Int} : i = 0 ∨ i = 1 ∨ i = 2 ∨ i = 3 ∨ i = 4 ∨ i = 5 ∨ i = 6 ∨ (i < 0 ∨ 6 < i) := by omega
theorem zed.mono {B : Nat} {w w' : World} {K : Ks} {Q Q' : Nat → Nat → List UInt8 → Nat → Ks → Prop} {e : Ending} (h : zed B w K Q e w') (hQ : ∀ a b l c K', Q a b l c K' → Q' a b l c K') : zed B w K Q' e w' := by
 obtain ⟨a, b, l, c, he, hp⟩ := h
 exact ⟨a, b, l, c, he, hp.mono (hQ a b l c)⟩
theorem kdo_any {E : Nat → Addr} {B : Nat} {w : World} {K : Ks} {X : Rk} {t : Tags} {m : Nat} (hE : Ctx E B w) (hY : Ety B w) (hB : B ≤ w.heap.size) (hK : KRep B w K) (p : Pur K X t m) (x : Cal) (ok : CalOk x) (da : Option Addr) (dc : Nat)
  (hs : Src w (.slice da x.data.length dc) x.data) (hbf : 0 < x.data.length → ∀ q, (Value.slice da x.data.length dc).ownBlock = some q → ¬ K.foot q) :
  Calls Tryz.prog 8 #[.pointer (some ⟨K.kb, 0, none⟩), calV x da dc] w fun e w' => zed B w K (fun a b l c K' => PAny K x a b l c K') e w' := by
 have src : ∀ {W}, Below w.heap.size w W → Src W (.slice da x.data.length dc) x.data := fun hW => hs.kept (Kept.of_below hW (fun _ => False)) (fun _ _ h => h)
 obtain ⟨act, fd, n, path, data⟩ := x
 have hn := ok.n
 have hp := ok.path
 have hd := ok.data
 have h8 := @eight act
 unfold calV
 dsimp only at hn hp hd hbf hs src ⊢
 rcases h8 with rfl | rfl | rfl | rfl | rfl | rfl | rfl | h
 ·exact (do_0 (P := fun a c K' => POpen K path n a c K') hE.env hY hK fd n path da data.length dc (fun W hW => popen (hE.below hW) (Nat.le_trans hB hW.size) (hK.below hW) p path hp n)).mono fun e w' h => h.mono fun a b l c K' h => .inl ⟨rfl, h⟩
 ·exact (do_1 (P := fun a b c K' => PPipe K a b c K') hE.env hY hK fd n path da data.length dc (fun W hW => ppipe (hE.below hW).env (Nat.le_trans hB hW.size) (hK.below hW))).mono fun e w' h => h.mono fun a b l c K' h => .inr (.inl ⟨rfl, h⟩)
 ·exact (do_2 (P := fun a c K' => PDup K fd a c K') hE.env hY hK fd n path da data.length dc (fun W hW => pdup (hE.below hW).env (hK.below hW) fd)).mono fun e w' h => h.mono fun a b l c K' h => .inr (.inr (.inl ⟨rfl, h⟩))
 ·exact (do_3 (P := fun c K' => PMove K fd n c K') hE.env hY hK fd n path da data.length dc (fun W hW => pmove (hE.below hW).env (hK.below hW) fd n)).mono fun e w' h => h.mono fun a b l c K' h => .inr (.inr (.inr (.inl ⟨rfl, h⟩)))
 ·exact (do_4 (P := fun c K' => PClose K fd c K') hE.env hY hK fd n path da data.length dc (fun W hW => pclose (hE.below hW).env (hK.below hW) fd)).mono fun e w' h => h.mono fun a b l c K' h => .inr (.inr (.inr (.inr (.inl ⟨rfl, h⟩))))
 ·exact (do_5 (P := fun l c K' => PRead K fd n l c K') hE.env hY hK fd n path da data.length dc (fun W hW => pread (hE.below hW).env (hK.below hW) p fd n hn.2)).mono fun e w' h => h.mono fun a b l c K' h => .inr (.inr (.inr (.inr (.inr (.inl ⟨rfl, h⟩)))))
 ·exact (do_6 (P := fun c K' => PWrite K fd data c K') hE.env hY hK fd n path da data.length dc (fun W hW => pwrite (hE.below hW).env (hY.below hW) (Nat.le_trans hB hW.size) (hK.below hW) p fd _ data (src hW) hd hbf)).mono fun e w' h => h.mono fun a b l c K' h => .inr (.inr (.inr (.inr (.inr (.inr (.inl ⟨rfl, h⟩))))))
 ·exact (do_7 (P := fun c K' => PRem K path c K') hE.env hY hK act h fd n path da data.length dc (fun W hW => prem (hE.below hW) (hK.below hW) p path hp)).mono fun e w' h' => h'.mono fun a b l c K' h' => .inr (.inr (.inr (.inr (.inr (.inr (.inr ⟨h, h'⟩))))))
theorem kmodel_any {B : Nat} {w : World} {K K' : Ks} {X : Rk} {t : Tags} {m : Nat} (hm : m < 80000) (hX : RkRep B w X) (p : Pur K X t m) (x : Cal) (ok : CalOk x) (da : Option Addr) (dc : Nat)
  (hs : Src w (.slice da x.data.length dc) x.data) {a b : Nat} {l : List UInt8} {c : Nat} (h : PAny K x a b l c K') :
  Calls Tryz.prog 9 #[.pointer (some ⟨X.kb, 0, none⟩), calV x da dc] w fun e w' => e = .returned (ansV a b l c) ∧ ROk B w X (fun X' => ∃ t', Pur K' X' t' (m + 1)) w' := by
 have src : ∀ {W}, Below w.heap.size w W → Src W (.slice da x.data.length dc) x.data := fun hW => hs.kept (Kept.of_below hW (fun _ => False)) (fun _ _ h => h)
 have nx : ∀ {W w1 : World}, ROk B W X (fun X' => Pur K' X' t m) w1 → ROk B W X (fun X' => ∃ t', Pur K' X' t' (m + 1)) w1 := fun h => h.mono fun X' q => ⟨t, q.mono (Nat.le_succ m)⟩
 have nx1 : ∀ {W w1 : World}, ROk B W X (fun X' => Pur K' X' t (m + 1)) w1 → ROk B W X (fun X' => ∃ t', Pur K' X' t' (m + 1)) w1 := fun h => h.mono fun X' q => ⟨t, q⟩
 obtain ⟨act, fd, n, path, data⟩ := x
 have hn := ok.n
 have hp := ok.path
 have hd := ok.data
 unfold calV
 dsimp only at hn hp hd hs src ⊢
 rcases h with ⟨rfl, rfl, rfl, h⟩ | ⟨rfl, rfl, h⟩ | ⟨rfl, rfl, rfl, h⟩ | ⟨rfl, rfl, rfl, rfl, h⟩ | ⟨rfl, rfl, rfl, rfl, h⟩ | ⟨rfl, rfl, rfl, h⟩ | ⟨rfl, rfl, rfl, rfl, h⟩ | ⟨ha, rfl, rfl, rfl, h⟩
 ·exact md_0 hX fd n path da data.length dc (fun W hW => ropen hm (hX.below hW) p hp h)
 ·exact md_1 hX fd n path da data.length dc (fun W hW => (rpipe (hX.below hW) p h).mono fun e w' ⟨h1, h2⟩ => ⟨h1, h2.mono fun X' ⟨t', q⟩ => ⟨t', q.mono (Nat.le_succ m)⟩⟩)
 ·exact md_2 hX fd n path da data.length dc (fun W hW => (rdup (hX.below hW) p h).mono fun e w' ⟨h1, h2⟩ => ⟨h1, nx h2⟩)
 ·exact md_3 hX fd n path da data.length dc (fun W hW => (rmove (hX.below hW) p h).mono fun e w' ⟨h1, h2⟩ => ⟨h1, nx h2⟩)
 ·exact md_4 hX fd n path da data.length dc (fun W hW => (rclose (hX.below hW) p h).mono fun e w' ⟨h1, h2⟩ => ⟨h1, nx h2⟩)
 ·exact md_5 hX fd n path da data.length dc (fun W hW => (rread (hX.below hW) p hn.2 h).mono fun e w' ⟨v, h1, h2, h3⟩ => ⟨v, h1, h2, nx h3⟩)
 ·exact md_6 hX fd n path da data.length dc (fun W hW => (rwrite hm (hX.below hW) p (src hW) hd h).mono fun e w' ⟨h1, h2⟩ => ⟨h1, nx1 h2⟩)
 ·exact md_7 hX act ha fd n path da data.length dc (fun W hW => (rrem hm (hX.below hW) p hp h).mono fun e w' ⟨h1, h2⟩ => ⟨h1, nx1 h2⟩)
end
section
def Rk0 (R : RT) (kb n0 n1 m o0 o1 o2 : Nat) (v : Value) (l : List UInt8) : Rk :=
 ⟨R, kb, za6 (za6 (za6 (fun _ => none) 0 (some o0)) 1 (some o1)) 2 (some o2),
  fun q => if q = o0 then some ⟨m, true, false, false, 0, false⟩ else if q = o1 then some ⟨n0, false, true, false, 0, true⟩ else if q = o2 then some ⟨n1, false, true, false, 0, true⟩ else none,
  n0, n1, m, .slice none 0 0, .slice none 0 0, v, [], [], l⟩
theorem nil_row (B : Nat) (w : World) : w.ownsRow B 5 1 (.slice none 0 0) ([] : List UInt8).length (u8s []) := World.ownsRow_nil _ _ _ _
theorem kerns_new {B : Nat} {w1 w2 : World} {K : Ks} {R : RT} {f : Nat → Nat} {n kb n0 n1 m o0 o1 o2 : Nat} {v : Value} {il : List UInt8} (hB : B ≤ w1.heap.size) (hK : KRep B w1 K) (hR : RRep B w1 R) (hS : Sim K.T R f) (hI : TI K.T) (hG : TG K.T) (hN : RN R n)
  (hfd : K.fds = fds3 K.ib K.ob K.eb) (hin : K.inL = il) (ho : K.outL = []) (he : K.errL = []) (hfl : K.fl = fun _ => none) (hil : il.length ≤ 140737488355328) (hbare : ∀ n d, R.nd n = some d → d.dv.ownBlock = none)
  (hne : o0 ≠ o1 ∧ o0 ≠ o2 ∧ o1 ≠ o2)
  (h : NKA w1 w2 R.tb kb n0 n1 m v il (za6 (za6 (za6 (fun _ => none) 0 (some o0)) 1 (some o1)) 2 (some o2)) [(o2, ⟨n1, false, true, false, 0, true⟩), (o1, ⟨n0, false, true, false, 0, true⟩), (o0, ⟨m, true, false, false, 0, false⟩)]) :
  Mem B w2 K (Rk0 R kb n0 n1 m o0 o1 o2 v il) ∧ Pur K (Rk0 R kb n0 n1 m o0 o1 o2 v il) ⟨f, fun _ => 0, o0, o1, o2⟩ n := by
 obtain ⟨hn1, hn2, hn3⟩ := hne
 obtain ⟨g1, g2, g3, g4⟩ := h.ge
 have ops : ∀ o x, (Rk0 R kb n0 n1 m o0 o1 o2 v il).ops o = some x → zbi w2 o x ∧ w1.heap.size ≤ o := fun o x hx => by
  have hx : (if o = o0 then some (⟨m, true, false, false, 0, false⟩ : ROp) else if o = o1 then some ⟨n0, false, true, false, 0, true⟩ else if o = o2 then some ⟨n1, false, true, false, 0, true⟩ else none) = some x := hx
  split at hx
  ·rename_i e; cases hx; rw [e]; exact h.ops (o0, ⟨m, true, false, false, 0, false⟩) (by simp)
  ·split at hx
   ·rename_i e; cases hx; rw [e]; exact h.ops (o1, ⟨n0, false, true, false, 0, true⟩) (by simp)
   ·split at hx
    ·rename_i e; cases hx; rw [e]; exact h.ops (o2, ⟨n1, false, true, false, 0, true⟩) (by simp)
    ·cases hx
 have nond : ∀ q, w1.heap.size ≤ q → R.nd q = none := fun q hq => by
  cases hx : R.nd q with
  | none => rfl
  | some d =>
   have := zab (hR.node q d hx).1
   omega
 refine ⟨⟨hK.below h.below, ⟨hR.below h.below, h.kern, fun o x hx => (ops o x hx).1, h.c0, nil_row B w2, h.c1, nil_row B w2, h.inp, World.ownsRow.mono h.row hB, ⟨Nat.le_trans hB g1, Nat.le_trans hB g2, Nat.le_trans hB g3, Nat.le_trans hB g4, fun o x hx => Nat.le_trans hB (ops o x hx).2⟩, ⟨nond _ g2, nond _ g3, nond _ g4⟩, h.ne, ?_, Nat.le_trans hB h.below.size⟩, ?_⟩, ⟨hS, hI, hG, hN, ?_⟩⟩
 ·refine ⟨fun _ => 5, fun n d q hn hq => ?_, fun q hq => (by cases hq), fun q hq => (by cases hq), fun _ _ => rfl⟩
  rw [hbare n d hn] at hq
  cases hq
 ·intro q h1 h2
  have h3 := hK.lt (Ks.row_foot h1)
  rcases h2 with ⟨n, d, hn, hb⟩ | hb | hb | hb
  ·rw [hbare n d hn] at hb; cases hb
  ·cases hb
  ·cases hb
  ·have := (h.row.lt q hb).1
   omega
 ·refine ⟨fun j => ?_, ⟨0, ?_, Nat.zero_le _, (by rw [hin]; rfl)⟩, ?_, ?_, (by rw [ho]; rfl), (by rw [he]; rfl), ⟨(by rw [ho]; decide), (by rw [he]; decide), hil⟩, fun b fl hb => (by rw [hfl] at hb; cases hb), fun b b' fl fl' hb => (by rw [hfl] at hb; cases hb), fun b fl hb => (by rw [hfl] at hb; cases hb)⟩
  ·rw [hfd]
   show fdRel K.ob K.eb _ (fds3 K.ib K.ob K.eb j) (if j = 2 then some o2 else if j = 1 then some o1 else if j = 0 then some o0 else none)
   unfold fds3
   by_cases e0 : j = 0
   ·subst e0; exact rfl
   ·by_cases e1 : j = 1
    ·subst e1; exact .inl ⟨rfl, rfl⟩
    ·by_cases e2 : j = 2
     ·subst e2; exact .inr ⟨rfl, rfl⟩
     ·rw [if_neg e0, if_neg e1, if_neg e2, if_neg e2, if_neg e1, if_neg e0]
      trivial
  ·exact if_pos rfl
  ·exact (if_neg hn1.symm).trans (if_pos rfl)
  ·exact (if_neg hn2.symm).trans ((if_neg hn3.symm).trans (if_pos rfl))
def ExtOk (W : World) (K : Ks) (X : Rk) : Option (Nat × Array Value) → Prop
 | none => True
 | some (q, cur) => W.heap[q]? = some (.cells cur 5 (0, 0)) ∧ ¬ K.row q ∧ ¬ X.row q
theorem KRep.foot_u8 {B : Nat} {w : World} {K : Ks} (h : KRep B w K) {q : Nat} {c : Array Value} (hq : w.heap[q]? = some (.cells c 5 (0, 0))) (hr : ¬ K.row q) : ¬ K.foot q := fun hf => by
 rcases h.foot_obj hf with h1 | ⟨es, k, hm⟩ | ⟨c', t', hc', ht'⟩
 ·exact hr h1
 ·exact zam hq hm rfl
 ·rcases ht' with rfl | rfl | rfl | rfl | rfl | rfl | rfl <;> exact zac hq hc' (by decide) rfl
theorem RkRep.foot_u8 {B : Nat} {w : World} {X : Rk} (h : RkRep B w X) {q : Nat} {c : Array Value} (hq : w.heap[q]? = some (.cells c 5 (0, 0))) (hr : ¬ X.row q) : ¬ X.foot q := fun hf => by
 rcases h.foot_obj hf with h1 | ⟨c', t', hc', ht'⟩
 ·exact hr h1
 ·rcases ht' with rfl | rfl | rfl | rfl | rfl <;> exact zac hq hc' (by decide) rfl
theorem ExtOk.below {W W1 : World} {K : Ks} {X : Rk} {x : Option (Nat × Array Value)} (h : ExtOk W K X x) (hb : Below W.heap.size W W1) : ExtOk W1 K X x := by
 cases x with
 | none => trivial
 | some p => exact ⟨zae hb (zab h.1) h.1, h.2⟩
theorem ExtOk.k {B : Nat} {W W1 : World} {K K1 : Ks} {X : Rk} {x : Option (Nat × Array Value)} (h : ExtOk W K X x) (hK : KRep B W K) (k : Kept K.foot W W1) (hf : ∀ q, K1.foot q → K.foot q ∨ W.heap.size ≤ q) : ExtOk W1 K1 X x := by
 cases x with
 | none => trivial
 | some p =>
  obtain ⟨h1, h2, h3⟩ := h
  have hn := hK.foot_u8 h1 h2
  refine ⟨(k.block _ (zab h1) hn).trans h1, fun hr => ?_, h3⟩
  rcases hf _ (Ks.row_foot hr) with h4 | h4
  ·exact hn h4
  ·have := zab h1
   omega
theorem ExtOk.r {B : Nat} {W W1 : World} {K : Ks} {X X1 : Rk} {x : Option (Nat × Array Value)} (h : ExtOk W K X x) (hX : RkRep B W X) (k : Kept X.foot W W1) (hf : ∀ q, X1.row q → X.row q ∨ W.heap.size ≤ q) : ExtOk W1 K X1 x := by
 cases x with
 | none => trivial
 | some p =>
  obtain ⟨h1, h2, h3⟩ := h
  refine ⟨(k.block _ (zab h1) (hX.foot_u8 h1 h3)).trans h1, h2, fun hr => ?_⟩
  rcases hf _ hr with h4 | h4
  ·exact h3 h4
  ·have := zab h1
   omega
structure Plc where
 kb : Nat
 tb : Nat
 xb : Nat
 rb : Nat
 n0 : Nat
 n1 : Nat
def Plc.ok (P : Plc) (K : Ks) (X : Rk) : Prop := (K.kb = P.kb ∧ K.T.tb = P.tb) ∧ (X.kb = P.xb ∧ X.R.tb = P.rb ∧ X.n0 = P.n0 ∧ X.n1 = P.n1)
structure S0 (B : Nat) (w0 : World) (P : Plc) (ext : Option (Nat × Array Value)) (n : Nat) (K : Ks) (X : Rk) (t : Tags) (W : World) : Prop where
 mem : Mem B W K X
 pur : Pur K X t n
 plc : P.ok K X
 ext : ExtOk W K X ext
 low : Below B w0 W
structure S1 (B : Nat) (w0 : World) (P : Plc) (ext : Option (Nat × Array Value)) (n : Nat) (K K1 : Ks) (X : Rk) (t : Tags) (x : Cal) (a b : Nat) (l : List UInt8) (c : Nat) (W : World) : Prop where
 mem : Mem B W K1 X
 pur : Pur K X t n
 plc : P.ok K1 X
 ext : ExtOk W K1 X ext
 low : Below B w0 W
 did : PAny K x a b l c K1
section
variable {B : Nat} {w0 : World} {P : Plc} {ext : Option (Nat × Array Value)} {n : Nat} {K : Ks} {X : Rk} {t : Tags} {W W' : World}
theorem S0.next (h : S0 B w0 P ext n K X t W) (hb : Below W.heap.size W W') : S0 B w0 P ext n K X t W' := ⟨h.mem.below hb, h.pur, h.plc, h.ext.below hb, h.low.trans (hb.mono h.mem.base)⟩
theorem S0.drew (h : S0 B w0 P ext n K X t W) : S0 B w0 P ext n K X t W.drew := h.next (Below.refl _ _).drew
theorem S0.up (h : S0 B w0 P ext n K X t W) {m : Nat} (hm : n ≤ m) : S0 B w0 P ext m K X t W := ⟨h.mem, h.pur.mono hm, h.plc, h.ext, h.low⟩
theorem st_do {E : Nat → Addr} (hE : Ctx E B W) (hY : Ety B W) (h : S0 B w0 P ext n K X t W) (x : Cal) (ok : CalOk x) (da : Option Addr) (dc : Nat) (hs : Src W (.slice da x.data.length dc) x.data) (hbf : 0 < x.data.length → ∀ q, (Value.slice da x.data.length dc).ownBlock = some q → ¬ K.foot q) :
  Calls Tryz.prog 8 #[.pointer (some ⟨P.kb, 0, none⟩), calV x da dc] W fun e w' => ∃ a b l c K1, e = .returned (ansV a b l c) ∧ S1 B w0 P ext n K K1 X t x a b l c w' ∧ Kept K.foot W w' := by
 have hd := kdo_any hE hY h.mem.base h.mem.krep h.pur x ok da dc hs hbf
 rw [h.plc.1.1] at hd
 refine hd.mono fun e w' hp => ?_
 obtain ⟨a, b, l, c, he, hk⟩ := hp
 obtain ⟨K1, a1, a2, a3, a4, a5, a6⟩ := hk.ex
 exact ⟨a, b, l, c, K1, he, ⟨h.mem.p a1 a2 a3, h.pur, ⟨⟨a4.trans h.plc.1.1, a5.trans h.plc.1.2⟩, h.plc.2⟩, h.ext.k h.mem.krep a2 a3, h.low.trans (a2.below (fun q hq => h.mem.krep.foot_low hq) h.mem.base), a6⟩, a2⟩
theorem st_model {K1 : Ks} {x : Cal} {a b : Nat} {l : List UInt8} {c : Nat} (hn : n < 80000) (h : S1 B w0 P ext n K K1 X t x a b l c W) (ok : CalOk x) (da : Option Addr) (dc : Nat) (hs : Src W (.slice da x.data.length dc) x.data) :
  Calls Tryz.prog 9 #[.pointer (some ⟨P.xb, 0, none⟩), calV x da dc] W fun e w' => e = .returned (ansV a b l c) ∧ (∃ X1 t1, S0 B w0 P ext (n + 1) K1 X1 t1 w') ∧ Kept X.foot W w' := by
 have hd := kmodel_any hn h.mem.xrep h.pur x ok da dc hs h.did
 rw [h.plc.2.1] at hd
 refine hd.mono fun e w' hp => ?_
 obtain ⟨he, hk⟩ := hp
 obtain ⟨X1, a1, a2, a3, a4, a5, a6, a7, t1, a8⟩ := hk.ex
 exact ⟨he, ⟨X1, t1, h.mem.r a1 a2 a3, a8, ⟨h.plc.1, a4.trans h.plc.2.1, a5.trans h.plc.2.2.1, a6.trans h.plc.2.2.2.1, a7.trans h.plc.2.2.2.2⟩, h.ext.r h.mem.xrep a2 a3, h.low.trans (a2.below (fun q hq => h.mem.xrep.foot_low hq) h.mem.base)⟩, a2⟩
def NumsPost (W : World) (l : List Nat) (e : Ending) (w' : World) : Prop := ∃ va vc, e = .returned (.slice va l.length vc) ∧ ISrc w' (.slice va l.length vc) (l.map fun (n : Nat) => (n : Int)) ∧ Below W.heap.size W w'
theorem st_used (h : S0 B w0 P ext n K X t W) : Calls Tryz.prog 18 #[.pointer (some ⟨P.kb, 0, none⟩)] W fun e w' => NumsPost W (zbk K.fds 16) e w' := by
 have hd := kern_Used h.mem.krep.kern
 rw [h.plc.1.1] at hd
 refine hd.mono fun e w' ⟨v, he, hr, hb⟩ => ?_
 obtain ⟨va, vc, rfl⟩ := zak hr
 exact ⟨va, vc, he, ISrc.of_owns hr, hb⟩
theorem st_rused (h : S0 B w0 P ext n K X t W) : Calls Tryz.prog 19 #[.pointer (some ⟨P.xb, 0, none⟩)] W fun e w' => NumsPost W (zbk K.fds 16) e w' := by
 have hd := rk_Used h.mem.xrep.kern
 rw [h.plc.2.1] at hd
 have e1 : uTo (fun j => (X.fds j).isSome) 16 = zbk K.fds 16 := by
  unfold uTo zbk
  exact congrArg (fun p => List.filter p (List.range 16)) (funext fun j => (ze4 (h.pur.rel.fd j).none).symm)
 refine hd.mono fun e w' ⟨v, he, hr, hb⟩ => ?_
 rw [e1] at hr
 obtain ⟨va, vc, rfl⟩ := zak hr
 exact ⟨va, vc, he, ISrc.of_owns hr, hb⟩
theorem st_out (h : S0 B w0 P ext n K X t W) : Calls Tryz.prog 11 #[.pointer (some ⟨P.kb, 0, none⟩)] W fun e w' => zcx W K.outL e w' := by
 have hd := kern_Out h.mem.krep h.pur.rel.len.1
 rw [h.plc.1.1] at hd
 exact hd
theorem st_err (h : S0 B w0 P ext n K X t W) : Calls Tryz.prog 20 #[.pointer (some ⟨P.kb, 0, none⟩)] W fun e w' => zcx W K.errL e w' := by
 have hd := kern_Err h.mem.krep h.pur.rel.len.2.1
 rw [h.plc.1.1] at hd
 exact hd
theorem S0.con0 (h : S0 B w0 P ext n K X t W) : ∃ va vc, W.cell? ⟨P.xb, 17, none⟩ = some (.pointer (some ⟨P.n0, 0, none⟩)) ∧ W.cell? ⟨P.n0, 1, none⟩ = some (.slice va K.outL.length vc) ∧ Src W (.slice va K.outL.length vc) K.outL := by
 have h1 := h.mem.xrep.kern.con0
 rw [h.plc.2.1, h.plc.2.2.2.1] at h1
 have h2 := h.mem.xrep.s0
 have h3 := zaa (o := 1) h.mem.xrep.c0 rfl
 rw [h.plc.2.2.2.1] at h3
 rw [h.pur.rel.out] at h2
 obtain ⟨va, vc, hv⟩ := zak h2
 rw [hv] at h2 h3
 exact ⟨va, vc, h1, h3, Src.of_owns h2⟩
theorem S0.con1 (h : S0 B w0 P ext n K X t W) : ∃ va vc, W.cell? ⟨P.xb, 18, none⟩ = some (.pointer (some ⟨P.n1, 0, none⟩)) ∧ W.cell? ⟨P.n1, 1, none⟩ = some (.slice va K.errL.length vc) ∧ Src W (.slice va K.errL.length vc) K.errL := by
 have h1 := h.mem.xrep.kern.con1
 rw [h.plc.2.1, h.plc.2.2.2.2] at h1
 have h2 := h.mem.xrep.s1
 have h3 := zaa (o := 1) h.mem.xrep.c1 rfl
 rw [h.plc.2.2.2.2] at h3
 rw [h.pur.rel.err] at h2
 obtain ⟨va, vc, hv⟩ := zak h2
 rw [hv] at h2 h3
 exact ⟨va, vc, h1, h3, Src.of_owns h2⟩
theorem st_text (hn : n ≤ 80000) (h : S0 B w0 P ext n K X t W) : Calls Tryz.prog 13 #[.pointer (some ⟨P.tb, 0, none⟩)] W fun e w' => e = .returned (.string ⟨K.T.txt.toArray⟩) ∧ Below W.heap.size W w' := by
 have hd := (h.mem.both h.pur).text (by omega)
 rw [h.plc.1.2] at hd
 exact hd
theorem st_rtext {B0 : Nat} (hn : n ≤ 80000) (ht : TabB B0 W) (h0 : B0 ≤ W.heap.size) (h : S0 B w0 P ext n K X t W) : Calls Tryz.prog 14 #[.pointer (some ⟨P.rb, 0, none⟩)] W fun e w' => e = .returned (.string ⟨K.T.txt.toArray⟩) ∧ Below W.heap.size W w' := by
 have hd := (h.mem.both h.pur).rtext hn ht h0
 rw [h.plc.2.2.1] at hd
 exact hd.mono fun e w' hx => hx
theorem ans_neq (a b : Nat) (l : List UInt8) (c : Nat) (W : World) : (binOp .neq 34 (ansV a b l c) (ansV a b l c)).run Tryz.prog W = .ok (.bool false) W := by
 unfold ansV
 simp [go_sem]
theorem ans_guard (a b : Nat) (l : List UInt8) (c : Nat) (x y : Operand) (W : World) : (eqGuard .neq 34 x y (ansV a b l c) (ansV a b l c)).run Tryz.prog W = .ok () W := by
 unfold ansV
 simp [go_sem]
end
end
end Go.Proofs.YteeeaeiafdgpkaaGreatDoor
