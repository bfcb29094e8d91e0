/-
 Both kerns in one memory: the document's kern as a whole, frame laws.
 Both kerns in one memory: apart from one another; how they match; what a call leaves.
-/
import Derived.Test.YteeeaeiafdgpkaaGreatDoorRKernY
import Derived.Test.YteeeaeiafdgpkaaGreatDoorFileS
import Derived.Test.YteeeaeiafdgpkaaGreatDoorOpenF
import Derived.Test.YteeeaeiafdgpkaaGreatDoorLock
import Derived.Test.YteeeaeiafdgpkaaGreatDoorPipe
import Derived.Test.YteeeaeiafdgpkaaGreatDoorKIn
namespace Go.Proofs.YteeeaeiafdgpkaaGreatDoor
open Go Go.RowKit
section
structure Rk where
 R : RT
 kb : Nat
 fds : Nat → Option Nat
 ops : Nat → Option ROp
 n0 : Nat
 n1 : Nat
 m : Nat
 v0 : Value
 v1 : Value
 vm : Value
 l0 : List UInt8
 l1 : List UInt8
 lm : List UInt8
def Rk.foot (X : Rk) (q : Nat) : Prop := X.R.foot q ∨ q = X.kb ∨ (∃ x, X.ops q = some x) ∨ (q = X.n0 ∨ X.v0.ownBlock = some q) ∨ (q = X.n1 ∨ X.v1.ownBlock = some q) ∨ (q = X.m ∨ X.vm.ownBlock = some q)
def Rk.row (X : Rk) (q : Nat) : Prop := (∃ n d, X.R.nd n = some d ∧ d.dv.ownBlock = some q) ∨ X.v0.ownBlock = some q ∨ X.v1.ownBlock = some q ∨ X.vm.ownBlock = some q
abbrev nodeC (v : Value) : Obj := .cells #[.bool false, v, .int .i64 0] 41 (0, 0)
structure RkRep (B : Nat) (w : World) (X : Rk) : Prop where
 rrep : RRep B w X.R
 kern : RKAt w X.kb X.R.tb X.fds X.n0 X.n1
 opn : ∀ o x, X.ops o = some x → zbi w o x
 c0 : w.heap[X.n0]? = some (nodeC X.v0)
 s0 : w.ownsRow B 5 1 X.v0 X.l0.length (u8s X.l0)
 c1 : w.heap[X.n1]? = some (nodeC X.v1)
 s1 : w.ownsRow B 5 1 X.v1 X.l1.length (u8s X.l1)
 cm : w.heap[X.m]? = some (nodeC X.vm)
 sm : w.ownsRow B 5 1 X.vm X.lm.length (u8s X.lm)
 low : B ≤ X.kb ∧ B ≤ X.n0 ∧ B ≤ X.n1 ∧ B ≤ X.m ∧ ∀ o x, X.ops o = some x → B ≤ o
 off : X.R.nd X.n0 = none ∧ X.R.nd X.n1 = none ∧ X.R.nd X.m = none
 two : X.n0 ≠ X.n1 ∧ X.n0 ≠ X.m ∧ X.n1 ≠ X.m
 lab : ∃ lab : Nat → Nat, (∀ n d q, X.R.nd n = some d → d.dv.ownBlock = some q → lab q = 2) ∧ (∀ q, X.v0.ownBlock = some q → lab q = 3) ∧ (∀ q, X.v1.ownBlock = some q → lab q = 4) ∧ (∀ q, X.vm.ownBlock = some q → lab q = 5)
 base : B ≤ w.heap.size
theorem RKAt.obj {w : World} {kb rt : Nat} {fds : Nat → Option Nat} {c0 c1 : Nat} (h : RKAt w kb rt fds c0 c1) : ∃ c, w.heap[kb]? = some (.cells c 47 (0, 0)) := by
 obtain ⟨c, h1, _⟩ := h.cells
 exact ⟨c, h1⟩
theorem KAt.obj {w : World} {kb tb : Nat} {fds : Nat → Option End} {ob eb : Nat} (h : KAt w kb tb fds ob eb) : ∃ c, w.heap[kb]? = some (.cells c 64 (0, 0)) := by
 obtain ⟨c, h1, _⟩ := h.cells
 exact ⟨c, h1⟩
theorem RkRep.row_obj {B : Nat} {w : World} {X : Rk} (h : RkRep B w X) {q : Nat} (hq : X.row q) : ∃ c, w.heap[q]? = some (.cells c 5 (0, 0)) := by
 rcases hq with ⟨n, d, hn, hb⟩ | hb | hb | hb
 ·exact zaq (h.rrep.node n d hn).2 hb
 ·exact zaq h.s0 hb
 ·exact zaq h.s1 hb
 ·exact zaq h.sm hb
theorem RkRep.foot_obj {B : Nat} {w : World} {X : Rk} (h : RkRep B w X) {q : Nat} (hq : X.foot q) : X.row q ∨ ∃ c t, w.heap[q]? = some (.cells c t (0, 0)) ∧ (t = 73 ∨ t = 70 ∨ t = 41 ∨ t = 47 ∨ t = 68) := by
 rcases hq with (rfl | hv | ⟨d, hd⟩ | ⟨n, d, hd, hv⟩) | rfl | ⟨x, hx⟩ | (rfl | hv) | (rfl | hv) | (rfl | hv)
 ·exact .inr ⟨_, _, h.rrep.tree, .inl rfl⟩
 ·obtain ⟨cur, hc⟩ := zaq h.rrep.rows hv
  exact .inr ⟨_, _, hc, .inr (.inl rfl)⟩
 ·exact .inr ⟨_, _, (h.rrep.node q d hd).1, .inr (.inr (.inl rfl))⟩
 ·exact .inl (.inl ⟨n, d, hd, hv⟩)
 ·obtain ⟨c, hc⟩ := h.kern.obj
  exact .inr ⟨_, _, hc, .inr (.inr (.inr (.inl rfl)))⟩
 ·exact .inr ⟨_, _, h.opn q x hx, .inr (.inr (.inr (.inr rfl)))⟩
 ·exact .inr ⟨_, _, h.c0, .inr (.inr (.inl rfl))⟩
 ·exact .inl (.inr (.inl hv))
 ·exact .inr ⟨_, _, h.c1, .inr (.inr (.inl rfl))⟩
 ·exact .inl (.inr (.inr (.inl hv)))
 ·exact .inr ⟨_, _, h.cm, .inr (.inr (.inl rfl))⟩
 ·exact .inl (.inr (.inr (.inr hv)))
theorem RkRep.lt {B : Nat} {w : World} {X : Rk} (h : RkRep B w X) {q : Nat} (hq : X.foot q) : q < w.heap.size := by
 rcases h.foot_obj hq with h1 | ⟨c, t, h1, _⟩
 ·obtain ⟨c, hc⟩ := h.row_obj h1
  exact zab hc
 ·exact zab h1
theorem RkRep.row_lt {B : Nat} {w : World} {X : Rk} (h : RkRep B w X) {q : Nat} (hq : X.row q) : q < w.heap.size := by
 obtain ⟨c, hc⟩ := h.row_obj hq
 exact zab hc
theorem RkRep.not_foot {B : Nat} {w : World} {X : Rk} (h : RkRep B w X) {q : Nat} {c : Array Value} {t : TypeId} {f : Nat × Nat} (hq : w.heap[q]? = some (.cells c t f)) (h1 : t ≠ 73) (h2 : t ≠ 70) (h3 : t ≠ 41) (h4 : t ≠ 47) (h5 : t ≠ 68) (h6 : t ≠ 5) : ¬ X.foot q := fun hf => by
 rcases h.foot_obj hf with hr | ⟨c', t', hc', ht⟩
 ·obtain ⟨c', hc'⟩ := h.row_obj hr
  exact zac hq hc' h6 rfl
 ·rcases ht with rfl | rfl | rfl | rfl | rfl
  ·exact zac hq hc' h1 rfl
  ·exact zac hq hc' h2 rfl
  ·exact zac hq hc' h3 rfl
  ·exact zac hq hc' h4 rfl
  ·exact zac hq hc' h5 rfl
theorem RkRep.foot_low {B : Nat} {w : World} {X : Rk} (h : RkRep B w X) {q : Nat} (hq : X.foot q) : B ≤ q := by
 have row : ∀ {v : Value} {l : List UInt8}, w.ownsRow B 5 1 v l.length (u8s l) → v.ownBlock = some q → B ≤ q := fun h1 h2 => (h1.lt q h2).1
 obtain ⟨k1, k2, k3, k4, k5⟩ := h.low
 rcases hq with hq | rfl | ⟨x, hx⟩ | (rfl | hv) | (rfl | hv) | (rfl | hv)
 ·exact h.rrep.low q hq
 ·exact k1
 ·exact k5 q x hx
 ·exact k2
 ·exact row h.s0 hv
 ·exact k3
 ·exact row h.s1 hv
 ·exact k4
 ·exact row h.sm hv
theorem RkRep.kept {B : Nat} {w w' : World} {X : Rk} {F : Nat → Prop} (h : RkRep B w X) (k : Kept F w w') (hF : ∀ q, X.foot q → ¬ F q) : RkRep B w' X where
 rrep := h.rrep.kept k (fun q hq => hF q (.inl hq))
 kern := h.kern.kept k (hF _ (.inr (.inl rfl)))
 opn o x hx := (k.block o (zab (h.opn o x hx)) (hF _ (.inr (.inr (.inl ⟨x, hx⟩))))).trans (h.opn o x hx)
 c0 := (k.block _ (zab h.c0) (hF _ (.inr (.inr (.inr (.inl (.inl rfl))))))).trans h.c0
 s0 := zai h.s0 k (fun q hq => hF q (.inr (.inr (.inr (.inl (.inr hq))))))
 c1 := (k.block _ (zab h.c1) (hF _ (.inr (.inr (.inr (.inr (.inl (.inl rfl)))))))).trans h.c1
 s1 := zai h.s1 k (fun q hq => hF q (.inr (.inr (.inr (.inr (.inl (.inr hq)))))))
 cm := (k.block _ (zab h.cm) (hF _ (.inr (.inr (.inr (.inr (.inr (.inl rfl)))))))).trans h.cm
 sm := zai h.sm k (fun q hq => hF q (.inr (.inr (.inr (.inr (.inr (.inr hq)))))))
 low := h.low
 off := h.off
 two := h.two
 lab := h.lab
 base := Nat.le_trans h.base k.size
theorem RkRep.below {B : Nat} {w w' : World} {X : Rk} (h : RkRep B w X) (k : Below w.heap.size w w') : RkRep B w' X := h.kept (Kept.of_below k (fun _ => False)) (fun _ _ hf => hf)
theorem RkRep.turn {B : Nat} {w w' : World} {X : Rk} (h : RkRep B w X) {F : Nat → Prop} (k : Kept F w w') (hF : ∀ q, F q → X.R.foot q ∨ q = X.kb ∨ ∃ x, X.ops q = some x) {R' : RT} {fds' : Nat → Option Nat} {ops' : Nat → Option ROp}
  (hR : RRep B w' R') (hfr : za5 w.heap.size X.R R') (hnd : ∀ q d, R'.nd q = some d → X.R.nd q = none → d.tick ≠ 0 ∨ w.heap.size ≤ q)
  (hk : RKAt w' X.kb R'.tb fds' X.n0 X.n1) (ho : ∀ o x, ops' o = some x → zbi w' o x ∧ B ≤ o) :
  RkRep B w' { X with R := R', fds := fds', ops := ops' } ∧ (∀ q, ({ X with R := R', fds := fds', ops := ops' } : Rk).row q → X.row q ∨ w.heap.size ≤ q) := by
 obtain ⟨o0, o1, om⟩ := h.off
 obtain ⟨lab, l2, l3, l4, l5⟩ := h.lab
 have node : ∀ {q : Nat} {v : Value}, w.heap[q]? = some (nodeC v) → X.R.nd q = none → w'.heap[q]? = some (nodeC v) := fun {q v} hq hn => by
  refine (k.block q (zab hq) (fun hf => ?_)).trans hq
  rcases hF q hf with (rfl | hv | ⟨d, hd⟩ | ⟨n, d, hd, hv⟩) | rfl | ⟨x, hx⟩
  ·exact zac hq h.rrep.tree (by decide) rfl
  ·obtain ⟨cur, hc⟩ := zaq h.rrep.rows hv
   exact zac hq hc (by decide) rfl
  ·rw [hn] at hd; cases hd
  ·obtain ⟨cur, hc⟩ := zaq (h.rrep.node n d hd).2 hv
   exact zac hq hc (by decide) rfl
  ·obtain ⟨c, hc⟩ := h.kern.obj
   exact zac hq hc (by decide) rfl
  ·exact zac hq (h.opn q x hx) (by decide) rfl
 have row : ∀ {v : Value} {l : List UInt8}, w.ownsRow B 5 1 v l.length (u8s l) → (∀ n d q, X.R.nd n = some d → d.dv.ownBlock = some q → v.ownBlock = some q → False) → w'.ownsRow B 5 1 v l.length (u8s l) := fun {v l} hs hd => by
  refine zai hs k (fun q hq hf => ?_)
  obtain ⟨cur, hc⟩ := zaq hs hq
  rcases hF q hf with (rfl | hv | ⟨d, hd'⟩ | ⟨n, d, hd', hv⟩) | rfl | ⟨x, hx⟩
  ·exact zac hc h.rrep.tree (by decide) rfl
  ·obtain ⟨cur', hc'⟩ := zaq h.rrep.rows hv
   exact zac hc hc' (by decide) rfl
  ·exact zac hc (h.rrep.node q d hd').1 (by decide) rfl
  ·exact hd n d q hd' hv hq
  ·obtain ⟨c, hc'⟩ := h.kern.obj
   exact zac hc hc' (by decide) rfl
  ·exact zac hc (h.opn q x hx) (by decide) rfl
 have c0 := node h.c0 o0
 have c1 := node h.c1 o1
 have cm := node h.cm om
 have off : ∀ {q : Nat} {v : Value}, w.heap[q]? = some (nodeC v) → w'.heap[q]? = some (nodeC v) → X.R.nd q = none → R'.nd q = none := fun {q v} hq hq' hn => by
  cases hx : R'.nd q with
  | none => rfl
  | some d =>
   exfalso
   rcases hnd q d hx hn with ht | ht
   ·have h1 := (hR.node q d hx).1
    rw [hq'] at h1
    have h2 := congrArg (fun o : Option Obj => match o with | some (.cells c _ _) => c[2]? | _ => none) h1
    simp at h2
    exact ht h2.symm
   ·have := zab hq
    omega
 have hrow : ∀ q, ({ X with R := R', fds := fds', ops := ops' } : Rk).row q → X.row q ∨ w.heap.size ≤ q := by
  rintro q (⟨n, d, hn, hb⟩ | hb | hb | hb)
  ·rcases hfr n d q hn hb with h1 | ⟨y, e, h1, h2⟩
   ·exact .inr h1
   ·exact .inl (.inl ⟨y, e, h1, h2⟩)
  ·exact .inl (.inr (.inl hb))
  ·exact .inl (.inr (.inr (.inl hb)))
  ·exact .inl (.inr (.inr (.inr hb)))
 refine ⟨⟨hR, hk, fun o x hx => (ho o x hx).1, c0, row h.s0 (fun n d q h1 h2 h3 => by have a := l2 n d q h1 h2; have b := l3 q h3; omega), c1, row h.s1 (fun n d q h1 h2 h3 => by have a := l2 n d q h1 h2; have b := l4 q h3; omega), cm, row h.sm (fun n d q h1 h2 h3 => by have a := l2 n d q h1 h2; have b := l5 q h3; omega), ⟨h.low.1, h.low.2.1, h.low.2.2.1, h.low.2.2.2.1, fun o x hx => (ho o x hx).2⟩, ⟨off h.c0 c0 o0, off h.c1 c1 o1, off h.cm cm om⟩, h.two, ?_, Nat.le_trans h.base k.size⟩, hrow⟩
 refine ⟨fun q => if q < w.heap.size then lab q else 2, ?_, ?_, ?_, ?_⟩
 ·intro n d q h1 h2
  by_cases hq : q < w.heap.size
  ·show (if q < w.heap.size then lab q else 2) = 2
   rw [if_pos hq]
   rcases hfr n d q h1 h2 with h3 | ⟨y, e, h3, h4⟩
   ·omega
   ·exact l2 y e q h3 h4
  ·exact if_neg hq
 ·intro q hq
  obtain ⟨cur, hc⟩ := zaq h.s0 hq
  exact (if_pos (zab hc)).trans (l3 q hq)
 ·intro q hq
  obtain ⟨cur, hc⟩ := zaq h.s1 hq
  exact (if_pos (zab hc)).trans (l4 q hq)
 ·intro q hq
  obtain ⟨cur, hc⟩ := zaq h.sm hq
  exact (if_pos (zab hc)).trans (l5 q hq)
theorem RkRep.con0 {B : Nat} {w w' : World} {X : Rk} (h : RkRep B w X) {v' : Value} {l' : List UInt8} (hc : w'.heap[X.n0]? = some (nodeC v')) (hs : w'.ownsRow B 5 1 v' l'.length (u8s l')) (k : Kept (fun q => q = X.n0 ∨ X.v0.ownBlock = some q) w w') (hf : ∀ q, v'.ownBlock = some q → X.v0.ownBlock = some q ∨ w.heap.size ≤ q) :
  RkRep B w' { X with v0 := v', l0 := l' } ∧ (∀ q, ({ X with v0 := v', l0 := l' } : Rk).row q → X.row q ∨ w.heap.size ≤ q) := by
 obtain ⟨o0, o1, om⟩ := h.off
 obtain ⟨t0, t1, t2⟩ := h.two
 obtain ⟨lab, l2, l3, l4, l5⟩ := h.lab
 have no : ∀ {q : Nat} {c : Array Value} {t : TypeId}, w.heap[q]? = some (.cells c t (0, 0)) → t ≠ 41 → t ≠ 5 → ¬ (q = X.n0 ∨ X.v0.ownBlock = some q) := fun {q c t} hq h1 h2 hh => by
  rcases hh with rfl | hh
  ·exact zac hq h.c0 h1 rfl
  ·obtain ⟨cur, hc⟩ := zaq h.s0 hh
   exact zac hq hc h2 rfl
 have nod : ∀ {q : Nat} {c : Array Value}, w.heap[q]? = some (.cells c 41 (0, 0)) → q ≠ X.n0 → ¬ (q = X.n0 ∨ X.v0.ownBlock = some q) := fun {q c} hq h1 hh => by
  rcases hh with rfl | hh
  ·exact h1 rfl
  ·obtain ⟨cur, hc⟩ := zaq h.s0 hh
   exact zac hq hc (by decide) rfl
 have rows : ∀ {q : Nat} {c : Array Value}, w.heap[q]? = some (.cells c 5 (0, 0)) → lab q ≠ 3 → ¬ (q = X.n0 ∨ X.v0.ownBlock = some q) := fun {q c} hq h1 hh => by
  rcases hh with rfl | hh
  ·exact zac hq h.c0 (by decide) rfl
  ·exact h1 (l3 q hh)
 refine ⟨⟨h.rrep.kept k ?_, ?_, ?_, hc, hs, ?_, ?_, ?_, ?_, h.low, h.off, h.two, ?_, Nat.le_trans h.base k.size⟩, ?_⟩
 ·rintro q (rfl | hv | ⟨d, hd⟩ | ⟨n, d, hd, hv⟩)
  ·exact no h.rrep.tree (by decide) (by decide)
  ·obtain ⟨cur, hc⟩ := zaq h.rrep.rows hv
   exact no hc (by decide) (by decide)
  ·exact nod (h.rrep.node q d hd).1 (fun e => by rw [e, o0] at hd; cases hd)
  ·obtain ⟨cur, hc⟩ := zaq (h.rrep.node n d hd).2 hv
   exact rows hc (fun e => by have := l2 n d q hd hv; omega)
 ·obtain ⟨c, hc⟩ := h.kern.obj
  exact h.kern.kept k (no hc (by decide) (by decide))
 ·intro o x hx
  exact (k.block o (zab (h.opn o x hx)) (no (h.opn o x hx) (by decide) (by decide))).trans (h.opn o x hx)
 ·exact (k.block _ (zab h.c1) (nod h.c1 (t0.symm))).trans h.c1
 ·refine zai h.s1 k (fun q hq => ?_)
  obtain ⟨cur, hc⟩ := zaq h.s1 hq
  exact rows hc (fun e => by have := l4 q hq; omega)
 ·exact (k.block _ (zab h.cm) (nod h.cm (t1.symm))).trans h.cm
 ·refine zai h.sm k (fun q hq => ?_)
  obtain ⟨cur, hc⟩ := zaq h.sm hq
  exact rows hc (fun e => by have := l5 q hq; omega)
 ·refine ⟨fun q => if q < w.heap.size then lab q else 3, ?_, ?_, ?_, ?_⟩
  ·intro n d q h1 h2
   obtain ⟨cur, hc⟩ := zaq (h.rrep.node n d h1).2 h2
   exact (if_pos (zab hc)).trans (l2 n d q h1 h2)
  ·intro q hq
   by_cases hlt : q < w.heap.size
   ·refine (if_pos hlt).trans ?_
    rcases hf q hq with h1 | h1
    ·exact l3 q h1
    ·omega
   ·exact if_neg hlt
  ·intro q hq
   obtain ⟨cur, hc⟩ := zaq h.s1 hq
   exact (if_pos (zab hc)).trans (l4 q hq)
  ·intro q hq
   obtain ⟨cur, hc⟩ := zaq h.sm hq
   exact (if_pos (zab hc)).trans (l5 q hq)
 ·rintro q (hq | hq | hq | hq)
  ·exact .inl (.inl hq)
  ·rcases hf q hq with h1 | h1
   ·exact .inl (.inr (.inl h1))
   ·exact .inr h1
  ·exact .inl (.inr (.inr (.inl hq)))
  ·exact .inl (.inr (.inr (.inr hq)))
theorem RkRep.con1 {B : Nat} {w w' : World} {X : Rk} (h : RkRep B w X) {v' : Value} {l' : List UInt8} (hc : w'.heap[X.n1]? = some (nodeC v')) (hs : w'.ownsRow B 5 1 v' l'.length (u8s l')) (k : Kept (fun q => q = X.n1 ∨ X.v1.ownBlock = some q) w w') (hf : ∀ q, v'.ownBlock = some q → X.v1.ownBlock = some q ∨ w.heap.size ≤ q) :
  RkRep B w' { X with v1 := v', l1 := l' } ∧ (∀ q, ({ X with v1 := v', l1 := l' } : Rk).row q → X.row q ∨ w.heap.size ≤ q) := by
 obtain ⟨o0, o1, om⟩ := h.off
 obtain ⟨t0, t1, t2⟩ := h.two
 obtain ⟨lab, l2, l3, l4, l5⟩ := h.lab
 have no : ∀ {q : Nat} {c : Array Value} {t : TypeId}, w.heap[q]? = some (.cells c t (0, 0)) → t ≠ 41 → t ≠ 5 → ¬ (q = X.n1 ∨ X.v1.ownBlock = some q) := fun {q c t} hq h1 h2 hh => by
  rcases hh with rfl | hh
  ·exact zac hq h.c1 h1 rfl
  ·obtain ⟨cur, hc⟩ := zaq h.s1 hh
   exact zac hq hc h2 rfl
 have nod : ∀ {q : Nat} {c : Array Value}, w.heap[q]? = some (.cells c 41 (0, 0)) → q ≠ X.n1 → ¬ (q = X.n1 ∨ X.v1.ownBlock = some q) := fun {q c} hq h1 hh => by
  rcases hh with rfl | hh
  ·exact h1 rfl
  ·obtain ⟨cur, hc⟩ := zaq h.s1 hh
   exact zac hq hc (by decide) rfl
 have rows : ∀ {q : Nat} {c : Array Value}, w.heap[q]? = some (.cells c 5 (0, 0)) → lab q ≠ 4 → ¬ (q = X.n1 ∨ X.v1.ownBlock = some q) := fun {q c} hq h1 hh => by
  rcases hh with rfl | hh
  ·exact zac hq h.c1 (by decide) rfl
  ·exact h1 (l4 q hh)
 refine ⟨⟨h.rrep.kept k ?_, ?_, ?_, ?_, ?_, hc, hs, ?_, ?_, h.low, h.off, h.two, ?_, Nat.le_trans h.base k.size⟩, ?_⟩
 ·rintro q (rfl | hv | ⟨d, hd⟩ | ⟨n, d, hd, hv⟩)
  ·exact no h.rrep.tree (by decide) (by decide)
  ·obtain ⟨cur, hc⟩ := zaq h.rrep.rows hv
   exact no hc (by decide) (by decide)
  ·exact nod (h.rrep.node q d hd).1 (fun e => by rw [e, o1] at hd; cases hd)
  ·obtain ⟨cur, hc⟩ := zaq (h.rrep.node n d hd).2 hv
   exact rows hc (fun e => by have := l2 n d q hd hv; omega)
 ·obtain ⟨c, hc⟩ := h.kern.obj
  exact h.kern.kept k (no hc (by decide) (by decide))
 ·intro o x hx
  exact (k.block o (zab (h.opn o x hx)) (no (h.opn o x hx) (by decide) (by decide))).trans (h.opn o x hx)
 ·exact (k.block _ (zab h.c0) (nod h.c0 (t0))).trans h.c0
 ·refine zai h.s0 k (fun q hq => ?_)
  obtain ⟨cur, hc⟩ := zaq h.s0 hq
  exact rows hc (fun e => by have := l3 q hq; omega)
 ·exact (k.block _ (zab h.cm) (nod h.cm (t2.symm))).trans h.cm
 ·refine zai h.sm k (fun q hq => ?_)
  obtain ⟨cur, hc⟩ := zaq h.sm hq
  exact rows hc (fun e => by have := l5 q hq; omega)
 ·refine ⟨fun q => if q < w.heap.size then lab q else 4, ?_, ?_, ?_, ?_⟩
  ·intro n d q h1 h2
   obtain ⟨cur, hc⟩ := zaq (h.rrep.node n d h1).2 h2
   exact (if_pos (zab hc)).trans (l2 n d q h1 h2)
  ·intro q hq
   obtain ⟨cur, hc⟩ := zaq h.s0 hq
   exact (if_pos (zab hc)).trans (l3 q hq)
  ·intro q hq
   by_cases hlt : q < w.heap.size
   ·refine (if_pos hlt).trans ?_
    rcases hf q hq with h1 | h1
    ·exact l4 q h1
    ·omega
   ·exact if_neg hlt
  ·intro q hq
   obtain ⟨cur, hc⟩ := zaq h.sm hq
   exact (if_pos (zab hc)).trans (l5 q hq)
 ·rintro q (hq | hq | hq | hq)
  ·exact .inl (.inl hq)
  ·exact .inl (.inr (.inl hq))
  ·rcases hf q hq with h1 | h1
   ·exact .inl (.inr (.inr (.inl h1)))
   ·exact .inr h1
  ·exact .inl (.inr (.inr (.inr hq)))
end
section
def Ks.row (K : Ks) (q : Nat) : Prop := (∃ n d, K.T.nd n = some d ∧ d.bv.ownBlock = some q) ∨ K.inV.ownBlock = some q ∨ K.outV.ownBlock = some q ∨ K.errV.ownBlock = some q
theorem KRep.row_obj {B : Nat} {w : World} {K : Ks} (h : KRep B w K) {q : Nat} (hq : K.row q) : ∃ c, w.heap[q]? = some (.cells c 5 (0, 0)) := by
 rcases hq with ⟨n, d, hn, hb⟩ | hb | hb | hb
 ·exact zaq (h.tree.node n d hn).row hb
 ·exact h.inT q hb
 ·exact zaq h.outS hb
 ·exact zaq h.errS hb
theorem Ks.row_foot {K : Ks} {q : Nat} (hq : K.row q) : K.foot q := by
 rcases hq with ⟨n, d, hn, hb⟩ | hb | hb | hb
 ·exact .inr (.inr (.inr ⟨n, d, hn, .inr hb⟩))
 ·exact .inl (.inr (.inr (.inr (.inr (.inl hb)))))
 ·exact .inl (.inr (.inr (.inr (.inr (.inr (.inl hb))))))
 ·exact .inl (.inr (.inr (.inr (.inr (.inr (.inr (.inl hb)))))))
theorem KRep.foot_obj {B : Nat} {w : World} {K : Ks} (h : KRep B w K) {q : Nat} (hq : K.foot q) : K.row q ∨ (∃ es k, w.heap[q]? = some (.map es k)) ∨ ∃ c t, w.heap[q]? = some (.cells c t (0, 0)) ∧ (t = 115 ∨ t = 107 ∨ t = 168 ∨ t = 64 ∨ t = 66 ∨ t = 59 ∨ t = 125) := by
 rcases hq with (rfl | rfl | rfl | rfl | hb | hb | hb | ⟨f, hf⟩ | ⟨c, f, hf, rfl⟩) | rfl | ⟨d, hd⟩ | ⟨n, d, hd, ⟨hdir, rfl⟩ | hv⟩
 ·obtain ⟨c, hc⟩ := h.kern.obj
  exact .inr (.inr ⟨_, _, hc, .inr (.inr (.inr (.inl rfl)))⟩)
 ·exact .inr (.inr ⟨_, _, h.inp, .inr (.inr (.inr (.inr (.inl rfl))))⟩)
 ·exact .inr (.inr ⟨_, _, h.out, .inr (.inr (.inr (.inr (.inr (.inl rfl)))))⟩)
 ·exact .inr (.inr ⟨_, _, h.err, .inr (.inr (.inr (.inr (.inr (.inl rfl)))))⟩)
 ·exact .inl (.inr (.inl hb))
 ·exact .inl (.inr (.inr (.inl hb)))
 ·exact .inl (.inr (.inr (.inr hb)))
 ·exact .inr (.inr ⟨_, _, (h.file q f hf).1, .inr (.inr (.inr (.inr (.inr (.inr rfl)))))⟩)
 ·exact .inr (.inr ⟨_, _, (h.file c f hf).2.1, .inr (.inr (.inl rfl))⟩)
 ·exact .inr (.inr ⟨_, _, h.tree.tree, .inl rfl⟩)
 ·exact .inr (.inr ⟨_, _, (h.tree.node q d hd).cells, .inr (.inl rfl)⟩)
 ·obtain ⟨es, ck, hes, _⟩ := (h.tree.node n d hd).map hdir
  exact .inr (.inl ⟨es, ck, hes⟩)
 ·exact .inl (.inl ⟨n, d, hd, hv⟩)
theorem KRep.not_foot {B : Nat} {w : World} {K : Ks} (h : KRep B w K) {q : Nat} {c : Array Value} {t : TypeId} {f : Nat × Nat} (hq : w.heap[q]? = some (.cells c t f)) (ht : ¬ (t = 115 ∨ t = 107 ∨ t = 168 ∨ t = 64 ∨ t = 66 ∨ t = 59 ∨ t = 125)) (h6 : t ≠ 5) : ¬ K.foot q := fun hf => by
 rcases h.foot_obj hf with hr | ⟨es, k, hm⟩ | ⟨c', t', hc', ht'⟩
 ·obtain ⟨c', hc'⟩ := h.row_obj hr
  exact zac hq hc' h6 rfl
 ·exact zam hq hm rfl
 ·by_cases e : t = t'
  ·exact ht (e ▸ ht')
  ·exact zac hq hc' e rfl
structure Mem (B : Nat) (w : World) (K : Ks) (X : Rk) : Prop where
 krep : KRep B w K
 xrep : RkRep B w X
 sep : ∀ q, K.row q → X.row q → False
theorem Mem.base {B : Nat} {w : World} {K : Ks} {X : Rk} (h : Mem B w K X) : B ≤ w.heap.size := h.xrep.base
theorem Mem.apart {B : Nat} {w : World} {K : Ks} {X : Rk} (h : Mem B w K X) {q : Nat} (h1 : K.foot q) (h2 : X.foot q) : False := by
 rcases h.krep.foot_obj h1 with hr | ⟨es, k, hm⟩ | ⟨c, t, hc, ht⟩
 ·obtain ⟨c, hc⟩ := h.krep.row_obj hr
  rcases h.xrep.foot_obj h2 with hr2 | ⟨c', t', hc', ht'⟩
  ·exact h.sep q hr hr2
  ·rcases ht' with rfl | rfl | rfl | rfl | rfl <;> exact zac hc hc' (by decide) rfl
 ·rcases h.xrep.foot_obj h2 with hr2 | ⟨c', t', hc', ht'⟩
  ·obtain ⟨c', hc'⟩ := h.xrep.row_obj hr2
   exact zam hc' hm rfl
  ·exact zam hc' hm rfl
 ·rcases h.xrep.foot_obj h2 with hr2 | ⟨c', t', hc', ht'⟩
  ·obtain ⟨c', hc'⟩ := h.xrep.row_obj hr2
   rcases ht with rfl | rfl | rfl | rfl | rfl | rfl | rfl <;> exact zac hc hc' (by decide) rfl
  ·rcases ht with rfl | rfl | rfl | rfl | rfl | rfl | rfl <;> rcases ht' with rfl | rfl | rfl | rfl | rfl <;> exact zac hc hc' (by decide) rfl
theorem Mem.below {B : Nat} {w w' : World} {K : Ks} {X : Rk} (h : Mem B w K X) (k : Below w.heap.size w w') : Mem B w' K X := ⟨h.krep.below k, h.xrep.below k, h.sep⟩
theorem Mem.p {B : Nat} {w w' : World} {K K' : Ks} {X : Rk} (h : Mem B w K X) (hK : KRep B w' K') (k : Kept K.foot w w') (hf : ∀ q, K'.foot q → K.foot q ∨ w.heap.size ≤ q) : Mem B w' K' X :=
 ⟨hK, h.xrep.kept k (fun _ h1 h2 => h.apart h2 h1), fun q h1 h2 => by
  rcases hf q (Ks.row_foot h1) with h3 | h3
  ·refine h.apart h3 ?_
   rcases h2 with ⟨n, d, hn, hb⟩ | hb | hb | hb
   ·exact .inl (.inr (.inr (.inr ⟨n, d, hn, hb⟩)))
   ·exact .inr (.inr (.inr (.inl (.inr hb))))
   ·exact .inr (.inr (.inr (.inr (.inl (.inr hb)))))
   ·exact .inr (.inr (.inr (.inr (.inr (.inr hb)))))
  ·have := h.xrep.row_lt h2
   omega⟩
theorem Mem.r {B : Nat} {w w' : World} {K : Ks} {X X' : Rk} (h : Mem B w K X) (hX : RkRep B w' X') (k : Kept X.foot w w') (hf : ∀ q, X'.row q → X.row q ∨ w.heap.size ≤ q) : Mem B w' K X' :=
 ⟨h.krep.kept k (fun _ h1 h2 => h.apart h1 h2), hX, fun q h1 h2 => by
  rcases hf q h2 with h3 | h3
  ·exact h.sep q h1 h3
  ·have := h.krep.lt (Ks.row_foot h1)
   omega⟩
def Fl.op (fl : Fl) (f : Nat → Nat) (pl : Int) : ROp := ⟨f fl.node, decide (fl.way = 0), decide (¬ fl.way = 0), decide (fl.way = 2), pl, false⟩
structure Tags where
 f : Nat → Nat
 g : Nat → Nat
 oi : Nat
 o0 : Nat
 o1 : Nat
def fdRel (ob eb : Nat) (t : Tags) : Option End → Option Nat → Prop
 | none, none => True
 | some (.inp _), some o => o = t.oi
 | some (.out b), some o => (b = ob ∧ o = t.o0) ∨ (b = eb ∧ o = t.o1)
 | some (.file b), some o => o = t.g b
 | _, _ => False
structure Rel (K : Ks) (X : Rk) (t : Tags) : Prop where
 fd : ∀ j, fdRel K.ob K.eb t (K.fds j) (X.fds j)
 oi : ∃ pl : Nat, X.ops t.oi = some ⟨X.m, true, false, false, pl, false⟩ ∧ pl ≤ X.lm.length ∧ K.inL = X.lm.drop pl
 o0 : X.ops t.o0 = some ⟨X.n0, false, true, false, 0, true⟩
 o1 : X.ops t.o1 = some ⟨X.n1, false, true, false, 0, true⟩
 out : X.l0 = K.outL
 err : X.l1 = K.errL
 len : K.outL.length ≤ 65536 ∧ K.errL.length ≤ 65536 ∧ X.lm.length ≤ 140737488355328
 file : ∀ b fl, K.fl b = some fl → ∃ pl : Int, X.ops (t.g b) = some (fl.op t.f pl) ∧ (fl.way = 0 ∨ fl.way = 1 ∨ fl.way = 2) ∧ 0 ≤ pl ∧ pl ≤ 65536 ∧ (¬ fl.way = 2 → fl.pos = pl)
 inj : ∀ b b' fl fl', K.fl b = some fl → K.fl b' = some fl' → t.g b = t.g b' → b = b'
 off : ∀ b fl, K.fl b = some fl → t.g b ≠ t.oi
structure Pur (K : Ks) (X : Rk) (t : Tags) (n : Nat) : Prop where
 sim : Sim K.T X.R t.f
 ti : TI K.T
 tg : TG K.T
 rn : RN X.R n
 rel : Rel K X t
theorem Pur.num {K : Ks} {X : Rk} {t : Tags} {n : Nat} (h : Pur K X t n) : TNum K.T := h.sim.tnum h.rn.rb
theorem Mem.both {B : Nat} {w : World} {K : Ks} {X : Rk} {t : Tags} {n : Nat} (h : Mem B w K X) (p : Pur K X t n) : Both B w K.T X.R t.f n :=
 ⟨h.krep.tree, h.xrep.rrep, p.sim, p.ti, p.rn, fun b m d m' d' hm hm' hv hv' => h.sep b (.inl ⟨m, d, hm, hv⟩) (.inl ⟨m', d', hm', hv'⟩), h.base, p.tg⟩
def ErrV (E : Nat → Addr) (w : World) (c : Nat) (x : Value) : Prop := (c = 0 ∧ x = .nilIface) ∨ (c ≠ 0 ∧ c ≤ 21 ∧ ∃ a L, (x = zcb a ∧ zbu E L w a c) ∨ (x = refV a ∧ zb6 E L w a c))
theorem errv_tell {E : Nat → Addr} {B : Nat} {w1 W : World} {c : Nat} {x : Value} (h : ErrV E w1 c x) (hb : Below w1.heap.size w1 W) (hE : Env E B W) (hY : Ety B W) :
  Calls Tryz.prog 22 #[x] W fun e w' => VPost W (zck c) e w' := by
 rcases h with ⟨rfl, rfl⟩ | ⟨h0, h1, a, L, ⟨rfl, hf⟩ | ⟨rfl, hf⟩⟩
 ·exact tell_nil W
 ·rw [zfv h0]
  exact tell_failed W hE hY a c (by omega) h1 (hf.below hb)
 ·rw [zfv h0]
  exact tell_refused W hE hY a c (by omega) h1 (hf.below hb)
structure POk (B : Nat) (W : World) (K : Ks) (P : Ks → Prop) (w1 : World) : Prop where
 ex : ∃ K', KRep B w1 K' ∧ Kept K.foot W w1 ∧ (∀ q, K'.foot q → K.foot q ∨ W.heap.size ≤ q) ∧ K'.kb = K.kb ∧ K'.T.tb = K.T.tb ∧ P K'
structure ROk (B : Nat) (W : World) (X : Rk) (P : Rk → Prop) (w1 : World) : Prop where
 ex : ∃ X', RkRep B w1 X' ∧ Kept X.foot W w1 ∧ (∀ q, X'.row q → X.row q ∨ W.heap.size ≤ q) ∧ X'.kb = X.kb ∧ X'.R.tb = X.R.tb ∧ X'.n0 = X.n0 ∧ X'.n1 = X.n1 ∧ P X'
theorem POk.same {B : Nat} {W w1 : World} {K : Ks} {P : Ks → Prop} (h : KRep B W K) (hb : Below W.heap.size W w1) (hP : P K) : POk B W K P w1 := ⟨K, h.below hb, Kept.of_below hb _, fun _ hq => .inl hq, rfl, rfl, hP⟩
theorem ROk.same {B : Nat} {W w1 : World} {X : Rk} {P : Rk → Prop} (h : RkRep B W X) (hb : Below W.heap.size W w1) (hP : P X) : ROk B W X P w1 := ⟨X, h.below hb, Kept.of_below hb _, fun _ hq => .inl hq, rfl, rfl, rfl, rfl, hP⟩
theorem POk.mono {B : Nat} {W w1 : World} {K : Ks} {P Q : Ks → Prop} (h : POk B W K P w1) (hPQ : ∀ K', P K' → Q K') : POk B W K Q w1 := by
 obtain ⟨K', a1, a2, a3, a4, a5, a6⟩ := h.ex
 exact ⟨K', a1, a2, a3, a4, a5, hPQ K' a6⟩
abbrev ansT : TypeId := 34
theorem POk.ans {B : Nat} {W w1 : World} {K : Ks} {P : Ks → Prop} (h : POk B W K P w1) (hK : KRep B W K) {q : Nat} {c : Array Value} (hq : W.heap[q]? = some (.cells c ansT (0, 0))) : w1.heap[q]? = some (.cells c ansT (0, 0)) := by
 obtain ⟨K', _, a2, _⟩ := h.ex
 exact (a2.block q (zab hq) (hK.not_foot hq (by decide) (by decide))).trans hq
theorem ROk.ans {B : Nat} {W w1 : World} {X : Rk} {P : Rk → Prop} (h : ROk B W X P w1) (hX : RkRep B W X) {q : Nat} {c : Array Value} (hq : W.heap[q]? = some (.cells c ansT (0, 0))) : w1.heap[q]? = some (.cells c ansT (0, 0)) := by
 obtain ⟨X', _, a2, _⟩ := h.ex
 exact (a2.block q (zab hq) (hX.not_foot hq (by decide) (by decide) (by decide) (by decide) (by decide) (by decide))).trans hq
theorem POk.below {B : Nat} {W w1 w2 : World} {K : Ks} {P : Ks → Prop} (h : POk B W K P w1) (hb : Below w1.heap.size w1 w2) : POk B W K P w2 := by
 obtain ⟨K', a1, a2, a3, a4, a5, a6⟩ := h.ex
 exact ⟨K', a1.below hb, a2.then_below hb, a3, a4, a5, a6⟩
theorem ROk.below {B : Nat} {W w1 w2 : World} {X : Rk} {P : Rk → Prop} (h : ROk B W X P w1) (hb : Below w1.heap.size w1 w2) : ROk B W X P w2 := by
 obtain ⟨X', a1, a2, a3, a4⟩ := h.ex
 exact ⟨X', a1.below hb, a2.then_below hb, a3, a4⟩
theorem POk.back {B : Nat} {w W w1 w2 : World} {K : Ks} {P : Ks → Prop} (h : POk B W K P w1) (hb : Below w.heap.size w W) {q : Nat} (hq : w.heap.size ≤ q) {c : Array Value} (hc : w1.heap[q]? = some (.cells c ansT (0, 0))) (k : Kept (fun b => b = q) w1 w2) : POk B w K P w2 := by
 obtain ⟨K', a1, a2, a3, a4, a5, a6⟩ := h.ex
 refine ⟨K', a1.kept k (fun b hf e => ?_), ((Kept.of_below hb _).trans a2 (fun b hf => .inl hf)).trans k (fun b e => .inr (by rw [e]; exact hq)), fun b hf => (a3 b hf).imp id (Nat.le_trans hb.size), a4, a5, a6⟩
 rw [e] at hf
 exact a1.not_foot hc (by decide) (by decide) hf
theorem ROk.back {B : Nat} {w W w1 w2 : World} {X : Rk} {P : Rk → Prop} (h : ROk B W X P w1) (hb : Below w.heap.size w W) {q : Nat} (hq : w.heap.size ≤ q) {c : Array Value} (hc : w1.heap[q]? = some (.cells c ansT (0, 0))) (k : Kept (fun b => b = q) w1 w2) : ROk B w X P w2 := by
 obtain ⟨X', a1, a2, a3, a4⟩ := h.ex
 refine ⟨X', a1.kept k (fun b hf e => ?_), ((Kept.of_below hb _).trans a2 (fun b hf => .inl hf)).trans k (fun b e => .inr (by rw [e]; exact hq)), fun b hf => (a3 b hf).imp id (Nat.le_trans hb.size), a4⟩
 rw [e] at hf
 exact a1.not_foot hc (by decide) (by decide) (by decide) (by decide) (by decide) (by decide) hf
theorem POk.env {E : Nat → Addr} {B : Nat} {W w1 : World} {K : Ks} {P : Ks → Prop} (h : POk B W K P w1) (hK : KRep B W K) (hE : Env E B W) (hY : Ety B W) : Env E B w1 ∧ Ety B w1 := by
 obtain ⟨K', a1, a2, _⟩ := h.ex
 exact ⟨hE.kept a2 (fun b hb => hK.foot_low hb), hY.kept a2 (fun b hb => hK.foot_low hb)⟩
end
end Go.Proofs.YteeeaeiafdgpkaaGreatDoor
