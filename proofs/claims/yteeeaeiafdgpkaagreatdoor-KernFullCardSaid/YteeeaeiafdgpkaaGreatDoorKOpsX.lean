/-
 Both kerns: Dup, Close, Move.
 Both kerns: Pipe, Read.
 Both kerns: Read.
 Both kerns: Write.
 Both kerns: Open, Remove of the tree.
-/
import Derived.Test.YteeeaeiafdgpkaaGreatDoorKSimX
import Derived.Test.YteeeaeiafdgpkaaGreatDoorKErrsX
namespace Go.Proofs.YteeeaeiafdgpkaaGreatDoor
open Go Go.RowKit
open Go.Lib (hid)
section
theorem fdRel.none {ob eb : Nat} {t : Tags} {a : Option End} {b : Option Nat} (h : fdRel ob eb t a b) : a.isNone = b.isNone := by
 cases a with
 | none => cases b with
  | none => rfl
  | some o => exact h.elim
 | some e =>
  cases b with
  | none => cases e <;> exact h.elim
  | some o => rfl
theorem ze4 {α β : Type} {a : Option α} {b : Option β} (h : a.isNone = b.isNone) : a.isSome = b.isSome := by
 cases a <;> cases b <;> simp_all
theorem Rel.used {K : Ks} {X : Rk} {t : Tags} (h : Rel K X t) (fd : Int) : zbr X.fds fd = za1 K.fds fd := by
 unfold zbr za1
 rw [ze4 (h.fd fd.toNat).none]
theorem zdz {fds : Nat → Option End} {rds : Nat → Option Nat} (h : ∀ j, (fds j).isNone = (rds j).isNone) : ∀ (n i : Nat), i + n = 16 → (List.range' i n).filter (fun j => (rds j).isNone) = match za3 fds i with | none => [] | some a => a :: (List.range' (a + 1) (15 - a)).filter (fun j => (rds j).isNone)
 | 0, i, hi => by
  rw [freeFd_end fds (by omega)]
  rfl
 | n + 1, i, hi => by
  rw [List.range'_succ, List.filter_cons, ← h i]
  cases hf : fds i with
  | none =>
   rw [freeFd_here (by omega) hf]
   obtain rfl : n = 15 - i := by omega
   rfl
  | some x =>
   rw [freeFd_next (by omega) hf]
   exact zdz h n (i + 1) (by omega)
theorem frees_range (fds : Nat → Option Nat) : zd0 fds = (List.range' 0 16).filter (fun j => (fds j).isNone) := by
 unfold zd0 uTo
 rw [List.range_eq_range']
theorem Rel.free_none {K : Ks} {X : Rk} {t : Tags} (h : Rel K X t) (hf : za3 K.fds 0 = none) : zd0 X.fds = [] := by
 rw [frees_range, zdz (fun j => (h.fd j).none) 16 0 rfl, hf]
theorem Rel.free_some {K : Ks} {X : Rk} {t : Tags} (h : Rel K X t) {a : Nat} (hf : za3 K.fds 0 = some a) : zd0 X.fds = a :: (List.range' (a + 1) (15 - a)).filter (fun j => (X.fds j).isNone) := by
 rw [frees_range, zdz (fun j => (h.fd j).none) 16 0 rfl, hf]
theorem Rel.free_one {K : Ks} {X : Rk} {t : Tags} (h : Rel K X t) {a : Nat} (hf : za3 K.fds 0 = some a) (hg : za3 K.fds (a + 1) = none) : zd0 X.fds = [a] := by
 have ha := (zby hf).2.1
 rw [h.free_some hf, zdz (fun j => (h.fd j).none) (15 - a) (a + 1) (by omega), hg]
theorem Rel.free_two {K : Ks} {X : Rk} {t : Tags} (h : Rel K X t) {a b : Nat} (hf : za3 K.fds 0 = some a) (hg : za3 K.fds (a + 1) = some b) : ∃ r, zd0 X.fds = a :: b :: r := by
 have ha := (zby hf).2.1
 rw [h.free_some hf, zdz (fun j => (h.fd j).none) (15 - a) (a + 1) (by omega), hg]
 exact ⟨_, rfl⟩
theorem RkRep.setFds {B : Nat} {w w' : World} {X : Rk} (h : RkRep B w X) {fds' : Nat → Option Nat} (hk : RKAt w' X.kb X.R.tb fds' X.n0 X.n1) (k : Kept (fun b => b = X.kb) w w') : RkRep B w' { X with fds := fds' } ∧ (∀ q, ({ X with fds := fds' } : Rk).row q → X.row q ∨ w.heap.size ≤ q) := by
 have no : ∀ q, X.R.foot q → q ≠ X.kb := fun q hq e => by
  obtain ⟨c, hc⟩ := h.kern.obj
  rw [e] at hq
  exact h.rrep.not_foot hc (by decide) (by decide) (by decide) (by decide) hq
 refine h.turn (X := X) (F := fun b => b = X.kb) k (fun q hq => .inr (.inl hq)) (h.rrep.kept k no) (za5.same _ _) (fun q d h1 h2 => by rw [h2] at h1; cases h1) hk (fun o x hx => ⟨?_, h.low.2.2.2.2 o x hx⟩)
 refine (k.block o (zab (h.opn o x hx)) (fun e => ?_)).trans (h.opn o x hx)
 obtain ⟨c, hc⟩ := h.kern.obj
 rw [← e] at hc
 exact zac hc (h.opn o x hx) (by decide) rfl
theorem ROk.setFds {B : Nat} {w w' : World} {X : Rk} (h : RkRep B w X) {fds' : Nat → Option Nat} (hk : RKAt w' X.kb X.R.tb fds' X.n0 X.n1) (k : Kept (fun b => b = X.kb) w w') {P : Rk → Prop} (hP : P { X with fds := fds' }) : ROk B w X P w' :=
 have q := h.setFds hk k
 ⟨_, q.1, k.mono (fun _ e => by rw [e]; exact .inr (.inl rfl)), q.2, rfl, rfl, rfl, rfl, hP⟩
theorem POk.setFds {B : Nat} {w w' : World} {K : Ks} (h : KRep B w K) {fds' : Nat → Option End} (hk : KAt w' K.kb K.T.tb fds' K.ob K.eb) (k : Kept (fun b => b = K.kb) w w') (hg : ∀ j, K.good (fds' j)) {P : Ks → Prop} (hP : P { K with fds := fds' }) : POk B w K P w' :=
 ⟨_, h.setFds hk k hg, k.mono (fun _ e => by rw [e]; exact .inl (.inl rfl)), fun _ hq => .inl hq, rfl, rfl, hP⟩
theorem good_set {K : Ks} {fds : Nat → Option End} (h : ∀ j, K.good (fds j)) (i : Nat) {e : Option End} (he : K.good e) : ∀ j, K.good (zbx fds i e j) := fun j => by
 unfold zbx
 split
 ·exact he
 ·exact h j
theorem Rel.setFds {K : Ks} {X : Rk} {t : Tags} (h : Rel K X t) {fds : Nat → Option End} {rds : Nat → Option Nat} (hf : ∀ j, fdRel K.ob K.eb t (fds j) (rds j)) : Rel { K with fds := fds } { X with fds := rds } t :=
 ⟨hf, h.oi, h.o0, h.o1, h.out, h.err, h.len, h.file, h.inj, h.off⟩
theorem Pur.setFds {K : Ks} {X : Rk} {t : Tags} {n : Nat} (h : Pur K X t n) {fds : Nat → Option End} {rds : Nat → Option Nat} (hf : ∀ j, fdRel K.ob K.eb t (fds j) (rds j)) : Pur { K with fds := fds } { X with fds := rds } t n := ⟨h.sim, h.ti, h.tg, h.rn, h.rel.setFds hf⟩
theorem Pur.mono {K : Ks} {X : Rk} {t : Tags} {n m : Nat} (h : Pur K X t n) (hm : n ≤ m) : Pur K X t m := ⟨h.sim, h.ti, h.tg, h.rn.mono hm, h.rel⟩
theorem fdRel_set {ob eb : Nat} {t : Tags} {fds : Nat → Option End} {rds : Nat → Option Nat} (h : ∀ j, fdRel ob eb t (fds j) (rds j)) (i : Nat) {a : Option End} {b : Option Nat} (hab : fdRel ob eb t a b) : ∀ j, fdRel ob eb t (zbx fds i a j) (za6 rds i b j) := fun j => by
 unfold zbx za6
 split
 ·exact hab
 ·exact h j
def PDup (K : Ks) (fd : Int) (a c : Nat) (K' : Ks) : Prop :=
 (c = 1 ∧ a = 0 ∧ za1 K.fds fd = false ∧ K' = K) ∨ (c = 19 ∧ a = 0 ∧ za1 K.fds fd = true ∧ za3 K.fds 0 = none ∧ K' = K) ∨
 (c = 0 ∧ za1 K.fds fd = true ∧ za3 K.fds 0 = some a ∧ K' = { K with fds := zbx K.fds a (K.fds fd.toNat) })
theorem zdn {fds : Nat → Option End} {fd : Int} (h : za1 fds fd = true) : ∃ k : Nat, fd = k ∧ k < 16 := by
 unfold za1 at h
 simp only [Bool.and_eq_true, decide_eq_true_eq] at h
 exact ⟨fd.toNat, by omega, by omega⟩
theorem pdup {E : Nat → Addr} {B : Nat} {w : World} {K : Ks} (hE : Env E B w) (hK : KRep B w K) (fd : Int) :
  Calls Tryz.prog 24 #[.pointer (some ⟨K.kb, 0, none⟩), .int .i64 fd] w fun e w' => ∃ a c x, e = .returned (.tuple #[.int .i64 (a : Nat), x]) ∧ ErrV E w' c x ∧ POk B w K (PDup K fd a c) w' := by
 cases hu : za1 K.fds fd with
 | false => exact (dup_bad hE hK.kern fd hu).mono fun e w' ⟨a, he, hf, hb⟩ => ⟨0, 1, _, he, .inr ⟨by decide, by decide, a, _, .inr ⟨rfl, hf⟩⟩, POk.same hK hb (.inl ⟨rfl, rfl, hu, rfl⟩)⟩
 | true =>
  cases hn : za3 K.fds 0 with
  | none => exact (dup_full hE hK.kern fd hu hn).mono fun e w' ⟨a, he, hf, hb⟩ => ⟨0, 19, _, he, .inr ⟨by decide, by decide, a, _, .inr ⟨rfl, hf⟩⟩, POk.same hK hb (.inr (.inl ⟨rfl, rfl, hu, hn, rfl⟩))⟩
  | some j =>
   obtain ⟨k, rfl, hk⟩ := zdn hu
   exact (dup_ok hK.kern k hu j hn).mono fun e w' ⟨he, h1, h2⟩ => ⟨j, 0, _, he, .inl ⟨rfl, rfl⟩, POk.setFds hK h1 h2 (good_set hK.goodFds j (hK.goodFds k)) (.inr (.inr ⟨rfl, hu, hn, rfl⟩))⟩
theorem rdup {B : Nat} {w : World} {K K' : Ks} {X : Rk} {t : Tags} {n : Nat} (hX : RkRep B w X) (p : Pur K X t n) {fd : Int} {a c : Nat} (h : PDup K fd a c K') :
  Calls Tryz.prog 32 #[.pointer (some ⟨X.kb, 0, none⟩), .int .i64 fd] w fun e w' => e = .returned (.tuple #[.int .i64 (a : Nat), zck c]) ∧ ROk B w X (fun X' => Pur K' X' t n) w' := by
 rcases h with ⟨rfl, rfl, hu, rfl⟩ | ⟨rfl, rfl, hu, hn, rfl⟩ | ⟨rfl, hu, hn, rfl⟩
 ·exact (rk_dup_bad hX.kern fd ((p.rel.used fd).trans hu)).mono fun e w' ⟨he, hb⟩ => ⟨he, ROk.same hX hb p⟩
 ·exact (rk_dup_full hX.kern fd ((p.rel.used fd).trans hu) (p.rel.free_none hn)).mono fun e w' ⟨he, hb⟩ => ⟨he, ROk.same hX hb p⟩
 ·obtain ⟨k, rfl, hk⟩ := zdn hu
  exact (rk_dup_ok hX.kern k ((p.rel.used k).trans hu) (p.rel.free_some hn)).mono fun e w' ⟨he, h1, h2⟩ => ⟨he, ROk.setFds hX h1 h2 (p.setFds (fdRel_set p.rel.fd a (p.rel.fd k)))⟩
def PClose (K : Ks) (fd : Int) (c : Nat) (K' : Ks) : Prop :=
 (c = 1 ∧ za1 K.fds fd = false ∧ K' = K) ∨ (c = 0 ∧ za1 K.fds fd = true ∧ K' = { K with fds := zbx K.fds fd.toNat none })
theorem pclose {E : Nat → Addr} {B : Nat} {w : World} {K : Ks} (hE : Env E B w) (hK : KRep B w K) (fd : Int) :
  Calls Tryz.prog 26 #[.pointer (some ⟨K.kb, 0, none⟩), .int .i64 fd] w fun e w' => ∃ c x, e = .returned x ∧ ErrV E w' c x ∧ POk B w K (PClose K fd c) w' := by
 cases hu : za1 K.fds fd with
 | false => exact (close_bad hE hK.kern fd hu).mono fun e w' ⟨a, he, hf, hb⟩ => ⟨1, _, he, .inr ⟨by decide, by decide, a, _, .inr ⟨rfl, hf⟩⟩, POk.same hK hb (.inl ⟨rfl, hu, rfl⟩)⟩
 | true =>
  obtain ⟨k, rfl, hk⟩ := zdn hu
  exact (close_ok hK.kern k hu).mono fun e w' ⟨he, h1, h2⟩ => ⟨0, _, he, .inl ⟨rfl, rfl⟩, POk.setFds hK h1 h2 (good_set hK.goodFds k (e := none) trivial) (.inr ⟨rfl, hu, rfl⟩)⟩
theorem rclose {B : Nat} {w : World} {K K' : Ks} {X : Rk} {t : Tags} {n : Nat} (hX : RkRep B w X) (p : Pur K X t n) {fd : Int} {c : Nat} (h : PClose K fd c K') :
  Calls Tryz.prog 34 #[.pointer (some ⟨X.kb, 0, none⟩), .int .i64 fd] w fun e w' => e = .returned (zck c) ∧ ROk B w X (fun X' => Pur K' X' t n) w' := by
 rcases h with ⟨rfl, hu, rfl⟩ | ⟨rfl, hu, rfl⟩
 ·exact (rk_close_bad hX.kern fd ((p.rel.used fd).trans hu)).mono fun e w' ⟨he, hb⟩ => ⟨he, ROk.same hX hb p⟩
 ·obtain ⟨k, rfl, hk⟩ := zdn hu
  exact (rk_close_ok hX.kern k ((p.rel.used k).trans hu)).mono fun e w' ⟨he, h1, h2⟩ => ⟨he, ROk.setFds hX h1 h2 (p.setFds (fdRel_set p.rel.fd k trivial))⟩
def PMove (K : Ks) (fd onto : Int) (c : Nat) (K' : Ks) : Prop :=
 (c = 1 ∧ (za1 K.fds fd = false ∨ onto < 0 ∨ 16 ≤ onto) ∧ K' = K) ∨ (c = 0 ∧ za1 K.fds fd = true ∧ 0 ≤ onto ∧ onto < 16 ∧ K' = { K with fds := zbx (zbx K.fds fd.toNat none) onto.toNat (K.fds fd.toNat) })
theorem pmove {E : Nat → Addr} {B : Nat} {w : World} {K : Ks} (hE : Env E B w) (hK : KRep B w K) (fd onto : Int) :
  Calls Tryz.prog 25 #[.pointer (some ⟨K.kb, 0, none⟩), .int .i64 fd, .int .i64 onto] w fun e w' => ∃ c x, e = .returned x ∧ ErrV E w' c x ∧ POk B w K (PMove K fd onto c) w' := by
 by_cases hu : za1 K.fds fd = false ∨ onto < 0 ∨ 16 ≤ onto
 ·exact (move_bad hE hK.kern fd onto hu).mono fun e w' ⟨a, he, hf, hb⟩ => ⟨1, _, he, .inr ⟨by decide, by decide, a, _, .inr ⟨rfl, hf⟩⟩, POk.same hK hb (.inl ⟨rfl, hu, rfl⟩)⟩
 ·have hu1 : za1 K.fds fd = true := by
   cases h : za1 K.fds fd with
   | true => rfl
   | false => exact absurd (.inl h) hu
  obtain ⟨k, rfl, hk⟩ := zdn hu1
  obtain ⟨o, rfl⟩ : ∃ o : Nat, onto = o := ⟨onto.toNat, by omega⟩
  exact (move_ok hK.kern k o hu1 (by omega)).mono fun e w' ⟨he, h1, h2⟩ => ⟨0, _, he, .inl ⟨rfl, rfl⟩, POk.setFds hK h1 h2 (good_set (good_set hK.goodFds k (e := none) trivial) o (hK.goodFds k)) (.inr ⟨rfl, hu1, by omega, by omega, rfl⟩)⟩
theorem rmove {B : Nat} {w : World} {K K' : Ks} {X : Rk} {t : Tags} {n : Nat} (hX : RkRep B w X) (p : Pur K X t n) {fd onto : Int} {c : Nat} (h : PMove K fd onto c K') :
  Calls Tryz.prog 33 #[.pointer (some ⟨X.kb, 0, none⟩), .int .i64 fd, .int .i64 onto] w fun e w' => e = .returned (zck c) ∧ ROk B w X (fun X' => Pur K' X' t n) w' := by
 rcases h with ⟨rfl, hu, rfl⟩ | ⟨rfl, hu, h0, h1, rfl⟩
 ·exact (rk_move_bad hX.kern fd onto (by rw [p.rel.used fd]; exact hu)).mono fun e w' ⟨he, hb⟩ => ⟨he, ROk.same hX hb p⟩
 ·obtain ⟨k, rfl, hk⟩ := zdn hu
  obtain ⟨o, rfl⟩ : ∃ o : Nat, onto = o := ⟨onto.toNat, by omega⟩
  simp only [Int.toNat_natCast]
  by_cases e : k = o
  ·subst e
   refine (rk_move_same hX.kern k ((p.rel.used k).trans hu)).mono fun e w' ⟨he, h1, h2⟩ => ⟨he, ROk.setFds hX h1 h2 (p.setFds (fun j => ?_))⟩
   by_cases hj : j = k
   ·subst hj
    simp only [zbx, if_true]
    exact p.rel.fd j
   ·simp only [zbx, if_neg hj]
    exact p.rel.fd j
  ·refine (rk_move_ok hX.kern k o ((p.rel.used k).trans hu) (by omega) e).mono fun e' w' ⟨he, h1, h2⟩ => ⟨he, ROk.setFds hX h1 h2 (p.setFds (fun j => ?_))⟩
   by_cases hj : j = k
   ·subst hj
    simp only [zbx, za6, if_true, if_neg e]
    trivial
   ·by_cases ho : j = o
    ·subst ho
     simp only [zbx, za6, if_true, if_neg hj]
     exact p.rel.fd k
    ·simp only [zbx, za6, if_neg hj, if_neg ho]
     exact p.rel.fd j
end
section
def updO (ops : Nat → Option ROp) (o : Nat) (x : ROp) : Nat → Option ROp := fun q => if q = o then some x else ops q
theorem zc2 (ops : Nat → Option ROp) (o : Nat) (x : ROp) : updO ops o x o = some x := if_pos rfl
theorem zb7 (ops : Nat → Option ROp) {o q : Nat} (x : ROp) (h : q ≠ o) : updO ops o x q = ops q := if_neg h
theorem RkRep.no_op {B : Nat} {w : World} {X : Rk} (h : RkRep B w X) {o : Nat} (ho : w.heap.size ≤ o) : X.ops o = none := by
 cases hx : X.ops o with
 | none => rfl
 | some x =>
  have := zab (h.opn o x hx)
  omega
theorem KRep.no_fl {B : Nat} {w : World} {K : Ks} (h : KRep B w K) {b : Nat} (hb : w.heap.size ≤ b) : K.fl b = none := by
 cases hx : K.fl b with
 | none => rfl
 | some f =>
  have := zab (h.file b f hx).1
  omega
theorem KRep.fd_old {B : Nat} {w : World} {K : Ks} (h : KRep B w K) {b : Nat} (hb : w.heap.size ≤ b) : ∀ j x, K.fds j = some (.file x) → x ≠ b := fun j x hj e => by
 have hg := h.goodFds j
 rw [hj] at hg
 obtain ⟨f, hf⟩ := hg
 rw [e, h.no_fl hb] at hf
 cases hf
theorem fdRel.tags {ob eb : Nat} {t t' : Tags} {a : Option End} {o : Option Nat} (h : fdRel ob eb t a o) (h1 : t'.oi = t.oi) (h2 : t'.o0 = t.o0) (h3 : t'.o1 = t.o1) (hg : ∀ x, a = some (.file x) → t'.g x = t.g x) : fdRel ob eb t' a o := by
 cases a with
 | none => cases o with
  | none => trivial
  | some o => exact h.elim
 | some e =>
  cases o with
  | none => cases e <;> exact h.elim
  | some o =>
   cases e with
   | inp b => exact (show o = t.oi from h).trans h1.symm
   | out b =>
    rcases (show (b = ob ∧ o = t.o0) ∨ (b = eb ∧ o = t.o1) from h) with ⟨q1, q2⟩ | ⟨q1, q2⟩
    ·exact .inl ⟨q1, q2.trans h2.symm⟩
    ·exact .inr ⟨q1, q2.trans h3.symm⟩
   | file b => exact (show o = t.g b from h).trans (hg b rfl).symm
theorem Rel.add {K : Ks} {X : Rk} {t : Tags} (h : Rel K X t) (T' : Tr) (R' : RT) (f' : Nat → Nat) (b1 : Nat) (fl1 : Fl) (oa i : Nat) (hb : K.fl b1 = none) (hfds : ∀ j x, K.fds j = some (.file x) → x ≠ b1) (ho : X.ops oa = none) (hf : ∀ b fl, K.fl b = some fl → f' fl.node = t.f fl.node) (hw : fl1.way = 0 ∨ fl1.way = 1 ∨ fl1.way = 2) (hpos : fl1.pos = 0) :
  Rel { K with T := T', fds := zbx K.fds i (some (.file b1)), fl := zaz K.fl b1 fl1 } { X with R := R', fds := za6 X.fds i (some oa), ops := updO X.ops oa (fl1.op f' 0) } { t with f := f', g := upd t.g b1 oa } := by
 have old : ∀ {o x}, X.ops o = some x → updO X.ops oa (fl1.op f' 0) o = some x := fun {o x} hx => by
  rw [zb7]
  ·exact hx
  ·intro e
   rw [e, ho] at hx
   cases hx
 have flc : ∀ b fl, zaz K.fl b1 fl1 b = some fl → (b = b1 ∧ fl = fl1) ∨ (b ≠ b1 ∧ K.fl b = some fl) := fun b fl hx => by
  unfold zaz at hx
  by_cases e : b = b1
  ·rw [if_pos e] at hx
   exact .inl ⟨e, (Option.some.inj hx).symm⟩
  ·rw [if_neg e] at hx
   exact .inr ⟨e, hx⟩
 have ga : upd t.g b1 oa b1 = oa := upd_k _ _ _
 have go' : ∀ {b}, b ≠ b1 → upd t.g b1 oa b = t.g b := fun h => zee _ h
 have oaNe : ∀ {b fl}, K.fl b = some fl → t.g b ≠ oa := fun {b fl} hb e => by
  obtain ⟨pl, h1, _⟩ := h.file b fl hb
  rw [e, ho] at h1
  cases h1
 obtain ⟨pl, hoi, hpl, hin⟩ := h.oi
 refine ⟨fdRel_set (fun j => (h.fd j).tags (t' := { t with f := f', g := upd t.g b1 oa }) rfl rfl rfl (fun x hx => go' (hfds j x hx))) i ga.symm, ⟨pl, old hoi, hpl, hin⟩, old h.o0, old h.o1, h.out, h.err, h.len, fun b fl hx => ?_, fun b b' fl fl' hx hx' hg => ?_, fun b fl hx => ?_⟩
 ·rcases flc b fl hx with ⟨rfl, rfl⟩ | ⟨hne, hx⟩
  ·refine ⟨0, ?_, hw, Int.le_refl _, by decide, fun _ => hpos⟩
   show updO X.ops oa _ (upd t.g b oa b) = _
   rw [ga]
   exact zc2 _ _ _
  ·obtain ⟨p, h1, h2⟩ := h.file b fl hx
   refine ⟨p, ?_, h2⟩
   show updO X.ops oa _ (upd t.g b1 oa b) = _
   rw [go' hne, old h1]
   show some (fl.op t.f p) = some (fl.op f' p)
   unfold Fl.op
   rw [hf b fl hx]
 ·have hg : upd t.g b1 oa b = upd t.g b1 oa b' := hg
  rcases flc b fl hx with ⟨e1, _⟩ | ⟨hne, hx2⟩
  ·rcases flc b' fl' hx' with ⟨e2, _⟩ | ⟨hne', hx2'⟩
   ·rw [e1, e2]
   ·rw [e1, ga, go' hne'] at hg
    exact absurd hg.symm (oaNe hx2')
  ·rcases flc b' fl' hx' with ⟨e2, _⟩ | ⟨hne', hx2'⟩
   ·rw [e2, ga, go' hne] at hg
    exact absurd hg (oaNe hx2)
   ·rw [go' hne, go' hne'] at hg
    exact h.inj b b' fl fl' hx2 hx2' hg
 ·rcases flc b fl hx with ⟨e1, _⟩ | ⟨hne, hx2⟩
  ·show upd t.g b1 oa b ≠ t.oi
   rw [e1, ga]
   intro e
   rw [← e, ho] at hoi
   cases hoi
  ·show upd t.g b1 oa b ≠ t.oi
   rw [go' hne]
   exact h.off b fl hx2
def PPipe (K : Ks) (a b c : Nat) (K' : Ks) : Prop :=
 (c = 19 ∧ a = 0 ∧ b = 0 ∧ (za3 K.fds 0 = none ∨ ∃ x, za3 K.fds 0 = some x ∧ za3 K.fds (x + 1) = none) ∧ K' = K) ∨
 (c = 0 ∧ za3 K.fds 0 = some a ∧ za3 K.fds (a + 1) = some b ∧ ∃ kn f b1 b2, b1 ≠ b2 ∧ K.T.nd kn = none ∧ K.fl b1 = none ∧ K.fl b2 = none ∧ (∀ j x, K.fds j = some (.file x) → x ≠ b1 ∧ x ≠ b2) ∧ (∀ b fl, K.fl b = some fl → fl.node ≠ kn) ∧ K' = K.piped kn f a b b1 b2)
theorem ppipe {E : Nat → Addr} {B : Nat} {w : World} {K : Ks} (hE : Env E B w) (hB : B ≤ w.heap.size) (hK : KRep B w K) :
  Calls Tryz.prog 23 #[.pointer (some ⟨K.kb, 0, none⟩)] w fun e w' => ∃ a b c x, e = .returned (.tuple #[.int .i64 (a : Nat), .int .i64 (b : Nat), x]) ∧ ErrV E w' c x ∧ POk B w K (PPipe K a b c) w' := by
 cases ha : za3 K.fds 0 with
 | none => exact (kpipe_full0 hE hK.kern ha).mono fun e w' ⟨a, he, hf, hb⟩ => ⟨0, 0, 19, _, he, .inr ⟨by decide, by decide, a, _, .inr ⟨rfl, hf⟩⟩, POk.same hK hb (.inl ⟨rfl, rfl, rfl, .inl ha, rfl⟩)⟩
 | some a =>
  cases hb : za3 K.fds (a + 1) with
  | none => exact (kpipe_full1 hE hK.kern ha hb).mono fun e w' ⟨x, he, hf, hbl⟩ => ⟨0, 0, 19, _, he, .inr ⟨by decide, by decide, x, _, .inr ⟨rfl, hf⟩⟩, POk.same hK hbl (.inl ⟨rfl, rfl, rfl, .inr ⟨a, ha, hb⟩, rfl⟩)⟩
  | some b =>
   refine (kern_pipe w hB hK a b ha hb).mono fun e w' ⟨kn, f, b1, b2, he, h1, h2, h3, h4, h5, h6, h7, h8⟩ => ⟨a, b, 0, _, he, .inl ⟨rfl, rfl⟩, ⟨_, h6, h7, h8, rfl, rfl, .inr ⟨rfl, ha, hb, kn, f, b1, b2, h5, hK.tree.no_node h1, hK.no_fl h3, hK.no_fl h4, fun j x hj => ⟨hK.fd_old h3 j x hj, hK.fd_old h4 j x hj⟩, fun b fl hbl e => ?_, rfl⟩⟩⟩
   obtain ⟨d, hd, _⟩ := (hK.file b fl hbl).2.2
   rw [e, hK.tree.no_node h1] at hd
   cases hd
theorem RRep.tempd2 {B : Nat} {w w' : World} {R : RT} (h : RRep B w R) (hB : B ≤ w.heap.size) (h1 : RRep B w' R) {m : Nat} (hm : w.heap.size ≤ m) (hn : w'.heap[m]? = some (nodeC (.slice none 0 0))) : RRep B w' (R.setNd m tempR) := by
 have hlt : ∀ {x d}, R.nd x = some d → x ≠ m := fun {x d} hx e => by
  have := h.lt (.inr (.inr (.inl ⟨d, hx⟩)))
  omega
 have hcase : ∀ x d, (R.setNd m tempR).nd x = some d → (x = m ∧ d = tempR) ∨ (x ≠ m ∧ R.nd x = some d) := fun x d hx => by
  have hx : (if x = m then some tempR else R.nd x) = some d := hx
  by_cases e : x = m
  ·rw [if_pos e] at hx; cases hx; exact .inl ⟨e, rfl⟩
  ·rw [if_neg e] at hx; exact .inr ⟨e, hx⟩
 refine ⟨?_, h1.tree, h1.rows, ?_, ?_, ?_⟩
 ·rintro b (rfl | hb | ⟨d, hd⟩ | ⟨x, d, hd, hb⟩)
  ·exact h.low _ (.inl rfl)
  ·exact h.low _ (.inr (.inl hb))
  ·rcases hcase b d hd with ⟨rfl, _⟩ | ⟨_, h2⟩
   ·exact Nat.le_trans hB hm
   ·exact h.low _ (.inr (.inr (.inl ⟨d, h2⟩)))
  ·rcases hcase x d hd with ⟨_, rfl⟩ | ⟨_, h2⟩
   ·cases hb
   ·exact h.low _ (.inr (.inr (.inr ⟨x, d, h2, hb⟩)))
 ·intro x d hx
  rcases hcase x d hx with ⟨rfl, rfl⟩ | ⟨_, h2⟩
  ·exact ⟨hn, World.ownsRow_nil _ _ _ _⟩
  ·exact h1.node x d h2
 ·intro e he
  obtain ⟨d, hd⟩ := h.ents e he
  exact ⟨d, (if_neg (hlt hd)).trans hd⟩
 ·intro x d y e b hx hy hb hb2
  rcases hcase x d hx with ⟨_, rfl⟩ | ⟨_, h2⟩
  ·cases hb
  ·rcases hcase y e hy with ⟨_, rfl⟩ | ⟨_, h4⟩
   ·cases hb2
   ·exact h.apart x d y e b h2 h4 hb hb2
theorem rpipe {B : Nat} {w : World} {K K' : Ks} {X : Rk} {t : Tags} {n : Nat} (hX : RkRep B w X) (p : Pur K X t n) {a b c : Nat} (h : PPipe K a b c K') :
  Calls Tryz.prog 31 #[.pointer (some ⟨X.kb, 0, none⟩)] w fun e w' => e = .returned (.tuple #[.int .i64 (a : Nat), .int .i64 (b : Nat), zck c]) ∧ ROk B w X (fun X' => ∃ t', Pur K' X' t' n) w' := by
 rcases h with ⟨rfl, rfl, rfl, hn, rfl⟩ | ⟨rfl, ha, hb, kn, f, b1, b2, h12, hkn, hf1, hf2, hfd, hno, rfl⟩
 ·refine (rk_pipe_full hX.kern ?_).mono fun e w' ⟨he, hb⟩ => ⟨he, ROk.same hX hb ⟨t, p⟩⟩
  rcases hn with hn | ⟨x, h1, h2⟩
  ·rw [p.rel.free_none hn]; exact Nat.zero_lt_succ 1
  ·rw [p.rel.free_one h1 h2]; exact Nat.lt_succ_self 1
 ·obtain ⟨r, hfr⟩ := p.rel.free_two ha hb
  refine (rk_pipe hX.kern hfr).mono fun e w' ⟨he, hk, m, oa, ob, hm, hoa, hob, hab, hmh, hA, hB', hkern⟩ => ⟨he, ?_⟩
  have hm0 : X.R.nd m = none := by
   cases hx : X.R.nd m with
   | none => rfl
   | some d =>
    have := hX.rrep.lt (.inr (.inr (.inl ⟨d, hx⟩)))
    omega
  have no : ∀ q, X.R.foot q → q ≠ X.kb := fun q hq e => by
   obtain ⟨c, hc⟩ := hX.kern.obj
   rw [e] at hq
   exact hX.rrep.not_foot hc (by decide) (by decide) (by decide) (by decide) hq
  have hops : ∀ o x, updO (updO X.ops oa ⟨m, false, true, false, 0, false⟩) ob ⟨m, true, false, false, 0, false⟩ o = some x → zbi w' o x ∧ B ≤ o := by
   intro o x hx
   have hbase := hX.base
   by_cases e2 : o = ob
   ·subst e2
    rw [zc2] at hx
    cases hx
    exact ⟨hB', by omega⟩
   ·rw [zb7 _ _ e2] at hx
    by_cases e1 : o = oa
    ·subst e1
     rw [zc2] at hx
     cases hx
     exact ⟨hA, by omega⟩
    ·rw [zb7 _ _ e1] at hx
     refine ⟨(hk.block o (zab (hX.opn o x hx)) (fun e => ?_)).trans (hX.opn o x hx), hX.low.2.2.2.2 o x hx⟩
     obtain ⟨c, hc⟩ := hX.kern.obj
     rw [← e] at hc
     exact zac hc (hX.opn o x hx) (by decide) rfl
  have hturn := hX.turn (X := X) (F := fun q => q = X.kb) hk (fun q hq => .inr (.inl hq)) (R' := X.R.setNd m tempR) (hX.rrep.tempd2 hX.base (hX.rrep.kept hk no) hm hmh)
   (fun x d b hx hb => by
    have hx : (if x = m then some tempR else X.R.nd x) = some d := hx
    by_cases e : x = m
    ·rw [if_pos e] at hx; cases hx; cases hb
    ·rw [if_neg e] at hx; exact .inr ⟨x, d, hx, hb⟩)
   (fun q d hx h0 => by
    have hx : (if q = m then some tempR else X.R.nd q) = some d := hx
    by_cases e : q = m
    ·exact .inr (by rw [e]; exact hm)
    ·rw [if_neg e, h0] at hx; cases hx)
   hkern hops
  have r1 := p.rel.add K.T X.R (upd t.f kn m) b1 ⟨f, 1, 0, kn⟩ oa a hf1 (fun j x hj => (hfd j x hj).1) (hX.no_op hoa) (fun b fl hb => zee _ (hno b fl hb)) (.inr (.inl rfl)) rfl
  have r2 := r1.add (K.T.set kn zfg) (X.R.setNd m tempR) (upd t.f kn m) b2 ⟨f, 0, 0, kn⟩ ob b (by show zaz K.fl b1 _ b2 = none; unfold zaz; rw [if_neg (fun e => h12 e.symm)]; exact hf2)
   (fun j x hj => by
    have hj : zbx K.fds a (some (.file b1)) j = some (.file x) := hj
    unfold zbx at hj
    by_cases e : j = a
    ·rw [if_pos e] at hj
     cases hj
     exact h12
    ·rw [if_neg e] at hj
     exact (hfd j x hj).2)
   (by show updO X.ops oa _ ob = none; rw [zb7 _ _ (fun e => hab e.symm)]; exact hX.no_op hob) (fun _ _ _ => rfl) (.inl rfl) rfl
  have e1 : (⟨f, 1, 0, kn⟩ : Fl).op (upd t.f kn m) 0 = ⟨m, false, true, false, 0, false⟩ := by unfold Fl.op; rw [upd_k]; rfl
  have e2 : (⟨f, 0, 0, kn⟩ : Fl).op (upd t.f kn m) 0 = ⟨m, true, false, false, 0, false⟩ := by unfold Fl.op; rw [upd_k]; rfl
  rw [e2] at r2
  simp only [e1] at r2
  refine ⟨_, hturn.1, hk.mono (fun _ e => by rw [e]; exact .inr (.inl rfl)), hturn.2, rfl, rfl, rfl, rfl, { f := upd t.f kn m, g := upd (upd t.g b1 oa) b2 ob, oi := t.oi, o0 := t.o0, o1 := t.o1 }, ⟨p.sim.tempd p.ti.tw (tempd_set K.T kn) hkn (rtempd_set X.R m) hm0, (tempd_set K.T kn).ti hkn p.ti, (tempd_set K.T kn).tg p.tg, (rtempd_set X.R m).rn p.rn, r2⟩⟩
end
section
theorem RkRep.setOp {B : Nat} {w w' : World} {X : Rk} (h : RkRep B w X) {o : Nat} {x x' : ROp} (ho : X.ops o = some x) (hx : zbi w' o x') (k : Kept (fun b => b = o) w w') : RkRep B w' { X with ops := updO X.ops o x' } ∧ (∀ q, ({ X with ops := updO X.ops o x' } : Rk).row q → X.row q ∨ w.heap.size ≤ q) := by
 have hop := h.opn o x ho
 refine h.turn (X := X) (F := fun b => b = o) k (fun q hq => .inr (.inr ⟨x, by rw [hq]; exact ho⟩)) (h.rrep.kept k (fun q hq e => ?_)) (za5.same _ _) (fun q d h1 h2 => by rw [h2] at h1; cases h1) (h.kern.kept k (fun e => ?_)) (fun o' y hy => ?_)
 ·rw [e] at hq
  exact h.rrep.not_foot hop (by decide) (by decide) (by decide) (by decide) hq
 ·obtain ⟨c, hc⟩ := h.kern.obj
  rw [e] at hc
  exact zac hc hop (by decide) rfl
 ·by_cases e : o' = o
  ·subst e
   rw [zc2] at hy
   cases hy
   exact ⟨hx, h.low.2.2.2.2 _ x ho⟩
  ·rw [zb7 _ _ e] at hy
   exact ⟨(k.block o' (zab (h.opn o' y hy)) e).trans (h.opn o' y hy), h.low.2.2.2.2 o' y hy⟩
theorem ROk.setOp {B : Nat} {w w' : World} {X : Rk} (h : RkRep B w X) {o : Nat} {x x' : ROp} (ho : X.ops o = some x) (hx : zbi w' o x') (k : Kept (fun b => b = o) w w') {P : Rk → Prop} (hP : P { X with ops := updO X.ops o x' }) : ROk B w X P w' :=
 have q := h.setOp ho hx k
 ⟨_, q.1, k.mono (fun _ e => by rw [e]; exact .inr (.inr (.inl ⟨x, ho⟩))), q.2, rfl, rfl, rfl, rfl, hP⟩
theorem Rel.place {K : Ks} {X : Rk} {t : Tags} (h : Rel K X t) (T' : Tr) (R' : RT) {b : Nat} {fl : Fl} (hb : K.fl b = some fl) {pos' pl' : Int} (h0 : 0 ≤ pl') (h1 : pl' ≤ 65536) (h2 : ¬ fl.way = 2 → pos' = pl') :
  Rel { K with T := T', fl := zaz K.fl b { fl with pos := pos' } } { X with R := R', ops := updO X.ops (t.g b) (fl.op t.f pl') } t := by
 obtain ⟨pl, hg, hw, _⟩ := h.file b fl hb
 have flc : ∀ b' fl', zaz K.fl b { fl with pos := pos' } b' = some fl' → (b' = b ∧ fl' = { fl with pos := pos' }) ∨ (b' ≠ b ∧ K.fl b' = some fl') := fun b' fl' hx => by
  unfold zaz at hx
  by_cases e : b' = b
  ·rw [if_pos e] at hx
   exact .inl ⟨e, (Option.some.inj hx).symm⟩
  ·rw [if_neg e] at hx
   exact .inr ⟨e, hx⟩
 have some_ : ∀ b' fl', zaz K.fl b { fl with pos := pos' } b' = some fl' → ∃ fl2, K.fl b' = some fl2 := fun b' fl' hx => by
  rcases flc b' fl' hx with ⟨rfl, _⟩ | ⟨_, q⟩
  ·exact ⟨fl, hb⟩
  ·exact ⟨fl', q⟩
 obtain ⟨pi, hoi, hpi⟩ := h.oi
 have old : ∀ {o : Nat}, t.g b ≠ o → updO X.ops (t.g b) (fl.op t.f pl') o = X.ops o := fun hne => zb7 _ _ (fun e => hne e.symm)
 have n0 : t.g b ≠ t.o0 := fun e => by
  have h1 := h.o0
  rw [← e, hg] at h1
  exact Bool.noConfusion (show false = true from congrArg ROp.log (Option.some.inj h1))
 have n1 : t.g b ≠ t.o1 := fun e => by
  have h1 := h.o1
  rw [← e, hg] at h1
  exact Bool.noConfusion (show false = true from congrArg ROp.log (Option.some.inj h1))
 refine ⟨h.fd, ⟨pi, (old (h.off b fl hb)).trans hoi, hpi⟩, (old n0).trans h.o0, (old n1).trans h.o1, h.out, h.err, h.len, fun b' fl' hx => ?_, fun b' b'' fl' fl'' hx hx' hgg => ?_, fun b' fl' hx => ?_⟩
 ·rcases flc b' fl' hx with ⟨rfl, rfl⟩ | ⟨hne, hx2⟩
  ·exact ⟨pl', zc2 _ _ _, hw, h0, h1, h2⟩
  ·obtain ⟨q, h3, h4⟩ := h.file b' fl' hx2
   exact ⟨q, (old (fun e => hne (h.inj b' b fl' fl hx2 hb e.symm))).trans h3, h4⟩
 ·obtain ⟨f1, q1⟩ := some_ b' fl' hx
  obtain ⟨f2, q2⟩ := some_ b'' fl'' hx'
  exact h.inj b' b'' f1 f2 q1 q2 hgg
 ·obtain ⟨f1, q1⟩ := some_ b' fl' hx
  exact h.off b' f1 q1
def PRead (K : Ks) (fd n : Int) (l : List UInt8) (c : Nat) (K' : Ks) : Prop :=
 (c = 1 ∧ l = [] ∧ (za1 K.fds fd = false ∨ n < 0) ∧ K' = K) ∨
 (0 ≤ n ∧ ∃ k : Nat, fd = k ∧ k < 16 ∧ (
  (c = 16 ∧ l = [] ∧ K' = K ∧ ((∃ x, K.fds k = some (.out x)) ∨ ∃ b fl, K.fds k = some (.file b) ∧ K.fl b = some fl ∧ ¬ fl.way = 0)) ∨
  (c = 0 ∧ ∃ b fl d, K.fds k = some (.file b) ∧ K.fl b = some fl ∧ fl.way = 0 ∧ K.T.nd fl.node = some d ∧ l = zb8 d.data fl.pos.toNat n.toNat ∧ K' = { K with fl := zaz K.fl b { fl with pos := ((fl.pos.toNat + l.length : Nat) : Int) } }) ∨
  (c = 0 ∧ ∃ ib v, K.fds k = some (.inp ib) ∧ l = K.inL.take n.toNat ∧ K' = { K with inV := v, inL := K.inL.drop l.length })))
theorem take_min_len (l : List UInt8) (n : Nat) : l.take (min n l.length) = l.take n := by
 by_cases h : n ≤ l.length
 ·rw [Nat.min_eq_left h]
 ·rw [Nat.min_eq_right (by omega), List.take_of_length_le (Nat.le_refl _), List.take_of_length_le (by omega)]
theorem pread {E : Nat → Addr} {B : Nat} {w : World} {K : Ks} {X : Rk} {t : Tags} {m : Nat} (hE : Env E B w) (hK : KRep B w K) (p : Pur K X t m) (fd n : Int) (hn1 : n ≤ 9223372036854775807) :
  Calls Tryz.prog 27 #[.pointer (some ⟨K.kb, 0, none⟩), .int .i64 fd, .int .i64 n] w fun e w' => ∃ v l c x, e = .returned (.tuple #[v, x]) ∧ w'.ownsRow w.heap.size 5 1 v l.length (u8s l) ∧ ErrV E w' c x ∧ POk B w K (PRead K fd n l c) w' := by
 have no : ∀ {c : Nat} (_ : c ≠ 0) (_ : c ≤ 21) (_ : PRead K fd n [] c K) (e : Ending) (w' : World), RdNo E w c e w' → ∃ v l c x, e = .returned (.tuple #[v, x]) ∧ w'.ownsRow w.heap.size 5 1 v l.length (u8s l) ∧ ErrV E w' c x ∧ POk B w K (PRead K fd n l c) w' :=
  fun h0 h1 hP e w' ⟨a, he, hf, hb⟩ => ⟨_, [], _, _, he, World.ownsRow_nil _ _ _ _, .inr ⟨h0, h1, a, _, .inr ⟨rfl, hf⟩⟩, POk.same hK hb hP⟩
 cases hu : za1 K.fds fd with
 | false => exact (kread_bad hE hK.kern fd n hu).mono fun e w' hx => no (by decide) (by decide) (.inl ⟨rfl, rfl, .inl hu, rfl⟩) e w' hx
 | true =>
  by_cases hn : n < 0
  ·exact (kread_neg hE hK.kern fd n hu hn).mono fun e w' hx => no (by decide) (by decide) (.inl ⟨rfl, rfl, .inr hn, rfl⟩) e w' hx
  ·obtain ⟨k, rfl, hk⟩ := zdn hu
   have hg := hK.goodFds k
   cases hfd : K.fds k with
   | none => rw [zbc hk, hfd] at hu; cases hu
   | some e0 =>
    rw [hfd] at hg
    cases e0 with
    | out x => exact (kread_no_out hE hK.kern k hk hfd n (by omega)).mono fun e w' hx => no (by decide) (by decide) (.inr ⟨by omega, k, rfl, hk, .inl ⟨rfl, rfl, rfl, .inl ⟨x, hfd⟩⟩⟩) e w' hx
    | file b =>
     obtain ⟨fl, hfl⟩ := hg
     obtain ⟨h1, h2, d, hd, hdir⟩ := hK.file b fl hfl
     by_cases hway : fl.way = 0
     ·obtain ⟨pl, _, _, q1, q2, q3⟩ := p.rel.file b fl hfl
      have q3 := q3 (by omega)
      obtain ⟨N, rfl⟩ : ∃ N : Nat, n = N := ⟨n.toNat, by omega⟩
      refine (kread_file hK k N hk b hfd fl hfl hway fl.pos.toNat (by omega) (by omega) (by omega) d hd (by have := p.ti.data fl.node d hd; omega)).mono fun e w' ⟨v, he, hrow, h3, h4, h5⟩ => ⟨v, zb8 d.data fl.pos.toNat N, 0, _, he, hrow, .inl ⟨rfl, rfl⟩, ⟨_, h3, h4, fun q hq => .inl (h5 q hq), rfl, rfl, .inr ⟨by omega, k, rfl, hk, .inr (.inl ⟨rfl, b, fl, d, hfd, hfl, hway, hd, rfl, rfl⟩)⟩⟩⟩
     ·exact (kread_no_file hE hK.kern k hk hfd h1 hway n (by omega)).mono fun e w' hx => no (by decide) (by decide) (.inr ⟨by omega, k, rfl, hk, .inl ⟨rfl, rfl, rfl, .inr ⟨b, fl, hfd, hfl, hway⟩⟩⟩) e w' hx
    | inp b =>
     have hb : b = K.ib := hg
     subst hb
     obtain ⟨pl, _, _, hin⟩ := p.rel.oi
     obtain ⟨N, rfl⟩ : ∃ N : Nat, n = N := ⟨n.toNat, by omega⟩
     refine (kread_in hK k N hk hfd (by rw [hin, List.length_drop]; have := p.rel.len.2.2; omega)).mono fun e w' ⟨v, v2, he, hrow, h3, h4, h5⟩ => ⟨v2, K.inL.take N, 0, _, he, by rw [take_min_len] at hrow; exact hrow, .inl ⟨rfl, rfl⟩, ⟨_, h3, h4, fun q hq => .inl (h5 q hq), rfl, rfl, .inr ⟨by omega, k, rfl, hk, .inr (.inr ⟨rfl, _, v, hfd, rfl, by rw [List.length_take]⟩)⟩⟩⟩
theorem readI_nat (l : List UInt8) {pos n : Int} (h0 : 0 ≤ pos) (h1 : 0 ≤ n) : zdr l pos n = zb8 l pos.toNat n.toNat := by
 unfold zdr
 rw [if_neg (by omega)]
theorem rread {B : Nat} {w : World} {K K' : Ks} {X : Rk} {t : Tags} {m : Nat} (hX : RkRep B w X) (p : Pur K X t m) {fd n : Int} (hn1 : n ≤ 9223372036854775807) {l : List UInt8} {c : Nat} (h : PRead K fd n l c K') :
  Calls Tryz.prog 35 #[.pointer (some ⟨X.kb, 0, none⟩), .int .i64 fd, .int .i64 n] w fun e w' => ∃ v, e = .returned (.tuple #[v, zck c]) ∧ w'.ownsRow w.heap.size 5 1 v l.length (u8s l) ∧ ROk B w X (fun X' => Pur K' X' t m) w' := by
 rcases h with ⟨rfl, rfl, hu, rfl⟩ | ⟨hn, k, rfl, hk, ⟨rfl, rfl, rfl, hno⟩ | ⟨rfl, b, fl, d, hfd, hfl, hway, hd, hl, rfl⟩ | ⟨rfl, ib, v, hfd, hl, rfl⟩⟩
 ·exact (rk_read_bad hX.kern fd n (by rw [p.rel.used fd]; exact hu)).mono fun e w' ⟨he, hb⟩ => ⟨_, he, World.ownsRow_nil _ _ _ _, ROk.same hX hb p⟩
 ·have hf := p.rel.fd k
  have key : ∃ o x, X.fds k = some o ∧ X.ops o = some x ∧ x.inn = false := by
   cases ho : X.fds k with
   | none =>
    rw [ho] at hf
    rcases hno with ⟨x, hx⟩ | ⟨b, fl, hx, _⟩ <;> (rw [hx] at hf; exact hf.elim)
   | some o =>
    rw [ho] at hf
    rcases hno with ⟨x, hx⟩ | ⟨b, fl, hx, hfl, hway⟩
    ·rw [hx] at hf
     rcases (show (_ ∧ o = t.o0) ∨ (_ ∧ o = t.o1) from hf) with ⟨_, rfl⟩ | ⟨_, rfl⟩
     ·exact ⟨_, _, rfl, p.rel.o0, rfl⟩
     ·exact ⟨_, _, rfl, p.rel.o1, rfl⟩
    ·rw [hx] at hf
     obtain rfl : o = t.g b := hf
     obtain ⟨pl, h1, _⟩ := p.rel.file b fl hfl
     exact ⟨_, _, rfl, h1, decide_eq_false hway⟩
  obtain ⟨o, x, ho, hx, hi⟩ := key
  exact (rk_read_no hX.kern k hk ho (hX.opn o x hx) hi n hn).mono fun e w' ⟨he, hb⟩ => ⟨_, he, World.ownsRow_nil _ _ _ _, ROk.same hX hb p⟩
 ·have hf := p.rel.fd k
  rw [hfd] at hf
  obtain ⟨pl, h1, hw, q0, q1, q2⟩ := p.rel.file b fl hfl
  have q2 := q2 (by omega)
  cases ho : X.fds k with
  | none => rw [ho] at hf; exact hf.elim
  | some o =>
   rw [ho] at hf
   obtain rfl : o = t.g b := hf
   obtain ⟨r, hr, _, hrd, _⟩ := p.sim.node fl.node d hd
   obtain ⟨hn1', hrow⟩ := hX.rrep.node _ r hr
   have hdl := p.ti.data fl.node d hd
   have hcell : w.cell? ⟨(fl.op t.f pl).node, 1, none⟩ = some r.dv := zaa (o := 1) hn1' rfl
   refine (rk_read_ok hX.kern k hk ho (hX.opn _ _ h1) (decide_eq_true hway) hcell hrow (by rw [hrd]; omega) q0 (by show pl ≤ _; omega) n hn hn1).mono fun e w' ⟨v, he, hr1, hr2, hr3⟩ => ⟨v, he, ?_, ?_⟩
   ·have e1 : zdr r.data (fl.op t.f pl).place n = l := by
     show zdr r.data pl n = l
     rw [hl, hrd, readI_nat _ q0 hn, q2]
    rw [e1] at hr1
    exact hr1
   ·have e1 : zdr r.data (fl.op t.f pl).place n = l := by
     show zdr r.data pl n = l
     rw [hl, hrd, readI_nat _ q0 hn, q2]
    rw [e1] at hr2
    have hlen : l.length ≤ 65536 ∧ pl + l.length ≤ 65536 := by
     rw [hl, zef]
     omega
    refine ROk.setOp (x' := fl.op t.f (pl + l.length)) hX h1 hr2 hr3 ⟨p.sim, p.ti, p.tg, p.rn, ?_⟩
    exact p.rel.place K.T X.R hfl (by omega) hlen.2 (fun _ => by rw [q2]; omega)
 ·have hf := p.rel.fd k
  rw [hfd] at hf
  obtain ⟨pl, hoi, hpl, hin⟩ := p.rel.oi
  cases ho : X.fds k with
  | none => rw [ho] at hf; exact hf.elim
  | some o =>
   rw [ho] at hf
   obtain rfl : o = t.oi := hf
   have hlen := p.rel.len.2.2
   have hcell : w.cell? ⟨(⟨X.m, true, false, false, pl, false⟩ : ROp).node, 1, none⟩ = some X.vm := zaa (o := 1) hX.cm rfl
   have e1 : zdr X.lm pl n = l := by
    rw [hl, readI_nat _ (by omega) hn, hin]
    rfl
   refine (rk_read_ok hX.kern k hk ho (hX.opn _ _ hoi) rfl hcell hX.sm hlen (by show (0 : Int) ≤ (pl : Int); omega) (by show (pl : Int) ≤ _; omega) n hn hn1).mono fun e w' ⟨v2, he, hr1, hr2, hr3⟩ => ⟨v2, he, by rw [← e1]; exact hr1, ?_⟩
   have hr2 : zbi w' t.oi ⟨X.m, true, false, false, ((pl + l.length : Nat) : Int), false⟩ := by
    rw [Int.natCast_add]
    rw [← e1]
    exact hr2
   have hll : pl + l.length ≤ X.lm.length := by
    rw [hl, List.length_take, hin, List.length_drop]
    omega
   have ne : ∀ {o x}, X.ops o = some x → x.inn = false → o ≠ t.oi := fun {o x} h1 h2 e => by
    rw [e, hoi] at h1
    cases h1
    cases h2
   have old : ∀ {o x y}, X.ops o = some x → o ≠ t.oi → updO X.ops t.oi y o = some x := fun h1 h2 => (zb7 _ _ h2).trans h1
   refine ROk.setOp hX hoi hr2 hr3 ⟨p.sim, p.ti, p.tg, p.rn, ⟨p.rel.fd, ⟨pl + l.length, zc2 _ _ _, hll, ?_⟩, old p.rel.o0 (ne p.rel.o0 rfl), old p.rel.o1 (ne p.rel.o1 rfl), p.rel.out, p.rel.err, p.rel.len, fun b fl hx => ?_, p.rel.inj, p.rel.off⟩⟩
   ·show K.inL.drop l.length = X.lm.drop (pl + l.length)
    rw [hin, List.drop_drop]
   ·obtain ⟨q, h3, h4⟩ := p.rel.file b fl hx
    exact ⟨q, old h3 (p.rel.off b fl hx), h4⟩
end
section
def PWrite (K : Ks) (fd : Int) (b : List UInt8) (c : Nat) (K' : Ks) : Prop :=
 (c = 1 ∧ za1 K.fds fd = false ∧ K' = K) ∨ (∃ k : Nat, fd = k ∧ k < 16 ∧ (
  (c = 16 ∧ K' = K ∧ ((∃ x, K.fds k = some (.inp x)) ∨ ∃ b0 fl, K.fds k = some (.file b0) ∧ K.fl b0 = some fl ∧ fl.way = 0)) ∨
  (K.ob ≠ K.eb ∧ K.fds k = some (.out K.ob) ∧ ((c = 19 ∧ 65536 < K.outL.length + b.length ∧ K' = K) ∨ (c = 0 ∧ K.outL.length + b.length ≤ 65536 ∧ ∃ v, K' = { K with outV := v, outL := K.outL ++ b }))) ∨
  (K.ob ≠ K.eb ∧ K.fds k = some (.out K.eb) ∧ ((c = 19 ∧ 65536 < K.errL.length + b.length ∧ K' = K) ∨ (c = 0 ∧ K.errL.length + b.length ≤ 65536 ∧ ∃ v, K' = { K with errV := v, errL := K.errL ++ b }))) ∨
  (∃ b0 fl d, ∃ p : Nat, K.fds k = some (.file b0) ∧ K.fl b0 = some fl ∧ K.T.nd fl.node = some d ∧ ((fl.way = 1 ∧ fl.pos = p) ∨ (fl.way = 2 ∧ p = d.data.length)) ∧
   ((c = 19 ∧ 65536 < p + b.length ∧ ∃ pos', (fl.way = 1 → pos' = fl.pos) ∧ K' = { K with fl := zaz K.fl b0 { fl with pos := pos' } }) ∨
    (c = 0 ∧ p + b.length ≤ 65536 ∧ ∃ T', WrX K.T T' fl.node d p b ∧ K' = { K with T := T', fl := zaz K.fl b0 { fl with pos := ((p + b.length : Nat) : Int) } })))))
theorem src_form {w : World} {bv : Value} {b : List UInt8} (h : Src w bv b) : ∃ ba bc, bv = .slice ba b.length bc := by
 rcases h with ⟨h1, h2⟩ | ⟨ad, c, h1, _⟩
 ·exact ⟨none, 0, by rw [h1, h2]; rfl⟩
 ·exact ⟨_, _, h1⟩
theorem pwrite {E : Nat → Addr} {B : Nat} {w : World} {K : Ks} {X : Rk} {t : Tags} {m : Nat} (hE : Env E B w) (hY : Ety B w) (hB : B ≤ w.heap.size) (hK : KRep B w K) (p : Pur K X t m) (fd : Int) (bv : Value) (b : List UInt8) (hs : Src w bv b) (hbl : b.length ≤ 140737488355328) (hbf : 0 < b.length → ∀ x, bv.ownBlock = some x → ¬ K.foot x) :
  Calls Tryz.prog 28 #[.pointer (some ⟨K.kb, 0, none⟩), .int .i64 fd, bv] w fun e w' => ∃ c x, e = .returned x ∧ ErrV E w' c x ∧ POk B w K (PWrite K fd b c) w' := by
 have no : ∀ {c : Nat} (_ : c ≠ 0) (_ : c ≤ 21) (_ : PWrite K fd b c K) (e : Ending) (w' : World), ErrNo E w c e w' → ∃ c x, e = .returned x ∧ ErrV E w' c x ∧ POk B w K (PWrite K fd b c) w' :=
  fun h0 h1 hP e w' ⟨a, he, hf, hb⟩ => ⟨_, _, he, .inr ⟨h0, h1, a, _, .inr ⟨rfl, hf⟩⟩, POk.same hK hb hP⟩
 cases hu : za1 K.fds fd with
 | false => exact (kwrite_bad hE hK.kern fd hu bv).mono fun e w' hx => no (by decide) (by decide) (.inl ⟨rfl, hu, rfl⟩) e w' hx
 | true =>
  obtain ⟨k, rfl, hk⟩ := zdn hu
  have hg := hK.goodFds k
  obtain ⟨ba, bc, rfl⟩ := src_form hs
  cases hfd : K.fds k with
  | none => rw [zbc hk, hfd] at hu; cases hu
  | some e0 =>
   rw [hfd] at hg
   cases e0 with
   | inp x => exact (kwrite_own_inp hY hK.kern k hk hfd _ (iwrite_no hE x _)).mono fun e w' hx => no (by decide) (by decide) (.inr ⟨k, rfl, hk, .inl ⟨rfl, rfl, .inl ⟨x, hfd⟩⟩⟩) e w' hx
   | out x =>
    rcases (show x = K.ob ∨ x = K.eb from hg) with rfl | rfl
    ·by_cases hfit : K.outL.length + b.length ≤ 65536
     ·exact (kwrite_out hB hK k hk hfd ba bc b hs hfit).mono fun e w' ⟨v, he, h1, h2, h3⟩ => ⟨0, _, he, .inl ⟨rfl, rfl⟩, ⟨_, h1, h2, h3, rfl, rfl, .inr ⟨k, rfl, hk, .inr (.inl ⟨hK.two, hfd, .inr ⟨rfl, hfit, v, rfl⟩⟩)⟩⟩⟩
     ·obtain ⟨oa, oc, hov⟩ := zak hK.outS
      have h0 := hK.out
      rw [hov] at h0
      exact (ze2 hY hK.kern k hk hfd _ (owrite_full hE _ h0 p.rel.len.1 ba b.length bc (by omega))).mono fun e w' hx => no (by decide) (by decide) (.inr ⟨k, rfl, hk, .inr (.inl ⟨hK.two, hfd, .inl ⟨rfl, by omega, rfl⟩⟩)⟩) e w' hx
    ·by_cases hfit : K.errL.length + b.length ≤ 65536
     ·exact (kwrite_err hB hK k hk hfd ba bc b hs hfit).mono fun e w' ⟨v, he, h1, h2, h3⟩ => ⟨0, _, he, .inl ⟨rfl, rfl⟩, ⟨_, h1, h2, h3, rfl, rfl, .inr ⟨k, rfl, hk, .inr (.inr (.inl ⟨hK.two, hfd, .inr ⟨rfl, hfit, v, rfl⟩⟩))⟩⟩⟩
     ·obtain ⟨oa, oc, hov⟩ := zak hK.errS
      have h0 := hK.err
      rw [hov] at h0
      exact (ze2 hY hK.kern k hk hfd _ (owrite_full hE _ h0 p.rel.len.2.1 ba b.length bc (by omega))).mono fun e w' hx => no (by decide) (by decide) (.inr ⟨k, rfl, hk, .inr (.inr (.inl ⟨hK.two, hfd, .inl ⟨rfl, by omega, rfl⟩⟩))⟩) e w' hx
   | file b0 =>
    obtain ⟨fl, hfl⟩ := hg
    obtain ⟨h1, h2, d, hd, hdir⟩ := hK.file b0 fl hfl
    obtain ⟨pl, _, hw, q1, q2, q3⟩ := p.rel.file b0 fl hfl
    by_cases hway : fl.way = 0
    ·have h1' := h1
     rw [hway] at h1'
     exact (kwrite_own_file hY hK.kern k hk hfd _ (fwrite_no hE b0 fl.fb fl.pos h1' _)).mono fun e w' hx => no (by decide) (by decide) (.inr ⟨k, rfl, hk, .inl ⟨rfl, rfl, .inr ⟨b0, fl, hfd, hfl, hway⟩⟩⟩) e w' hx
    ·have hpp : ∃ P : Nat, (fl.way = 1 ∧ fl.pos = P) ∨ (fl.way = 2 ∧ P = d.data.length) := by
      rcases hw with h | h | h
      ·exact absurd h hway
      ·have := q3 (by omega)
       exact ⟨pl.toNat, .inl ⟨h, by omega⟩⟩
      ·exact ⟨_, .inr ⟨h, rfl⟩⟩
     obtain ⟨P, hP⟩ := hpp
     by_cases hfit : P + b.length ≤ 65536
     ·exact (kwrite_anyx hB hK k hk b0 hfd fl hfl d P hP p.num.clk0 p.num.clk1 hd hdir (p.ti.data fl.node d hd) b hfit _ hs hbf).mono fun e w' ⟨T', he, h3, h4, h5, h6, h7⟩ =>
       ⟨0, _, he, .inl ⟨rfl, rfl⟩, ⟨_, h3, h6, h7, rfl, h5.tb, .inr ⟨k, rfl, hk, .inr (.inr (.inr ⟨b0, fl, d, P, hfd, hfl, hd, hP, .inr ⟨rfl, hfit, T', h4, rfl⟩⟩))⟩⟩⟩
     ·exact (kwrite_full hE hY hK k hk b0 hfd fl hfl d P hP hd ba b.length bc (by omega) (by omega)).mono fun e w' ⟨a, pos', he, h3, h4, h5, h6, h7⟩ =>
       ⟨19, _, he, .inr ⟨by decide, by decide, a, _, .inr ⟨rfl, h3⟩⟩, ⟨_, h5, h6, h7, rfl, rfl, .inr ⟨k, rfl, hk, .inr (.inr (.inr ⟨b0, fl, d, P, hfd, hfl, hd, hP, .inl ⟨rfl, by omega, pos', h4, rfl⟩⟩))⟩⟩⟩
theorem ROk.backF {B : Nat} {w W w1 w2 : World} {X : Rk} {P : Rk → Prop} (h : ROk B W X P w1) (hb : Below w.heap.size w W) {q : Nat} (hq : w.heap.size ≤ q) {c : Array Value} (hc : w1.heap[q]? = some (.cells c 32 (0, 0))) (k : Kept (fun b => b = q) w1 w2) : ROk B w X P w2 := by
 obtain ⟨X', a1, a2, a3, a4⟩ := h.ex
 refine ⟨X', a1.kept k (fun b hf e => ?_), ((Kept.of_below hb _).trans a2 (fun b hf => .inl hf)).trans k (fun b e => .inr (by rw [e]; exact hq)), fun b hf => (a3 b hf).imp id (Nat.le_trans hb.size), a4⟩
 rw [e] at hf
 exact a1.not_foot hc (by decide) (by decide) (by decide) (by decide) (by decide) (by decide) hf
theorem codeV_form (c : Nat) : ∃ x y, zck c = .agg #[.int .i64 x, .int .i64 0, .int .i64 y] := by
 unfold zck
 split
 ·exact ⟨0, 0, rfl⟩
 ·exact ⟨c, 11, rfl⟩
theorem rput {B : Nat} {w : World} {X : Rk} (hX : RkRep B w X) {fd o : Nat} (hfd : fd < 16) (ho : X.fds fd = some o) {bv : Value} {c : Nat} {P : Rk → Prop}
  (hput : ∀ W, Below w.heap.size w W → RkRep B W X → Calls Tryz.prog 63 #[.pointer (some ⟨o, 0, none⟩), .pointer (some ⟨X.R.tb, 0, none⟩), bv] W fun e w' => e = .returned (zck c) ∧ ROk B W X (fun X' => X'.fds = X.fds ∧ P X') w') :
  Calls Tryz.prog 36 #[.pointer (some ⟨X.kb, 0, none⟩), .int .i64 fd, bv] w fun e w' => e = .returned (zck c) ∧ ROk B w X P w' := by
 obtain ⟨cx, cy, hc⟩ := codeV_form c
 refine (rk_write hX.kern fd hfd ho bv (Q := fun W x y w1 => zck c = .agg #[.int .i64 x, .int .i64 0, .int .i64 y] ∧ ROk B W X P w1) (fun W hW => (hput W hW (hX.below hW)).mono fun e w' ⟨he, hr⟩ => ?_)).mono fun e w' ⟨x, y, W, w1, he, hb, ⟨h1, h2⟩, ⟨cs, h3⟩, h4⟩ => ⟨by rw [he, h1], h2.backF hb (Nat.le_refl _) h3 h4⟩
 obtain ⟨X', a1, a2, a3, a4, a5, a6, a7, a8, a9⟩ := hr.ex
 refine ⟨cx, cy, by rw [he, hc], ⟨hc, ⟨X', a1, a2, a3, a4, a5, a6, a7, a9⟩⟩, ?_, fun q hq hlt => a2.block q hlt (fun hf => ?_)⟩
 ·have h := a1.kern
  rw [a4, a5, a6, a7, a8] at h
  exact h
 ·have := hX.lt hf
  omega
theorem RkRep.con0_ok {B : Nat} {w w' : World} {X : Rk} (h : RkRep B w X) {e : Ending} {l : List UInt8} (hp : RLogPost B w X.n0 X.v0 0 l e w') {P : Rk → Prop} (hP : ∀ v', P { X with v0 := v', l0 := l }) : e = .returned (zck 0) ∧ ROk B w X P w' := by
 obtain ⟨he, v', h1, h2, h3, h4⟩ := hp
 have q := h.con0 h1 h2 h3 h4
 exact ⟨he, ⟨_, q.1, h3.mono (fun x hx => .inr (.inr (.inr (.inl hx)))), q.2, rfl, rfl, rfl, rfl, hP v'⟩⟩
theorem RkRep.con1_ok {B : Nat} {w w' : World} {X : Rk} (h : RkRep B w X) {e : Ending} {l : List UInt8} (hp : RLogPost B w X.n1 X.v1 0 l e w') {P : Rk → Prop} (hP : ∀ v', P { X with v1 := v', l1 := l }) : e = .returned (zck 0) ∧ ROk B w X P w' := by
 obtain ⟨he, v', h1, h2, h3, h4⟩ := hp
 have q := h.con1 h1 h2 h3 h4
 exact ⟨he, ⟨_, q.1, h3.mono (fun x hx => .inr (.inr (.inr (.inr (.inl hx))))), q.2, rfl, rfl, rfl, rfl, hP v'⟩⟩
theorem ROk.file {B : Nat} {w w' : World} {X : Rk} (h : RkRep B w X) {o : Nat} {x x' : ROp} (ho : X.ops o = some x) (hx : zbi w' o x') (k : Kept (fun q => X.R.foot q ∨ q = o) w w') {R' : RT} (hR : RRep B w' R') (htb : R'.tb = X.R.tb) (hfr : za5 w.heap.size X.R R') (hnd : ∀ q d, R'.nd q = some d → X.R.nd q = none → d.tick ≠ 0 ∨ w.heap.size ≤ q) {P : Rk → Prop} (hP : P { X with R := R', ops := updO X.ops o x' }) : ROk B w X (fun X' => X'.fds = X.fds ∧ P X') w' := by
 have hop := h.opn o x ho
 have hk : RKAt w' X.kb R'.tb X.fds X.n0 X.n1 := by
  rw [htb]
  refine h.kern.kept k (fun hf => ?_)
  obtain ⟨c, hc⟩ := h.kern.obj
  rcases hf with hf | hf
  ·exact h.rrep.not_foot hc (by decide) (by decide) (by decide) (by decide) hf
  ·rw [hf] at hc
   exact zac hc hop (by decide) rfl
 have q := h.turn (X := X) (F := fun q => X.R.foot q ∨ q = o) k (fun q hq => by
  rcases hq with hq | hq
  ·exact .inl hq
  ·exact .inr (.inr ⟨x, by rw [hq]; exact ho⟩)) hR hfr hnd hk (ops' := updO X.ops o x') (fun o' y hy => by
  by_cases e : o' = o
  ·subst e
   rw [zc2] at hy
   cases hy
   exact ⟨hx, h.low.2.2.2.2 _ x ho⟩
  ·rw [zb7 _ _ e] at hy
   refine ⟨(k.block o' (zab (h.opn o' y hy)) (fun hf => ?_)).trans (h.opn o' y hy), h.low.2.2.2.2 o' y hy⟩
   rcases hf with hf | hf
   ·exact h.rrep.not_foot (h.opn o' y hy) (by decide) (by decide) (by decide) (by decide) hf
   ·exact e hf)
 exact ⟨_, q.1, k.mono (fun b hb => by
  rcases hb with hb | hb
  ·exact .inl hb
  ·rw [hb]; exact .inr (.inr (.inl ⟨x, ho⟩))), q.2, rfl, htb, rfl, rfl, rfl, hP⟩
theorem rwrite {B : Nat} {w : World} {K K' : Ks} {X : Rk} {t : Tags} {m : Nat} (hm : m < 80000) (hX : RkRep B w X) (p : Pur K X t m) {fd : Int} {bv : Value} {b : List UInt8} (hs : Src w bv b) (hbl : b.length ≤ 140737488355328) {c : Nat} (h : PWrite K fd b c K') :
  Calls Tryz.prog 36 #[.pointer (some ⟨X.kb, 0, none⟩), .int .i64 fd, bv] w fun e w' => e = .returned (zck c) ∧ ROk B w X (fun X' => Pur K' X' t (m + 1)) w' := by
 have src : ∀ {W}, Below w.heap.size w W → Src W bv b := fun hW => hs.kept (Kept.of_below hW (fun _ => False)) (fun _ _ h => h)
 have pm := p.mono (Nat.le_succ m)
 obtain ⟨ba, bc, rfl⟩ := src_form hs
 rcases h with ⟨rfl, hu, rfl⟩ | ⟨k, rfl, hk, ⟨rfl, rfl, hno⟩ | ⟨htwo, hfd, hcs⟩ | ⟨htwo, hfd, hcs⟩ | ⟨b0, fl, d, P, hfd, hfl, hd, hw, hcs⟩⟩
 ·exact (rk_write_bad hX.kern fd ((p.rel.used fd).trans hu) _).mono fun e w' ⟨he, hb⟩ => ⟨he, ROk.same hX hb pm⟩
 ·have hf := p.rel.fd k
  have key : ∃ o x, X.fds k = some o ∧ X.ops o = some x ∧ x.out = false := by
   cases ho : X.fds k with
   | none =>
    rw [ho] at hf
    rcases hno with ⟨x, hx⟩ | ⟨b, fl, hx, _⟩ <;> (rw [hx] at hf; exact hf.elim)
   | some o =>
    rw [ho] at hf
    rcases hno with ⟨x, hx⟩ | ⟨b, fl, hx, hfl, hway⟩
    ·rw [hx] at hf
     obtain rfl : o = t.oi := hf
     obtain ⟨pl, h1, _⟩ := p.rel.oi
     exact ⟨_, _, rfl, h1, rfl⟩
    ·rw [hx] at hf
     obtain rfl : o = t.g b := hf
     obtain ⟨pl, h1, _⟩ := p.rel.file b fl hfl
     exact ⟨_, _, rfl, h1, decide_eq_false (fun h => h hway)⟩
  obtain ⟨o, x, ho, hx, hi⟩ := key
  exact rput hX hk ho (fun W hW hXW => (rk_put_no (hXW.opn o x hx) hi _ _).mono fun e w' ⟨he, hb⟩ => ⟨he, ROk.same hXW hb ⟨rfl, pm⟩⟩)
 ·have hf := p.rel.fd k
  rw [hfd] at hf
  cases ho : X.fds k with
  | none => rw [ho] at hf; exact hf.elim
  | some o =>
   rw [ho] at hf
   rcases (show (K.ob = K.ob ∧ o = t.o0) ∨ (K.ob = K.eb ∧ o = t.o1) from hf) with ⟨_, rfl⟩ | ⟨e, _⟩
   ·have hl0 := p.rel.out
    have hlen := p.rel.len.1
    rcases hcs with ⟨rfl, hfull, rfl⟩ | ⟨rfl, hfit, v, rfl⟩
    ·refine rput hX hk ho (fun W hW hXW => ?_)
     obtain ⟨a, cc, hv⟩ := zak hXW.s0
     have hcell : W.cell? ⟨(⟨X.n0, false, true, false, 0, true⟩ : ROp).node, 1, none⟩ = some (.slice a X.l0.length cc) := by
      rw [← hv]
      exact zaa (o := 1) hXW.c0 rfl
     exact (rk_put_full (hXW.opn _ _ p.rel.o0) rfl rfl hcell (by rw [hl0]; exact hlen) _ ba b.length bc (by rw [hl0]; exact hfull)).mono fun e w' ⟨he, hb⟩ => ⟨he, ROk.same hXW hb ⟨rfl, pm⟩⟩
    ·refine rput hX hk ho (fun W hW hXW => ?_)
     refine (rk_put_log (hXW.opn _ _ p.rel.o0) rfl rfl hXW.base hXW.c0 hXW.s0 X.R.tb _ b (src hW) (by rw [hl0]; exact hfit)).mono fun e w' hp => hXW.con0_ok hp (fun v' => ⟨rfl, pm.sim, pm.ti, pm.tg, pm.rn, ?_⟩)
     exact ⟨pm.rel.fd, pm.rel.oi, pm.rel.o0, pm.rel.o1, by show X.l0 ++ b = K.outL ++ b; rw [hl0], pm.rel.err, ⟨by show (K.outL ++ b).length ≤ 65536; rw [List.length_append]; exact hfit, pm.rel.len.2⟩, pm.rel.file, pm.rel.inj, pm.rel.off⟩
   ·exact absurd e htwo
 ·have hf := p.rel.fd k
  rw [hfd] at hf
  cases ho : X.fds k with
  | none => rw [ho] at hf; exact hf.elim
  | some o =>
   rw [ho] at hf
   rcases (show (K.eb = K.ob ∧ o = t.o0) ∨ (K.eb = K.eb ∧ o = t.o1) from hf) with ⟨e, _⟩ | ⟨_, rfl⟩
   ·exact absurd e.symm htwo
   ·have hl0 := p.rel.err
    have hlen := p.rel.len.2.1
    rcases hcs with ⟨rfl, hfull, rfl⟩ | ⟨rfl, hfit, v, rfl⟩
    ·refine rput hX hk ho (fun W hW hXW => ?_)
     obtain ⟨a, cc, hv⟩ := zak hXW.s1
     have hcell : W.cell? ⟨(⟨X.n1, false, true, false, 0, true⟩ : ROp).node, 1, none⟩ = some (.slice a X.l1.length cc) := by
      rw [← hv]
      exact zaa (o := 1) hXW.c1 rfl
     exact (rk_put_full (hXW.opn _ _ p.rel.o1) rfl rfl hcell (by rw [hl0]; exact hlen) _ ba b.length bc (by rw [hl0]; exact hfull)).mono fun e w' ⟨he, hb⟩ => ⟨he, ROk.same hXW hb ⟨rfl, pm⟩⟩
    ·refine rput hX hk ho (fun W hW hXW => ?_)
     refine (rk_put_log (hXW.opn _ _ p.rel.o1) rfl rfl hXW.base hXW.c1 hXW.s1 X.R.tb _ b (src hW) (by rw [hl0]; exact hfit)).mono fun e w' hp => hXW.con1_ok hp (fun v' => ⟨rfl, pm.sim, pm.ti, pm.tg, pm.rn, ?_⟩)
     exact ⟨pm.rel.fd, pm.rel.oi, pm.rel.o0, pm.rel.o1, pm.rel.out, by show X.l1 ++ b = K.errL ++ b; rw [hl0], ⟨pm.rel.len.1, by show (K.errL ++ b).length ≤ 65536; rw [List.length_append]; exact hfit, pm.rel.len.2.2⟩, pm.rel.file, pm.rel.inj, pm.rel.off⟩
 ·have hf := p.rel.fd k
  rw [hfd] at hf
  obtain ⟨pl, h1, hway, q0, q1, q2⟩ := p.rel.file b0 fl hfl
  cases ho : X.fds k with
  | none => rw [ho] at hf; exact hf.elim
  | some o =>
   rw [ho] at hf
   obtain rfl : o = t.g b0 := hf
   obtain ⟨r, hr, _, hrd, _⟩ := p.sim.node fl.node d hd
   have hdl := p.ti.data fl.node d hd
   have hw0 : ¬ fl.way = 0 := by omega
   have hat : (fl.op t.f pl).at r.data.length = (P : Int) := by
    unfold ROp.at
    rcases hw with ⟨hw, hp⟩ | ⟨hw, hp⟩
    ·rw [if_neg (by show ¬ decide (fl.way = 2) = true; rw [decide_eq_false (by omega)]; decide)]
     show pl = P
     rw [← q2 (by omega), hp]
    ·rw [if_pos (by show decide (fl.way = 2) = true; exact decide_eq_true hw), hrd, hp]
   refine rput hX hk ho (fun W hW hXW => ?_)
   refine (rk_put_file hXW.rrep p.rn.rb (hXW.opn _ _ h1) (decide_eq_true hw0) rfl hr (by rw [hrd]; exact hdl) (by show pl ≤ _; omega) (by show _ ≤ pl; omega) _ b (src hW) hbl).mono fun e w' hp => ?_
   rw [hat] at hp
   rcases hp.case with ⟨cc, hcc, he, hrr, hox, hcode⟩ | ⟨he, hz0, hz1, hox, R', hrr, hcase⟩
   ·have hc19 : cc = 19 ∧ 65536 < P + b.length := by omega
    rcases hcs with ⟨rfl, hfull, pos', hpos', rfl⟩ | ⟨rfl, hfit, _⟩
    ·refine ⟨by rw [he, hc19.1]; rfl, ROk.file hXW h1 hox hp.kept hrr rfl (za5.same _ _) (fun q d h1 h2 => by rw [h2] at h1; cases h1) ⟨pm.sim, pm.ti, pm.tg, pm.rn, ?_⟩⟩
     exact pm.rel.place K.T X.R hfl q0 q1 (fun h2 => by rw [hpos' (by omega)]; exact q2 h2)
    ·omega
   ·rcases hcs with ⟨rfl, hfull, _⟩ | ⟨rfl, hfit, T', hwx, rfl⟩
    ·omega
    ·have hplace : Rel { K with T := T', fl := zaz K.fl b0 { fl with pos := ((P + b.length : Nat) : Int) } } { X with R := R', ops := updO X.ops (t.g b0) (fl.op t.f ((P : Int) + b.length)) } t := p.rel.place T' R' hfl (by omega) (by omega) (fun _ => by omega)
     rcases hcase with ⟨hb0, rfl⟩ | ⟨hbp, htb, htn, hfr⟩
     ·rcases hwx with ⟨_, rfl⟩ | ⟨hb1, _⟩
      ·exact ⟨he, ROk.file hXW h1 hox hp.kept hrr rfl (za5.same _ _) (fun q d h1 h2 => by rw [h2] at h1; cases h1) ⟨pm.sim, pm.ti, pm.tg, pm.rn, hplace⟩⟩
      ·rw [hb0] at hb1
       exact absurd hb1 (by decide)
     ·rcases hwx with ⟨hb1, _⟩ | ⟨_, bv1, rfl⟩
      ·rw [hb1] at hbp
       exact absurd hbp (by decide)
      ·have hlen : (zb9 d.data P b).length ≤ 65536 := putAt_len hdl hfit
       have htn : RTurned X.R R' (t.f fl.node) r (zb9 d.data P b) := by rw [← hrd]; exact htn
       have hP : Pur { K with T := K.T.setData fl.node d bv1 (zb9 d.data P b), fl := zaz K.fl b0 { fl with pos := ((P + b.length : Nat) : Int) } } { X with R := R', ops := updO X.ops (t.g b0) (fl.op t.f ((P : Int) + b.length)) } t (m + 1) :=
        ⟨p.sim.turned (zc0 bv1 _) hd htn hr, (zc0 bv1 _).ti hd hlen p.ti, (zc0 bv1 _).tg hd p.tg, htn.rn p.rn hm hlen, hplace⟩
       refine ⟨he, ROk.file hXW h1 hox hp.kept hrr htb hfr (fun q d' hq h2 => ?_) hP⟩
       exfalso
       have hne : q ≠ t.f fl.node := fun e => by rw [e, hr] at h2; cases h2
       rw [htn.oth q hne, h2] at hq
       cases hq
end
section
theorem zdq.files {T T' : Tr} {s : ByteArray} {b : List UInt8} {add : Bool} (h : zdq T T' s b add) {n : Nat} {d : Nd} (hd : T.nd n = some d) (hdir : d.dir = false) : ∃ d', T'.nd n = some d' ∧ d'.dir = false := by
 rcases h with ⟨⟨dp, nm, i, k, di, dk, a1, a2, a3, a4, a5, a6, a7, a8, a9, a10⟩, _⟩ | ⟨l, k, d0, b1, b2, b3, b4, b5, b6⟩
 ·have h1 : n ≠ i := fun e => by rw [e, a3] at hd; cases hd; rw [hdir] at a4; cases a4
  have h2 : n ≠ k := fun e => by rw [e, a6] at hd; cases hd
  exact ⟨d, (a7.oth n h1 h2).trans hd, hdir⟩
 ·by_cases e : n = k
  ·subst e
   obtain ⟨bv, h2⟩ := b6.here
   exact ⟨_, h2, b4⟩
  ·exact ⟨d, (b6.oth n e).trans hd, hdir⟩
theorem zfd.files {T T' : Tr} {s : ByteArray} {way : Int} (h : zfd T T' s way) {n : Nat} {d : Nd} (hd : T.nd n = some d) (hdir : d.dir = false) : ∃ d', T'.nd n = some d' ∧ d'.dir = false := by
 rcases h with ⟨_, rfl⟩ | ⟨_, h⟩ | ⟨_, h⟩
 ·exact ⟨d, hd, hdir⟩
 ·exact h.files hd hdir
 ·exact h.files hd hdir
theorem zfd.leads_file {T T' : Tr} {s : ByteArray} {way : Int} (hI : TI T) (h : zfd T T' s way) (h0 : way = 0 → ∃ k, T.fileOf s = .ok k) {k : Nat} (hl : T'.leads s k) : ∃ d, T'.nd k = some d ∧ d.dir = false := by
 obtain ⟨l, hc, ha⟩ := hl
 have wr : ∀ {add}, zdq T T' s [] add → ∃ d, T'.nd k = some d ∧ d.dir = false := fun hw => by
  obtain ⟨k', d, hf, _⟩ := hw.fileAt hI
  obtain ⟨l', h1, h2⟩ := hf.path
  rw [hc] at h1
  obtain rfl := Option.some.inj h1
  rw [ha] at h2
  obtain rfl := Option.some.inj h2
  exact ⟨d, hf.nd, hf.file⟩
 rcases h with ⟨hw, rfl⟩ | ⟨_, h⟩ | ⟨_, h⟩
 ·obtain ⟨k', hk'⟩ := h0 hw
  obtain ⟨l', h1, h2⟩ := fileOf_leads hk'
  rw [hc] at h1
  obtain rfl := Option.some.inj h1
  rw [ha] at h2
  obtain rfl := Option.some.inj h2
  unfold Tr.fileOf at hk'
  cases hf : T'.find s with
  | error c => rw [hf] at hk'; cases hk'
  | ok sp =>
   rw [hf] at hk'
   dsimp only at hk'
   cases hn : sp.n with
   | none => rw [hn] at hk'; cases hk'
   | some x =>
    rw [hn] at hk'
    dsimp only at hk'
    cases hx : T'.nd x with
    | none => rw [hx] at hk'; cases hk'
    | some d =>
     rw [hx] at hk'
     dsimp only at hk'
     cases hdir : d.dir with
     | true => rw [hdir] at hk'; cases hk'
     | false =>
      rw [hdir] at hk'
      cases hk'
      exact ⟨d, hx, hdir⟩
 ·exact wr h
 ·exact wr h
theorem cOpen_read {T : Tr} {s : ByteArray} (h : T.cOpen s 0 = 0) : ∃ k, T.fileOf s = .ok k := by
 unfold Tr.cOpen at h
 rw [if_pos rfl] at h
 unfold Tr.cFile at h
 cases hf : T.fileOf s with
 | ok k => exact ⟨k, rfl⟩
 | error c =>
  rw [hf] at h
  dsimp only at h
  rcases fileOf_err hf with e | e | e <;> omega
def KOAns (E : Nat → Addr) (B : Nat) (w : World) (K : Ks) (c : Nat) (P : Tr → Nat → Prop) (way : Int) (j : Nat) (e : Ending) (w' : World) : Prop :=
 (c ≠ 0 ∧ OpnNo E w c e w') ∨ (c = 0 ∧ ∃ T' k, P T' k ∧ T'.tb = K.T.tb ∧ KOpenOld B w K T' k way j e w')
set_option maxRecDepth 100000 in
set_option maxHeartbeats 1000000 in
theorem kopen_walk {E : Nat → Addr} {B : Nat} {K : Ks} (s : ByteArray) (way : Int) (w : World) (hB : B ≤ w.heap.size) (hK : KRep B w K) {j : Nat} (hj : za3 K.fds 0 = some j) {c : Nat} {P : Tr → Nat → Prop}
  (hQ : c = 0 → ∀ T' k, P T' k → (∃ d, T'.nd k = some d ∧ d.dir = false) ∧ (∀ n d, K.T.nd n = some d → d.dir = false → ∃ d', T'.nd n = some d' ∧ d'.dir = false))
  (HP0 : Calls Tryz.prog 49 #[.pointer (some ⟨K.T.tb, 0, none⟩), .string s, .int .i64 way] w fun e w' => OAns E B w K.T c P e w') :
  Calls Tryz.prog 21 #[.pointer (some ⟨K.kb, 0, none⟩), .string s, .int .i64 way] w fun e w' => KOAns E B w K c P way j e w' := by
 have HP := hid HP0
 have HFR : Hid (Calls Tryz.prog 48 #[.pointer (some ⟨K.kb, 0, none⟩), .int .i64 0] w fun e w' => zcr w (some j) e w') := by
  have h1 := zce hK.kern 0 (by omega)
  rw [hj] at h1
  exact h1
 have hj16 : j < 16 := (zby hj).2.1
 have hji : (j : Int) < 16 := by omega
 have HKR := hid hK
 have HB := hid hB
 have HQ := hid hQ
 have hkt : w.cell? ⟨K.kb, 0, none⟩ = some (.pointer (some ⟨K.T.tb, 0, none⟩)) := by
  obtain ⟨c, h1, _, h3, _⟩ := hK.kern.cells
  exact zaa h1 h3
 clear hK hj HP0 hB hQ
 go_enter Tryz.func21, Tryz.ntmps21
 go_wp2_with fail
 refine HFR.out.mono ?_
 rintro e w0 ⟨rfl, rfl⟩
 simp only [freeV]
 go_wp2_with fail
 refine HP.out.mono ?_
 rintro e w1 (⟨hc, a, rfl, hf, hb⟩ | ⟨hc, f, k, T', rfl, hf, hof, hR, hkp, hft, htb, hp⟩)
 ·have HF : Hid (KOAns E B w0 K c P way j (.returned (.tuple #[.int .i64 0, zcb a])) w1) := .inl ⟨hc, a, rfl, hf, hb⟩
  clear hc hf hb HP HFR
  go_wp2_with fail
  go_ret2
  exact HF.out
 ·obtain ⟨q2, q3⟩ := HQ.out hc T' k hp
  have HX : Hid (KOAns E B w0 K c P way j (.returned (.tuple #[.int .i64 j, .nilIface])) ((w1.setCell ⟨K.kb, 1 + j, none⟩ (.iface 123 (.pointer (some ⟨w1.heap.size, 0, none⟩)))).alloc (.cells #[.pointer (some ⟨f, 0, none⟩), .int .i64 way, .int .i64 0] 125))) :=
   .inr ⟨hc, T', k, hp, htb, kopen_made2 (way := way) HB.out HKR.out hj16 hf hof hR htb hkp q2 hft q3⟩
  have hK1 : KAt w1 K.kb K.T.tb K.fds K.ob K.eb := HKR.out.kern.kept hkp (HKR.out.apart _ (.inl rfl))
  have hcl : w1.cell? ⟨K.kb, 1 + j, none⟩ = some (endV (K.fds j)) := hK1.fd j hj16
  have hfz : ∀ o, w1.frozen? ⟨K.kb, o, none⟩ = false := fun o => hK1.free o
  have hlt : K.kb < w1.heap.size := hK1.lt
  clear hc hf hof hR hkp hft hK1 HP HFR hp htb q2 q3
  go_wp2_with fail
  go_ret2
  exact HX.out
def POpen (K : Ks) (s : ByteArray) (way : Int) (a c : Nat) (K' : Ks) : Prop :=
 (c = 19 ∧ a = 0 ∧ za3 K.fds 0 = none ∧ K' = K) ∨ (∃ j, za3 K.fds 0 = some j ∧ K.T.cOpen s way = c ∧ ((c ≠ 0 ∧ a = 0 ∧ K' = K) ∨
  (c = 0 ∧ a = j ∧ ∃ T' k f b1, zfd K.T T' s way ∧ T'.leads s k ∧ K.fl b1 = none ∧ (∀ j x, K.fds j = some (.file x) → x ≠ b1) ∧ (∀ b fl, K.fl b = some fl → ∃ d, K.T.nd fl.node = some d) ∧ K' = K.opened T' j b1 ⟨f, way, 0, k⟩)))
theorem popen {E : Nat → Addr} {B : Nat} {w : World} {K : Ks} {X : Rk} {t : Tags} {m : Nat} (hE : Ctx E B w) (hB : B ≤ w.heap.size) (hK : KRep B w K) (p : Pur K X t m) (s : ByteArray) (hs : s.size ≤ 9223372036854775807) (way : Int) :
  Calls Tryz.prog 21 #[.pointer (some ⟨K.kb, 0, none⟩), .string s, .int .i64 way] w fun e w' => ∃ a c x, e = .returned (.tuple #[.int .i64 (a : Nat), x]) ∧ ErrV E w' c x ∧ POk B w K (POpen K s way a c) w' := by
 cases hj : za3 K.fds 0 with
 | none => exact (kopen_full hE.env hK.kern hj s way).mono fun e w' ⟨a, he, hf, hb⟩ => ⟨0, 19, _, he, .inr ⟨by decide, by decide, a, _, .inr ⟨rfl, hf⟩⟩, POk.same hK hb (.inl ⟨rfl, rfl, hj, rfl⟩)⟩
 | some j =>
  refine (kopen_walk s way w hB hK hj (fun hc T' k ⟨h1, h2⟩ => ⟨h1.leads_file p.ti (fun h0 => cOpen_read (by rw [← h0]; exact hc)) h2, fun n d hn hd => h1.files hn hd⟩) (open_full s way w hE hK.tree p.ti p.num hs)).mono fun e w' hx => ?_
  rcases hx with ⟨hc, a, he, hf, hb⟩ | ⟨hc, T', k, ⟨h1, h2⟩, htb, f, b, he, hf, hb, h3, h4, h5⟩
  ·exact ⟨0, _, _, he, .inr ⟨hc, cOpen_le _ _ _, a, _, .inl ⟨rfl, hf⟩⟩, POk.same hK hb (.inr ⟨j, hj, rfl, .inl ⟨hc, rfl, rfl⟩⟩)⟩
  ·refine ⟨j, 0, _, he, .inl ⟨rfl, rfl⟩, ⟨_, h3, h4, h5, rfl, htb, .inr ⟨j, hj, hc, .inr ⟨rfl, rfl, T', k, f, b, h1, h2, hK.no_fl hb, hK.fd_old hb, fun b fl hbl => ?_, rfl⟩⟩⟩⟩
   obtain ⟨d, hd, _⟩ := (hK.file b fl hbl).2.2
   exact ⟨d, hd⟩
theorem Sim.step_wrote_old {T T' : Tr} {R R' : RT} {f : Nat → Nat} (hS : Sim T R f) (hT : TW T) {s : ByteArray} {b : List UInt8} {add : Bool} (hP : zdq T T' s b add) (h : zd9 R R' s b add) : ∃ f', Sim T' R' f' ∧ ∀ n d, T.nd n = some d → f' n = f n := by
 rcases hP with ⟨hP, _⟩ | ⟨l, k, d, b1, b2, b3, b4, b5, b6⟩
 ·rcases h with ⟨l, i, m, ri, rk, hc, hd, h, hn, hb, h2, h3, h4, h5, h6, h7⟩ | ⟨l, m, r, hc, hd, h, hr, hrd, hg, _⟩
  ·obtain ⟨dp, nm, i, k, di, dk, a1, a2, a3, a4, a5, a6, a7, a8, a9, _⟩ := hP
   obtain ⟨rfl, rfl, hp⟩ := hS.up a1 hc a2 h2
   refine ⟨_, hS.grown hT a7 a2 a3 a4 a5 a6 hp h5 h3 h4 ⟨h6.trans a8.symm, h7.trans a9.symm⟩, fun n d hn => zee _ (fun e => ?_)⟩
   rw [e, a6] at hn
   cases hn
  ·exfalso
   obtain ⟨dp, nm, i, k, di, dk, a1, a2, a3, a4, a5, _⟩ := hP
   rw [a1] at hc
   obtain rfl := Option.some.inj hc
   obtain ⟨k', _, q1, _⟩ := hS.at_some hT (zay a1).1 h hr
   rw [Tr.at_snoc, a2] at q1
   have q1 : T.hop i nm = some k' := q1
   rw [Tr.hop_dir a3 a4, a5] at q1
   cases q1
 ·rcases h with ⟨l', i, m, ri, rk, hc, hd, h, _⟩ | ⟨l', m, r, hc, hd, h, hr, hrd, hg, h2⟩
  ·exfalso
   rw [b1] at hc
   obtain rfl := Option.some.inj hc
   rw [(hS.at_none (zay b1).1).1 h] at b2
   cases b2
  ·rw [b1] at hc
   obtain rfl := Option.some.inj hc
   obtain ⟨k', d', q1, q2, q3, q4, q5, _⟩ := hS.at_some hT (zay b1).1 h hr
   rw [b2] at q1
   obtain rfl := Option.some.inj q1
   rw [b3] at q3
   obtain rfl := Option.some.inj q3
   subst q2
   rw [q5] at h2
   exact ⟨f, hS.turned b6 b3 h2 hr, fun _ _ _ => rfl⟩
theorem zd9.tick {R R' : RT} {s : ByteArray} {b : List UInt8} {add : Bool} (h : zd9 R R' s b add) {q : Nat} {d : RNd} (hq : R'.nd q = some d) (h0 : R.nd q = none) : d.tick = R.now + 1 := by
 rcases h with ⟨l, i, m, ri, rk, hc, hd, h, hn, hb, h2, h3, h4, h5, h6, h7⟩ | ⟨l, m, r, hc, hd, h, hr, hrd, hg, h2⟩
 ·by_cases e1 : q = i
  ·rw [e1, h3] at h0; cases h0
  ·by_cases e2 : q = m
   ·rw [e2, h5.here] at hq
    cases hq
    exact h5.tick
   ·rw [h5.oth q e1 e2, h0] at hq
    cases hq
 ·by_cases e : q = m
  ·rw [e, hr] at h0; cases h0
  ·rw [h2.oth q e, h0] at hq
   cases hq
theorem leads_eq {T : Tr} {p : ByteArray} {q k : Nat} (h : T.leads p q) (h' : ∃ l, zbh p = some l ∧ T.at l = some k) : q = k := by
 obtain ⟨l, h1, h2⟩ := h
 obtain ⟨l', h3, h4⟩ := h'
 rw [h1] at h3
 cases h3
 rw [h2] at h4
 exact Option.some.inj h4
theorem Sim.cOpen_err {T : Tr} {R : RT} {f : Nat → Nat} (hS : Sim T R f) (hT : TW T) {s : ByteArray} {way : Int} {c : Nat} (h : OErr R s way c) : T.cOpen s way = c := by
 unfold Tr.cOpen
 rcases h with ⟨rfl, g0, g1, g2⟩ | ⟨rfl, g⟩ | ⟨rfl, g⟩ | ⟨rfl, g⟩
 ·rw [if_neg g0, if_neg g1, if_neg g2]
 ·rw [if_pos rfl]
  unfold Tr.cFile
  rw [hS.no_file hT g]
 ·rw [if_neg (by decide), if_pos rfl]
  exact hS.no_write hT g
 ·rw [if_neg (by decide), if_neg (by decide), if_pos rfl]
  exact hS.no_write hT g
theorem Sim.cOpen_ok {T : Tr} {R R' : RT} {f : Nat → Nat} (hS : Sim T R f) (hT : TW T) {s : ByteArray} {way : Int} {k : Nat} {d : RNd} (hif : ze5 R' s k d) (h : ODone R R' s way) : T.cOpen s way = 0 := by
 unfold Tr.cOpen
 rcases h with ⟨rfl, rfl⟩ | ⟨rfl, g⟩ | ⟨rfl, g⟩
 ·rw [if_pos rfl]
  unfold Tr.cFile
  obtain ⟨k', d', g1, _⟩ := hS.is_file hT hif
  rw [g1]
 ·rw [if_neg (by decide), if_pos rfl]
  exact hS.wrote hT g
 ·rw [if_neg (by decide), if_neg (by decide), if_pos rfl]
  exact hS.wrote hT g
theorem open_step {T T' : Tr} {R R' : RT} {f : Nat → Nat} {m : Nat} (hm : m < 80000) (hS : Sim T R f) (hI : TI T) (hG : TG T) (hN : RN R m) {s : ByteArray} {way : Int} (hP : zfd T T' s way) (h : ODone R R' s way) :
  (∃ f', Sim T' R' f' ∧ ∀ n d, T.nd n = some d → f' n = f n) ∧ TI T' ∧ TG T' ∧ RN R' (m + 1) ∧ (∀ q d, R'.nd q = some d → R.nd q = none → d.tick = R.now + 1) := by
 have wr : ∀ {add}, zdq T T' s [] add → zd9 R R' s [] add → (∃ f', Sim T' R' f' ∧ ∀ n d, T.nd n = some d → f' n = f n) ∧ TI T' ∧ TG T' ∧ RN R' (m + 1) ∧ (∀ q d, R'.nd q = some d → R.nd q = none → d.tick = R.now + 1) := fun {add} hw hr => by
  have hmo : MOk R R' (oWrite s [] add) := by
   cases add
   ·exact .inr (.inl ⟨rfl, hr⟩)
   ·exact .inr (.inr (.inl ⟨rfl, hr⟩))
  exact ⟨hS.step_wrote_old hI.tw hw hr, hw.ti hI, hw.tg hG, hmo.rn hN hm, fun q d h1 h2 => hr.tick h1 h2⟩
 rcases hP with ⟨rfl, rfl⟩ | ⟨rfl, hP⟩ | ⟨rfl, hP⟩
 ·rcases h with ⟨_, rfl⟩ | ⟨h, _⟩ | ⟨h, _⟩
  ·exact ⟨⟨f, hS, fun _ _ _ => rfl⟩, hI, hG, hN.mono (Nat.le_succ _), fun q d h1 h2 => by rw [h2] at h1; cases h1⟩
  ·cases h
  ·cases h
 ·rcases h with ⟨h, _⟩ | ⟨_, h⟩ | ⟨h, _⟩
  ·cases h
  ·exact wr hP h
  ·cases h
 ·rcases h with ⟨h, _⟩ | ⟨h, _⟩ | ⟨_, h⟩
  ·cases h
  ·cases h
  ·exact wr hP h
theorem ropen {B : Nat} {w : World} {K K' : Ks} {X : Rk} {t : Tags} {m : Nat} (hm : m < 80000) (hX : RkRep B w X) (p : Pur K X t m) {s : ByteArray} (hs : s.size ≤ 9223372036854775807) {way : Int} {a c : Nat} (h : POpen K s way a c K') :
  Calls Tryz.prog 30 #[.pointer (some ⟨X.kb, 0, none⟩), .string s, .int .i64 way] w fun e w' => e = .returned (.tuple #[.int .i64 (a : Nat), zck c]) ∧ ROk B w X (fun X' => ∃ t', Pur K' X' t' (m + 1)) w' := by
 have pm := p.mono (Nat.le_succ m)
 rcases h with ⟨rfl, rfl, hn, rfl⟩ | ⟨j, hj, hcode, hcs⟩
 ·exact (rk_open_full hX.kern s way (p.rel.free_none hn)).mono fun e w' ⟨he, hb⟩ => ⟨he, ROk.same hX hb ⟨t, pm⟩⟩
 ·have hl := p.rn.len
  have hnw := p.rn.now
  have no : ∀ {q : Nat} {c : Array Value} {t : TypeId}, w.heap[q]? = some (.cells c t (0, 0)) → t ≠ 73 → t ≠ 70 → t ≠ 41 → t ≠ 5 → t ≠ 47 → ¬ (X.R.foot q ∨ q = X.kb) := fun {q c t} hq h1 h2 h3 h4 h5 hf => by
   rcases hf with hf | rfl
   ·exact hX.rrep.not_foot hq h1 h2 h3 h4 hf
   ·obtain ⟨c', hc'⟩ := hX.kern.obj
    exact zac hq hc' h5 rfl
  have up : ∀ q, (X.R.foot q ∨ q = X.kb) → X.foot q := fun q hq => by
   rcases hq with hq | hq
   ·exact .inl hq
   ·rw [hq]; exact .inr (.inl rfl)
  refine (rk_open hX.kern s way (p.rel.free_some hj) hX.rrep p.rn.rb (by omega) (by omega) hs (fun n d hn => by have := p.rn.data n d hn; omega)).mono fun e w' hp => ?_
  rcases hp.case with ⟨cc, hcc, he, hrr, hk, herr⟩ | ⟨k', d, R', o, he, hk, hop, hoz, hrr, htb, hfr, hif, hdo⟩
  ·have hce := p.sim.cOpen_err p.ti.tw herr
   rw [hcode] at hce
   subst hce
   rcases hcs with ⟨_, rfl, rfl⟩ | ⟨h0, _⟩
   ·refine ⟨by rw [he, zfv hcc]; rfl, ?_⟩
    have q := hX.turn (X := X) (F := fun q => X.R.foot q ∨ q = X.kb) hp.kept (fun q hq => hq.elim .inl (fun h => .inr (.inl h))) hrr (za5.same _ _) (fun q d h1 h2 => by rw [h2] at h1; cases h1) hk (ops' := X.ops) (fun o x hx => ⟨(hp.kept.block o (zab (hX.opn o x hx)) (no (hX.opn o x hx) (by decide) (by decide) (by decide) (by decide) (by decide))).trans (hX.opn o x hx), hX.low.2.2.2.2 o x hx⟩)
    exact ⟨X, q.1, hp.kept.mono up, fun q hq => .inl hq, rfl, rfl, rfl, rfl, t, pm⟩
   ·exact absurd h0 hcc
  ·have hce := p.sim.cOpen_ok p.ti.tw hif hdo
   rw [hcode] at hce
   subst hce
   rcases hcs with ⟨h0, _⟩ | ⟨_, rfl, T', k, f, b1, hpo, hld, hfb, hfd, hno, rfl⟩
   ·exact absurd rfl h0
   ·obtain ⟨⟨f', hsim, hold⟩, hti, htg, hrn, htick⟩ := open_step hm p.sim p.ti p.tg p.rn hpo hdo
    obtain ⟨k2, d2, j1, j2, j3, j4, j5, j6, j7⟩ := hsim.is_file hti.tw hif
    have hkk := leads_eq hld j7
    subst hkk
    have hway := hdo.way
    have eop : (⟨f, way, 0, k⟩ : Fl).op f' 0 = opened k' way := by
     unfold Fl.op opened
     rw [j2]
    have hr := p.rel.add T' R' f' b1 ⟨f, way, 0, k⟩ o a hfb hfd (hX.no_op hoz) (fun b fl hb => by obtain ⟨d, hd⟩ := hno b fl hb; exact hold _ d hd) hway rfl
    rw [eop] at hr
    have hk' : RKAt w' X.kb R'.tb (za6 X.fds a (some o)) X.n0 X.n1 := by rw [htb]; exact hk
    have hnow := p.num.clk0
    have q := hX.turn (X := X) (F := fun q => X.R.foot q ∨ q = X.kb) hp.kept (fun q hq => hq.elim .inl (fun h => .inr (.inl h))) hrr hfr (fun q d h1 h2 => .inl (by rw [htick q d h1 h2, p.sim.now]; omega)) hk' (ops' := updO X.ops o (opened k' way)) (fun o' x hx => by
     by_cases e : o' = o
     ·subst e
      rw [zc2] at hx
      cases hx
      exact ⟨hop, Nat.le_trans hX.base hoz⟩
     ·rw [zb7 _ _ e] at hx
      exact ⟨(hp.kept.block o' (zab (hX.opn o' x hx)) (no (hX.opn o' x hx) (by decide) (by decide) (by decide) (by decide) (by decide))).trans (hX.opn o' x hx), hX.low.2.2.2.2 o' x hx⟩)
    exact ⟨he, ⟨_, q.1, hp.kept.mono up, q.2, rfl, htb, rfl, rfl, { t with f := f', g := upd t.g b1 o }, ⟨hsim, hti, htg, hrn, hr⟩⟩⟩
def PRem (K : Ks) (s : ByteArray) (c : Nat) (K' : Ks) : Prop := K.T.cRemove s = c ∧ ((c ≠ 0 ∧ K' = K) ∨ (c = 0 ∧ ∃ T', zds K.T T' s ∧ K' = { K with T := T' }))
theorem prem {E : Nat → Addr} {B : Nat} {w : World} {K : Ks} {X : Rk} {t : Tags} {m : Nat} (hE : Ctx E B w) (hK : KRep B w K) (p : Pur K X t m) (s : ByteArray) (hs : s.size ≤ 9223372036854775807) :
  Calls Tryz.prog 29 #[.pointer (some ⟨K.T.tb, 0, none⟩), .string s] w fun e w' => ∃ c x, e = .returned x ∧ ErrV E w' c x ∧ POk B w K (PRem K s c) w' := by
 refine (remove_any s w hE hK.tree p.ti p.num hs).mono fun e w' hx => ?_
 rcases hx with ⟨hc, a, he, hf, hb⟩ | ⟨hc, he, T', hR, hk, hft, htb, hp⟩
 ·exact ⟨_, _, he, .inr ⟨hc, cRemove_le _ _, a, _, .inl ⟨rfl, hf⟩⟩, POk.same hK hb ⟨rfl, .inl ⟨hc, rfl⟩⟩⟩
 ·refine ⟨0, _, he, .inl ⟨rfl, rfl⟩, ⟨_, hK.setTree hR htb hk hft (fun n d hn hd => ?_), hk.mono (fun q hq => .inr hq), fun q hq => ?_, rfl, htb, hc, .inr ⟨rfl, T', hp, rfl⟩⟩⟩
  ·obtain ⟨d', h1, h2, _⟩ := hp.file hn hd
   exact ⟨d', h1, h2⟩
  ·rcases hq with hq | hq
   ·exact .inl (.inl hq)
   ·exact (hft q hq).imp .inr id
theorem zea.tick {R R' : RT} {s : ByteArray} (h : zea R R' s) {q : Nat} {d : RNd} (hq : R'.nd q = some d) (h0 : R.nd q = none) : False := by
 obtain ⟨l, k, d', i, ri, hc, hd, h0', h, hr, hk, h2, h3, h4⟩ := h
 by_cases e : q = i
 ·rw [e, h3] at h0; cases h0
 ·rw [h4.oth q e, h0] at hq
  cases hq
theorem rrem {B : Nat} {w : World} {K K' : Ks} {X : Rk} {t : Tags} {m : Nat} (hm : m < 80000) (hX : RkRep B w X) (p : Pur K X t m) {s : ByteArray} (hs : s.size ≤ 9223372036854775807) {c : Nat} (h : PRem K s c K') :
  Calls Tryz.prog 37 #[.pointer (some ⟨X.R.tb, 0, none⟩), .string s] w fun e w' => e = .returned (zck c) ∧ ROk B w X (fun X' => Pur K' X' t (m + 1)) w' := by
 obtain ⟨hcode, hcs⟩ := h
 refine (ref_remove s w hX.rrep p.rn.rb hs).mono fun e w' hp => ?_
 have no : ∀ {q : Nat} {c : Array Value} {t : TypeId}, w.heap[q]? = some (.cells c t (0, 0)) → t ≠ 73 → t ≠ 70 → t ≠ 41 → t ≠ 5 → ¬ X.R.foot q := fun {q c t} hq h1 h2 h3 h4 hf => hX.rrep.not_foot hq h1 h2 h3 h4 hf
 have hk0 : RKAt w' X.kb X.R.tb X.fds X.n0 X.n1 := by
  obtain ⟨c, hc⟩ := hX.kern.obj
  exact hX.kern.kept hp.kept (no hc (by decide) (by decide) (by decide) (by decide))
 have hops : ∀ o x, X.ops o = some x → zbi w' o x ∧ B ≤ o := fun o x hx => ⟨(hp.kept.block o (zab (hX.opn o x hx)) (no (hX.opn o x hx) (by decide) (by decide) (by decide) (by decide))).trans (hX.opn o x hx), hX.low.2.2.2.2 o x hx⟩
 rcases hp.parts with ⟨cc, hcc, he, hrr, hno⟩ | ⟨he, R', hrr, htb, hfr, hdo⟩
 ·have hce := p.sim.no_remove p.ti.tw hno
  rw [hcode] at hce
  subst hce
  rcases hcs with ⟨_, rfl⟩ | ⟨h0, _⟩
  ·have q := hX.turn (X := X) (F := X.R.foot) hp.kept (fun q hq => .inl hq) hrr (za5.same _ _) (fun q d h1 h2 => by rw [h2] at h1; cases h1) hk0 (ops' := X.ops) hops
   exact ⟨by rw [he, zfv hcc], ⟨X, q.1, hp.kept.mono (fun q hq => .inl hq), fun q hq => .inl hq, rfl, rfl, rfl, rfl, p.mono (Nat.le_succ m)⟩⟩
  ·exact absurd h0 hcc
 ·have hce := p.sim.removed p.ti.tw hdo
  rw [hcode] at hce
  subst hce
  rcases hcs with ⟨h0, _⟩ | ⟨_, T', hpr, rfl⟩
  ·exact absurd rfl h0
  ·have hk' : RKAt w' X.kb R'.tb X.fds X.n0 X.n1 := by rw [htb]; exact hk0
   have q := hX.turn (X := X) (F := X.R.foot) hp.kept (fun q hq => .inl hq) hrr hfr (fun q d h1 h2 => (hdo.tick h1 h2).elim) hk' (ops' := X.ops) hops
   have hmo : MOk X.R R' (oRemove s) := .inr (.inr (.inr (.inl ⟨rfl, hdo⟩)))
   exact ⟨he, ⟨_, q.1, hp.kept.mono (fun q hq => .inl hq), q.2, rfl, htb, rfl, rfl, p.sim.step_rem p.ti.tw hpr hdo, hpr.ti p.ti, hpr.tg p.ti p.tg, hmo.rn p.rn hm, ⟨p.rel.fd, p.rel.oi, p.rel.o0, p.rel.o1, p.rel.out, p.rel.err, p.rel.len, p.rel.file, p.rel.inj, p.rel.off⟩⟩⟩
end
end Go.Proofs.YteeeaeiafdgpkaaGreatDoor
