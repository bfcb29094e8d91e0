/-
 The console of a kern: a write to an output, a read of the input; reads and writes through descriptors. (Written by wip/gen/gen_kcons.py.)
-/
import Derived.Test.YteeeaeiafdgpkaaGreatDoorKFileA
import Derived.Maps.AppendAt
import Derived.DataElems
namespace Go.Proofs.YteeeaeiafdgpkaaGreatDoor
open Go Go.RowKit
open Go.Lib (hid)
theorem zey {w : World} {ops : Array Oper} {rest : List Oper} {o : Oper} {a : Act} {Q : Exit → Act → World → Prop} (hgd : o.guard = none) (s x : Operand)
  (ho : o.op = .call { callee := .builtin .append, args := #[s, x], argTypes := #[28, 28] })
  (base : Nat) (v : Value) (n : Nat) (xs : List Value) (hs : a.eval s = v) (hown : w.ownsRow base 5 1 v n xs)
  (sv : Value) (l : List UInt8) (hx : a.eval x = sv) (hl : Src w sv l) (hn : n + l.length ≤ 140737488355328) (hbase : base ≤ w.heap.size)
  (h : ∀ v' w', w'.ownsRow base 5 1 v' (n + l.length) (xs ++ u8s l) → w.grownBy w' v.ownBlock → (v'.ownBlock = v.ownBlock ∨ v'.ownBlock = some w.heap.size) → wpList Tryz.prog ops Q rest (a.put o.dst v') w') : wpList Tryz.prog ops Q (o :: rest) a w := by
 obtain ⟨i, hi, hz0, hz1, hz2⟩ := info_parts infoU8
 rcases hl with ⟨rfl, rfl⟩ | ⟨ad, c, rfl, _, hcell⟩
 ·refine wpList_append_own_none hgd s x _ ho base _ i 1 Tryz.underlying28 hi v n xs hs hown hx (h v w ?_ ?_ (.inl rfl))
  ·simpa [u8s] using hown
  ·exact ⟨rfl, rfl, rfl, Nat.le_refl _, fun _ _ _ => rfl⟩
 ·refine Go.wpList_append_own_at w hgd s x _ ho base _ i (.int .u8 0) 1 1 Tryz.underlying28 hi hz0 hz1 hz2 rfl (by decide) v n xs hs hown ad l.length c (u8s l) hx (by simp [u8s]) ?_ ?_ (by unfold maxLen; omega) (by omega) hbase (fun v' w' h1 h2 _ h3 => h v' w' h1 h2 h3)
  ·intro j u hu
   have hj : j < l.length := by
    have := (List.getElem?_eq_some_iff.1 hu).1
    simpa [u8s] using this
   have h1 := hcell j hj
   have : u = .int .u8 l[j].toNat := by
    unfold u8s at hu
    rw [List.getElem?_map, List.getElem?_eq_getElem hj] at hu
    simpa using hu.symm
   rw [this]
   exact h1
  ·intro u hu
   unfold u8s at hu
   obtain ⟨y, _, rfl⟩ := List.mem_map.1 hu
   rfl
def OnOrNew (w : World) (v v' : Value) : Prop := v'.ownBlock = v.ownBlock ∨ ∃ r, v'.ownBlock = some r ∧ w.heap.size ≤ r
def OWPost (B : Nat) (w : World) (ob : Nat) (ov : Value) (l : List UInt8) (e : Ending) (w' : World) : Prop :=
 ∃ v, e = .returned .nilIface ∧ w'.heap[ob]? = some (.cells #[v] 59 (0, 0)) ∧ w'.ownsRow B 5 1 v l.length (u8s l) ∧ OnOrNew w ov v ∧ Kept (fun x => x = ob ∨ ov.ownBlock = some x) w w'
set_option maxRecDepth 100000 in
set_option maxHeartbeats 1000000 in
theorem owrite_ok {B : Nat} (ob : Nat) (oa : Option Addr) (oc : Nat) (ol : List UInt8) (ba : Option Addr) (bc : Nat) (b : List UInt8) (w : World) (hB : B ≤ w.heap.size) (h0 : w.heap[ob]? = some (.cells #[.slice oa ol.length oc] 59 (0, 0)))
  (hrow : w.ownsRow B 5 1 (.slice oa ol.length oc) ol.length (u8s ol)) (hb : Src w (.slice ba b.length bc) b) (hl : ol.length + b.length ≤ 65536) :
  Calls Tryz.prog 172 #[.pointer (some ⟨ob, 0, none⟩), .slice ba b.length bc] w fun e w' => OWPost B w ob (.slice oa ol.length oc) (ol ++ b) e w' := by
 have g0 : w.cell? ⟨ob, 0, none⟩ = some (.slice oa ol.length oc) := zaa h0 rfl
 have hli : (ol.length : Int) + b.length ≤ 65536 := by omega
 have HR := hid hrow
 have HS := hid hb
 have H0 := hid h0
 clear hrow hb h0
 go_enter Tryz.func172, Tryz.ntmps172
 go_wp2_with (at_builtin; refine zey rfl _ _ rfl B (.slice oa ol.length oc) ol.length (u8s ol) rfl HR.out (.slice ba b.length bc) b rfl HS.out (by omega) hB ?_)
 intro v w1 hown hgrow hat
 obtain ⟨va, vc, rfl⟩ := zak hown
 have hne : ∀ r, (Value.slice oa ol.length oc).ownBlock = some r → r ≠ ob := fun r hr => by
  obtain ⟨c, hc⟩ := zbd HR.out hr
  exact zac hc H0.out (by decide)
 have H1 : Hid (w1.heap[ob]? = some (.cells #[.slice oa ol.length oc] 59 (0, 0))) := (hgrow.block ob (zab H0.out) (fun e => hne ob e.symm rfl)).trans H0.out
 have g1 : w1.cell? ⟨ob, 0, none⟩ = some (.slice oa ol.length oc) := zaa H1.out rfl
 have gf : w1.frozen? ⟨ob, 0, none⟩ = false := zah H1.out 0
 have HFIN : Hid (OWPost B w ob (.slice oa ol.length oc) (ol ++ b) (.returned .nilIface) (w1.setCell ⟨ob, 0, none⟩ (.slice va (ol.length + b.length) vc))) := by
  refine ⟨_, rfl, zaj H1.out 0 _, ?_, ?_, (((Kept.refl (fun x => x = ob ∨ (Value.slice oa ol.length oc).ownBlock = some x) w).grown hgrow (fun k hk => .inl (.inr hk))).setCell (p := ⟨ob, 0, none⟩) (.inl (.inl rfl)) _)⟩
  ·rw [List.length_append, zbw]
   refine zai hown (Kept.setCell (F := fun x => x = ob) (Kept.refl _ _) (.inl rfl) _) (fun r hr he => ?_)
   obtain ⟨c, hc⟩ := zbd hown hr
   exact zac hc H1.out (by decide) he
  ·rcases hat with h | h
   ·exact .inl h
   ·exact .inr ⟨_, h, Nat.le_refl _⟩
 clear hown hgrow hat hne HR HS
 go_wp2_with fail
 go_ret
 exact HFIN.out
theorem KRep.setOut {B : Nat} {w w' : World} {K : Ks} (h : KRep B w K) (hB : B ≤ w.heap.size) {v : Value} {l : List UInt8} (h1 : w'.heap[K.ob]? = some (.cells #[v] 59 (0, 0))) (h2 : w'.ownsRow B 5 1 v l.length (u8s l))
  (h3 : OnOrNew w K.outV v) (k : Kept (fun x => x = K.ob ∨ K.outV.ownBlock = some x) w w') : KRep B w' { K with outV := v, outL := l } ∧ (∀ x, ({ K with outV := v, outL := l } : Ks).foot x → K.foot x ∨ w.heap.size ≤ x) := by
 have hF : ∀ x, (x = K.ob ∨ K.outV.ownBlock = some x) → K.own x := fun x hx => by
  rcases hx with rfl | hx
  ·exact (.inr (.inr (.inl rfl)))
  ·exact (.inr (.inr (.inr (.inr (.inr (.inl hx))))))
 have own : ∀ x, ({ K with outV := v, outL := l } : Ks).own x → K.own x ∨ w.heap.size ≤ x := by
  rintro x (h' | h' | h' | h' | h' | h' | h' | h' | h')
  ·exact .inl (.inl h')
  ·exact .inl (.inr (.inl h'))
  ·exact .inl (.inr (.inr (.inl h')))
  ·exact .inl (.inr (.inr (.inr (.inl h'))))
  ·exact .inl (.inr (.inr (.inr (.inr (.inl h')))))
  ·rcases h3 with h4 | ⟨r, h4, h5⟩
   ·exact .inl (.inr (.inr (.inr (.inr (.inr (.inl (h4.symm.trans h')))))))
   ·obtain rfl := Option.some.inj (h4.symm.trans h'); exact .inr h5
  ·exact .inl (.inr (.inr (.inr (.inr (.inr (.inr (.inl h')))))))
   
  ·exact .inl (.inr (.inr (.inr (.inr (.inr (.inr (.inr (.inl h'))))))))
  ·exact .inl (.inr (.inr (.inr (.inr (.inr (.inr (.inr (.inr h'))))))))
 have row : ∀ r, K.outV.ownBlock = some r → ∃ c, w.heap[r]? = some (.cells c 5 (0, 0)) := fun r hr => zbd h.outS hr
 have ne : ∀ {x : Nat} {c : Array Value} {t : TypeId}, w.heap[x]? = some (.cells c t (0, 0)) → t ≠ 59 → t ≠ 5 → ¬ (x = K.ob ∨ K.outV.ownBlock = some x) := fun {x c t} hx ho hu hf => by
  rcases hf with he | he
  ·exact zac hx h.out ho he
  ·obtain ⟨c', hc'⟩ := row _ he
   exact zac hx hc' hu rfl
 obtain ⟨ck, hk1, _⟩ := h.kern.cells
 refine ⟨⟨h.kern.kept k (ne hk1 (by decide) (by decide)), h.tree.kept k (fun x hx hf => h.apart x (hF x hf) hx), fun x hx => ?_, fun x hx hf => ?_, (k.block _ (zab h.inp) (ne h.inp (by decide) (by decide))).trans h.inp, h.inS.kept k (fun r hr hf => ?_), fun r hr => ?_, ?_, ?_, ?_, ?_, h.two, fun r hr => ?_, fun r hr => ?_, fun r hr => ?_, fun x f hf => ⟨?_, ?_, (h.file x f hf).2.2⟩, h.goodFds⟩, fun x hx => ?_⟩
 ·rcases own x hx with h4 | h4
  ·exact h.low x h4
  ·exact Nat.le_trans hB h4
 ·rcases own x hx with h4 | h4
  ·exact h.apart x h4 hf
  ·exact absurd (h.tree.lt hf) (by omega)
 ·obtain ⟨c, hc⟩ := h.inT r hr
  rcases hf with he | he
  ·exact zac hc h.out (by decide) he
  ·exact h.rows2 r he hr
 ·obtain ⟨c, hc⟩ := h.inT r hr
  refine ⟨c, (k.block r (zab hc) (fun hf => ?_)).trans hc⟩
  rcases hf with he | he
  ·exact zac hc h.out (by decide) he
  ·exact h.rows2 r he hr
 ·exact h1
 ·exact h2
 ·refine (k.block _ (zab h.err) (fun hf => ?_)).trans h.err
  rcases hf with he | he
  ·exact h.two he.symm
  ·obtain ⟨c, hc⟩ := row _ he
   exact zac h.err hc (by decide) rfl
 ·refine zai h.errS k (fun r hr hf => ?_)
  obtain ⟨c, hc⟩ := zbd h.errS hr
  rcases hf with he | he
  ·exact zac hc h.out (by decide) he
  ·exact h.rows1 r he hr
 ·rcases h3 with h4 | ⟨q, h4, h5⟩
  ·exact h.rows1 r (h4.symm.trans hr)
  ·intro he
   obtain rfl := Option.some.inj (h4.symm.trans hr)
   have := (h.errS.lt _ he).2
   omega
 ·rcases h3 with h4 | ⟨q, h4, h5⟩
  ·exact h.rows2 r (h4.symm.trans hr)
  ·intro he
   obtain rfl := Option.some.inj (h4.symm.trans hr)
   obtain ⟨c, hc⟩ := h.inT _ he
   have := zab hc
   omega
 ·exact h.rows3 r hr
 ·exact (k.block _ (zab (h.file x f hf).1) (ne (h.file x f hf).1 (by decide) (by decide))).trans (h.file x f hf).1
 ·exact (k.block _ (zab (h.file x f hf).2.1) (ne (h.file x f hf).2.1 (by decide) (by decide))).trans (h.file x f hf).2.1
 ·rcases hx with hx | hx
  ·rcases own x hx with h4 | h4
   ·exact .inl (.inl h4)
   ·exact .inr h4
  ·exact .inl (.inr hx)
theorem KRep.setErr {B : Nat} {w w' : World} {K : Ks} (h : KRep B w K) (hB : B ≤ w.heap.size) {v : Value} {l : List UInt8} (h1 : w'.heap[K.eb]? = some (.cells #[v] 59 (0, 0))) (h2 : w'.ownsRow B 5 1 v l.length (u8s l))
  (h3 : OnOrNew w K.errV v) (k : Kept (fun x => x = K.eb ∨ K.errV.ownBlock = some x) w w') : KRep B w' { K with errV := v, errL := l } ∧ (∀ x, ({ K with errV := v, errL := l } : Ks).foot x → K.foot x ∨ w.heap.size ≤ x) := by
 have hF : ∀ x, (x = K.eb ∨ K.errV.ownBlock = some x) → K.own x := fun x hx => by
  rcases hx with rfl | hx
  ·exact (.inr (.inr (.inr (.inl rfl))))
  ·exact (.inr (.inr (.inr (.inr (.inr (.inr (.inl hx)))))))
 have own : ∀ x, ({ K with errV := v, errL := l } : Ks).own x → K.own x ∨ w.heap.size ≤ x := by
  rintro x (h' | h' | h' | h' | h' | h' | h' | h' | h')
  ·exact .inl (.inl h')
  ·exact .inl (.inr (.inl h'))
  ·exact .inl (.inr (.inr (.inl h')))
  ·exact .inl (.inr (.inr (.inr (.inl h'))))
  ·exact .inl (.inr (.inr (.inr (.inr (.inl h')))))
  ·exact .inl (.inr (.inr (.inr (.inr (.inr (.inl h'))))))
   
  ·rcases h3 with h4 | ⟨r, h4, h5⟩
   ·exact .inl (.inr (.inr (.inr (.inr (.inr (.inr (.inl (h4.symm.trans h'))))))))
   ·obtain rfl := Option.some.inj (h4.symm.trans h'); exact .inr h5
  ·exact .inl (.inr (.inr (.inr (.inr (.inr (.inr (.inr (.inl h'))))))))
  ·exact .inl (.inr (.inr (.inr (.inr (.inr (.inr (.inr (.inr h'))))))))
 have row : ∀ r, K.errV.ownBlock = some r → ∃ c, w.heap[r]? = some (.cells c 5 (0, 0)) := fun r hr => zbd h.errS hr
 have ne : ∀ {x : Nat} {c : Array Value} {t : TypeId}, w.heap[x]? = some (.cells c t (0, 0)) → t ≠ 59 → t ≠ 5 → ¬ (x = K.eb ∨ K.errV.ownBlock = some x) := fun {x c t} hx ho hu hf => by
  rcases hf with he | he
  ·exact zac hx h.err ho he
  ·obtain ⟨c', hc'⟩ := row _ he
   exact zac hx hc' hu rfl
 obtain ⟨ck, hk1, _⟩ := h.kern.cells
 refine ⟨⟨h.kern.kept k (ne hk1 (by decide) (by decide)), h.tree.kept k (fun x hx hf => h.apart x (hF x hf) hx), fun x hx => ?_, fun x hx hf => ?_, (k.block _ (zab h.inp) (ne h.inp (by decide) (by decide))).trans h.inp, h.inS.kept k (fun r hr hf => ?_), fun r hr => ?_, ?_, ?_, ?_, ?_, h.two, fun r hr => ?_, fun r hr => ?_, fun r hr => ?_, fun x f hf => ⟨?_, ?_, (h.file x f hf).2.2⟩, h.goodFds⟩, fun x hx => ?_⟩
 ·rcases own x hx with h4 | h4
  ·exact h.low x h4
  ·exact Nat.le_trans hB h4
 ·rcases own x hx with h4 | h4
  ·exact h.apart x h4 hf
  ·exact absurd (h.tree.lt hf) (by omega)
 ·obtain ⟨c, hc⟩ := h.inT r hr
  rcases hf with he | he
  ·exact zac hc h.err (by decide) he
  ·exact h.rows3 r he hr
 ·obtain ⟨c, hc⟩ := h.inT r hr
  refine ⟨c, (k.block r (zab hc) (fun hf => ?_)).trans hc⟩
  rcases hf with he | he
  ·exact zac hc h.err (by decide) he
  ·exact h.rows3 r he hr
 ·refine (k.block _ (zab h.out) (fun hf => ?_)).trans h.out
  rcases hf with he | he
  ·exact h.two he
  ·obtain ⟨c, hc⟩ := row _ he
   exact zac h.out hc (by decide) rfl
 ·refine zai h.outS k (fun r hr hf => ?_)
  obtain ⟨c, hc⟩ := zbd h.outS hr
  rcases hf with he | he
  ·exact zac hc h.err (by decide) he
  ·exact h.rows1 r hr he
 ·exact h1
 ·exact h2
 ·rcases h3 with h4 | ⟨q, h4, h5⟩
  ·exact fun he => h.rows1 r hr (h4.symm.trans he)
  ·intro he
   obtain rfl := Option.some.inj (h4.symm.trans he)
   have := (h.outS.lt _ hr).2
   omega
 ·exact h.rows2 r hr
 ·rcases h3 with h4 | ⟨q, h4, h5⟩
  ·exact h.rows3 r (h4.symm.trans hr)
  ·intro he
   obtain rfl := Option.some.inj (h4.symm.trans hr)
   obtain ⟨c, hc⟩ := h.inT _ he
   have := zab hc
   omega
 ·exact (k.block _ (zab (h.file x f hf).1) (ne (h.file x f hf).1 (by decide) (by decide))).trans (h.file x f hf).1
 ·exact (k.block _ (zab (h.file x f hf).2.1) (ne (h.file x f hf).2.1 (by decide) (by decide))).trans (h.file x f hf).2.1
 ·rcases hx with hx | hx
  ·rcases own x hx with h4 | h4
   ·exact .inl (.inl h4)
   ·exact .inr h4
  ·exact .inl (.inr hx)
def KWOut' (B : Nat) (w : World) (K : Ks) (f : Value → Ks) (e : Ending) (w' : World) : Prop := ∃ v, e = .returned .nilIface ∧ KRep B w' (f v) ∧ Kept K.foot w w' ∧ (∀ x, (f v).foot x → K.foot x ∨ w.heap.size ≤ x)
def KWOut (B : Nat) (w : World) (K K' : Ks) (e : Ending) (w' : World) : Prop := e = .returned .nilIface ∧ KRep B w' K' ∧ Kept K.foot w w' ∧ (∀ x, K'.foot x → K.foot x ∨ w.heap.size ≤ x)
set_option maxRecDepth 100000 in
set_option maxHeartbeats 1000000 in
theorem kwrite_out {B : Nat} {w : World} {K : Ks} (hB : B ≤ w.heap.size) (hK : KRep B w K) (fd : Nat) (hfd : fd < 16) (h : K.fds fd = some (.out K.ob)) (ba : Option Addr) (bc : Nat) (b : List UInt8) (hb : Src w (.slice ba b.length bc) b) (hl : K.outL.length + b.length ≤ 65536) :
  Calls Tryz.prog 28 #[.pointer (some ⟨K.kb, 0, none⟩), .int .i64 fd, .slice ba b.length bc] w fun e w' => ∃ v, KWOut B w K { K with outV := v, outL := K.outL ++ b } e w' := by
 have HU : Hid (Calls Tryz.prog 53 #[.pointer (some ⟨K.kb, 0, none⟩), .int .i64 fd] w fun e w' => za9 w true e w') := by
  have h1 := za2 hK.kern fd
  rw [zbc hfd, h] at h1
  exact h1
 have hc : w.cell? ⟨K.kb, 1 + fd, none⟩ = some (.iface 57 (.pointer (some ⟨K.ob, 0, none⟩))) := by
  have h1 := hK.kern.fd fd hfd
  rw [h] at h1
  exact h1
 obtain ⟨oa, oc, hov⟩ := zak hK.outS
 have HW : Hid (Calls Tryz.prog 172 #[.pointer (some ⟨K.ob, 0, none⟩), .slice ba b.length bc] w fun e w' => OWPost B w K.ob K.outV (K.outL ++ b) e w') := by
  have h2 := hK.out
  have h3 := hK.outS
  rw [hov] at h2 h3
  rw [hov]
  exact owrite_ok K.ob oa oc K.outL ba bc b w hB h2 h3 hb hl
 have HKR := hid hK
 have HBB := hid hB
 have hfi : (fd : Int) < 16 := by omega
 clear hK h hb hl hov hB
 show Calls _ _ _ _ (fun e w' => KWOut' B w K (fun v => { K with outV := v, outL := K.outL ++ b }) e w')
 go_enter Tryz.func28, Tryz.ntmps28
 go_wp2_with fail
 refine HU.out.mono ?_
 rintro e w1 ⟨rfl, rfl⟩
 go_wp2_with fail
 refine HW.out.mono ?_
 intro e w2 hpost
 have HX : Hid (KWOut' B w1 K (fun v => { K with outV := v, outL := K.outL ++ b }) (.returned .nilIface) w2) := by
  obtain ⟨v, _, h1, h2, h3, h4⟩ := hpost
  have q := HKR.out.setOut HBB.out h1 h2 h3 h4
  exact ⟨v, rfl, q.1, h4.mono (fun x hx => by
   rcases hx with rfl | hx
   ·exact .inl (.inr (.inr (.inl rfl)))
   ·exact .inl (.inr (.inr (.inr (.inr (.inr (.inl hx))))))), q.2⟩
 obtain ⟨_, rfl, _⟩ := hpost
 go_wp2_with fail
 go_ret
 exact HX.out
set_option maxRecDepth 100000 in
set_option maxHeartbeats 1000000 in
theorem kwrite_err {B : Nat} {w : World} {K : Ks} (hB : B ≤ w.heap.size) (hK : KRep B w K) (fd : Nat) (hfd : fd < 16) (h : K.fds fd = some (.out K.eb)) (ba : Option Addr) (bc : Nat) (b : List UInt8) (hb : Src w (.slice ba b.length bc) b) (hl : K.errL.length + b.length ≤ 65536) :
  Calls Tryz.prog 28 #[.pointer (some ⟨K.kb, 0, none⟩), .int .i64 fd, .slice ba b.length bc] w fun e w' => ∃ v, KWOut B w K { K with errV := v, errL := K.errL ++ b } e w' := by
 have HU : Hid (Calls Tryz.prog 53 #[.pointer (some ⟨K.kb, 0, none⟩), .int .i64 fd] w fun e w' => za9 w true e w') := by
  have h1 := za2 hK.kern fd
  rw [zbc hfd, h] at h1
  exact h1
 have hc : w.cell? ⟨K.kb, 1 + fd, none⟩ = some (.iface 57 (.pointer (some ⟨K.eb, 0, none⟩))) := by
  have h1 := hK.kern.fd fd hfd
  rw [h] at h1
  exact h1
 obtain ⟨oa, oc, hov⟩ := zak hK.errS
 have HW : Hid (Calls Tryz.prog 172 #[.pointer (some ⟨K.eb, 0, none⟩), .slice ba b.length bc] w fun e w' => OWPost B w K.eb K.errV (K.errL ++ b) e w') := by
  have h2 := hK.err
  have h3 := hK.errS
  rw [hov] at h2 h3
  rw [hov]
  exact owrite_ok K.eb oa oc K.errL ba bc b w hB h2 h3 hb hl
 have HKR := hid hK
 have HBB := hid hB
 have hfi : (fd : Int) < 16 := by omega
 clear hK h hb hl hov hB
 show Calls _ _ _ _ (fun e w' => KWOut' B w K (fun v => { K with errV := v, errL := K.errL ++ b }) e w')
 go_enter Tryz.func28, Tryz.ntmps28
 go_wp2_with fail
 refine HU.out.mono ?_
 rintro e w1 ⟨rfl, rfl⟩
 go_wp2_with fail
 refine HW.out.mono ?_
 intro e w2 hpost
 have HX : Hid (KWOut' B w1 K (fun v => { K with errV := v, errL := K.errL ++ b }) (.returned .nilIface) w2) := by
  obtain ⟨v, _, h1, h2, h3, h4⟩ := hpost
  have q := HKR.out.setErr HBB.out h1 h2 h3 h4
  exact ⟨v, rfl, q.1, h4.mono (fun x hx => by
   rcases hx with rfl | hx
   ·exact .inl (.inr (.inr (.inr (.inl rfl))))
   ·exact .inl (.inr (.inr (.inr (.inr (.inr (.inr (.inl hx)))))))), q.2⟩
 obtain ⟨_, rfl, _⟩ := hpost
 go_wp2_with fail
 go_ret
 exact HX.out
end Go.Proofs.YteeeaeiafdgpkaaGreatDoor
