/-
  KernConsole's walk: what is told on 1 and 2 is what Out and Err tell; the input is read once.
-/
import Derived.Test.YtiejfbkbjahcgaaDoorKIn
import Derived.Test.YtiejfbkbjahcgaaDoorStr
import Derived.Test.YtiejfbkbjahcgaaDoorAwake
import Derived.Test.YtiejfbkbjahcgaaDoorArgs
namespace Go.Proofs.YtiejfbkbjahcgaaDoor
open Go Go.RowKit

theorem bytes_true {l : List UInt8} (a c a' c') (w : World) (h : Src w (.slice a l.length c) l) (h' : Src w (.slice a' l.length c') l) :
    Calls Tryd.prog 32 #[.slice a l.length c, .slice a' l.length c'] w fun e w' => e = .returned (.bool true) ∧ w' = w := by
  have q1 := run_str_src h
  have q2 := run_str_src h'
  clear h h'
  go_enter Tryd.func32, Tryd.ntmps32
  go_wp2_with fail
  go_ret
  exact ⟨rfl, rfl⟩

theorem kern_out {B : Nat} {K : Ks} {w : World} (hK : KRep B w K) (hl : K.outL.length ≤ 65536) :
    Calls Tryd.prog 33 #[.pointer (some ⟨K.kb, 0, none⟩)] w fun e w' => RowPost w K.outL e w' := by
  obtain ⟨oa, oc, hov⟩ := owns_form hK.outS
  have HS : Hid (Src w (.slice oa K.outL.length oc) K.outL) := by
    have h := Src.of_owns hK.outS
    rw [hov] at h
    exact h
  have g1 : w.cell? ⟨K.ob, 0, none⟩ = some (.slice oa K.outL.length oc) := by
    have h := hK.out
    rw [hov] at h
    exact cell_of h rfl
  have g0 : w.cell? ⟨K.kb, 17, none⟩ = some (.pointer (some ⟨K.ob, 0, none⟩)) := by
    obtain ⟨c, h1, _, _, _, h2, _⟩ := hK.kern.cells
    exact cell_of h1 h2
  clear hK hov
  go_enter Tryd.func33, Tryd.ntmps33
  go_wp2_with (at_builtin; refine wpList_append_src rfl _ _ rfl w.heap.size (.slice none 0 0) 0 [] rfl (World.ownsRow_nil _ _ _ _) (.slice oa K.outL.length oc) K.outL rfl HS.out (by omega) (Nat.le_refl _) ?_)
  intro v' w2 hown hgrow
  obtain ⟨va, vc, rfl⟩ := owns_form hown
  have HFIN : Hid (RowPost w K.outL (.returned (.slice va K.outL.length vc)) w2) := by
    exact ⟨_, rfl, hown, (Below.refl _ w).grown hgrow (Nat.le_refl _) (fun q hq => by cases hq)⟩
  clear hown hgrow HS g0 g1
  go_wp2_with fail
  go_ret
  exact HFIN.out

theorem kern_err {B : Nat} {K : Ks} {w : World} (hK : KRep B w K) (hl : K.errL.length ≤ 65536) :
    Calls Tryd.prog 34 #[.pointer (some ⟨K.kb, 0, none⟩)] w fun e w' => RowPost w K.errL e w' := by
  obtain ⟨oa, oc, hov⟩ := owns_form hK.errS
  have HS : Hid (Src w (.slice oa K.errL.length oc) K.errL) := by
    have h := Src.of_owns hK.errS
    rw [hov] at h
    exact h
  have g1 : w.cell? ⟨K.eb, 0, none⟩ = some (.slice oa K.errL.length oc) := by
    have h := hK.err
    rw [hov] at h
    exact cell_of h rfl
  have g0 : w.cell? ⟨K.kb, 18, none⟩ = some (.pointer (some ⟨K.eb, 0, none⟩)) := by
    obtain ⟨c, h1, _, _, _, _, h2⟩ := hK.kern.cells
    exact cell_of h1 h2
  clear hK hov
  go_enter Tryd.func34, Tryd.ntmps34
  go_wp2_with (at_builtin; refine wpList_append_src rfl _ _ rfl w.heap.size (.slice none 0 0) 0 [] rfl (World.ownsRow_nil _ _ _ _) (.slice oa K.errL.length oc) K.errL rfl HS.out (by omega) (Nat.le_refl _) ?_)
  intro v' w2 hown hgrow
  obtain ⟨va, vc, rfl⟩ := owns_form hown
  have HFIN : Hid (RowPost w K.errL (.returned (.slice va K.errL.length vc)) w2) := by
    exact ⟨_, rfl, hown, (Below.refl _ w).grown hgrow (Nat.le_refl _) (fun q hq => by cases hq)⟩
  clear hown hgrow HS g0 g1
  go_wp2_with fail
  go_ret
  exact HFIN.out

/-- The kern and the two rows that the law keeps. -/
structure CI (B : Nat) (w : World) (kb : Nat) (il kol kel : List UInt8) (ov ev : Value) (ol el : List UInt8) (K : Ks) (wr : World) : Prop where
  rep : KRep B wr K
  hkb : K.kb = kb
  fds : K.fds = fds3 K.ib K.ob K.eb
  inl : K.inL = il
  outl : K.outL = kol
  errl : K.errL = kel
  oS : wr.ownsRow B 5 1 ov ol.length (u8s ol)
  eS : wr.ownsRow B 5 1 ev el.length (u8s el)
  oA : ∀ r, ov.ownBlock = some r → ¬ K.foot r
  eA : ∀ r, ev.ownBlock = some r → ¬ K.foot r
  oe : ∀ r, ov.ownBlock = some r → ev.ownBlock ≠ some r
  below : Below B w wr
  base : B ≤ wr.heap.size

theorem wpList_wanted {P : Program} {ops : Array Oper} {Q : Exit → Act → World → Prop} {rest : List Oper} {o : Oper} {a : Act} {w : World} (hw : Region.wanted o (yielded ops a.tmps) = true) (h : wpList P ops Q ({ o with guard := none } :: rest) a w) : wpList P ops Q (o :: rest) a w := by
  unfold wpList at h ⊢
  rw [if_pos hw]
  rw [if_pos (by rfl)] at h
  exact h

section
variable {B : Nat} {w wr w' : World} {kb : Nat} {il kol kel : List UInt8} {ov ev : Value} {ol el : List UInt8} {K : Ks}

theorem CI.next (h : CI B w kb il kol kel ov ev ol el K wr) (k : Below wr.heap.size wr w') : CI B w kb il kol kel ov ev ol el K w' :=
  ⟨h.rep.below k, h.hkb, h.fds, h.inl, h.outl, h.errl, ownsRow_kept h.oS (Kept.of_below k (fun _ => False)) (fun _ _ h => h), ownsRow_kept h.eS (Kept.of_below k (fun _ => False)) (fun _ _ h => h), h.oA, h.eA, h.oe, h.below.trans (k.mono h.base), Nat.le_trans h.base k.size⟩

theorem CI.wout (h : CI B w kb il kol kel ov ev ol el K wr) {v : Value} {b : List UInt8} {e : Ending} (q : KWOut B wr K { K with outV := v, outL := K.outL ++ b } e w') :
    CI B w kb il (kol ++ b) kel ov ev ol el { K with outV := v, outL := K.outL ++ b } w' := by
  obtain ⟨_, q1, q2, q3⟩ := q
  refine ⟨q1, h.hkb, h.fds, h.inl, congrArg (· ++ b) h.outl, h.errl, ownsRow_kept h.oS q2 h.oA, ownsRow_kept h.eS q2 h.eA, fun r hr hf => ?_, fun r hr hf => ?_, h.oe, h.below.trans (q2.below (fun x hx => h.rep.foot_low hx) h.base), Nat.le_trans h.base q2.size⟩
  · rcases q3 r hf with h1 | h1
    · exact h.oA r hr h1
    · have := (h.oS.lt r hr).2; omega
  · rcases q3 r hf with h1 | h1
    · exact h.eA r hr h1
    · have := (h.eS.lt r hr).2; omega
theorem CI.werr (h : CI B w kb il kol kel ov ev ol el K wr) {v : Value} {b : List UInt8} {e : Ending} (q : KWOut B wr K { K with errV := v, errL := K.errL ++ b } e w') :
    CI B w kb il kol (kel ++ b) ov ev ol el { K with errV := v, errL := K.errL ++ b } w' := by
  obtain ⟨_, q1, q2, q3⟩ := q
  refine ⟨q1, h.hkb, h.fds, h.inl, h.outl, congrArg (· ++ b) h.errl, ownsRow_kept h.oS q2 h.oA, ownsRow_kept h.eS q2 h.eA, fun r hr hf => ?_, fun r hr hf => ?_, h.oe, h.below.trans (q2.below (fun x hx => h.rep.foot_low hx) h.base), Nat.le_trans h.base q2.size⟩
  · rcases q3 r hf with h1 | h1
    · exact h.oA r hr h1
    · have := (h.oS.lt r hr).2; omega
  · rcases q3 r hf with h1 | h1
    · exact h.eA r hr h1
    · have := (h.eS.lt r hr).2; omega
theorem CI.appOut (h : CI B w kb il kol kel ov ev ol el K wr) {v : Value} {b : List UInt8} (hown : w'.ownsRow B 5 1 v (ol.length + b.length) (u8s ol ++ u8s b)) (hg : wr.grownBy w' ov.ownBlock) (hat : v.ownBlock = ov.ownBlock ∨ v.ownBlock = some wr.heap.size) :
    CI B w kb il kol kel v ev (ol ++ b) el K w' := by
  have k : Kept (fun x => ov.ownBlock = some x) wr w' := (Kept.refl _ wr).grown hg (fun x hx => .inl hx)
  refine ⟨h.rep.kept k (fun x hx hf => h.oA x hf hx), h.hkb, h.fds, h.inl, h.outl, h.errl, by rw [List.length_append, u8s_append]; exact hown, ownsRow_kept h.eS k (fun r hr hf => h.oe r hf hr), fun r hr hf => ?_, h.eA, fun r hr he => ?_, h.below.trans (k.below (fun x hx => (h.oS.lt x hx).1) h.base), Nat.le_trans h.base k.size⟩
  · rcases hat with e | e
    · exact h.oA r (e ▸ hr) hf
    · rw [e] at hr
      have := h.rep.lt hf
      cases hr
      omega
  · rcases hat with e | e
    · exact h.oe r (e ▸ hr) he
    · rw [e] at hr
      have := (h.eS.lt r he).2
      cases hr
      omega
theorem CI.appErr (h : CI B w kb il kol kel ov ev ol el K wr) {v : Value} {b : List UInt8} (hown : w'.ownsRow B 5 1 v (el.length + b.length) (u8s el ++ u8s b)) (hg : wr.grownBy w' ev.ownBlock) (hat : v.ownBlock = ev.ownBlock ∨ v.ownBlock = some wr.heap.size) :
    CI B w kb il kol kel ov v ol (el ++ b) K w' := by
  have k : Kept (fun x => ev.ownBlock = some x) wr w' := (Kept.refl _ wr).grown hg (fun x hx => .inl hx)
  refine ⟨h.rep.kept k (fun x hx hf => h.eA x hf hx), h.hkb, h.fds, h.inl, h.outl, h.errl, ownsRow_kept h.oS k (fun r hr hf => h.oe r hr hf), by rw [List.length_append, u8s_append]; exact hown, h.oA, fun r hr hf => ?_, fun r hr he => ?_, h.below.trans (k.below (fun x hx => (h.eS.lt x hx).1) h.base), Nat.le_trans h.base k.size⟩
  · rcases hat with e | e
    · exact h.eA r (e ▸ hr) hf
    · rw [e] at hr
      have := h.rep.lt hf
      cases hr
      omega
  · rcases hat with e | e
    · exact h.oe r hr (e ▸ he)
    · rw [e] at he
      have := (h.oS.lt r hr).2
      cases he
      omega
/-- A read of the input; the bytes in a row of its own. -/
theorem CI.read (h : CI B w kb il kol kel ov ev ol el K wr) {f : Value → Ks} {v : Value} {l l' : List UInt8} {e : Ending} (q : KRPost B wr K (f v) l e w') (hf : f v = { K with inV := v, inL := l' }) :
    CI B w kb l' kol kel ov ev ol el (f v) w' := by
  obtain ⟨_, _, _, q1, q2, q3⟩ := q
  rw [hf] at q1 q3 ⊢
  exact ⟨q1, h.hkb, h.fds, rfl, h.outl, h.errl, ownsRow_kept h.oS q2 h.oA, ownsRow_kept h.eS q2 h.eA, fun r hr x => h.oA r hr (q3 r x), fun r hr x => h.eA r hr (q3 r x), h.oe, h.below.trans (q2.below (fun x hx => h.rep.foot_low hx) h.base), Nat.le_trans h.base q2.size⟩

/-- A read of the input: what it leaves. -/
def CRPost (B : Nat) (w : World) (kb : Nat) (il kol kel : List UInt8) (ov ev : Value) (ol el : List UInt8) (K : Ks) (n : Nat) (wr : World) (e : Ending) (w' : World) : Prop :=
  ∃ K' v, e = .returned (.tuple #[v, .nilIface]) ∧ w'.ownsRow wr.heap.size 5 1 v (il.take n).length (u8s (il.take n)) ∧ CI B w kb (il.drop n) kol kel ov ev ol el K' w' ∧ Kept K.foot wr w' ∧ (∀ x, K'.foot x → K.foot x)

theorem CI.read_ok (h : CI B w kb il kol kel ov ev ol el K wr) (n : Nat) (hl : il.length ≤ 140737488355328) :
    Calls Tryd.prog 31 #[.pointer (some ⟨kb, 0, none⟩), .int .i64 0, .int .i64 n] wr fun e w' => CRPost B w kb il kol kel ov ev ol el K n wr e w' := by
  have hk := h.hkb
  have hi := h.inl
  subst hk hi
  have hr := kread_in h.rep 0 n (by decide) (by rw [h.fds]; rfl) hl
  refine hr.mono fun e w' q => ?_
  obtain ⟨v, q⟩ := q
  have q' := q
  have hci := h.read (f := fun v => { K with inV := v, inL := K.inL.drop (min n K.inL.length) }) q rfl
  obtain ⟨v2, rfl, hrow, _, hk, hf⟩ := q'
  have e1 : K.inL.take (min n K.inL.length) = K.inL.take n := by
    rcases Nat.le_total n K.inL.length with h | h
    · rw [Nat.min_eq_left h]
    · rw [Nat.min_eq_right h, List.take_length, List.take_of_length_le h]
  have e2 : K.inL.drop (min n K.inL.length) = K.inL.drop n := by
    rcases Nat.le_total n K.inL.length with h | h
    · rw [Nat.min_eq_left h]
    · rw [Nat.min_eq_right h, List.drop_length, List.drop_of_length_le h]
  rw [e1] at hrow
  rw [e2] at hci hf
  exact ⟨_, v2, rfl, hrow, hci, hk, hf⟩

def CWPost (B : Nat) (w : World) (kb : Nat) (il kol kel : List UInt8) (ov ev : Value) (ol el : List UInt8) (e : Ending) (w' : World) : Prop :=
  e = .returned .nilIface ∧ ∃ K', CI B w kb il kol kel ov ev ol el K' w'
theorem CI.write_out (h : CI B w kb il kol kel ov ev ol el K wr) (ba : Option Addr) (bc : Nat) (b : List UInt8) (hb : Src wr (.slice ba b.length bc) b) (hl : kol.length + b.length ≤ 65536) :
    Calls Tryd.prog 19 #[.pointer (some ⟨kb, 0, none⟩), .int .i64 1, .slice ba b.length bc] wr fun e w' => CWPost B w kb il (kol ++ b) kel ov ev ol el e w' := by
  have hk := h.hkb
  subst hk
  have hr := kwrite_out h.base h.rep 1 (by decide) (by rw [h.fds]; rfl) ba bc b hb (by rw [h.outl]; exact hl)
  refine hr.mono fun e w' ⟨v, q⟩ => ⟨q.1, _, h.wout q⟩
theorem CI.write_err (h : CI B w kb il kol kel ov ev ol el K wr) (ba : Option Addr) (bc : Nat) (b : List UInt8) (hb : Src wr (.slice ba b.length bc) b) (hl : kel.length + b.length ≤ 65536) :
    Calls Tryd.prog 19 #[.pointer (some ⟨kb, 0, none⟩), .int .i64 2, .slice ba b.length bc] wr fun e w' => CWPost B w kb il kol (kel ++ b) ov ev ol el e w' := by
  have hk := h.hkb
  subst hk
  have hr := kwrite_err h.base h.rep 2 (by decide) (by rw [h.fds]; rfl) ba bc b hb (by rw [h.errl]; exact hl)
  refine hr.mono fun e w' ⟨v, q⟩ => ⟨q.1, _, h.werr q⟩

theorem rows_at {a : Option Addr} {c : Nat} {ll : List (List UInt8)} (h : BBSrc w (.slice a ll.length c) ll) (hb : Below w.heap.size w wr) {k : Nat} (hk : k < ll.length) :
    ∃ ad ra rc, a = some ad ∧ wr.cell? (ad.add k) = some (.slice ra ll[k].length rc) ∧ Src w (.slice ra ll[k].length rc) ll[k] := by
  rcases h with ⟨_, h0⟩ | ⟨ad, c', h1, h2⟩
  · rw [h0] at hk; exact absurd hk (by simp)
  · obtain ⟨ra, rc, q1, q2, _⟩ := h2 k hk
    simp only [Value.slice.injEq] at h1
    exact ⟨ad, ra, rc, h1.1, (hb.cell (World.block_lt_of_cell? _ _ q1)).trans q1, q2⟩
theorem src_up {s : Value} {l : List UInt8} (h : Src w s l) (hb : Below w.heap.size w wr) : Src wr s l := h.kept (Kept.of_below hb (fun _ => False)) (fun _ _ h => h)
theorem CI.out_ok (h : CI B w kb il kol kel ov ev ol el K wr) (hl : kol.length ≤ 65536) : Calls Tryd.prog 33 #[.pointer (some ⟨kb, 0, none⟩)] wr fun e w' => RowPost wr kol e w' := by
  have hk := h.hkb
  have ho := h.outl
  subst hk ho
  exact kern_out h.rep hl
theorem CI.err_ok (h : CI B w kb il kol kel ov ev ol el K wr) (hl : kel.length ≤ 65536) : Calls Tryd.prog 34 #[.pointer (some ⟨kb, 0, none⟩)] wr fun e w' => RowPost wr kel e w' := by
  have hk := h.hkb
  have ho := h.errl
  subst hk ho
  exact kern_err h.rep hl
theorem CI.row_kept (h : CI B w kb il kol kel ov ev ol el K wr) {wa wb : World} {base n : Nat} {v : Value} {xs : List Value} (hown : wa.ownsRow base 5 1 v n xs) (hge : wr.heap.size ≤ base) (k : Kept K.foot wa wb) : wb.ownsRow base 5 1 v n xs :=
  ownsRow_kept hown k (fun r hr hx => by have := (hown.lt r hr).1; have := h.rep.lt hx; omega)
/-- What lies above the world at the loop's end may turn. -/
theorem CI.over (h0 : CI B w kb il kol kel ov ev ol el K wr) {il5 : List UInt8} {K5 : Ks} {w5 w6 : World} (h5 : CI B w kb il5 kol kel ov ev ol el K5 w5) (hf : ∀ x, K5.foot x → K.foot x) (hb : Below wr.heap.size w5 w6) : CI B w kb il5 kol kel ov ev ol el K5 w6 := by
  have k : Kept (fun b => wr.heap.size ≤ b) w5 w6 := ⟨hb.os, hb.tape, hb.output, hb.size, fun b _ hn => hb.block b (by have : ¬ wr.heap.size ≤ b := hn; omega)⟩
  refine ⟨h5.rep.kept k (fun x hx hge => ?_), h5.hkb, h5.fds, h5.inl, h5.outl, h5.errl, ownsRow_kept h5.oS k (fun r hr hge => ?_), ownsRow_kept h5.eS k (fun r hr hge => ?_), h5.oA, h5.eA, h5.oe, h5.below.trans (hb.mono h0.base), Nat.le_trans h5.base k.size⟩
  · have := h0.rep.lt (hf x hx)
    omega
  · have := (h0.oS.lt r hr).2
    omega
  · have := (h0.eS.lt r hr).2
    omega
end

/-- How long the rows may be behind k rounds. -/
def CLen (k : Nat) (ol el : List UInt8) : Prop := ol.length ≤ 1000 * k ∧ el.length ≤ 1000 * k ∧ k ≤ 20

set_option maxRecDepth 100000 in
set_option maxHeartbeats 4000000 in
theorem kernConsole_any {E : Nat → Addr} {B0 : Nat} (w : World) (hE : Ctx E B0 w) (ia : Option Addr) (ic : Nat) (il : List UInt8) (hi : Src w (.slice ia il.length ic) il) (hil : il.length ≤ 140737488355328)
    (la : Option Addr) (lc : Nat) (ll : List (List UInt8)) (hl : BBSrc w (.slice la ll.length lc) ll) (_hll : ll.length ≤ 9223372036854775807) :
    Calls Tryd.prog 9 #[.slice ia il.length ic, .slice la ll.length lc] w fun e w' => AwPost w e w' := by
  have HE := Lib.hid hE
  have HI := Lib.hid hi
  have HL := Lib.hid hl
  have HN : Hid (Calls Tryd.prog 12 #[.pointer none, .slice ia il.length ic] w fun e w' => KNewPost2 w.heap.size w il e w') := kern_new_nil w _ il hi hil (Nat.le_refl _)
  clear hE hi hl
  go_enter Tryd.func9, Tryd.ntmps9
  go_wp2_with fail
  refine HN.out.mono ?_
  intro e w2 hp
  obtain ⟨w1, ⟨K, rfl, hK, hT, hfds, hinl, hol, hel, hfl, hb2, hown⟩, hb1⟩ := hp
  obtain ⟨kb, hkb⟩ : ∃ kb, kb = K.kb := ⟨_, rfl⟩
  have HC0 : Hid (∃ K, CI w.heap.size w kb il [] [] (.slice none 0 0) (.slice none 0 0) [] [] K w2) :=
    ⟨K, hK, hkb.symm, hfds, hinl, hol, hel, World.ownsRow_nil _ _ _ _, World.ownsRow_nil _ _ _ _, fun _ h => (by cases h), fun _ h => (by cases h), fun _ h => (by cases h), below_trans hb1 hb2, (below_trans hb1 hb2).size⟩
  rw [← hkb]
  clear hkb hK hT hfds hinl hol hel hfl hb2 hb1 hown HN
  go_wp2_with fail
  go_loopw [6, 7, 20] (fun ov ev idx wr => ∃ (k : Nat) (ol el : List UInt8), k ≤ ll.length ∧ idx = .int .i64 k ∧ CLen k ol el ∧ Hid (∃ K, CI w.heap.size w kb il ol el ov ev ol el K wr)) (fun _ _ idx _ => ll.length - (intOf idx).toNat)
  case atStart => exact ⟨0, [], [], Nat.zero_le _, rfl, ⟨by simp, by simp, by decide⟩, HC0.out⟩
  case round =>
    clear HC0
    obtain ⟨k, ol, el, hk, rfl, hcl, hci⟩ := hrel
    obtain ⟨K, hci⟩ := hci.out
    have HCI := Lib.hid hci
    clear hci
    obtain ⟨oa, oc, rfl⟩ := owns_form HCI.out.oS
    obtain ⟨ea, ec, rfl⟩ := owns_form HCI.out.eS
    have HCL := Lib.hid hcl
    clear hcl
    by_cases hgo : ∃ h : k < ll.length, k < 20 ∧ ll[k].length ≤ 1000
    · obtain ⟨hlt, h20, h1000⟩ := hgo
      have hki : (k : Int) < ll.length := by omega
      have hk20 : (k : Int) < 20 := by omega
      obtain ⟨ad, ra, rc, rfl, hcell, hsrc⟩ := rows_at HL.out HCI.out.below hlt
      obtain ⟨b, hb⟩ : ∃ b, b = ll[k] := ⟨_, rfl⟩
      rw [← hb] at hcell hsrc h1000
      clear hb
      have hbi : (b.length : Int) ≤ 1000 := by omega
      have HB := Lib.hid hsrc
      have HLN : Hid (ol.length + b.length ≤ 20000 ∧ el.length + b.length ≤ 20000 ∧ CLen (k + 1) (ol ++ b) el ∧ CLen (k + 1) ol (el ++ b)) := by
        obtain ⟨q1, q2, q3⟩ := HCL.out
        refine ⟨by omega, by omega, ⟨?_, ?_, ?_⟩, ⟨?_, ?_, ?_⟩⟩ <;> first | omega | (rw [List.length_append]; omega)
      clear hsrc
      rcases Nat.mod_two_eq_zero_or_one k with hm | hm
      · have HW : Hid (Calls Tryd.prog 19 #[.pointer (some ⟨kb, 0, none⟩), .int .i64 1, .slice ra b.length rc] wr fun e w' => CWPost w.heap.size w kb il (ol ++ b) el (.slice oa ol.length oc) (.slice ea el.length ec) ol el e w') :=
          HCI.out.write_out ra rc b (src_up HB.out HCI.out.below) (by have := HLN.out.1; omega)
        have hrem : Int.tmod (k : Int) 2 = 0 := by rw [Int.tmod_eq_emod_of_nonneg (by omega)]; omega
        go_wp2_with fail
        refine HW.out.mono ?_
        rintro e w3 ⟨rfl, K3, hci3⟩
        have HCI3 := Lib.hid hci3
        have HB3 := Lib.hid (src_up HB.out hci3.below)
        clear hci3 HCI HW
        go_wp2_with (at_builtin; refine wpList_append_src_at rfl _ _ rfl w.heap.size (.slice oa ol.length oc) ol.length (u8s ol) rfl HCI3.out.oS (.slice ra b.length rc) b rfl HB3.out (by have := HLN.out.1; omega) HCI3.out.base ?_)
        intro v' w4 hown hg hat
        have HCI4 := Lib.hid (HCI3.out.appOut hown hg hat)
        clear hown hg hat HCI3 HB3
        go_wp2_with fail
        go_roundw
        case rel => exact ⟨k + 1, _, _, by omega, by go_num, HLN.out.2.2.1, _, HCI4.out⟩
        case measure => simp [intOf]; omega
      · have HW : Hid (Calls Tryd.prog 19 #[.pointer (some ⟨kb, 0, none⟩), .int .i64 2, .slice ra b.length rc] wr fun e w' => CWPost w.heap.size w kb il ol (el ++ b) (.slice oa ol.length oc) (.slice ea el.length ec) ol el e w') :=
          HCI.out.write_err ra rc b (src_up HB.out HCI.out.below) (by have := HLN.out.2.1; omega)
        have hrem : Int.tmod (k : Int) 2 = 1 := by rw [Int.tmod_eq_emod_of_nonneg (by omega)]; omega
        go_wp2_with fail
        refine HW.out.mono ?_
        rintro e w3 ⟨rfl, K3, hci3⟩
        have HCI3 := Lib.hid hci3
        have HB3 := Lib.hid (src_up HB.out hci3.below)
        clear hci3 HCI HW
        go_wp2_with (at_builtin; refine wpList_append_src_at rfl _ _ rfl w.heap.size (.slice ea el.length ec) el.length (u8s el) rfl HCI3.out.eS (.slice ra b.length rc) b rfl HB3.out (by have := HLN.out.2.1; omega) HCI3.out.base ?_)
        intro v' w4 hown hg hat
        have HCI4 := Lib.hid (HCI3.out.appErr hown hg hat)
        clear hown hg hat HCI3 HB3
        go_wp2_with fail
        go_roundw
        case rel => exact ⟨k + 1, _, _, by omega, by go_num, HLN.out.2.2.2, _, HCI4.out⟩
        case measure => simp [intOf]; omega
    · have hX : Hid (ol.length ≤ 20000 ∧ el.length ≤ 20000) := by
        obtain ⟨q1, q2, q3⟩ := HCL.out
        exact ⟨by omega, by omega⟩
      clear HCL
      have hquo : Int.tdiv (il.length : Int) 2 = ((il.length / 2 : Nat) : Int) := by rw [Int.tdiv_eq_ediv_of_nonneg (by omega)]; omega
      obtain ⟨h2, hh2⟩ : ∃ h2, h2 = il.length / 2 := ⟨_, rfl⟩
      rw [← hh2] at hquo
      have hh2i : (h2 : Int) ≤ 140737488355328 := by omega
      clear hh2
      obtain ⟨l1, hl1⟩ : ∃ l1, il.take h2 = l1 := ⟨_, rfl⟩
      obtain ⟨l2, hl2⟩ : ∃ l2, il.drop h2 = l2 := ⟨_, rfl⟩
      have HLL : Hid (l1.length + l2.length = il.length ∧ l1 ++ l2 = il) := by
        show _ ∧ _
        rw [← List.length_append, ← hl1, ← hl2, List.take_append_drop]
        exact ⟨rfl, rfl⟩
      have HR1 : Hid (Calls Tryd.prog 31 #[.pointer (some ⟨kb, 0, none⟩), .int .i64 0, .int .i64 h2] wr fun e w' => CRPost w.heap.size w kb il ol el (.slice oa ol.length oc) (.slice ea el.length ec) ol el K h2 wr e w') :=
        HCI.out.read_ok h2 hil
      by_cases hlt : k < ll.length
      · have hki : (k : Int) < ll.length := by omega
        obtain ⟨ad, ra, rc, rfl, hcell, hsrc⟩ := rows_at HL.out HCI.out.below hlt
        clear hsrc
        by_cases h20 : k < 20
        · have hk20 : (k : Int) < 20 := by omega
          have hlong : ¬ ll[k].length ≤ 1000 := fun h => hgo ⟨hlt, h20, h⟩
          generalize ll[k] = b at hcell hlong
          have hlongi : (1000 : Int) < b.length := by omega
          go_wp2_with fail
          refine HR1.out.mono ?_
          rintro e w3 ⟨K3, v3, rfl, hown3, hci3, hk3, hf3⟩
          rw [hl1] at hown3
          rw [hl2] at hci3
          obtain ⟨va3, vc3, rfl⟩ := owns_form hown3
          have HO3 := Lib.hid hown3
          have HF3 := Lib.hid hf3
          have HSZ3 := Lib.hid hk3.size
          have HR2 := Lib.hid (hci3.read_ok il.length (by have := HLL.out; omega))
          clear hown3 hci3 hk3 hf3 HR1
          go_wp2_with fail
          refine HR2.out.mono ?_
          rintro e w4 ⟨K4, v4, rfl, hown4, hci4, hk4, hf4⟩
          rw [List.take_of_length_le (by have := HLL.out; omega)] at hown4
          rw [List.drop_of_length_le (by have := HLL.out; omega)] at hci4
          obtain ⟨va4, vc4, rfl⟩ := owns_form hown4
          have HO34 := Lib.hid (HCI.out.row_kept HO3.out (Nat.le_refl _) (hk4.mono HF3.out))
          have HO4 := Lib.hid hown4
          have HR3w := Lib.hid hk4.size
          have HF4 := Lib.hid (fun x hx => HF3.out x (hf4 x hx))
          have HR3 : Hid (Calls Tryd.prog 31 #[.pointer (some ⟨kb, 0, none⟩), .int .i64 0, .int .i64 5] w4 fun e w' => CRPost w.heap.size w kb [] ol el (.slice oa ol.length oc) (.slice ea el.length ec) ol el K4 5 w4 e w') := hci4.read_ok 5 (by simp)
          clear hown4 hci4 hk4 hf4 HR2 HO3 HF3
          go_wp2_with fail
          refine HR3.out.mono ?_
          rintro e w5 ⟨K5, v5, rfl, hown5, hci5, hk5, hf5⟩
          rw [List.drop_nil] at hci5
          rw [List.take_nil, List.length_nil] at hown5
          obtain ⟨va5, vc5, rfl⟩ := owns_form hown5
          have HO35 := Lib.hid (HCI.out.row_kept HO34.out (Nat.le_refl _) (hk5.mono HF4.out))
          have HO45 := Lib.hid (HCI.out.row_kept HO4.out HSZ3.out (hk5.mono HF4.out))
          have HS45 := Lib.hid (Src.of_owns HO45.out)
          have HF5 := Lib.hid (fun x hx => HF4.out x (hf5 x hx))
          have HCI5 := Lib.hid hci5
          have HSZ5 : Hid (wr.heap.size ≤ w5.heap.size) := Nat.le_trans HSZ3.out (Nat.le_trans HR3w.out hk5.size)
          have hapl : l1.length + l2.length ≤ 140737488355328 := by rw [HLL.out.1]; exact hil
          clear HR3w hown5 hci5 hk5 hf5 HR3 HO34 HO4 HF4
          go_wp2_with (at_builtin; refine wpList_wanted (by rfl) ?_; refine wpList_append_src_at rfl _ _ rfl wr.heap.size (.slice va3 l1.length vc3) l1.length (u8s l1) rfl HO35.out (.slice va4 l2.length vc4) l2 rfl HS45.out hapl HSZ5.out ?_)
          intro v6 w6 hown6 hg6 _
          rw [HLL.out.1, ← u8s_append, HLL.out.2] at hown6
          have HB56 := Lib.hid ((Below.refl wr.heap.size w5).grown hg6 HSZ5.out (fun q hq => (HO35.out.lt q hq).1))
          have HCI6 := Lib.hid (HCI.out.over HCI5.out HF5.out HB56.out)
          have HS6 := Lib.hid (Src.of_owns hown6)
          obtain ⟨va6, vc6, rfl⟩ := owns_form hown6
          have HQ6 := Lib.hid (bytes_true va6 vc6 ia ic w6 HS6.out (src_up HI.out HCI6.out.below))
          clear hown6 hg6 HB56 HCI5 HS45 HO45 HO35 HS6 hapl
          go_wp2_with fail
          refine HQ6.out.mono ?_
          rintro e w7 ⟨rfl, rfl⟩
          have HOU := Lib.hid (HCI6.out.out_ok (by have := hX.out; omega))
          clear HQ6
          go_wp2_with fail
          refine HOU.out.mono ?_
          rintro e w8 ⟨v8, rfl, hown8, hb8⟩
          have HCI8 := Lib.hid (HCI6.out.next hb8)
          obtain ⟨va8, vc8, rfl⟩ := owns_form hown8
          have HQ8 := Lib.hid (bytes_true va8 vc8 oa oc w8 (Src.of_owns hown8) (Src.of_owns HCI8.out.oS))
          clear hown8 hb8 HCI6 HOU
          go_wp2_with fail
          refine HQ8.out.mono ?_
          rintro e w9 ⟨rfl, rfl⟩
          have HER := Lib.hid (HCI8.out.err_ok (by have := hX.out; omega))
          clear HQ8
          go_wp2_with fail
          refine HER.out.mono ?_
          rintro e w10 ⟨v10, rfl, hown10, hb10⟩
          have HCI10 := Lib.hid (HCI8.out.next hb10)
          obtain ⟨va10, vc10, rfl⟩ := owns_form hown10
          have HQ10 := Lib.hid (bytes_true va10 vc10 ea ec w10 (Src.of_owns hown10) (Src.of_owns HCI10.out.eS))
          clear hown10 hb10 HCI8 HER
          go_wp2_with fail
          refine HQ10.out.mono ?_
          rintro e w11 ⟨rfl, rfl⟩
          have HAW := Lib.hid (awake_any w11 (HE.out.below HCI10.out.below))
          clear HQ10
          go_wp2_with fail
          refine HAW.out.mono ?_
          rintro e w12 ⟨rfl, hb12⟩
          have HB12 := Lib.hid (below_trans HCI10.out.below hb12)
          clear hb12
          go_wp2_with fail
          go_ret
          exact ⟨rfl, HB12.out⟩
        · have hk20 : (20 : Int) ≤ k := by omega
          generalize ll[k] = b at hcell
          go_wp2_with fail
          refine HR1.out.mono ?_
          rintro e w3 ⟨K3, v3, rfl, hown3, hci3, hk3, hf3⟩
          rw [hl1] at hown3
          rw [hl2] at hci3
          obtain ⟨va3, vc3, rfl⟩ := owns_form hown3
          have HO3 := Lib.hid hown3
          have HF3 := Lib.hid hf3
          have HSZ3 := Lib.hid hk3.size
          have HR2 := Lib.hid (hci3.read_ok il.length (by have := HLL.out; omega))
          clear hown3 hci3 hk3 hf3 HR1
          go_wp2_with fail
          refine HR2.out.mono ?_
          rintro e w4 ⟨K4, v4, rfl, hown4, hci4, hk4, hf4⟩
          rw [List.take_of_length_le (by have := HLL.out; omega)] at hown4
          rw [List.drop_of_length_le (by have := HLL.out; omega)] at hci4
          obtain ⟨va4, vc4, rfl⟩ := owns_form hown4
          have HO34 := Lib.hid (HCI.out.row_kept HO3.out (Nat.le_refl _) (hk4.mono HF3.out))
          have HO4 := Lib.hid hown4
          have HR3w := Lib.hid hk4.size
          have HF4 := Lib.hid (fun x hx => HF3.out x (hf4 x hx))
          have HR3 : Hid (Calls Tryd.prog 31 #[.pointer (some ⟨kb, 0, none⟩), .int .i64 0, .int .i64 5] w4 fun e w' => CRPost w.heap.size w kb [] ol el (.slice oa ol.length oc) (.slice ea el.length ec) ol el K4 5 w4 e w') := hci4.read_ok 5 (by simp)
          clear hown4 hci4 hk4 hf4 HR2 HO3 HF3
          go_wp2_with fail
          refine HR3.out.mono ?_
          rintro e w5 ⟨K5, v5, rfl, hown5, hci5, hk5, hf5⟩
          rw [List.drop_nil] at hci5
          rw [List.take_nil, List.length_nil] at hown5
          obtain ⟨va5, vc5, rfl⟩ := owns_form hown5
          have HO35 := Lib.hid (HCI.out.row_kept HO34.out (Nat.le_refl _) (hk5.mono HF4.out))
          have HO45 := Lib.hid (HCI.out.row_kept HO4.out HSZ3.out (hk5.mono HF4.out))
          have HS45 := Lib.hid (Src.of_owns HO45.out)
          have HF5 := Lib.hid (fun x hx => HF4.out x (hf5 x hx))
          have HCI5 := Lib.hid hci5
          have HSZ5 : Hid (wr.heap.size ≤ w5.heap.size) := Nat.le_trans HSZ3.out (Nat.le_trans HR3w.out hk5.size)
          have hapl : l1.length + l2.length ≤ 140737488355328 := by rw [HLL.out.1]; exact hil
          clear HR3w hown5 hci5 hk5 hf5 HR3 HO34 HO4 HF4
          go_wp2_with (at_builtin; refine wpList_wanted (by rfl) ?_; refine wpList_append_src_at rfl _ _ rfl wr.heap.size (.slice va3 l1.length vc3) l1.length (u8s l1) rfl HO35.out (.slice va4 l2.length vc4) l2 rfl HS45.out hapl HSZ5.out ?_)
          intro v6 w6 hown6 hg6 _
          rw [HLL.out.1, ← u8s_append, HLL.out.2] at hown6
          have HB56 := Lib.hid ((Below.refl wr.heap.size w5).grown hg6 HSZ5.out (fun q hq => (HO35.out.lt q hq).1))
          have HCI6 := Lib.hid (HCI.out.over HCI5.out HF5.out HB56.out)
          have HS6 := Lib.hid (Src.of_owns hown6)
          obtain ⟨va6, vc6, rfl⟩ := owns_form hown6
          have HQ6 := Lib.hid (bytes_true va6 vc6 ia ic w6 HS6.out (src_up HI.out HCI6.out.below))
          clear hown6 hg6 HB56 HCI5 HS45 HO45 HO35 HS6 hapl
          go_wp2_with fail
          refine HQ6.out.mono ?_
          rintro e w7 ⟨rfl, rfl⟩
          have HOU := Lib.hid (HCI6.out.out_ok (by have := hX.out; omega))
          clear HQ6
          go_wp2_with fail
          refine HOU.out.mono ?_
          rintro e w8 ⟨v8, rfl, hown8, hb8⟩
          have HCI8 := Lib.hid (HCI6.out.next hb8)
          obtain ⟨va8, vc8, rfl⟩ := owns_form hown8
          have HQ8 := Lib.hid (bytes_true va8 vc8 oa oc w8 (Src.of_owns hown8) (Src.of_owns HCI8.out.oS))
          clear hown8 hb8 HCI6 HOU
          go_wp2_with fail
          refine HQ8.out.mono ?_
          rintro e w9 ⟨rfl, rfl⟩
          have HER := Lib.hid (HCI8.out.err_ok (by have := hX.out; omega))
          clear HQ8
          go_wp2_with fail
          refine HER.out.mono ?_
          rintro e w10 ⟨v10, rfl, hown10, hb10⟩
          have HCI10 := Lib.hid (HCI8.out.next hb10)
          obtain ⟨va10, vc10, rfl⟩ := owns_form hown10
          have HQ10 := Lib.hid (bytes_true va10 vc10 ea ec w10 (Src.of_owns hown10) (Src.of_owns HCI10.out.eS))
          clear hown10 hb10 HCI8 HER
          go_wp2_with fail
          refine HQ10.out.mono ?_
          rintro e w11 ⟨rfl, rfl⟩
          have HAW := Lib.hid (awake_any w11 (HE.out.below HCI10.out.below))
          clear HQ10
          go_wp2_with fail
          refine HAW.out.mono ?_
          rintro e w12 ⟨rfl, hb12⟩
          have HB12 := Lib.hid (below_trans HCI10.out.below hb12)
          clear hb12
          go_wp2_with fail
          go_ret
          exact ⟨rfl, HB12.out⟩
      · have hki : (ll.length : Int) ≤ k := by omega
        go_wp2_with fail
        refine HR1.out.mono ?_
        rintro e w3 ⟨K3, v3, rfl, hown3, hci3, hk3, hf3⟩
        rw [hl1] at hown3
        rw [hl2] at hci3
        obtain ⟨va3, vc3, rfl⟩ := owns_form hown3
        have HO3 := Lib.hid hown3
        have HF3 := Lib.hid hf3
        have HSZ3 := Lib.hid hk3.size
        have HR2 := Lib.hid (hci3.read_ok il.length (by have := HLL.out; omega))
        clear hown3 hci3 hk3 hf3 HR1
        go_wp2_with fail
        refine HR2.out.mono ?_
        rintro e w4 ⟨K4, v4, rfl, hown4, hci4, hk4, hf4⟩
        rw [List.take_of_length_le (by have := HLL.out; omega)] at hown4
        rw [List.drop_of_length_le (by have := HLL.out; omega)] at hci4
        obtain ⟨va4, vc4, rfl⟩ := owns_form hown4
        have HO34 := Lib.hid (HCI.out.row_kept HO3.out (Nat.le_refl _) (hk4.mono HF3.out))
        have HO4 := Lib.hid hown4
        have HR3w := Lib.hid hk4.size
        have HF4 := Lib.hid (fun x hx => HF3.out x (hf4 x hx))
        have HR3 : Hid (Calls Tryd.prog 31 #[.pointer (some ⟨kb, 0, none⟩), .int .i64 0, .int .i64 5] w4 fun e w' => CRPost w.heap.size w kb [] ol el (.slice oa ol.length oc) (.slice ea el.length ec) ol el K4 5 w4 e w') := hci4.read_ok 5 (by simp)
        clear hown4 hci4 hk4 hf4 HR2 HO3 HF3
        go_wp2_with fail
        refine HR3.out.mono ?_
        rintro e w5 ⟨K5, v5, rfl, hown5, hci5, hk5, hf5⟩
        rw [List.drop_nil] at hci5
        rw [List.take_nil, List.length_nil] at hown5
        obtain ⟨va5, vc5, rfl⟩ := owns_form hown5
        have HO35 := Lib.hid (HCI.out.row_kept HO34.out (Nat.le_refl _) (hk5.mono HF4.out))
        have HO45 := Lib.hid (HCI.out.row_kept HO4.out HSZ3.out (hk5.mono HF4.out))
        have HS45 := Lib.hid (Src.of_owns HO45.out)
        have HF5 := Lib.hid (fun x hx => HF4.out x (hf5 x hx))
        have HCI5 := Lib.hid hci5
        have HSZ5 : Hid (wr.heap.size ≤ w5.heap.size) := Nat.le_trans HSZ3.out (Nat.le_trans HR3w.out hk5.size)
        have hapl : l1.length + l2.length ≤ 140737488355328 := by rw [HLL.out.1]; exact hil
        clear HR3w hown5 hci5 hk5 hf5 HR3 HO34 HO4 HF4
        go_wp2_with (at_builtin; refine wpList_wanted (by rfl) ?_; refine wpList_append_src_at rfl _ _ rfl wr.heap.size (.slice va3 l1.length vc3) l1.length (u8s l1) rfl HO35.out (.slice va4 l2.length vc4) l2 rfl HS45.out hapl HSZ5.out ?_)
        intro v6 w6 hown6 hg6 _
        rw [HLL.out.1, ← u8s_append, HLL.out.2] at hown6
        have HB56 := Lib.hid ((Below.refl wr.heap.size w5).grown hg6 HSZ5.out (fun q hq => (HO35.out.lt q hq).1))
        have HCI6 := Lib.hid (HCI.out.over HCI5.out HF5.out HB56.out)
        have HS6 := Lib.hid (Src.of_owns hown6)
        obtain ⟨va6, vc6, rfl⟩ := owns_form hown6
        have HQ6 := Lib.hid (bytes_true va6 vc6 ia ic w6 HS6.out (src_up HI.out HCI6.out.below))
        clear hown6 hg6 HB56 HCI5 HS45 HO45 HO35 HS6 hapl
        go_wp2_with fail
        refine HQ6.out.mono ?_
        rintro e w7 ⟨rfl, rfl⟩
        have HOU := Lib.hid (HCI6.out.out_ok (by have := hX.out; omega))
        clear HQ6
        go_wp2_with fail
        refine HOU.out.mono ?_
        rintro e w8 ⟨v8, rfl, hown8, hb8⟩
        have HCI8 := Lib.hid (HCI6.out.next hb8)
        obtain ⟨va8, vc8, rfl⟩ := owns_form hown8
        have HQ8 := Lib.hid (bytes_true va8 vc8 oa oc w8 (Src.of_owns hown8) (Src.of_owns HCI8.out.oS))
        clear hown8 hb8 HCI6 HOU
        go_wp2_with fail
        refine HQ8.out.mono ?_
        rintro e w9 ⟨rfl, rfl⟩
        have HER := Lib.hid (HCI8.out.err_ok (by have := hX.out; omega))
        clear HQ8
        go_wp2_with fail
        refine HER.out.mono ?_
        rintro e w10 ⟨v10, rfl, hown10, hb10⟩
        have HCI10 := Lib.hid (HCI8.out.next hb10)
        obtain ⟨va10, vc10, rfl⟩ := owns_form hown10
        have HQ10 := Lib.hid (bytes_true va10 vc10 ea ec w10 (Src.of_owns hown10) (Src.of_owns HCI10.out.eS))
        clear hown10 hb10 HCI8 HER
        go_wp2_with fail
        refine HQ10.out.mono ?_
        rintro e w11 ⟨rfl, rfl⟩
        have HAW := Lib.hid (awake_any w11 (HE.out.below HCI10.out.below))
        clear HQ10
        go_wp2_with fail
        refine HAW.out.mono ?_
        rintro e w12 ⟨rfl, hb12⟩
        have HB12 := Lib.hid (below_trans HCI10.out.below hb12)
        clear hb12
        go_wp2_with fail
        go_ret
        exact ⟨rfl, HB12.out⟩
end Go.Proofs.YtiejfbkbjahcgaaDoor
