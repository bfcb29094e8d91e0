/-
 An open file's write, whatever is written: the laws of writeD; Size; the calls by ways 1 and 2.
 A kern's Write to an open file, whatever is written.
 Reading: (*File).ReadAt, a file's and an input's read, (*Kern).Read.
-/
import Derived.Test.YteeeaeiafdgpkaaGreatDoorWrA
import Derived.Test.YteeeaeiafdgpkaaGreatDoorNewA
namespace Go.Proofs.YteeeaeiafdgpkaaGreatDoor
open Go Go.RowKit
open Go.Lib (hid)
section
def writeD (d : List UInt8) (p : Nat) (b : List UInt8) : List UInt8 := if b = [] then d else zb9 d p b
theorem writeD_nil (d : List UInt8) (p : Nat) : writeD d p [] = d := by simp [writeD]
theorem writeD_some (d : List UInt8) (p : Nat) {b : List UInt8} (h : 0 < b.length) : writeD d p b = zb9 d p b := by
 unfold writeD
 rw [if_neg (fun e => by rw [e] at h; simp at h)]
structure Wr (T T' : Tr) (k : Nat) (d : Nd) (l : List UInt8) : Prop where
 tb : T'.tb = T.tb
 root : T'.root = T.root
 count : T'.count = T.count
 clock : T.clock ≤ T'.clock ∧ T'.clock ≤ T.clock + 1
 here : ∃ d', T'.nd k = some d' ∧ d'.dir = false ∧ d'.data = l ∧ d'.links = d.links
 others : ∀ n, n ≠ k → T'.nd n = T.nd n
theorem Wr.same {T : Tr} {k : Nat} {d : Nd} (hd : T.nd k = some d) (hdir : d.dir = false) : Wr T T k d d.data := ⟨rfl, rfl, rfl, ⟨Int.le_refl _, by omega⟩, ⟨d, hd, hdir, rfl, rfl⟩, fun _ _ => rfl⟩
theorem Wr.set (T : Tr) (k : Nat) {d : Nd} (hdir : d.dir = false) (bv : Value) (l : List UInt8) : Wr T (T.setData k d bv l) k d l :=
 ⟨rfl, rfl, by simp [Tr.setData, Tr.set, Tr.tick], ⟨by show T.clock ≤ T.clock + 1; omega, Int.le_refl _⟩, ⟨{ d with bv := bv, data := l, tick := T.clock + 1 }, by simp [Tr.setData, Tr.set, Tr.tick], hdir, rfl, rfl⟩, fun n hn => by simp only [Tr.setData, Tr.set, Tr.tick, hn, if_false]⟩
def WrX (T T' : Tr) (k : Nat) (d : Nd) (p : Nat) (b : List UInt8) : Prop := (b = [] ∧ T' = T) ∨ (0 < b.length ∧ ∃ bv, T' = T.setData k d bv (zb9 d.data p b))
def FAny (B : Nat) (w : World) (T : Tr) (b0 fb : Nat) (way : Int) (k : Nat) (d : Nd) (p : Nat) (b : List UInt8) (e : Ending) (w' : World) : Prop :=
 ∃ T', e = .returned .nilIface ∧ Rep B w' T' ∧ (Wr T T' k d (writeD d.data p b) ∧ WrX T T' k d p b) ∧ w'.heap[b0]? = some (.cells #[.pointer (some ⟨fb, 0, none⟩), .int .i64 way, .int .i64 ((p + b.length : Nat) : Int)] 125 (0, 0)) ∧
  Kept (fun x => T.foot x ∨ x = b0) w w' ∧ (∀ x, T'.foot x → T.foot x ∨ w.heap.size ≤ x)
theorem size_ok (f k tb : Nat) (a : Option Addr) (n c : Nat) (w : World) (hf : w.heap[f]? = some (.cells #[.pointer (some ⟨k, 0, none⟩), .pointer (some ⟨tb, 0, none⟩)] 168 (0, 0)))
  (hk : w.cell? ⟨k, 1, none⟩ = some (.slice a n c)) :
  Calls Tryz.prog 176 #[.pointer (some ⟨f, 0, none⟩)] w fun e w' => e = .returned (.int .i64 n) ∧ w' = w := by
 have g0 : w.cell? ⟨f, 0, none⟩ = some (.pointer (some ⟨k, 0, none⟩)) := zaa hf rfl
 clear hf
 go_enter Tryz.func176, Tryz.ntmps176
 go_wp2_with fail
 go_ret
 exact ⟨rfl, rfl⟩
set_option maxRecDepth 100000 in
set_option maxHeartbeats 1000000 in
theorem fwrite_none {B : Nat} {T : Tr} (b0 fb p : Nat) (ba : Option Addr) (bc : Nat) (w : World) (hR : Rep B w T) (k : Nat) (d : Nd) (hd : T.nd k = some d) (hdir : d.dir = false) (hp : p ≤ 65536)
  (h0 : w.heap[b0]? = some (.cells #[.pointer (some ⟨fb, 0, none⟩), .int .i64 1, .int .i64 p] 125 (0, 0))) (h0T : ¬ T.foot b0) :
  Calls Tryz.prog 178 #[.pointer (some ⟨b0, 0, none⟩), .slice ba 0 bc] w fun e w' => FAny B w T b0 fb 1 k d p [] e w' := by
 have HWA : Hid (∀ W, Calls Tryz.prog 180 #[.pointer (some ⟨fb, 0, none⟩), .int .i64 p, .slice ba 0 bc] W fun e w' => e = .returned .nilIface ∧ w' = W) :=
  fun W => writeAt_none fb p ba bc W hp
 have H0 := hid h0
 have g0 : w.cell? ⟨b0, 0, none⟩ = some (.pointer (some ⟨fb, 0, none⟩)) := zaa h0 rfl
 have g1 : w.cell? ⟨b0, 1, none⟩ = some (.int .i64 1) := zaa h0 rfl
 have g2 : w.cell? ⟨b0, 2, none⟩ = some (.int .i64 p) := zaa h0 rfl
 have gf : ∀ o, w.frozen? ⟨b0, o, none⟩ = false := fun o => zah h0 o
 have HFIN : Hid (∀ W, Kept (fun _ => False) w W → FAny B w T b0 fb 1 k d p [] (.returned .nilIface) (W.setCell ⟨b0, 2, none⟩ (.int .i64 p))) := by
  intro W hW
  have hKW : Kept (fun x => x = b0) w (W.setCell ⟨b0, 2, none⟩ (.int .i64 p)) := (hW.mono (F1 := fun x => x = b0) (fun _ h => h.elim)).setCell (p := ⟨b0, 2, none⟩) (Or.inl rfl) _
  refine ⟨T, rfl, hR.kept hKW (fun x hx he => h0T (he ▸ hx)), ⟨by rw [writeD_nil]; exact Wr.same hd hdir, .inl ⟨rfl, rfl⟩⟩, ?_, hKW.mono (fun x hx => .inr hx), fun x hx => .inl hx⟩
  exact zaj ((hW.block _ (zab h0) (fun h => h)).trans h0) 2 _
 clear hR hd hdir h0 h0T
 go_enter Tryz.func178, Tryz.ntmps178
 go_wp2_with fail
 go_region_with (go_at_call 180; refine (HWA.out _).mono ?_; rintro e w1 ⟨rfl, rfl⟩)
 all_goals
  go_wp2_with fail
  go_ret
  exact HFIN.out _ (Kept.refl _ w).drew
theorem fwrite_none2 {B : Nat} {T : Tr} (b0 fb : Nat) (pos : Int) (ba : Option Addr) (bc : Nat) (w : World) (hR : Rep B w T) (k : Nat) (d : Nd) (hd : T.nd k = some d) (hdir : d.dir = false) (hdl : d.data.length ≤ 65536)
  (h0 : w.heap[b0]? = some (.cells #[.pointer (some ⟨fb, 0, none⟩), .int .i64 2, .int .i64 pos] 125 (0, 0))) (h0T : ¬ T.foot b0)
  (hf : w.heap[fb]? = some (.cells #[.pointer (some ⟨k, 0, none⟩), .pointer (some ⟨T.tb, 0, none⟩)] 168 (0, 0))) :
  Calls Tryz.prog 178 #[.pointer (some ⟨b0, 0, none⟩), .slice ba 0 bc] w fun e w' => FAny B w T b0 fb 2 k d d.data.length [] e w' := by
 have HWA : Hid (∀ W, Calls Tryz.prog 180 #[.pointer (some ⟨fb, 0, none⟩), .int .i64 d.data.length, .slice ba 0 bc] W fun e w' => e = .returned .nilIface ∧ w' = W) :=
  fun W => writeAt_none fb d.data.length ba bc W hdl
 obtain ⟨ra, rc, hrv⟩ := zak (hR.node k d hd).row
 have HSZ : Hid (∀ W, Kept (fun _ => False) w W → Calls Tryz.prog 176 #[.pointer (some ⟨fb, 0, none⟩)] W fun e w' => e = .returned (.int .i64 d.data.length) ∧ w' = W) := by
  intro W hW
  have hc := zaa (o := 1) ((hW.block _ (zab (hR.node k d hd).cells) (fun h => h)).trans (hR.node k d hd).cells) rfl
  rw [hrv] at hc
  exact size_ok fb k T.tb ra d.data.length rc W ((hW.block _ (zab hf) (fun h => h)).trans hf) hc
 have g0 : w.cell? ⟨b0, 0, none⟩ = some (.pointer (some ⟨fb, 0, none⟩)) := zaa h0 rfl
 have g1 : w.cell? ⟨b0, 1, none⟩ = some (.int .i64 2) := zaa h0 rfl
 have g2 : w.cell? ⟨b0, 2, none⟩ = some (.int .i64 pos) := zaa h0 rfl
 have gf : ∀ o, w.frozen? ⟨b0, o, none⟩ = false := fun o => zah h0 o
 have HFIN : Hid (∀ W, Kept (fun x => x = b0) w W → W.heap[b0]? = some (.cells #[.pointer (some ⟨fb, 0, none⟩), .int .i64 2, .int .i64 d.data.length] 125 (0, 0)) → FAny B w T b0 fb 2 k d d.data.length [] (.returned .nilIface) W) := by
  intro W hW hb
  exact ⟨T, rfl, hR.kept hW (fun x hx he => h0T (he ▸ hx)), ⟨by rw [writeD_nil]; exact Wr.same hd hdir, .inl ⟨rfl, rfl⟩⟩, hb, hW.mono (fun x hx => .inr hx), fun x hx => .inl hx⟩
 have H0 := hid h0
 clear hR hd hdir h0 h0T hf hrv
 go_enter Tryz.func178, Tryz.ntmps178
 go_wp2_with fail
 refine (HSZ.out _ (Kept.refl _ w)).mono ?_
 rintro e w1 ⟨rfl, rfl⟩
 go_wp2_with fail
 go_region_with (go_at_call 180; refine (HWA.out _).mono ?_; rintro e w1 ⟨rfl, rfl⟩)
 all_goals
  go_wp2_with fail
  go_ret
  refine HFIN.out _ ((((Kept.refl (fun x => x = b0) w1).setCell (p := ⟨b0, 2, none⟩) (Or.inl rfl) _).setCell (p := ⟨b0, 2, none⟩) (Or.inl rfl) _).drew) ?_
  exact zaj (zaj H0.out 2 _) 2 _
set_option maxRecDepth 100000 in
set_option maxHeartbeats 1000000 in
theorem fwrite_add {B : Nat} {T : Tr} (b0 fb : Nat) (pos : Int) (bv : Value) (b : List UInt8) (w : World) (hB : B ≤ w.heap.size) (hR : Rep B w T) (hck0 : 0 ≤ T.clock) (hck : T.clock ≤ 1152921504606846976)
  (k : Nat) (d : Nd) (hd : T.nd k = some d) (hdir : d.dir = false) (hp : d.data.length + b.length ≤ 65536) (hbl : 0 < b.length) (hb : Src w bv b) (hbf : ∀ x, bv.ownBlock = some x → ¬ T.foot x ∧ x ≠ b0)
  (h0 : w.heap[b0]? = some (.cells #[.pointer (some ⟨fb, 0, none⟩), .int .i64 2, .int .i64 pos] 125 (0, 0))) (h0T : ¬ T.foot b0)
  (hf : w.heap[fb]? = some (.cells #[.pointer (some ⟨k, 0, none⟩), .pointer (some ⟨T.tb, 0, none⟩)] 168 (0, 0))) :
  Calls Tryz.prog 178 #[.pointer (some ⟨b0, 0, none⟩), bv] w fun e w' => FAny B w T b0 fb 2 k d d.data.length b e w' := by
 have hfb : fb ≠ b0 := zac hf h0 (by decide)
 have HWA : Hid (∀ W, Kept (fun x => x = b0) w W → Calls Tryz.prog 180 #[.pointer (some ⟨fb, 0, none⟩), .int .i64 d.data.length, bv] W fun e w' => WrPost B W T k d (zb9 d.data d.data.length b) e w') :=
  fun W hW => writeAt_ok fb d.data.length bv b W (Nat.le_trans hB hW.size) (hR.kept hW (fun _ h e => h0T (e ▸ h))) hck0 hck k d hd hdir (by omega) hp hbl (hb.kept hW (fun x h e => (hbf x h).2 e)) (fun x h => (hbf x h).1) ((hW.block _ (zab hf) hfb).trans hf)
 have hbv : ∃ ba bc, bv = .slice ba b.length bc := by
  rcases hb with ⟨h1, h2⟩ | ⟨ad, c, h1, _⟩
  ·exact ⟨none, 0, by rw [h1, h2]; rfl⟩
  ·exact ⟨_, _, h1⟩
 obtain ⟨ba, bc, rfl⟩ := hbv
 obtain ⟨ra, rc, hrv⟩ := zak (hR.node k d hd).row
 have HSZ : Hid (∀ W, Kept (fun _ => False) w W → Calls Tryz.prog 176 #[.pointer (some ⟨fb, 0, none⟩)] W fun e w' => e = .returned (.int .i64 d.data.length) ∧ w' = W) := by
  intro W hW
  have hc := zaa (o := 1) ((hW.block _ (zab (hR.node k d hd).cells) (fun h => h)).trans (hR.node k d hd).cells) rfl
  rw [hrv] at hc
  exact size_ok fb k T.tb ra d.data.length rc W ((hW.block _ (zab hf) (fun h => h)).trans hf) hc
 have H0 := hid h0
 have H0T := hid h0T
 have HDIR := hid hdir
 have HBL := hid hbl
 have g0 : w.cell? ⟨b0, 0, none⟩ = some (.pointer (some ⟨fb, 0, none⟩)) := zaa h0 rfl
 have g1 : w.cell? ⟨b0, 1, none⟩ = some (.int .i64 2) := zaa h0 rfl
 have g2 : w.cell? ⟨b0, 2, none⟩ = some (.int .i64 pos) := zaa h0 rfl
 have gf : ∀ o, w.frozen? ⟨b0, o, none⟩ = false := fun o => zah h0 o
 clear hR hd hdir hb hbf h0 h0T hf hck0 hck hrv hfb
 go_enter Tryz.func178, Tryz.ntmps178
 go_wp2_with fail
 refine (HSZ.out _ (Kept.refl _ w)).mono ?_
 rintro e w0 ⟨rfl, rfl⟩
 have HKS : Hid (Kept (fun x => x = b0) w0 ((w0.setCell ⟨b0, 2, none⟩ (.int .i64 d.data.length)).drew)) := ((Kept.refl (fun x => x = b0) w0).setCell (p := ⟨b0, 2, none⟩) (Or.inl rfl) _).drew
 have HB1 : Hid (((w0.setCell ⟨b0, 2, none⟩ (.int .i64 d.data.length)).drew).heap[b0]? = some (.cells #[.pointer (some ⟨fb, 0, none⟩), .int .i64 2, .int .i64 d.data.length] 125 (0, 0))) := zaj H0.out 2 _
 go_wp2_with fail
 go_region_with (go_at_call 180; refine (HWA.out _ HKS.out).mono ?_; rintro e w1 ⟨bv1, rfl, hR1, hk1, hf1⟩)
 all_goals
  have H1 : Hid (w1.heap[b0]? = some (.cells #[.pointer (some ⟨fb, 0, none⟩), .int .i64 2, .int .i64 d.data.length] 125 (0, 0))) := (hk1.block _ (zab HB1.out) H0T.out).trans HB1.out
  have HFIN : Hid (FAny B w0 T b0 fb 2 k d d.data.length b (.returned .nilIface) (w1.setCell ⟨b0, 2, none⟩ (.int .i64 ((d.data.length : Int) + (b.length : Int))))) := by
   have hsz : ((w0.setCell ⟨b0, 2, none⟩ (.int .i64 d.data.length)).drew).heap.size = w0.heap.size := by simp [World.setCell, World.drew]
   refine ⟨T.setData k d bv1 (zb9 d.data d.data.length b), rfl, ?_, ⟨by rw [writeD_some _ _ HBL.out]; exact Wr.set T k HDIR.out bv1 _, .inr ⟨HBL.out, bv1, rfl⟩⟩, ?_, ?_, fun x hx => by rw [← hsz]; exact hf1 x hx⟩
   ·refine hR1.kept (F := fun x => x = b0) ((Kept.refl (fun x => x = b0) w1).setCell (p := ⟨b0, 2, none⟩) (Or.inl rfl) _) (fun x hx he => ?_)
    rcases hf1 x hx with h | h
    ·exact H0T.out (he ▸ h)
    ·have h9 := zab H0.out
     rw [hsz] at h
     omega
   ·rw [Int.natCast_add]
    exact zaj H1.out 2 _
   ·refine ((HKS.out.mono (F1 := fun x => T.foot x ∨ x = b0) (fun x hx => Or.inr hx)).trans hk1 (fun x hx => .inl (.inl hx))).setCell (p := ⟨b0, 2, none⟩) (Or.inl (Or.inr rfl)) _
  clear hR1 hk1 hf1 g0 g1 g2 gf
  have g0 : w1.cell? ⟨b0, 2, none⟩ = some (.int .i64 d.data.length) := zaa H1.out rfl
  have g1 : ∀ o, w1.frozen? ⟨b0, o, none⟩ = false := fun o => zah H1.out o
  go_wp2_with fail
  go_ret
  exact HFIN.out
theorem fwrite_any {B : Nat} {T : Tr} (b0 fb k : Nat) (d : Nd) (way pos : Int) (p : Nat) (hw : (way = 1 ∧ pos = p) ∨ (way = 2 ∧ p = d.data.length)) (bv : Value) (b : List UInt8) (w : World) (hB : B ≤ w.heap.size) (hR : Rep B w T) (hck0 : 0 ≤ T.clock) (hck : T.clock ≤ 1152921504606846976)
  (hd : T.nd k = some d) (hdir : d.dir = false) (hdl : d.data.length ≤ 65536) (hp : p + b.length ≤ 65536) (hb : Src w bv b) (hbf : 0 < b.length → ∀ x, bv.ownBlock = some x → ¬ T.foot x ∧ x ≠ b0)
  (h0 : w.heap[b0]? = some (.cells #[.pointer (some ⟨fb, 0, none⟩), .int .i64 way, .int .i64 pos] 125 (0, 0))) (h0T : ¬ T.foot b0)
  (hf : w.heap[fb]? = some (.cells #[.pointer (some ⟨k, 0, none⟩), .pointer (some ⟨T.tb, 0, none⟩)] 168 (0, 0))) :
  Calls Tryz.prog 178 #[.pointer (some ⟨b0, 0, none⟩), bv] w fun e w' => FAny B w T b0 fb way k d p b e w' := by
 by_cases hbl : 0 < b.length
 ·rcases hw with ⟨rfl, rfl⟩ | ⟨rfl, rfl⟩
  ·refine (fwrite_ok b0 fb p bv b w hB hR hck0 hck k d hd hdir hdl hp hbl hb (fun x h => (hbf hbl x h).1) h0 h0T hf).mono ?_
   rintro e w' ⟨bv1, rfl, h1, h2, h3, h4⟩
   exact ⟨_, rfl, h1, ⟨by rw [writeD_some _ _ hbl]; exact Wr.set T k hdir bv1 _, .inr ⟨hbl, bv1, rfl⟩⟩, h2, h3, h4⟩
  ·exact fwrite_add b0 fb pos bv b w hB hR hck0 hck k d hd hdir hp hbl hb (hbf hbl) h0 h0T hf
 ·have hb0 : b = [] := List.eq_nil_of_length_eq_zero (by omega)
  subst hb0
  obtain ⟨ba, bc, rfl⟩ : ∃ ba bc, bv = .slice ba 0 bc := by
   rcases hb with ⟨h1, _⟩ | ⟨ad, c, h1, _⟩
   ·exact ⟨none, 0, h1⟩
   ·exact ⟨_, _, h1⟩
  rcases hw with ⟨rfl, rfl⟩ | ⟨rfl, rfl⟩
  ·exact fwrite_none b0 fb p ba bc w hR k d hd hdir (by simpa using hp) h0 h0T
  ·exact fwrite_none2 b0 fb pos ba bc w hR k d hd hdir hdl h0 h0T hf
end
section
def KWAnyX (B : Nat) (w : World) (K : Ks) (b0 : Nat) (f : Fl) (d : Nd) (p : Nat) (b : List UInt8) (e : Ending) (w' : World) : Prop :=
 ∃ T', e = .returned .nilIface ∧ KRep B w' { K with T := T', fl := zaz K.fl b0 { f with pos := ((p + b.length : Nat) : Int) } } ∧ WrX K.T T' f.node d p b ∧ Wr K.T T' f.node d (writeD d.data p b) ∧ Kept K.foot w w' ∧
  (∀ x, ({ K with T := T', fl := zaz K.fl b0 { f with pos := ((p + b.length : Nat) : Int) } } : Ks).foot x → K.foot x ∨ w.heap.size ≤ x)
theorem Wr.files {T T' : Tr} {k : Nat} {d : Nd} {l : List UInt8} (h : Wr T T' k d l) : ∀ n x, T.nd n = some x → x.dir = false → ∃ x', T'.nd n = some x' ∧ x'.dir = false := by
 intro n x hn hx
 by_cases hk : n = k
 ·subst hk
  obtain ⟨d', h1, h2, _⟩ := h.here
  exact ⟨d', h1, h2⟩
 ·exact ⟨x, (h.others n hk).trans hn, hx⟩
theorem kwany_made {B : Nat} {w w' : World} {K : Ks} (hK : KRep B w K) {b0 : Nat} {f : Fl} (hf0 : K.fl b0 = some f) {d : Nd} {p : Nat} {b : List UInt8} {e : Ending}
  (h : FAny B w K.T b0 f.fb f.way f.node d p b e w') : KWAnyX B w K b0 f d p b e w' := by
 obtain ⟨T', rfl, hR, ⟨hwr, hwx⟩, hc, hk, hft⟩ := h
 refine ⟨T', rfl, hK.wrote hf0 hR hwr.tb hk hft hwr.files hc, hwx, hwr, hk.mono (fun x hx => ?_), fun x hx => ?_⟩
 ·rcases hx with hx | rfl
  ·exact .inr hx
  ·exact .inl (.inr (.inr (.inr (.inr (.inr (.inr (.inr (.inl ⟨f, hf0⟩))))))))
 ·rcases hx with (h1 | h1 | h1 | h1 | h1 | h1 | h1 | ⟨g, h1⟩ | ⟨c, g, h1, h2⟩) | hx
  ·exact .inl (.inl (.inl h1))
  ·exact .inl (.inl (.inr (.inl h1)))
  ·exact .inl (.inl (.inr (.inr (.inl h1))))
  ·exact .inl (.inl (.inr (.inr (.inr (.inl h1)))))
  ·exact .inl (.inl (.inr (.inr (.inr (.inr (.inl h1))))))
  ·exact .inl (.inl (.inr (.inr (.inr (.inr (.inr (.inl h1)))))))
  ·exact .inl (.inl (.inr (.inr (.inr (.inr (.inr (.inr (.inl h1))))))))
  ·have h3 : zaz K.fl b0 { f with pos := ((p + b.length : Nat) : Int) } x = some g := h1
   unfold zaz at h3
   by_cases hc : x = b0
   ·subst hc
    exact .inl (.inl (.inr (.inr (.inr (.inr (.inr (.inr (.inr (.inl ⟨f, hf0⟩)))))))))
   ·rw [if_neg hc] at h3
    exact .inl (.inl (.inr (.inr (.inr (.inr (.inr (.inr (.inr (.inl ⟨g, h3⟩)))))))))
  ·have h3 : zaz K.fl b0 { f with pos := ((p + b.length : Nat) : Int) } c = some g := h1
   unfold zaz at h3
   by_cases hc : c = b0
   ·rw [if_pos hc] at h3
    obtain rfl := Option.some.inj h3
    exact .inl (.inl (.inr (.inr (.inr (.inr (.inr (.inr (.inr (.inr ⟨b0, f, hf0, h2⟩)))))))))
   ·rw [if_neg hc] at h3
    exact .inl (.inl (.inr (.inr (.inr (.inr (.inr (.inr (.inr (.inr ⟨c, g, h3, h2⟩)))))))))
  ·rcases hft x hx with h | h
   ·exact .inl (.inr h)
   ·exact .inr h
set_option maxRecDepth 100000 in
set_option maxHeartbeats 1000000 in
theorem kwrite_anyx {B : Nat} {w : World} {K : Ks} (hB : B ≤ w.heap.size) (hK : KRep B w K) (fd : Nat) (hfd : fd < 16) (b0 : Nat) (h : K.fds fd = some (.file b0)) (f : Fl) (hf0 : K.fl b0 = some f) (d : Nd) (p : Nat)
  (hw : (f.way = 1 ∧ f.pos = p) ∨ (f.way = 2 ∧ p = d.data.length))
  (hck0 : 0 ≤ K.T.clock) (hck : K.T.clock ≤ 1152921504606846976) (hd : K.T.nd f.node = some d) (hdir : d.dir = false) (hdl : d.data.length ≤ 65536) (b : List UInt8) (hp : p + b.length ≤ 65536)
  (bv : Value) (hb : Src w bv b) (hbf : 0 < b.length → ∀ x, bv.ownBlock = some x → ¬ K.foot x) :
  Calls Tryz.prog 28 #[.pointer (some ⟨K.kb, 0, none⟩), .int .i64 fd, bv] w fun e w' => KWAnyX B w K b0 f d p b e w' := by
 have HU : Hid (Calls Tryz.prog 53 #[.pointer (some ⟨K.kb, 0, none⟩), .int .i64 fd] w fun e w' => za9 w true e w') := by
  have h1 := za2 hK.kern fd
  rw [zbc hfd, h] at h1
  exact h1
 have hc : w.cell? ⟨K.kb, 1 + fd, none⟩ = some (.iface 123 (.pointer (some ⟨b0, 0, none⟩))) := by
  have h1 := hK.kern.fd fd hfd
  rw [h] at h1
  exact h1
 have HW : Hid (Calls Tryz.prog 178 #[.pointer (some ⟨b0, 0, none⟩), bv] w fun e w' => FAny B w K.T b0 f.fb f.way f.node d p b e w') := by
  have h2 := hK.file b0 f hf0
  have h3 : K.own b0 := .inr (.inr (.inr (.inr (.inr (.inr (.inr (.inl ⟨f, hf0⟩)))))))
  exact fwrite_any b0 f.fb f.node d f.way f.pos p hw bv b w hB hK.tree hck0 hck hd hdir hdl hp hb (fun hl x hx => ⟨fun hf => hbf hl x hx (.inr hf), fun he => hbf hl x hx (.inl (he ▸ h3))⟩) h2.1 (hK.apart _ h3) h2.2.1
 have HKR : Hid (KRep B w K) := hK
 have HF0 : Hid (K.fl b0 = some f) := hf0
 have hfi : (fd : Int) < 16 := by omega
 clear hK h hf0 hw hck0 hck hd hdir hdl hp hb hbf
 go_enter Tryz.func28, Tryz.ntmps28
 go_wp2_with fail
 refine HU.out.mono ?_
 rintro e w1 ⟨rfl, rfl⟩
 go_wp2_with fail
 refine HW.out.mono ?_
 intro e w2 hpost
 have HX := hid (kwany_made HKR.out HF0.out hpost)
 obtain ⟨_, rfl, _⟩ := hpost
 go_wp2_with fail
 go_ret
 exact HX.out
end
section
def zb8 (d : List UInt8) (p n : Nat) : List UInt8 := (d.drop p).take n
def zcx (w : World) (l : List UInt8) (e : Ending) (w' : World) : Prop :=
 ∃ v, e = .returned v ∧ w'.ownsRow w.heap.size 5 1 v l.length (u8s l) ∧ Below w.heap.size w w'
theorem readAt_none (f pos n : Nat) (k tb : Nat) (a : Option Addr) (len c : Nat) (w : World) (hge : len ≤ pos)
  (hf : w.heap[f]? = some (.cells #[.pointer (some ⟨k, 0, none⟩), .pointer (some ⟨tb, 0, none⟩)] 168 (0, 0))) (hk : w.cell? ⟨k, 1, none⟩ = some (.slice a len c)) :
  Calls Tryz.prog 179 #[.pointer (some ⟨f, 0, none⟩), .int .i64 pos, .int .i64 n] w fun e w' => zcx w [] e w' := by
 have g0 : w.cell? ⟨f, 0, none⟩ = some (.pointer (some ⟨k, 0, none⟩)) := zaa hf rfl
 have hgi : (len : Int) ≤ pos := by omega
 clear hf
 go_enter Tryz.func179, Tryz.ntmps179
 go_wp2_with fail
 go_ret
 exact ⟨_, rfl, World.ownsRow_nil _ _ _ _, Below.refl _ _⟩
theorem add_eq (g o j : Nat) : (⟨g, o, none⟩ : Addr).add j = ⟨g, o + j, none⟩ := by
 unfold Addr.add
 by_cases h : j = 0
 ·subst h; rfl
 ·simp [h]
theorem src_cut {w : World} {g o c : Nat} {l : List UInt8} (h : Src w (.slice (some ⟨g, o, none⟩) l.length c) l) (p m : Nat) (hp : p + m ≤ l.length) (hpc : p ≤ c) :
  Src w (.slice (some ⟨g, o + p, none⟩) m (c - p)) ((l.drop p).take m) := by
 have e : ((l.drop p).take m).length = m := by simp; omega
 rcases h with ⟨h1, _⟩ | ⟨ad, c', h1, h2, h3⟩
 ·cases h1
 ·simp only [Value.slice.injEq, Option.some.injEq] at h1
  obtain ⟨rfl, _, rfl⟩ := h1
  refine .inr ⟨⟨g, o + p, none⟩, c - p, by rw [e], by omega, fun j hj => ?_⟩
  have h4 := h3 (p + j) (by omega)
  simp only [List.getElem_take, List.getElem_drop]
  rw [← h4, add_eq, add_eq, Nat.add_assoc]
section
attribute [local go_sem ↓] ap_rule
set_option maxRecDepth 100000 in
set_option maxHeartbeats 1000000 in
theorem readAt_some (f pos n : Nat) (k tb : Nat) (g len c : Nat) (w : World) (hn : (n : Int) ≤ 9223372036854775807) (hlt : pos < len) (hlen : len ≤ 140737488355328) (hc : len ≤ c)
  (hf : w.heap[f]? = some (.cells #[.pointer (some ⟨k, 0, none⟩), .pointer (some ⟨tb, 0, none⟩)] 168 (0, 0))) (hk : w.cell? ⟨k, 1, none⟩ = some (.slice (some ⟨g, 0, none⟩) len c))
  (l : List UInt8) (hll : l.length = len) (hs : Src w (.slice (some ⟨g, 0, none⟩) len c) l) :
  Calls Tryz.prog 179 #[.pointer (some ⟨f, 0, none⟩), .int .i64 pos, .int .i64 n] w fun e w' => zcx w (zb8 l pos n) e w' := by
 have g0 : w.cell? ⟨f, 0, none⟩ = some (.pointer (some ⟨k, 0, none⟩)) := zaa hf rfl
 have hli : (pos : Int) < len := by omega
 have hleni : (len : Int) ≤ 140737488355328 := by omega
 obtain ⟨m, hm⟩ : ∃ m : Nat, m = min n (len - pos) := ⟨_, rfl⟩
 obtain ⟨q, hq⟩ : ∃ q : Nat, q = pos + m := ⟨_, rfl⟩
 have hrl : (zb8 l pos n).length = m := by unfold zb8; rw [List.length_take, List.length_drop, hll, hm]
 have hsrc : Src w.drew (.slice (some ⟨g, pos, none⟩) m (c - pos)) (zb8 l pos n) := by
  have h := src_cut (g := g) (o := 0) (c := c) (hll.symm ▸ hs) pos m (by omega) (by omega)
  rw [Nat.zero_add] at h
  have e : (l.drop pos).take m = zb8 l pos n := by
   unfold zb8
   rw [hm, ← hll, ← List.length_drop, List.take_eq_take_iff]
   simp
  rw [e] at h
  exact h
 obtain ⟨hok, hn2, hown2, hgrow2⟩ := zex (w := w.drew) w.heap.size (.slice none 0 0) 0 [] (World.ownsRow_nil _ _ _ _) _ _ hsrc (by omega) (Nat.le_refl _)
 have HO2 : Hid ((apW w.drew (.slice none 0 0) (.slice (some ⟨g, pos, none⟩) m (c - pos))).ownsRow w.heap.size 5 1 (.slice (apA w.drew (.slice none 0 0) (.slice (some ⟨g, pos, none⟩) m (c - pos))) (apN w.drew (.slice none 0 0) (.slice (some ⟨g, pos, none⟩) m (c - pos))) (apC w.drew (.slice none 0 0) (.slice (some ⟨g, pos, none⟩) m (c - pos)))) (zb8 l pos n).length (u8s (zb8 l pos n))) := by
  show World.ownsRow _ _ _ _ _ _ _
  have h := hown2
  rw [Nat.zero_add, List.nil_append] at h
  exact h
 have HG2 : Hid (Below w.heap.size w (apW w.drew (.slice none 0 0) (.slice (some ⟨g, pos, none⟩) m (c - pos)))) := ⟨hgrow2.os, hgrow2.tape, hgrow2.output, hgrow2.size, fun x hx => hgrow2.block x hx (by simp [Value.ownBlock])⟩
 have e1 : IntKind.i64.wrap ((len : Int) - pos) = (len : Int) - pos := IntWalk.i64_in _ (by omega)
 have e2 : min (n : Int) ((len : Int) - pos) = m := by omega
 have e3 : IntKind.i64.wrap ((pos : Int) + m) = q := by rw [IntWalk.i64_in _ (by omega)]; omega
 have hqc : (q : Int) ≤ c := by omega
 have hpq : pos ≤ q := by omega
 have hqp : q - pos = m := by omega
 have hcp : ¬ c = pos := by omega
 have HM := hid hm
 have HQ := hid hq
 have HLL := hid hll
 have HRL := hid hrl
 have HLEN := hid hlen
 clear hf hs hm hq hll hrl hsrc hn2 hown2 hgrow2 hlen
 go_enter Tryz.func179, Tryz.ntmps179
 go_wp2_with fail
 go_region
 go_wp2_with fail
 go_ret
 exact ⟨_, rfl, HO2.out, HG2.out⟩
end
theorem readAt_any {B : Nat} {T : Tr} (f pos n : Nat) (w : World) (hR : Rep B w T) (k : Nat) (d : Nd) (hd : T.nd k = some d) (hdl : d.data.length ≤ 140737488355328)
  (hn : (n : Int) ≤ 9223372036854775807) (hf : w.heap[f]? = some (.cells #[.pointer (some ⟨k, 0, none⟩), .pointer (some ⟨T.tb, 0, none⟩)] 168 (0, 0))) :
  Calls Tryz.prog 179 #[.pointer (some ⟨f, 0, none⟩), .int .i64 pos, .int .i64 n] w fun e w' => zcx w (zb8 d.data pos n) e w' := by
 have hrow := (hR.node k d hd).row
 have hk : w.cell? ⟨k, 1, none⟩ = some d.bv := zaa (hR.node k d hd).cells rfl
 by_cases hlt : pos < d.data.length
 ·rcases hrow.2 with ⟨_, h0⟩ | ⟨g, cap, cur, hbv, _, _, hc, _⟩
  ·omega
  ·rw [hbv] at hk hrow
   exact readAt_some f pos n k T.tb g d.data.length cap w hn hlt hdl hc hf hk d.data rfl (Src.of_owns hrow)
 ·obtain ⟨a, c, hbv⟩ := zak hrow
  rw [hbv] at hk
  have e : zb8 d.data pos n = [] := by
   unfold zb8
   rw [List.drop_eq_nil_of_le (by omega)]
   simp
  rw [e]
  exact readAt_none f pos n k T.tb a d.data.length c w (by omega) hf hk
theorem zef (d : List UInt8) (p n : Nat) : (zb8 d p n).length = min n (d.length - p) := by
 unfold zb8
 rw [List.length_take, List.length_drop]
def FReadPost (w : World) (b0 fb : Nat) (way : Int) (pos : Nat) (l : List UInt8) (e : Ending) (w' : World) : Prop :=
 ∃ v, e = .returned (.tuple #[v, .nilIface]) ∧ w'.ownsRow w.heap.size 5 1 v l.length (u8s l) ∧ Kept (fun x => x = b0) w w' ∧
  w'.heap[b0]? = some (.cells #[.pointer (some ⟨fb, 0, none⟩), .int .i64 way, .int .i64 ((pos + l.length : Nat) : Int)] 125 (0, 0))
set_option maxRecDepth 100000 in
set_option maxHeartbeats 1000000 in
theorem fread_ok {B : Nat} {T : Tr} (b0 fb pos n : Nat) (w : World) (hR : Rep B w T) (k : Nat) (d : Nd) (hd : T.nd k = some d) (hdl : d.data.length ≤ 140737488355328) (hp : (pos : Int) ≤ 4611686018427387904) (hn : (n : Int) ≤ 9223372036854775807)
  (h0 : w.heap[b0]? = some (.cells #[.pointer (some ⟨fb, 0, none⟩), .int .i64 0, .int .i64 pos] 125 (0, 0)))
  (hf : w.heap[fb]? = some (.cells #[.pointer (some ⟨k, 0, none⟩), .pointer (some ⟨T.tb, 0, none⟩)] 168 (0, 0))) :
  Calls Tryz.prog 177 #[.pointer (some ⟨b0, 0, none⟩), .int .i64 n] w fun e w' => FReadPost w b0 fb 0 pos (zb8 d.data pos n) e w' := by
 have HRA : Hid (∀ W, Kept (fun _ => False) w W → Calls Tryz.prog 179 #[.pointer (some ⟨fb, 0, none⟩), .int .i64 pos, .int .i64 n] W fun e w' => zcx W (zb8 d.data pos n) e w') :=
  fun W hW => readAt_any fb pos n W (hR.kept hW (fun _ _ h => h)) k d hd hdl hn ((hW.block _ (zab hf) (fun h => h)).trans hf)
 have H0 := hid h0
 have g0 : w.cell? ⟨b0, 0, none⟩ = some (.pointer (some ⟨fb, 0, none⟩)) := zaa h0 rfl
 have g1 : w.cell? ⟨b0, 1, none⟩ = some (.int .i64 0) := zaa h0 rfl
 have g2 : w.cell? ⟨b0, 2, none⟩ = some (.int .i64 pos) := zaa h0 rfl
 have hll : ((zb8 d.data pos n).length : Int) ≤ 140737488355328 := by rw [zef]; omega
 generalize zb8 d.data pos n = l at *
 clear hR hd hdl h0 hf
 go_enter Tryz.func177, Tryz.ntmps177
 go_wp2_with fail
 go_region_with (go_at_call 179; refine (HRA.out _ (by first | exact Kept.refl _ _ | exact (Kept.refl _ _).drew | exact ((Kept.refl _ _).drew).drew)).mono ?_; rintro e w1 ⟨v, rfl, hown, hb⟩; obtain ⟨va, vc, rfl⟩ := zak hown)
 all_goals
  have HO := hid hown
  have HB := hid (((Below.refl w.heap.size w).drew).trans hb)
  clear hown hb
  have H1 := hid (zae HB.out (zab H0.out) H0.out)
  have p2 := zaa (o := 2) H1.out rfl
  have pf := fun o => zah H1.out o
  go_wp2_with fail
  go_ret2
  refine ⟨_, rfl, ?_, (Kept.of_below HB.out (fun x => x = b0)).setCell (p := ⟨b0, 2, none⟩) (.inl rfl) _, ?_⟩
  ·exact zai HO.out (Kept.setCell (F := fun x => x = b0) (Kept.refl _ _) (.inl rfl) _) (fun r hr he => by have h1 := (HO.out.lt r hr).1; have h2 := zab H0.out; simp at h1; omega)
  ·exact zaj H1.out 2 _
end
end Go.Proofs.YteeeaeiafdgpkaaGreatDoor
