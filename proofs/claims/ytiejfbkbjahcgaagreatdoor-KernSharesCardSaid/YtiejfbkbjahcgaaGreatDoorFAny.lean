/-
  An open file's write, whatever is written: the laws of writeD; Size; the calls by ways 1 and 2.
-/
import Derived.Test.YtiejfbkbjahcgaaGreatDoorFWrite
import Derived.Test.YtiejfbkbjahcgaaGreatDoorRead
namespace Go.Proofs.YtiejfbkbjahcgaaGreatDoor
open Go Go.RowKit

/-- Bytes put into a file at a place; nothing put turns nothing. -/
def writeD (d : List UInt8) (p : Nat) (b : List UInt8) : List UInt8 := if b = [] then d else putAt d p b

theorem writeD_nil (d : List UInt8) (p : Nat) : writeD d p [] = d := by simp [writeD]
theorem writeD_some (d : List UInt8) (p : Nat) {b : List UInt8} (h : 0 < b.length) : writeD d p b = putAt d p b := by
  unfold writeD
  rw [if_neg (fun e => by rw [e] at h; simp at h)]
theorem writeD_end (d b : List UInt8) : writeD d d.length b = d ++ b := by
  by_cases h : b = []
  · subst h; simp [writeD]
  · unfold writeD putAt
    rw [if_neg h]
    simp

/-- One file of the tree turned, nothing else of it but the clock. -/
structure Wr (T T' : Tr) (k : Nat) (d : Nd) (l : List UInt8) : Prop where
  tb : T'.tb = T.tb
  root : T'.root = T.root
  count : T'.count = T.count
  clock : T.clock ≤ T'.clock ∧ T'.clock ≤ T.clock + 1
  here : ∃ d', T'.nd k = some d' ∧ d'.dir = false ∧ d'.data = l ∧ d'.links = d.links
  others : ∀ n, n ≠ k → T'.nd n = T.nd n

theorem Wr.same {T : Tr} {k : Nat} {d : Nd} (hd : T.nd k = some d) (hdir : d.dir = false) : Wr T T k d d.data := ⟨rfl, rfl, rfl, ⟨Int.le_refl _, by omega⟩, ⟨d, hd, hdir, rfl, rfl⟩, fun _ _ => rfl⟩
theorem Wr.set (T : Tr) (k : Nat) {d : Nd} (hdir : d.dir = false) (bv : Value) (l : List UInt8) : Wr T (T.setData k d bv l) k d l :=
  ⟨rfl, rfl, by simp [Tr.setData, Tr.set, Tr.tick], ⟨by show T.clock ≤ T.clock + 1; omega, Int.le_refl _⟩, ⟨{ d with bv := bv, data := l, tick := T.clock + 1 }, by simp [Tr.setData, Tr.set, Tr.tick], hdir, rfl, rfl⟩, fun n hn => by simp only [Tr.setData, Tr.set, Tr.tick, hn, if_false]⟩

/-- What a file's write leaves, whatever is written. -/
def FAny (B : Nat) (w : World) (T : Tr) (b0 fb : Nat) (way : Int) (k : Nat) (d : Nd) (p : Nat) (b : List UInt8) (e : Ending) (w' : World) : Prop :=
  ∃ T', e = .returned .nilIface ∧ Rep B w' T' ∧ Wr T T' k d (writeD d.data p b) ∧ w'.heap[b0]? = some (.cells #[.pointer (some ⟨fb, 0, none⟩), .int .i64 way, .int .i64 ((p + b.length : Nat) : Int)] 188 (0, 0)) ∧
    Kept (fun x => T.foot x ∨ x = b0) w w' ∧ (∀ x, T'.foot x → T.foot x ∨ w.heap.size ≤ x)

theorem size_ok (f k tb : Nat) (a : Option Addr) (n c : Nat) (w : World) (hf : w.heap[f]? = some (.cells #[.pointer (some ⟨k, 0, none⟩), .pointer (some ⟨tb, 0, none⟩)] 149 (0, 0)))
    (hk : w.cell? ⟨k, 1, none⟩ = some (.slice a n c)) :
    Calls Tryz.prog 31 #[.pointer (some ⟨f, 0, none⟩)] w fun e w' => e = .returned (.int .i64 n) ∧ w' = w := by
  have g0 : w.cell? ⟨f, 0, none⟩ = some (.pointer (some ⟨k, 0, none⟩)) := cell_of hf rfl
  clear hf
  go_enter Tryz.func31, Tryz.ntmps31
  go_wp2_with fail
  go_ret
  exact ⟨rfl, rfl⟩

set_option maxRecDepth 100000 in
set_option maxHeartbeats 1000000 in
theorem fwrite_none {B : Nat} {T : Tr} (b0 fb p : Nat) (ba : Option Addr) (bc : Nat) (w : World) (hR : Rep B w T) (k : Nat) (d : Nd) (hd : T.nd k = some d) (hdir : d.dir = false) (hp : p ≤ 65536)
    (h0 : w.heap[b0]? = some (.cells #[.pointer (some ⟨fb, 0, none⟩), .int .i64 1, .int .i64 p] 188 (0, 0))) (h0T : ¬ T.foot b0) :
    Calls Tryz.prog 214 #[.pointer (some ⟨b0, 0, none⟩), .slice ba 0 bc] w fun e w' => FAny B w T b0 fb 1 k d p [] e w' := by
  have HWA : Hid (∀ W, Calls Tryz.prog 33 #[.pointer (some ⟨fb, 0, none⟩), .int .i64 p, .slice ba 0 bc] W fun e w' => e = .returned .nilIface ∧ w' = W) :=
    fun W => writeAt_none fb p ba bc W hp
  have H0 := Lib.hid h0
  have g0 : w.cell? ⟨b0, 0, none⟩ = some (.pointer (some ⟨fb, 0, none⟩)) := cell_of h0 rfl
  have g1 : w.cell? ⟨b0, 1, none⟩ = some (.int .i64 1) := cell_of h0 rfl
  have g2 : w.cell? ⟨b0, 2, none⟩ = some (.int .i64 p) := cell_of h0 rfl
  have gf : ∀ o, w.frozen? ⟨b0, o, none⟩ = false := fun o => free_of h0 o
  have HFIN : Hid (∀ W, Kept (fun _ => False) w W → FAny B w T b0 fb 1 k d p [] (.returned .nilIface) (W.setCell ⟨b0, 2, none⟩ (.int .i64 p))) := by
    intro W hW
    have hKW : Kept (fun x => x = b0) w (W.setCell ⟨b0, 2, none⟩ (.int .i64 p)) := (hW.mono (F1 := fun x => x = b0) (fun _ h => h.elim)).setCell (p := ⟨b0, 2, none⟩) (Or.inl rfl) _
    refine ⟨T, rfl, hR.kept hKW (fun x hx he => h0T (he ▸ hx)), by rw [writeD_nil]; exact Wr.same hd hdir, ?_, hKW.mono (fun x hx => .inr hx), fun x hx => .inl hx⟩
    exact heap_set_same ((hW.block _ (lt_of_heap h0) (fun h => h)).trans h0) 2 _
  clear hR hd hdir h0 h0T
  go_enter Tryz.func214, Tryz.ntmps214
  go_wp2_with fail
  go_region_with (go_at_call 33; refine (HWA.out _).mono ?_; rintro e w1 ⟨rfl, rfl⟩)
  all_goals
    go_wp2_with fail
    go_ret
    exact HFIN.out _ (Kept.refl _ w).drew

/-- By way 2, nothing: the place goes to the end. -/
theorem fwrite_none2 {B : Nat} {T : Tr} (b0 fb : Nat) (pos : Int) (ba : Option Addr) (bc : Nat) (w : World) (hR : Rep B w T) (k : Nat) (d : Nd) (hd : T.nd k = some d) (hdir : d.dir = false) (hdl : d.data.length ≤ 65536)
    (h0 : w.heap[b0]? = some (.cells #[.pointer (some ⟨fb, 0, none⟩), .int .i64 2, .int .i64 pos] 188 (0, 0))) (h0T : ¬ T.foot b0)
    (hf : w.heap[fb]? = some (.cells #[.pointer (some ⟨k, 0, none⟩), .pointer (some ⟨T.tb, 0, none⟩)] 149 (0, 0))) :
    Calls Tryz.prog 214 #[.pointer (some ⟨b0, 0, none⟩), .slice ba 0 bc] w fun e w' => FAny B w T b0 fb 2 k d d.data.length [] e w' := by
  have HWA : Hid (∀ W, Calls Tryz.prog 33 #[.pointer (some ⟨fb, 0, none⟩), .int .i64 d.data.length, .slice ba 0 bc] W fun e w' => e = .returned .nilIface ∧ w' = W) :=
    fun W => writeAt_none fb d.data.length ba bc W hdl
  obtain ⟨ra, rc, hrv⟩ := owns_form (hR.node k d hd).row
  have HSZ : Hid (∀ W, Kept (fun _ => False) w W → Calls Tryz.prog 31 #[.pointer (some ⟨fb, 0, none⟩)] W fun e w' => e = .returned (.int .i64 d.data.length) ∧ w' = W) := by
    intro W hW
    have hc := cell_of (o := 1) ((hW.block _ (lt_of_heap (hR.node k d hd).cells) (fun h => h)).trans (hR.node k d hd).cells) rfl
    rw [hrv] at hc
    exact size_ok fb k T.tb ra d.data.length rc W ((hW.block _ (lt_of_heap hf) (fun h => h)).trans hf) hc
  have g0 : w.cell? ⟨b0, 0, none⟩ = some (.pointer (some ⟨fb, 0, none⟩)) := cell_of h0 rfl
  have g1 : w.cell? ⟨b0, 1, none⟩ = some (.int .i64 2) := cell_of h0 rfl
  have g2 : w.cell? ⟨b0, 2, none⟩ = some (.int .i64 pos) := cell_of h0 rfl
  have gf : ∀ o, w.frozen? ⟨b0, o, none⟩ = false := fun o => free_of h0 o
  have HFIN : Hid (∀ W, Kept (fun x => x = b0) w W → W.heap[b0]? = some (.cells #[.pointer (some ⟨fb, 0, none⟩), .int .i64 2, .int .i64 d.data.length] 188 (0, 0)) → FAny B w T b0 fb 2 k d d.data.length [] (.returned .nilIface) W) := by
    intro W hW hb
    exact ⟨T, rfl, hR.kept hW (fun x hx he => h0T (he ▸ hx)), by rw [writeD_nil]; exact Wr.same hd hdir, hb, hW.mono (fun x hx => .inr hx), fun x hx => .inl hx⟩
  have H0 := Lib.hid h0
  clear hR hd hdir h0 h0T hf hrv
  go_enter Tryz.func214, Tryz.ntmps214
  go_wp2_with fail
  refine (HSZ.out _ (Kept.refl _ w)).mono ?_
  rintro e w1 ⟨rfl, rfl⟩
  go_wp2_with fail
  go_region_with (go_at_call 33; refine (HWA.out _).mono ?_; rintro e w1 ⟨rfl, rfl⟩)
  all_goals
    go_wp2_with fail
    go_ret
    refine HFIN.out _ ((((Kept.refl (fun x => x = b0) w1).setCell (p := ⟨b0, 2, none⟩) (Or.inl rfl) _).setCell (p := ⟨b0, 2, none⟩) (Or.inl rfl) _).drew) ?_
    exact heap_set_same (heap_set_same H0.out 2 _) 2 _

set_option maxRecDepth 100000 in
set_option maxHeartbeats 1000000 in
/-- By way 2, something: behind the end. -/
theorem fwrite_add {B : Nat} {T : Tr} (b0 fb : Nat) (pos : Int) (bv : Value) (b : List UInt8) (w : World) (hB : B ≤ w.heap.size) (hR : Rep B w T) (hck0 : 0 ≤ T.clock) (hck : T.clock ≤ 1152921504606846976)
    (k : Nat) (d : Nd) (hd : T.nd k = some d) (hdir : d.dir = false) (hp : d.data.length + b.length ≤ 65536) (hbl : 0 < b.length) (hb : Src w bv b) (hbf : ∀ x, bv.ownBlock = some x → ¬ T.foot x ∧ x ≠ b0)
    (h0 : w.heap[b0]? = some (.cells #[.pointer (some ⟨fb, 0, none⟩), .int .i64 2, .int .i64 pos] 188 (0, 0))) (h0T : ¬ T.foot b0)
    (hf : w.heap[fb]? = some (.cells #[.pointer (some ⟨k, 0, none⟩), .pointer (some ⟨T.tb, 0, none⟩)] 149 (0, 0))) :
    Calls Tryz.prog 214 #[.pointer (some ⟨b0, 0, none⟩), bv] w fun e w' => FAny B w T b0 fb 2 k d d.data.length b e w' := by
  have hfb : fb ≠ b0 := cells_ne_type hf h0 (by decide)
  have HWA : Hid (∀ W, Kept (fun x => x = b0) w W → Calls Tryz.prog 33 #[.pointer (some ⟨fb, 0, none⟩), .int .i64 d.data.length, bv] W fun e w' => WrPost B W T k d (putAt d.data d.data.length b) e w') :=
    fun W hW => writeAt_ok fb d.data.length bv b W (Nat.le_trans hB hW.size) (hR.kept hW (fun _ h e => h0T (e ▸ h))) hck0 hck k d hd hdir (by omega) hp hbl (hb.kept hW (fun x h e => (hbf x h).2 e)) (fun x h => (hbf x h).1) ((hW.block _ (lt_of_heap hf) hfb).trans hf)
  have hbv : ∃ ba bc, bv = .slice ba b.length bc := by
    rcases hb with ⟨h1, h2⟩ | ⟨ad, c, h1, _⟩
    · exact ⟨none, 0, by rw [h1, h2]; rfl⟩
    · exact ⟨_, _, h1⟩
  obtain ⟨ba, bc, rfl⟩ := hbv
  obtain ⟨ra, rc, hrv⟩ := owns_form (hR.node k d hd).row
  have HSZ : Hid (∀ W, Kept (fun _ => False) w W → Calls Tryz.prog 31 #[.pointer (some ⟨fb, 0, none⟩)] W fun e w' => e = .returned (.int .i64 d.data.length) ∧ w' = W) := by
    intro W hW
    have hc := cell_of (o := 1) ((hW.block _ (lt_of_heap (hR.node k d hd).cells) (fun h => h)).trans (hR.node k d hd).cells) rfl
    rw [hrv] at hc
    exact size_ok fb k T.tb ra d.data.length rc W ((hW.block _ (lt_of_heap hf) (fun h => h)).trans hf) hc
  have H0 := Lib.hid h0
  have H0T := Lib.hid h0T
  have HDIR := Lib.hid hdir
  have HBL := Lib.hid hbl
  have g0 : w.cell? ⟨b0, 0, none⟩ = some (.pointer (some ⟨fb, 0, none⟩)) := cell_of h0 rfl
  have g1 : w.cell? ⟨b0, 1, none⟩ = some (.int .i64 2) := cell_of h0 rfl
  have g2 : w.cell? ⟨b0, 2, none⟩ = some (.int .i64 pos) := cell_of h0 rfl
  have gf : ∀ o, w.frozen? ⟨b0, o, none⟩ = false := fun o => free_of h0 o
  clear hR hd hdir hb hbf h0 h0T hf hck0 hck hrv hfb
  go_enter Tryz.func214, Tryz.ntmps214
  go_wp2_with fail
  refine (HSZ.out _ (Kept.refl _ w)).mono ?_
  rintro e w0 ⟨rfl, rfl⟩
  have HKS : Hid (Kept (fun x => x = b0) w0 ((w0.setCell ⟨b0, 2, none⟩ (.int .i64 d.data.length)).drew)) := ((Kept.refl (fun x => x = b0) w0).setCell (p := ⟨b0, 2, none⟩) (Or.inl rfl) _).drew
  have HB1 : Hid (((w0.setCell ⟨b0, 2, none⟩ (.int .i64 d.data.length)).drew).heap[b0]? = some (.cells #[.pointer (some ⟨fb, 0, none⟩), .int .i64 2, .int .i64 d.data.length] 188 (0, 0))) := heap_set_same H0.out 2 _
  go_wp2_with fail
  go_region_with (go_at_call 33; refine (HWA.out _ HKS.out).mono ?_; rintro e w1 ⟨bv1, rfl, hR1, hk1, hf1⟩)
  all_goals
    have H1 : Hid (w1.heap[b0]? = some (.cells #[.pointer (some ⟨fb, 0, none⟩), .int .i64 2, .int .i64 d.data.length] 188 (0, 0))) := (hk1.block _ (lt_of_heap HB1.out) H0T.out).trans HB1.out
    have HFIN : Hid (FAny B w0 T b0 fb 2 k d d.data.length b (.returned .nilIface) (w1.setCell ⟨b0, 2, none⟩ (.int .i64 ((d.data.length : Int) + (b.length : Int))))) := by
      have hsz : ((w0.setCell ⟨b0, 2, none⟩ (.int .i64 d.data.length)).drew).heap.size = w0.heap.size := by simp [World.setCell, World.drew]
      refine ⟨T.setData k d bv1 (putAt d.data d.data.length b), rfl, ?_, by rw [writeD_some _ _ HBL.out]; exact Wr.set T k HDIR.out bv1 _, ?_, ?_, fun x hx => by rw [← hsz]; exact hf1 x hx⟩
      · refine hR1.kept (F := fun x => x = b0) ((Kept.refl (fun x => x = b0) w1).setCell (p := ⟨b0, 2, none⟩) (Or.inl rfl) _) (fun x hx he => ?_)
        rcases hf1 x hx with h | h
        · exact H0T.out (he ▸ h)
        · have h9 := lt_of_heap H0.out
          rw [hsz] at h
          omega
      · rw [Int.natCast_add]
        exact heap_set_same H1.out 2 _
      · refine ((HKS.out.mono (F1 := fun x => T.foot x ∨ x = b0) (fun x hx => Or.inr hx)).trans hk1 (fun x hx => .inl (.inl hx))).setCell (p := ⟨b0, 2, none⟩) (Or.inl (Or.inr rfl)) _
    clear hR1 hk1 hf1 g0 g1 g2 gf
    have g0 : w1.cell? ⟨b0, 2, none⟩ = some (.int .i64 d.data.length) := cell_of H1.out rfl
    have g1 : ∀ o, w1.frozen? ⟨b0, o, none⟩ = false := fun o => free_of H1.out o
    go_wp2_with fail
    go_ret
    exact HFIN.out

/-- Any way that writes, any bytes: the place is p. -/
theorem fwrite_any {B : Nat} {T : Tr} (b0 fb k : Nat) (d : Nd) (way pos : Int) (p : Nat) (hw : (way = 1 ∧ pos = p) ∨ (way = 2 ∧ p = d.data.length)) (bv : Value) (b : List UInt8) (w : World) (hB : B ≤ w.heap.size) (hR : Rep B w T) (hck0 : 0 ≤ T.clock) (hck : T.clock ≤ 1152921504606846976)
    (hd : T.nd k = some d) (hdir : d.dir = false) (hdl : d.data.length ≤ 65536) (hp : p + b.length ≤ 65536) (hb : Src w bv b) (hbf : 0 < b.length → ∀ x, bv.ownBlock = some x → ¬ T.foot x ∧ x ≠ b0)
    (h0 : w.heap[b0]? = some (.cells #[.pointer (some ⟨fb, 0, none⟩), .int .i64 way, .int .i64 pos] 188 (0, 0))) (h0T : ¬ T.foot b0)
    (hf : w.heap[fb]? = some (.cells #[.pointer (some ⟨k, 0, none⟩), .pointer (some ⟨T.tb, 0, none⟩)] 149 (0, 0))) :
    Calls Tryz.prog 214 #[.pointer (some ⟨b0, 0, none⟩), bv] w fun e w' => FAny B w T b0 fb way k d p b e w' := by
  by_cases hbl : 0 < b.length
  · rcases hw with ⟨rfl, rfl⟩ | ⟨rfl, rfl⟩
    · refine (fwrite_ok b0 fb p bv b w hB hR hck0 hck k d hd hdir hdl hp hbl hb (fun x h => (hbf hbl x h).1) h0 h0T hf).mono ?_
      rintro e w' ⟨bv1, rfl, h1, h2, h3, h4⟩
      exact ⟨_, rfl, h1, by rw [writeD_some _ _ hbl]; exact Wr.set T k hdir bv1 _, h2, h3, h4⟩
    · exact fwrite_add b0 fb pos bv b w hB hR hck0 hck k d hd hdir hp hbl hb (hbf hbl) h0 h0T hf
  · have hb0 : b = [] := List.eq_nil_of_length_eq_zero (by omega)
    subst hb0
    obtain ⟨ba, bc, rfl⟩ : ∃ ba bc, bv = .slice ba 0 bc := by
      rcases hb with ⟨h1, _⟩ | ⟨ad, c, h1, _⟩
      · exact ⟨none, 0, h1⟩
      · exact ⟨_, _, h1⟩
    rcases hw with ⟨rfl, rfl⟩ | ⟨rfl, rfl⟩
    · exact fwrite_none b0 fb p ba bc w hR k d hd hdir (by simpa using hp) h0 h0T
    · exact fwrite_none2 b0 fb pos ba bc w hR k d hd hdir hdl h0 h0T hf
end Go.Proofs.YtiejfbkbjahcgaaGreatDoor
