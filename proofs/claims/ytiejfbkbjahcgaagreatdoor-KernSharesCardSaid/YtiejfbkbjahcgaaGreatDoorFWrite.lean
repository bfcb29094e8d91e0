/-
  An open file's write, where it writes; a kern's Write to one.
-/
import Derived.Test.YtiejfbkbjahcgaaGreatDoorWriteAt
import Derived.Test.YtiejfbkbjahcgaaGreatDoorKOpen
namespace Go.Proofs.YtiejfbkbjahcgaaGreatDoor
open Go Go.RowKit

/-- What a file's write leaves. -/
def FWPost (B : Nat) (w : World) (T : Tr) (b0 fb : Nat) (way : Int) (k : Nat) (d : Nd) (p : Nat) (b : List UInt8) (e : Ending) (w' : World) : Prop :=
  ∃ bv, e = .returned .nilIface ∧ Rep B w' (T.setData k d bv (putAt d.data p b)) ∧ w'.heap[b0]? = some (.cells #[.pointer (some ⟨fb, 0, none⟩), .int .i64 way, .int .i64 ((p + b.length : Nat) : Int)] 188 (0, 0)) ∧
    Kept (fun x => T.foot x ∨ x = b0) w w' ∧ (∀ x, (T.setData k d bv (putAt d.data p b)).foot x → T.foot x ∨ w.heap.size ≤ x)

set_option maxRecDepth 100000 in
set_option maxHeartbeats 1000000 in
theorem fwrite_ok {B : Nat} {T : Tr} (b0 fb p : Nat) (bv : Value) (b : List UInt8) (w : World) (hB : B ≤ w.heap.size) (hR : Rep B w T) (hck0 : 0 ≤ T.clock) (hck : T.clock ≤ 1152921504606846976)
    (k : Nat) (d : Nd) (hd : T.nd k = some d) (hdir : d.dir = false) (hdl : d.data.length ≤ 65536) (hp : p + b.length ≤ 65536) (hbl : 0 < b.length) (hb : Src w bv b) (hbf : ∀ x, bv.ownBlock = some x → ¬ T.foot x)
    (h0 : w.heap[b0]? = some (.cells #[.pointer (some ⟨fb, 0, none⟩), .int .i64 1, .int .i64 p] 188 (0, 0))) (h0T : ¬ T.foot b0)
    (hf : w.heap[fb]? = some (.cells #[.pointer (some ⟨k, 0, none⟩), .pointer (some ⟨T.tb, 0, none⟩)] 149 (0, 0))) :
    Calls Tryz.prog 214 #[.pointer (some ⟨b0, 0, none⟩), bv] w fun e w' => FWPost B w T b0 fb 1 k d p b e w' := by
  have HWA : Hid (∀ W, Kept (fun _ => False) w W → Calls Tryz.prog 33 #[.pointer (some ⟨fb, 0, none⟩), .int .i64 p, bv] W fun e w' => WrPost B W T k d (putAt d.data p b) e w') :=
    fun W hW => writeAt_ok fb p bv b W (Nat.le_trans hB hW.size) (hR.kept hW (fun _ _ h => h)) hck0 hck k d hd hdir hdl hp hbl (hb.kept hW (fun _ _ h => h)) hbf ((hW.block _ (lt_of_heap hf) (fun h => h)).trans hf)
  have hbv : ∃ ba bc, bv = .slice ba b.length bc := by
    rcases hb with ⟨h1, h2⟩ | ⟨ad, c, h1, _⟩
    · exact ⟨none, 0, by rw [h1, h2]; rfl⟩
    · exact ⟨_, _, h1⟩
  obtain ⟨ba, bc, rfl⟩ := hbv
  have H0 := Lib.hid h0
  have H0T := Lib.hid h0T
  have g0 : w.cell? ⟨b0, 0, none⟩ = some (.pointer (some ⟨fb, 0, none⟩)) := cell_of h0 rfl
  have g1 : w.cell? ⟨b0, 1, none⟩ = some (.int .i64 1) := cell_of h0 rfl
  have g2 : w.cell? ⟨b0, 2, none⟩ = some (.int .i64 p) := cell_of h0 rfl
  clear hR hd hdir hdl hb hbf h0 h0T hf hck0 hck
  go_enter Tryz.func214, Tryz.ntmps214
  go_wp2_with fail
  go_region_with (go_at_call 33; refine (HWA.out _ (Kept.refl _ w).drew).mono ?_; rintro e w1 ⟨bv1, rfl, hR1, hk1, hf1⟩)
  all_goals
    have hk1 : Kept T.foot w w1 := ⟨hk1.os, hk1.tape, hk1.output, hk1.size, hk1.block⟩
    have H1 : Hid (w1.heap[b0]? = some (.cells #[.pointer (some ⟨fb, 0, none⟩), .int .i64 1, .int .i64 p] 188 (0, 0))) := (hk1.block _ (lt_of_heap H0.out) H0T.out).trans H0.out
    have HFIN : Hid (FWPost B w T b0 fb 1 k d p b (.returned .nilIface) (w1.setCell ⟨b0, 2, none⟩ (.int .i64 ((p : Int) + (b.length : Int))))) := by
      refine ⟨bv1, rfl, ?_, ?_, ?_, hf1⟩
      · refine hR1.kept (F := fun x => x = b0) ((Kept.refl (fun x => x = b0) w1).setCell (p := ⟨b0, 2, none⟩) (Or.inl rfl) _) (fun x hx he => ?_)
        rcases hf1 x hx with h | h
        · exact H0T.out (he ▸ h)
        · have h9 := lt_of_heap H0.out
          have h8 : w.drew.heap.size = w.heap.size := rfl
          omega
      · rw [Int.natCast_add]
        exact heap_set_same H1.out 2 _
      · exact (hk1.mono (F1 := fun x => T.foot x ∨ x = b0) (fun x hx => Or.inl hx)).setCell (p := ⟨b0, 2, none⟩) (Or.inl (Or.inr rfl)) _
    clear hR1 hk1 hf1 g0 g1 g2
    have g0 : w1.cell? ⟨b0, 2, none⟩ = some (.int .i64 p) := cell_of H1.out rfl
    have g1 : ∀ o, w1.frozen? ⟨b0, o, none⟩ = false := fun o => free_of H1.out o
    go_wp2_with fail
    go_ret
    exact HFIN.out

/-- One open file's place and the tree were turned. -/
theorem KRep.wrote {B : Nat} {w w' : World} {K : Ks} (h : KRep B w K) {b0 : Nat} {f : Fl} (hf0 : K.fl b0 = some f) {T' : Tr} (hT : Rep B w' T') (htb : T'.tb = K.T.tb) (k : Kept (fun x => K.T.foot x ∨ x = b0) w w') (hfoot : ∀ x, T'.foot x → K.T.foot x ∨ w.heap.size ≤ x)
    (hfiles : ∀ n d, K.T.nd n = some d → d.dir = false → ∃ d', T'.nd n = some d' ∧ d'.dir = false) {pos : Int}
    (hb : w'.heap[b0]? = some (.cells #[ptrV (some f.fb), .int .i64 f.way, .int .i64 pos] 188 (0, 0))) : KRep B w' { K with T := T', fl := setFl K.fl b0 { f with pos := pos } } := by
  have h0 := (h.file b0 f hf0).1
  have own : ∀ x, ({ K with T := T', fl := setFl K.fl b0 { f with pos := pos } } : Ks).own x → K.own x := by
    rintro x (h1 | h1 | h1 | h1 | h1 | h1 | h1 | ⟨g, h1⟩ | ⟨c, g, h1, h2⟩)
    · exact .inl h1
    · exact .inr (.inl h1)
    · exact .inr (.inr (.inl h1))
    · exact .inr (.inr (.inr (.inl h1)))
    · exact .inr (.inr (.inr (.inr (.inl h1))))
    · exact .inr (.inr (.inr (.inr (.inr (.inl h1)))))
    · exact .inr (.inr (.inr (.inr (.inr (.inr (.inl h1))))))
    · have h3 : setFl K.fl b0 { f with pos := pos } x = some g := h1
      unfold setFl at h3
      by_cases hx : x = b0
      · subst hx
        exact .inr (.inr (.inr (.inr (.inr (.inr (.inr (.inl ⟨f, hf0⟩)))))))
      · rw [if_neg hx] at h3
        exact .inr (.inr (.inr (.inr (.inr (.inr (.inr (.inl ⟨g, h3⟩)))))))
    · have h3 : setFl K.fl b0 { f with pos := pos } c = some g := h1
      unfold setFl at h3
      by_cases hc : c = b0
      · rw [if_pos hc] at h3
        obtain rfl := Option.some.inj h3
        exact .inr (.inr (.inr (.inr (.inr (.inr (.inr (.inr ⟨b0, f, hf0, h2⟩)))))))
      · rw [if_neg hc] at h3
        exact .inr (.inr (.inr (.inr (.inr (.inr (.inr (.inr ⟨c, g, h3, h2⟩)))))))
  have key : ∀ b, K.own b → b ≠ b0 → ¬ (K.T.foot b ∨ b = b0) := fun b hb hn hf => by
    rcases hf with hf | hf
    · exact h.apart b hb hf
    · exact hn hf
  obtain ⟨ck, hck, _⟩ := h.kern.cells
  refine ⟨?_, hT, fun x hx => h.low x (own x hx), fun b hb hf => ?_, ?_, ?_, fun r hr => ?_, ?_, ?_, ?_, ?_, h.two, h.rows1, h.rows2, h.rows3, fun b g hg => ?_, fun j => ?_⟩
  · have h1 := h.kern.kept k (key _ (.inl rfl) (cells_ne_type hck h0 (by decide)))
    rw [← htb] at h1
    exact h1
  · rcases hfoot b hf with h1 | h1
    · exact h.apart b (own b hb) h1
    · exact absurd (h.own_lt (own b hb)) (by omega)
  · exact (k.block _ (lt_of_heap h.inp) (key _ (.inr (.inl rfl)) (cells_ne_type h.inp h0 (by decide)))).trans h.inp
  · refine h.inS.kept k (fun b hb => key b (.inr (.inr (.inr (.inr (.inl hb))))) ?_)
    obtain ⟨c, hc⟩ := h.inT b hb
    exact cells_ne_type hc h0 (by decide)
  · obtain ⟨c, hc⟩ := h.inT r hr
    exact ⟨c, (k.block _ (lt_of_heap hc) (key _ (.inr (.inr (.inr (.inr (.inl hr))))) (cells_ne_type hc h0 (by decide)))).trans hc⟩
  · exact (k.block _ (lt_of_heap h.out) (key _ (.inr (.inr (.inl rfl))) (cells_ne_type h.out h0 (by decide)))).trans h.out
  · refine ownsRow_kept h.outS k (fun b hb => key b (.inr (.inr (.inr (.inr (.inr (.inl hb)))))) ?_)
    obtain ⟨c, hc⟩ := row_cells h.outS hb
    exact cells_ne_type hc h0 (by decide)
  · exact (k.block _ (lt_of_heap h.err) (key _ (.inr (.inr (.inr (.inl rfl)))) (cells_ne_type h.err h0 (by decide)))).trans h.err
  · refine ownsRow_kept h.errS k (fun b hb => key b (.inr (.inr (.inr (.inr (.inr (.inr (.inl hb))))))) ?_)
    obtain ⟨c, hc⟩ := row_cells h.errS hb
    exact cells_ne_type hc h0 (by decide)
  · have h3 : setFl K.fl b0 { f with pos := pos } b = some g := hg
    unfold setFl at h3
    have hfile : ∀ b g, K.fl b = some g → w'.heap[g.fb]? = some (.cells #[ptrV (some g.node), ptrV (some K.T.tb)] 149 (0, 0)) := fun b g hg =>
      (k.block _ (lt_of_heap (h.file b g hg).2.1) (key _ (.inr (.inr (.inr (.inr (.inr (.inr (.inr (.inr ⟨b, g, hg, rfl⟩)))))))) (cells_ne_type (h.file b g hg).2.1 h0 (by decide)))).trans (h.file b g hg).2.1
    have hnode : ∀ b g, K.fl b = some g → ∃ d, T'.nd g.node = some d ∧ d.dir = false := fun b g hg => by
      obtain ⟨d, h1, h2⟩ := (h.file b g hg).2.2
      exact hfiles _ d h1 h2
    by_cases hx : b = b0
    · rw [if_pos hx] at h3
      obtain rfl := Option.some.inj h3
      subst hx
      refine ⟨hb, ?_, hnode b f hf0⟩
      show w'.heap[f.fb]? = some (.cells #[ptrV (some f.node), ptrV (some T'.tb)] 149 (0, 0))
      rw [htb]
      exact hfile b f hf0
    · rw [if_neg hx] at h3
      refine ⟨?_, ?_, hnode b g h3⟩
      · exact (k.block _ (lt_of_heap (h.file b g h3).1) (key _ (.inr (.inr (.inr (.inr (.inr (.inr (.inr (.inl ⟨g, h3⟩)))))))) hx)).trans (h.file b g h3).1
      · show w'.heap[g.fb]? = some (.cells #[ptrV (some g.node), ptrV (some T'.tb)] 149 (0, 0))
        rw [htb]
        exact hfile b g h3
  · have hg := h.goodFds j
    show Ks.good _ (K.fds j)
    cases hj : K.fds j with
    | none => trivial
    | some e =>
      rw [hj] at hg
      cases e with
      | inp c => exact hg
      | out c => exact hg
      | file c =>
        obtain ⟨g, hg⟩ := hg
        by_cases hc : c = b0
        · exact ⟨{ f with pos := pos }, by show setFl K.fl b0 _ c = _; unfold setFl; rw [if_pos hc]⟩
        · exact ⟨g, by show setFl K.fl b0 _ c = _; unfold setFl; rw [if_neg hc]; exact hg⟩

/-- The kern with a file written to. -/
def Ks.wrote (K : Ks) (b0 : Nat) (f : Fl) (d : Nd) (bv : Value) (p : Nat) (b : List UInt8) : Ks :=
  { K with T := K.T.setData f.node d bv (putAt d.data p b), fl := setFl K.fl b0 { f with pos := ((p + b.length : Nat) : Int) } }

/-- What a kern's Write to an open file leaves. -/
def KWPost (B : Nat) (w : World) (K : Ks) (b0 : Nat) (f : Fl) (d : Nd) (p : Nat) (b : List UInt8) (e : Ending) (w' : World) : Prop :=
  ∃ bv, e = .returned .nilIface ∧ KRep B w' (K.wrote b0 f d bv p b) ∧ Kept K.foot w w'

theorem setData_files {T : Tr} {k : Nat} {d : Nd} (hd : d.dir = false) (bv : Value) (l : List UInt8) : ∀ n x, T.nd n = some x → x.dir = false → ∃ x', (T.setData k d bv l).nd n = some x' ∧ x'.dir = false := by
  intro n x hn hx
  by_cases h : n = k
  · exact ⟨_, by simp only [Tr.setData, Tr.set, h, if_true]; rfl, by simp [hd]⟩
  · exact ⟨x, by simp only [Tr.setData, Tr.set, Tr.tick, h, if_false]; exact hn, hx⟩

theorem kwrote_made {B : Nat} {w w' : World} {K : Ks} (hK : KRep B w K) {b0 : Nat} {f : Fl} (hf0 : K.fl b0 = some f) (hway : f.way = 1) {d : Nd} (hd : d.dir = false) {p : Nat} {b : List UInt8} {e : Ending}
    (h : FWPost B w K.T b0 f.fb 1 f.node d p b e w') : KWPost B w K b0 f d p b e w' := by
  obtain ⟨bv, rfl, hR, hc, hk, hft⟩ := h
  refine ⟨bv, rfl, ?_, hk.mono (fun x hx => ?_)⟩
  · refine hK.wrote hf0 hR rfl hk hft (setData_files hd bv _) ?_
    rw [hway]
    exact hc
  · rcases hx with hx | rfl
    · exact .inr hx
    · exact .inl (.inr (.inr (.inr (.inr (.inr (.inr (.inr (.inl ⟨f, hf0⟩))))))))

set_option maxRecDepth 100000 in
set_option maxHeartbeats 1000000 in
theorem kwrite_file {B : Nat} {w : World} {K : Ks} (hB : B ≤ w.heap.size) (hK : KRep B w K) (fd : Nat) (hfd : fd < 16) (b0 : Nat) (h : K.fds fd = some (.file b0)) (f : Fl) (hf0 : K.fl b0 = some f) (hway : f.way = 1) (p : Nat) (hp0 : f.pos = p)
    (hck0 : 0 ≤ K.T.clock) (hck : K.T.clock ≤ 1152921504606846976) (d : Nd) (hd : K.T.nd f.node = some d) (hdir : d.dir = false) (hdl : d.data.length ≤ 65536) (b : List UInt8) (hp : p + b.length ≤ 65536) (hbl : 0 < b.length)
    (bv : Value) (hb : Src w bv b) (hbf : ∀ x, bv.ownBlock = some x → ¬ K.foot x) :
    Calls Tryz.prog 95 #[.pointer (some ⟨K.kb, 0, none⟩), .int .i64 fd, bv] w fun e w' => KWPost B w K b0 f d p b e w' := by
  have HU : Hid (Calls Tryz.prog 94 #[.pointer (some ⟨K.kb, 0, none⟩), .int .i64 fd] w fun e w' => UsedPost w true e w') := by
    have h1 := kern_used hK.kern fd
    rw [usedFd_in hfd, h] at h1
    exact h1
  have hc : w.cell? ⟨K.kb, 1 + fd, none⟩ = some (.iface 186 (.pointer (some ⟨b0, 0, none⟩))) := by
    have h1 := hK.kern.fd fd hfd
    rw [h] at h1
    exact h1
  have HW : Hid (Calls Tryz.prog 214 #[.pointer (some ⟨b0, 0, none⟩), bv] w fun e w' => FWPost B w K.T b0 f.fb 1 f.node d p b e w') := by
    have h2 := hK.file b0 f hf0
    rw [hway, hp0] at h2
    exact fwrite_ok b0 f.fb p bv b w hB hK.tree hck0 hck f.node d hd hdir hdl hp hbl hb (fun x hx hf => hbf x hx (.inr hf)) h2.1
      (hK.apart _ (.inr (.inr (.inr (.inr (.inr (.inr (.inr (.inl ⟨f, hf0⟩))))))))) h2.2.1
  have HKR : Hid (KRep B w K) := hK
  have HF0 : Hid (K.fl b0 = some f) := hf0
  have HWAY : Hid (f.way = 1) := hway
  have HDIR : Hid (d.dir = false) := hdir
  have hfi : (fd : Int) < 16 := by omega
  clear hK h hf0 hway hp0 hck0 hck hd hdir hdl hp hbl hb hbf
  go_enter Tryz.func95, Tryz.ntmps95
  go_wp2_with fail
  refine HU.out.mono ?_
  rintro e w1 ⟨rfl, rfl⟩
  go_wp2_with fail
  refine HW.out.mono ?_
  intro e w2 hpost
  have HX := Lib.hid (kwrote_made HKR.out HF0.out HWAY.out HDIR.out hpost)
  obtain ⟨_, rfl, _⟩ := hpost
  go_wp2_with fail
  go_ret
  exact HX.out
end Go.Proofs.YtiejfbkbjahcgaaGreatDoor
