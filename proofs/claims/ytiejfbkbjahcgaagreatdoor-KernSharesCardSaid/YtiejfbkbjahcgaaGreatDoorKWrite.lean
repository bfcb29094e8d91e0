/-
  A kern's Write to an open file, whatever is written.
-/
import Derived.Test.YtiejfbkbjahcgaaGreatDoorFAny
namespace Go.Proofs.YtiejfbkbjahcgaaGreatDoor
open Go Go.RowKit

/-- What a kern's Write to an open file leaves. -/
def KWAny (B : Nat) (w : World) (K : Ks) (b0 : Nat) (f : Fl) (d : Nd) (p : Nat) (b : List UInt8) (e : Ending) (w' : World) : Prop :=
  ∃ T', e = .returned .nilIface ∧ KRep B w' { K with T := T', fl := setFl K.fl b0 { f with pos := ((p + b.length : Nat) : Int) } } ∧ Wr K.T T' f.node d (writeD d.data p b) ∧ Kept K.foot w w' ∧
    (∀ x, ({ K with T := T', fl := setFl K.fl b0 { f with pos := ((p + b.length : Nat) : Int) } } : Ks).foot x → K.foot x ∨ w.heap.size ≤ x)

theorem Wr.files {T T' : Tr} {k : Nat} {d : Nd} {l : List UInt8} (h : Wr T T' k d l) : ∀ n x, T.nd n = some x → x.dir = false → ∃ x', T'.nd n = some x' ∧ x'.dir = false := by
  intro n x hn hx
  by_cases hk : n = k
  · subst hk
    obtain ⟨d', h1, h2, _⟩ := h.here
    exact ⟨d', h1, h2⟩
  · exact ⟨x, (h.others n hk).trans hn, hx⟩

theorem kwany_made {B : Nat} {w w' : World} {K : Ks} (hK : KRep B w K) {b0 : Nat} {f : Fl} (hf0 : K.fl b0 = some f) {d : Nd} {p : Nat} {b : List UInt8} {e : Ending}
    (h : FAny B w K.T b0 f.fb f.way f.node d p b e w') : KWAny B w K b0 f d p b e w' := by
  obtain ⟨T', rfl, hR, hwr, hc, hk, hft⟩ := h
  refine ⟨T', rfl, hK.wrote hf0 hR hwr.tb hk hft hwr.files hc, hwr, hk.mono (fun x hx => ?_), fun x hx => ?_⟩
  · rcases hx with hx | rfl
    · exact .inr hx
    · exact .inl (.inr (.inr (.inr (.inr (.inr (.inr (.inr (.inl ⟨f, hf0⟩))))))))
  · rcases hx with (h1 | h1 | h1 | h1 | h1 | h1 | h1 | ⟨g, h1⟩ | ⟨c, g, h1, h2⟩) | hx
    · exact .inl (.inl (.inl h1))
    · exact .inl (.inl (.inr (.inl h1)))
    · exact .inl (.inl (.inr (.inr (.inl h1))))
    · exact .inl (.inl (.inr (.inr (.inr (.inl h1)))))
    · exact .inl (.inl (.inr (.inr (.inr (.inr (.inl h1))))))
    · exact .inl (.inl (.inr (.inr (.inr (.inr (.inr (.inl h1)))))))
    · exact .inl (.inl (.inr (.inr (.inr (.inr (.inr (.inr (.inl h1))))))))
    · have h3 : setFl K.fl b0 { f with pos := ((p + b.length : Nat) : Int) } x = some g := h1
      unfold setFl at h3
      by_cases hc : x = b0
      · subst hc
        exact .inl (.inl (.inr (.inr (.inr (.inr (.inr (.inr (.inr (.inl ⟨f, hf0⟩)))))))))
      · rw [if_neg hc] at h3
        exact .inl (.inl (.inr (.inr (.inr (.inr (.inr (.inr (.inr (.inl ⟨g, h3⟩)))))))))
    · have h3 : setFl K.fl b0 { f with pos := ((p + b.length : Nat) : Int) } c = some g := h1
      unfold setFl at h3
      by_cases hc : c = b0
      · rw [if_pos hc] at h3
        obtain rfl := Option.some.inj h3
        exact .inl (.inl (.inr (.inr (.inr (.inr (.inr (.inr (.inr (.inr ⟨b0, f, hf0, h2⟩)))))))))
      · rw [if_neg hc] at h3
        exact .inl (.inl (.inr (.inr (.inr (.inr (.inr (.inr (.inr (.inr ⟨c, g, h3, h2⟩)))))))))
    · rcases hft x hx with h | h
      · exact .inl (.inr h)
      · exact .inr h

set_option maxRecDepth 100000 in
set_option maxHeartbeats 1000000 in
theorem kwrite_any {B : Nat} {w : World} {K : Ks} (hB : B ≤ w.heap.size) (hK : KRep B w K) (fd : Nat) (hfd : fd < 16) (b0 : Nat) (h : K.fds fd = some (.file b0)) (f : Fl) (hf0 : K.fl b0 = some f) (d : Nd) (p : Nat)
    (hw : (f.way = 1 ∧ f.pos = p) ∨ (f.way = 2 ∧ p = d.data.length))
    (hck0 : 0 ≤ K.T.clock) (hck : K.T.clock ≤ 1152921504606846976) (hd : K.T.nd f.node = some d) (hdir : d.dir = false) (hdl : d.data.length ≤ 65536) (b : List UInt8) (hp : p + b.length ≤ 65536)
    (bv : Value) (hb : Src w bv b) (hbf : 0 < b.length → ∀ x, bv.ownBlock = some x → ¬ K.foot x) :
    Calls Tryz.prog 95 #[.pointer (some ⟨K.kb, 0, none⟩), .int .i64 fd, bv] w fun e w' => KWAny B w K b0 f d p b e w' := by
  have HU : Hid (Calls Tryz.prog 94 #[.pointer (some ⟨K.kb, 0, none⟩), .int .i64 fd] w fun e w' => UsedPost w true e w') := by
    have h1 := kern_used hK.kern fd
    rw [usedFd_in hfd, h] at h1
    exact h1
  have hc : w.cell? ⟨K.kb, 1 + fd, none⟩ = some (.iface 186 (.pointer (some ⟨b0, 0, none⟩))) := by
    have h1 := hK.kern.fd fd hfd
    rw [h] at h1
    exact h1
  have HW : Hid (Calls Tryz.prog 214 #[.pointer (some ⟨b0, 0, none⟩), bv] w fun e w' => FAny B w K.T b0 f.fb f.way f.node d p b e w') := by
    have h2 := hK.file b0 f hf0
    have h3 : K.own b0 := .inr (.inr (.inr (.inr (.inr (.inr (.inr (.inl ⟨f, hf0⟩)))))))
    exact fwrite_any b0 f.fb f.node d f.way f.pos p hw bv b w hB hK.tree hck0 hck hd hdir hdl hp hb (fun hl x hx => ⟨fun hf => hbf hl x hx (.inr hf), fun he => hbf hl x hx (.inl (he ▸ h3))⟩) h2.1 (hK.apart _ h3) h2.2.1
  have HKR : Hid (KRep B w K) := hK
  have HF0 : Hid (K.fl b0 = some f) := hf0
  have hfi : (fd : Int) < 16 := by omega
  clear hK h hf0 hw hck0 hck hd hdir hdl hp hb hbf
  go_enter Tryz.func95, Tryz.ntmps95
  go_wp2_with fail
  refine HU.out.mono ?_
  rintro e w1 ⟨rfl, rfl⟩
  go_wp2_with fail
  refine HW.out.mono ?_
  intro e w2 hpost
  have HX := Lib.hid (kwany_made HKR.out HF0.out hpost)
  obtain ⟨_, rfl, _⟩ := hpost
  go_wp2_with fail
  go_ret
  exact HX.out
end Go.Proofs.YtiejfbkbjahcgaaGreatDoor
