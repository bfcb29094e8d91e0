/-
  A kern's Read of an open file.
-/
import Derived.Test.YtiejfbkbjahcgaaGreatDoorKRead
import Derived.Test.YtiejfbkbjahcgaaGreatDoorAwake
namespace Go.Proofs.YtiejfbkbjahcgaaGreatDoor
open Go Go.RowKit

theorem wrote_foot {P : Nat → Prop} {K : Ks} {b0 : Nat} {f : Fl} (hf0 : K.fl b0 = some f) {T' : Tr} {pos : Int} (hft : ∀ x, T'.foot x → K.T.foot x ∨ P x) : ∀ x, ({ K with T := T', fl := setFl K.fl b0 { f with pos := pos } } : Ks).foot x → K.foot x ∨ P x := by
  intro x hx
  rcases hx with (h1 | h1 | h1 | h1 | h1 | h1 | h1 | ⟨g, h1⟩ | ⟨c, g, h1, h2⟩) | hx
  · exact .inl (.inl (.inl h1))
  · exact .inl (.inl (.inr (.inl h1)))
  · exact .inl (.inl (.inr (.inr (.inl h1))))
  · exact .inl (.inl (.inr (.inr (.inr (.inl h1)))))
  · exact .inl (.inl (.inr (.inr (.inr (.inr (.inl h1))))))
  · exact .inl (.inl (.inr (.inr (.inr (.inr (.inr (.inl h1)))))))
  · exact .inl (.inl (.inr (.inr (.inr (.inr (.inr (.inr (.inl h1))))))))
  · have h3 : setFl K.fl b0 { f with pos := pos } x = some g := h1
    unfold setFl at h3
    by_cases hc : x = b0
    · subst hc
      exact .inl (.inl (.inr (.inr (.inr (.inr (.inr (.inr (.inr (.inl ⟨f, hf0⟩)))))))))
    · rw [if_neg hc] at h3
      exact .inl (.inl (.inr (.inr (.inr (.inr (.inr (.inr (.inr (.inl ⟨g, h3⟩)))))))))
  · have h3 : setFl K.fl b0 { f with pos := pos } c = some g := h1
    unfold setFl at h3
    by_cases hc : c = b0
    · rw [if_pos hc] at h3
      obtain rfl := Option.some.inj h3
      exact .inl (.inl (.inr (.inr (.inr (.inr (.inr (.inr (.inr (.inr ⟨b0, f, hf0, h2⟩)))))))))
    · rw [if_neg hc] at h3
      exact .inl (.inl (.inr (.inr (.inr (.inr (.inr (.inr (.inr (.inr ⟨c, g, h3, h2⟩)))))))))
  · rcases hft x hx with h | h
    · exact .inl (.inr h)
    · exact .inr h

/-- What a kern's Read of an open file leaves. -/
def KFRead (B : Nat) (w : World) (K : Ks) (b0 : Nat) (f : Fl) (p : Nat) (l : List UInt8) (e : Ending) (w' : World) : Prop :=
  ∃ v, e = .returned (.tuple #[v, .nilIface]) ∧ w'.ownsRow w.heap.size 5 1 v l.length (u8s l) ∧ KRep B w' { K with fl := setFl K.fl b0 { f with pos := ((p + l.length : Nat) : Int) } } ∧ Kept K.foot w w' ∧
    (∀ x, ({ K with fl := setFl K.fl b0 { f with pos := ((p + l.length : Nat) : Int) } } : Ks).foot x → K.foot x)

theorem kfread_made {B : Nat} {w w' : World} {K : Ks} (hK : KRep B w K) {b0 : Nat} {f : Fl} (hf0 : K.fl b0 = some f) (hway : f.way = 0) {p : Nat} {l : List UInt8} {e : Ending} (h : FReadPost w b0 f.fb 0 p l e w') : KFRead B w K b0 f p l e w' := by
  obtain ⟨v, rfl, h1, h2, h3⟩ := h
  have hb0 : K.own b0 := .inr (.inr (.inr (.inr (.inr (.inr (.inr (.inl ⟨f, hf0⟩)))))))
  have hR : Rep B w' K.T := hK.tree.kept h2 (fun x hx he => hK.apart b0 hb0 (by rw [← he]; exact hx))
  rw [← hway] at h3
  exact ⟨v, rfl, h1, hK.wrote hf0 hR rfl (h2.mono (fun x hx => .inr hx)) (fun x hx => .inl hx) (fun n d hn hd => ⟨d, hn, hd⟩) h3, h2.mono (fun x hx => by rw [hx]; exact .inl hb0), fun x hx => (wrote_foot (P := fun _ => False) hf0 (fun x hx => .inl hx) x hx).resolve_right (fun h => h)⟩

set_option maxRecDepth 100000 in
set_option maxHeartbeats 1000000 in
theorem kread_file {B : Nat} {w : World} {K : Ks} (hK : KRep B w K) (fd n : Nat) (hfd : fd < 16) (b0 : Nat) (h : K.fds fd = some (.file b0)) (f : Fl) (hf0 : K.fl b0 = some f) (hway : f.way = 0) (p : Nat) (hpos : f.pos = p) (hp : p ≤ 4611686018427387904) (hn : n ≤ 9223372036854775807)
    (d : Nd) (hd : K.T.nd f.node = some d) (hdl : d.data.length ≤ 140737488355328) :
    Calls Tryz.prog 55 #[.pointer (some ⟨K.kb, 0, none⟩), .int .i64 fd, .int .i64 n] w fun e w' => KFRead B w K b0 f p (readL d.data p n) e w' := by
  have HU : Hid (Calls Tryz.prog 94 #[.pointer (some ⟨K.kb, 0, none⟩), .int .i64 fd] w fun e w' => UsedPost w true e w') := by
    have h1 := kern_used hK.kern fd
    rw [usedFd_in hfd, h] at h1
    exact h1
  have hc : w.cell? ⟨K.kb, 1 + fd, none⟩ = some (.iface 186 (.pointer (some ⟨b0, 0, none⟩))) := by
    have h1 := hK.kern.fd fd hfd
    rw [h] at h1
    exact h1
  have HR : Hid (Calls Tryz.prog 213 #[.pointer (some ⟨b0, 0, none⟩), .int .i64 n] w fun e w' => FReadPost w b0 f.fb 0 p (readL d.data p n) e w') := by
    have h2 := hK.file b0 f hf0
    have h3 := h2.1
    rw [hway, hpos] at h3
    exact fread_ok b0 f.fb p n w hK.tree f.node d hd hdl (by omega) (by omega) h3 h2.2.1
  have HKR := Lib.hid hK
  have HF0 := Lib.hid hf0
  have HWAY := Lib.hid hway
  have hfi : (fd : Int) < 16 := by omega
  generalize readL d.data p n = L at *
  clear hK h hf0 hway hpos hd hdl
  go_enter Tryz.func55, Tryz.ntmps55
  go_wp2_with fail
  refine HU.out.mono ?_
  rintro e w1 ⟨rfl, rfl⟩
  go_wp2_with fail
  refine HR.out.mono ?_
  intro e w2 hp
  have HX := Lib.hid (kfread_made HKR.out HF0.out HWAY.out hp)
  obtain ⟨v, rfl, hrow, _⟩ := hp
  obtain ⟨va, vc, rfl⟩ := owns_form hrow
  clear hrow
  go_wp2_with fail
  go_ret2
  exact HX.out
end Go.Proofs.YtiejfbkbjahcgaaGreatDoor
