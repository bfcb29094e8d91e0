/-
  A kern's Open, of a file that there wasn't.
-/
import Derived.Test.YtiejfbkbjahcgaaGreatDoorOpen
import Derived.Lib.Hide
namespace Go.Proofs.YtiejfbkbjahcgaaGreatDoor
open Go Go.RowKit

def setFl (fl : Nat → Option Fl) (b : Nat) (f : Fl) : Nat → Option Fl := fun x => if x = b then some f else fl x

theorem KRep.addFile {B : Nat} {w : World} {K : Ks} (h : KRep B w K) {b : Nat} {f : Fl} (hb : w.heap[b]? = some (.cells #[ptrV (some f.fb), .int .i64 f.way, .int .i64 f.pos] 188 (0, 0)))
    (hf : w.heap[f.fb]? = some (.cells #[ptrV (some f.node), ptrV (some K.T.tb)] 149 (0, 0))) (hn : ∃ d, K.T.nd f.node = some d ∧ d.dir = false) (hbB : B ≤ b) (hfB : B ≤ f.fb) (hbT : ¬ K.T.foot b) (hfT : ¬ K.T.foot f.fb) :
    KRep B w { K with fl := setFl K.fl b f } := by
  have own : ∀ x, ({ K with fl := setFl K.fl b f } : Ks).own x → K.own x ∨ x = b ∨ x = f.fb := by
    rintro x (h1 | h1 | h1 | h1 | h1 | h1 | h1 | ⟨g, h1⟩ | ⟨c, g, h1, h2⟩)
    · exact .inl (.inl h1)
    · exact .inl (.inr (.inl h1))
    · exact .inl (.inr (.inr (.inl h1)))
    · exact .inl (.inr (.inr (.inr (.inl h1))))
    · exact .inl (.inr (.inr (.inr (.inr (.inl h1)))))
    · exact .inl (.inr (.inr (.inr (.inr (.inr (.inl h1))))))
    · exact .inl (.inr (.inr (.inr (.inr (.inr (.inr (.inl h1)))))))
    · by_cases hx : x = b
      · exact .inr (.inl hx)
      · have h3 : setFl K.fl b f x = some g := h1
        unfold setFl at h3
        rw [if_neg hx] at h3
        exact .inl (.inr (.inr (.inr (.inr (.inr (.inr (.inr (.inl ⟨g, h3⟩))))))))
    · have h3 : setFl K.fl b f c = some g := h1
      unfold setFl at h3
      by_cases hc : c = b
      · rw [if_pos hc] at h3
        obtain rfl := Option.some.inj h3
        exact .inr (.inr h2.symm)
      · rw [if_neg hc] at h3
        exact .inl (.inr (.inr (.inr (.inr (.inr (.inr (.inr (.inr ⟨c, g, h3, h2⟩))))))))
  refine { h with low := fun x hx => ?_, apart := fun x hx => ?_, file := fun x g hg => ?_, goodFds := fun j => ?_ }
  · rcases own x hx with h1 | rfl | rfl
    · exact h.low x h1
    · exact hbB
    · exact hfB
  · rcases own x hx with h1 | rfl | rfl
    · exact h.apart x h1
    · exact hbT
    · exact hfT
  · have h3 : setFl K.fl b f x = some g := hg
    unfold setFl at h3
    by_cases hx : x = b
    · rw [if_pos hx] at h3
      obtain rfl := Option.some.inj h3
      subst hx
      exact ⟨hb, hf, hn⟩
    · rw [if_neg hx] at h3
      exact h.file x g h3
  · have hg := h.goodFds j
    show Ks.good _ (K.fds j)
    cases hj : K.fds j with
    | none => trivial
    | some e =>
      rw [hj] at hg
      cases e with
      | inp c => exact hg
      | out c => exact hg
      | file c =>
        obtain ⟨g, hg⟩ := hg
        by_cases hc : c = b
        · exact ⟨f, by show setFl K.fl b f c = _; unfold setFl; rw [if_pos hc]⟩
        · exact ⟨g, by show setFl K.fl b f c = _; unfold setFl; rw [if_neg hc]; exact hg⟩

/-- The kern with a file opened: its block b at descriptor j. -/
def Ks.opened (K : Ks) (T' : Tr) (j b : Nat) (f : Fl) : Ks := { K with T := T', fds := setFd K.fds j (some (.file b)), fl := setFl K.fl b f }

/-- What a kern's Open leaves where it makes a file. -/
def KOpenNew (B : Nat) (w : World) (K : Ks) (i : Nat) (di : Nd) (nm : ByteArray) (way : Int) (j : Nat) (e : Ending) (w' : World) : Prop :=
  ∃ k bv f b, e = .returned (.tuple #[.int .i64 j, .nilIface]) ∧ w.heap.size ≤ k ∧ w.heap.size ≤ f ∧ w.heap.size ≤ b ∧ KRep B w' (K.opened (K.T.newFile i di nm k bv []) j b ⟨f, way, 0, k⟩) ∧ Kept K.foot w w' ∧
    (∀ x, (K.opened (K.T.newFile i di nm k bv []) j b ⟨f, way, 0, k⟩).foot x → K.foot x ∨ w.heap.size ≤ x)

theorem kopen_made {B : Nat} {w w1 : World} {K : Ks} (hB : B ≤ w.heap.size) (hK : KRep B w K) {i : Nat} {di : Nd} {nm : ByteArray} {way : Int} {j : Nat} (hj : j < 16) {k : Nat} {bv : Value} {f : Nat}
    (hk : w.heap.size ≤ k) (hf : w.heap.size ≤ f) (hof : OpenFile K.T.tb k w1 f) (hR : Rep B w1 (K.T.newFile i di nm k bv [])) (hkp : Kept K.T.foot w w1) (hdi : K.T.nd i = some di) (hdir : di.dir = true)
    (hft : ∀ x, (K.T.newFile i di nm k bv []).foot x → (K.T.foot x ∨ w.heap.size ≤ x) ∧ x ≠ f) :
    KOpenNew B w K i di nm way j (.returned (.tuple #[.int .i64 j, .nilIface])) ((w1.setCell ⟨K.kb, 1 + j, none⟩ (.iface 186 (.pointer (some ⟨w1.heap.size, 0, none⟩)))).alloc (.cells #[.pointer (some ⟨f, 0, none⟩), .int .i64 way, .int .i64 0] 188)) := by
  have hkb1 : K.kb < w1.heap.size := Nat.lt_of_lt_of_le hK.kern.lt hkp.size
  rw [← World.setCell_alloc_past _ K.kb (1 + j) _ hkb1]
  have hil : i < w.heap.size := hK.tree.node_lt hdi
  have hik : i ≠ k := by omega
  have h1 : KRep B w1 { K with T := K.T.newFile i di nm k bv [] } := hK.setTree hR rfl hkp (fun x hx => (hft x hx).1) (fun n d hn hd => by
    by_cases hni : n = i
    · subst hni
      rw [hdi] at hn
      obtain rfl := Option.some.inj hn
      rw [hdir] at hd
      cases hd
    · have hnk : n ≠ k := by have := hK.tree.node_lt hn; omega
      exact ⟨d, (newFile_other K.T di nm bv [] hni hnk).trans hn, hd⟩)
  have hlt : ∀ x, ({ K with T := K.T.newFile i di nm k bv [] } : Ks).foot x → x < w1.heap.size := fun x hx => h1.lt hx
  have h2 : KRep B (w1.alloc (.cells #[.pointer (some ⟨f, 0, none⟩), .int .i64 way, .int .i64 0] 188)) { K with T := K.T.newFile i di nm k bv [] } := h1.below (below_alloc _ _)
  have hsz : w.heap.size ≤ w1.heap.size := hkp.size
  have h3 := h2.addFile (b := w1.heap.size) (f := ⟨f, way, 0, k⟩) (heap_alloc_new w1 _) ((Below.heap_alloc _ _ _ (lt_of_heap hof)).trans hof) ⟨_, newFile_k K.T i di nm k bv [], rfl⟩ (by omega) (by show B ≤ f; omega)
    (fun hx => by have := h1.tree.lt hx; omega) (fun hx => (hft _ hx).2 rfl)
  have h4 := h3.setFds (fds := setFd K.fds j (some (.file w1.heap.size))) (w' := (w1.alloc (.cells #[.pointer (some ⟨f, 0, none⟩), .int .i64 way, .int .i64 0] 188)).setCell ⟨K.kb, 1 + j, none⟩ (.iface 186 (.pointer (some ⟨w1.heap.size, 0, none⟩))))
    (h3.kern.set j hj (some (.file w1.heap.size))) ((Kept.refl (fun b => b = K.kb) _).setCell (p := ⟨K.kb, 1 + j, none⟩) (.inl rfl) _) (fun q => by
      unfold setFd
      split
      · exact ⟨_, by show setFl K.fl _ _ _ = _; unfold setFl; rw [if_pos rfl]⟩
      · exact h3.goodFds q)
  refine ⟨k, bv, f, w1.heap.size, rfl, hk, hf, hsz, h4, ?_, ?_⟩
  · exact ((hkp.mono (F1 := K.foot) (fun x hx => .inr hx)).alloc _).setCell (p := ⟨K.kb, 1 + j, none⟩) (.inl (.inl (.inl rfl))) _
  · rintro x (hx | hx)
    · rcases hx with h1 | h1 | h1 | h1 | h1 | h1 | h1 | ⟨g, h1⟩ | ⟨c, g, h1, h2⟩
      · exact .inl (.inl (.inl h1))
      · exact .inl (.inl (.inr (.inl h1)))
      · exact .inl (.inl (.inr (.inr (.inl h1))))
      · exact .inl (.inl (.inr (.inr (.inr (.inl h1)))))
      · exact .inl (.inl (.inr (.inr (.inr (.inr (.inl h1))))))
      · exact .inl (.inl (.inr (.inr (.inr (.inr (.inr (.inl h1)))))))
      · exact .inl (.inl (.inr (.inr (.inr (.inr (.inr (.inr (.inl h1))))))))
      · have h3 : setFl K.fl w1.heap.size ⟨f, way, 0, k⟩ x = some g := h1
        unfold setFl at h3
        by_cases hc : x = w1.heap.size
        · exact .inr (by omega)
        · rw [if_neg hc] at h3
          exact .inl (.inl (.inr (.inr (.inr (.inr (.inr (.inr (.inr (.inl ⟨g, h3⟩)))))))))
      · have h3 : setFl K.fl w1.heap.size ⟨f, way, 0, k⟩ c = some g := h1
        unfold setFl at h3
        by_cases hc : c = w1.heap.size
        · rw [if_pos hc] at h3
          obtain rfl := Option.some.inj h3
          exact .inr (by rw [← h2]; exact hf)
        · rw [if_neg hc] at h3
          exact .inl (.inl (.inr (.inr (.inr (.inr (.inr (.inr (.inr (.inr ⟨c, g, h3, h2⟩)))))))))
    · rcases (hft x hx).1 with h | h
      · exact .inl (.inr h)
      · exact .inr h

set_option maxRecDepth 100000 in
set_option maxHeartbeats 1000000 in
theorem kopen_new {E : Nat → Addr} {B : Nat} {K : Ks} (p : ByteArray) (way : Int) (hway : way = 1 ∨ way = 2) (w : World) (hE : Ctx E B w) (hK : KRep B w K) (hsz : p.size ≤ 9223372036854775807) (s : Spot) (hf : K.T.find p = .ok s)
    (hk : s.n = none) (hfull : K.T.count < 200) (hcnt : 0 ≤ K.T.count) (hck0 : 0 ≤ K.T.clock) (hck : K.T.clock ≤ 1152921504606846976) (j : Nat) (hj : freeFd K.fds 0 = some j)
    (i : Nat) (di : Nd) (hi : s.inn = some i) (hdi : K.T.nd i = some di) (hdir : di.dir = true) (hlk : look di.names s.name = none) :
    Calls Tryz.prog 53 #[.pointer (some ⟨K.kb, 0, none⟩), .string p, .int .i64 way] w fun e w' => KOpenNew B w K i di s.name way j e w' := by
  have HP : Hid (Calls Tryz.prog 28 #[.pointer (some ⟨K.T.tb, 0, none⟩), .string p, .int .i64 way] w fun e w' => OpenNew B w K.T i di s.name e w') :=
    open_new p way hway w hE hK.tree hsz s hf hk hfull hcnt hck0 hck i di hi hdi hdir hlk
  have HFR : Hid (Calls Tryz.prog 93 #[.pointer (some ⟨K.kb, 0, none⟩), .int .i64 0] w fun e w' => FreePost w (some j) e w') := by
    have h1 := kern_free hK.kern 0 (by omega)
    rw [hj] at h1
    exact h1
  have hj16 : j < 16 := (freeFd_some hj).2.1
  have hji : (j : Int) < 16 := by omega
  have HKR : Hid (KRep B w K) := hK
  have HB : Hid (B ≤ w.heap.size) := hE.env.size
  have HDI : Hid (K.T.nd i = some di) := hdi
  have HDIR : Hid (di.dir = true) := hdir
  have hkt : w.cell? ⟨K.kb, 0, none⟩ = some (.pointer (some ⟨K.T.tb, 0, none⟩)) := by
    obtain ⟨c, h1, _, h3, _⟩ := hK.kern.cells
    exact cell_of h1 h3
  clear hE hK hf hk hi hdi hdir hlk hfull hcnt hck0 hck hj
  go_enter Tryz.func53, Tryz.ntmps53
  go_wp2_with fail
  refine HFR.out.mono ?_
  rintro e w0 ⟨rfl, rfl⟩
  simp only [freeV]
  go_wp2_with fail
  refine HP.out.mono ?_
  rintro e w1 ⟨k, bv, f, rfl, hk, hf, hof, hR, hkp, hft⟩
  have HX := Lib.hid (kopen_made (way := way) HB.out HKR.out hj16 hk hf hof hR hkp HDI.out HDIR.out hft)
  have hK1 : KAt w1 K.kb K.T.tb K.fds K.ob K.eb := HKR.out.kern.kept hkp (HKR.out.apart _ (.inl rfl))
  have hc : w1.cell? ⟨K.kb, 1 + j, none⟩ = some (endV (K.fds j)) := hK1.fd j hj16
  have hfz : ∀ o, w1.frozen? ⟨K.kb, o, none⟩ = false := fun o => hK1.free o
  have hlt : K.kb < w1.heap.size := hK1.lt
  clear hk hf hof hR hkp hft hK1 HP HFR
  go_wp2_with fail
  go_ret2
  exact HX.out
end Go.Proofs.YtiejfbkbjahcgaaGreatDoor
