/-
  Two trees that match one row of entries, call by call.
-/
import Derived.Test.YtjhojohjegkinaaGreatDoorCopyL
namespace Go.Proofs.YtjhojohjegkinaaGreatDoor
open Go Go.RowKit

/-- The document's tree stands in some memory. -/
def Gh (R : RT) : Prop := ∃ B w, RRep B w R ∧ B ≤ w.heap.size
theorem Pp.mono {T : Tr} {R : RT} {f : Nat → Nat} {n m : Nat} (p : Pp T R f n) (h : n ≤ m) : Pp T R f m := ⟨p.sim, p.ti, p.rn.mono h, p.tg⟩
theorem Pp.step {T T1 : Tr} {R R' : RT} {f : Nat → Nat} {n : Nat} {o : AOp} (p : Pp T R f n) (hm : MOk R R' o) (hP : PDone T T1 o) (hn : n < 80000) : ∃ f', Pp T1 R' f' (n + 1) := by
  obtain ⟨f', hs⟩ := p.sim.step p.ti.tw hP hm
  exact ⟨f', hs, hP.ti p.ti, hm.rn p.rn hn, hP.tg p.ti p.tg⟩
/-- Bytes in a block of their own. -/
theorem src_in_thought (w : World) (l : List UInt8) : ∃ v, Src (w.alloc (.cells (u8s l).toArray 5)) v l := by
  refine ⟨.slice (some ⟨w.heap.size, 0, none⟩) l.length l.length, .inr ⟨_, _, rfl, Nat.le_refl _, fun j hj => ?_⟩⟩
  have h := heap_alloc_new w (.cells (u8s l).toArray 5)
  have e : (⟨w.heap.size, 0, none⟩ : Addr).add j = ⟨w.heap.size, j, none⟩ := by
    simp [Addr.add]
    omega
  rw [e]
  refine cell_of h ?_
  simp [u8s, hj]
theorem Gh.next {R : RT} {n : Nat} (h : Gh R) (hN : RN R n) (hn : n ≤ 70000) (o : AOp) (hact : o.act ≤ 6) (hsz : o.path.size ≤ 9223372036854775807) (hso : o.other.size ≤ 9223372036854775807) (hd : o.data.length ≤ 140737488355328) :
    (∃ c, c ≠ 0 ∧ MErr R o c) ∨ ∃ R', MOk R R' o ∧ Gh R' := by
  obtain ⟨B, w, hR, hB⟩ := h
  obtain ⟨v, hv⟩ := src_in_thought w o.data
  have hb := below_alloc w (.cells (u8s o.data).toArray 5)
  have hl := hN.len
  have hnow := hN.now
  have hm := ref_model o v (w.alloc (.cells (u8s o.data).toArray 5)) (hR.below hb) hN.rb (by omega) (by omega) hact hsz hso hv (by omega) (fun m d hm => by have := hN.data m d hm; omega)
  obtain ⟨e, w', fr, hp, _⟩ := hm []
  have hs : B ≤ w'.heap.size := Nat.le_trans hB (Nat.le_trans hb.size hp.kept.size)
  rcases hp.case with ⟨c, hc, he, hrr, hme⟩ | ⟨he, R', hrr, htb, hfr, hmo⟩
  · exact .inl ⟨c, hc, hme⟩
  · exact .inr ⟨R', hmo, B, w', hrr, hs⟩
/-- One call at both. -/
def Nx (T T1 : Tr) (o : AOp) : Prop := (T.code o ≠ 0 ∧ T1 = T) ∨ (T.code o = 0 ∧ PDone T T1 o)
theorem lock {T C : Tr} {R : RT} {f g : Nat → Nat} {n : Nat} (p : Pp T R f n) (q : Pp C R g n) (h : Gh R) (hn : n ≤ 70000) (o : AOp) (hact : o.act ≤ 6) (hsz : o.path.size ≤ 9223372036854775807) (hso : o.other.size ≤ 9223372036854775807) (hd : o.data.length ≤ 140737488355328) :
    T.code o = C.code o ∧ ∀ T1 C1, Nx T T1 o → Nx C C1 o → ∃ R' f' g', Pp T1 R' f' (n + 1) ∧ Pp C1 R' g' (n + 1) ∧ Gh R' := by
  rcases h.next p.rn hn o hact hsz hso hd with ⟨c, h0, hme⟩ | ⟨R', hmo, hg⟩
  · have h1 := p.sim.code_err p.ti.tw hme
    have h2 := q.sim.code_err q.ti.tw hme
    refine ⟨h1.trans h2.symm, fun T1 C1 a b => ?_⟩
    rcases a with ⟨_, rfl⟩ | ⟨a, _⟩
    · rcases b with ⟨_, rfl⟩ | ⟨b, _⟩
      · exact ⟨R, f, g, p.mono (Nat.le_succ n), q.mono (Nat.le_succ n), h⟩
      · exact absurd (h2.symm.trans b) h0
    · exact absurd (h1.symm.trans a) h0
  · have h1 := p.sim.code_ok p.ti.tw hmo
    have h2 := q.sim.code_ok q.ti.tw hmo
    refine ⟨h1.trans h2.symm, fun T1 C1 a b => ?_⟩
    rcases a with ⟨a, _⟩ | ⟨_, a⟩
    · exact absurd h1 a
    · rcases b with ⟨b, _⟩ | ⟨_, b⟩
      · exact absurd h2 b
      · obtain ⟨f', hf⟩ := p.step hmo a (by omega)
        obtain ⟨g', hg'⟩ := q.step hmo b (by omega)
        exact ⟨R', f', g', hf, hg', hg⟩
end Go.Proofs.YtjhojohjegkinaaGreatDoor
