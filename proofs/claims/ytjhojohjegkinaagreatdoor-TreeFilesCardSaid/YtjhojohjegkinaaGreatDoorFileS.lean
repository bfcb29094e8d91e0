/-
  A file that is open at both trees: what a write into it leaves, and a file without a name.
-/
import Derived.Test.YtjhojohjegkinaaGreatDoorBothA
import Derived.Test.YtjhojohjegkinaaGreatDoorPipe
namespace Go.Proofs.YtjhojohjegkinaaGreatDoor
open Go Go.RowKit

theorem Turned.ti {T T' : Tr} {k : Nat} {d : Nd} {b : List UInt8} (b6 : Turned T T' k d b) (b3 : T.nd k = some d) (b5 : b.length ≤ 65536) (hI : TI T) : TI T' := by
  refine ⟨b6.tw hI.tw b3, fun n e hn hdir => ?_, fun n e hn => ?_, fun n e hn => ?_⟩
  · have old : ∃ d0, T.nd n = some d0 ∧ d0.dir = true ∧ d0.links = e.links := by
      by_cases h1 : n = k
      · subst h1
        obtain ⟨bv, h2⟩ := b6.here
        rw [h2] at hn
        cases hn
        exact ⟨d, b3, hdir, rfl⟩
      · rw [b6.oth n h1] at hn
        exact ⟨e, hn, hdir, rfl⟩
    obtain ⟨d0, o1, o2, o3⟩ := old
    obtain ⟨⟨l, hl⟩, h4⟩ := hI.dirs n d0 o1 o2
    exact ⟨⟨l, (Tr.at_same b6.root (b6.sk b3) l).trans hl⟩, o3.symm.trans h4⟩
  · by_cases h1 : n = k
    · subst h1
      obtain ⟨bv, h2⟩ := b6.here
      rw [h2] at hn
      cases hn
      exact b5
    · rw [b6.oth n h1] at hn
      exact hI.data n e hn
  · have hc := b6.clock
    by_cases h1 : n = k
    · subst h1
      obtain ⟨bv, h2⟩ := b6.here
      rw [h2] at hn
      cases hn
      have := hI.num n d b3
      show 0 ≤ T.clock + 1 ∧ T.clock + 1 ≤ T'.clock ∧ (d.names.length : Int) ≤ T'.clock
      omega
    · rw [b6.oth n h1] at hn
      have := hI.num n e hn
      omega
theorem Turned.tg {T T' : Tr} {k : Nat} {d : Nd} {b : List UInt8} (b6 : Turned T T' k d b) (b3 : T.nd k = some d) (hG : TG T) : TG T' := by
  intro n e x q hn hx
  by_cases h1 : n = k
  · subst h1
    obtain ⟨bv, h2⟩ := b6.here
    rw [h2] at hn
    cases hn
    exact hG n d x q b3 hx
  · rw [b6.oth n h1] at hn
    exact hG n e x q hn hx
theorem RTurned.rn {R R' : RT} {m n : Nat} {r : RNd} {b : List UInt8} (h : RTurned R R' m r b) (hb : RN R n) (hn : n < 80000) (hbl : b.length ≤ 65536) : RN R' (n + 1) := by
  have h0 := hb.rb.now0
  have hnw := hb.now
  have hlen := hb.len
  refine ⟨⟨by rw [h.L]; omega, fun e he => hb.rb.paths e (by rw [← h.L]; exact he), by rw [h.L]; exact hb.rb.root, by rw [h.now]; omega, by rw [h.now]; omega⟩, by rw [h.L]; omega, by rw [h.now]; omega, fun x e hx => ?_⟩
  by_cases e1 : x = m
  · subst e1
    obtain ⟨dv, hh⟩ := h.here
    rw [hh] at hx
    cases hx
    exact hbl
  · rw [h.oth x e1] at hx
    exact hb.data x e hx
theorem Tempd.ti {T T' : Tr} {k : Nat} {d : Nd} (h : Tempd T T' k d) (hk : T.nd k = none) (hI : TI T) : TI T' := by
  refine ⟨h.tw hI.tw hk, fun n e hn hdir => ?_, fun n e hn => ?_, fun n e hn => ?_⟩
  · rcases h.cases n e hn with ⟨rfl, rfl⟩ | ⟨_, h1⟩
    · rw [h.file] at hdir; cases hdir
    · obtain ⟨⟨l, hl⟩, h4⟩ := hI.dirs n e h1 hdir
      exact ⟨⟨l, (h.at hI.tw hk l).trans hl⟩, h4⟩
  · rcases h.cases n e hn with ⟨rfl, rfl⟩ | ⟨_, h1⟩
    · rw [h.data]; exact Nat.zero_le _
    · exact hI.data n e h1
  · have hc := h.clock
    rcases h.cases n e hn with ⟨rfl, rfl⟩ | ⟨_, h1⟩
    · obtain ⟨d0, hd0, _⟩ := hI.tw.root
      have := hI.num _ d0 hd0
      rw [h.tick, h.bare]
      simp only [List.length_nil]
      omega
    · have := hI.num n e h1
      omega
theorem Tempd.tg {T T' : Tr} {k : Nat} {d : Nd} (h : Tempd T T' k d) (hG : TG T) : TG T' := by
  intro n e x q hn hx
  rcases h.cases n e hn with ⟨rfl, rfl⟩ | ⟨_, h1⟩
  · rw [h.bare] at hx; cases hx
  · exact hG n e x q h1 hx
theorem RTempd.rn {R R' : RT} {m n : Nat} {r : RNd} (h : RTempd R R' m r) (hb : RN R n) : RN R' n := by
  refine ⟨⟨by rw [h.L]; exact hb.rb.len, fun e he => hb.rb.paths e (by rw [← h.L]; exact he), by rw [h.L]; exact hb.rb.root, by rw [h.now]; exact hb.rb.now0, by rw [h.now]; exact hb.rb.now1⟩, by rw [h.L]; exact hb.len, by rw [h.now]; exact hb.now, fun x e hx => ?_⟩
  by_cases e1 : x = m
  · subst e1
    rw [h.here] at hx
    cases hx
    rw [h.data]; exact Nat.zero_le _
  · rw [h.oth x e1] at hx
    exact hb.data x e hx

/-! ### a write into an open file -/
/-- The program's write is made, the document's is not yet. -/
structure FHalf (B : Nat) (w : World) (T T1 : Tr) (R : RT) (f : Nat → Nat) (n k : Nat) (d : Nd) (b : List UInt8) : Prop where
  rep : Rep B w T1
  rrep : RRep B w R
  sim : Sim T R f
  ti : TI T
  rn : RN R n
  apart : Apart T1 R
  tn : Turned T T1 k d b
  tb : T1.tb = T.tb
  base : B ≤ w.heap.size
  tg : TG T
theorem FHalf.below {B n k : Nat} {w w' : World} {T T1 : Tr} {R : RT} {f : Nat → Nat} {d : Nd} {b : List UInt8} (h : FHalf B w T T1 R f n k d b) (q : Below w.heap.size w w') : FHalf B w' T T1 R f n k d b :=
  ⟨h.rep.below q, h.rrep.below q, h.sim, h.ti, h.rn, h.apart, h.tn, h.tb, Nat.le_trans h.base q.size, h.tg⟩
theorem Both.fwrote {B n k : Nat} {w w' : World} {T : Tr} {R : RT} {f : Nat → Nat} {d : Nd} {b : List UInt8} {e : Ending} (h : Both B w T R f n) (hw : WrPost B w T k d b e w') :
    e = .returned .nilIface ∧ (∃ T1, FHalf B w' T T1 R f n k d b) ∧ Kept T.foot w w' := by
  obtain ⟨bv, rfl, q2, q3, q4⟩ := hw
  have hr : RRep B w' R := h.rrep.kept q3 (fun b hb hf => feet_apart h.rep h.rrep h.apart b hf hb)
  refine ⟨rfl, ⟨_, ⟨q2, hr, h.sim, h.ti, h.rn, ?_, setData_turned bv b, rfl, Nat.le_trans h.base q3.size, h.tg⟩⟩, q3⟩
  intro b' m d m' d' hm hm' hv hv'
  have hrf : R.foot b' := .inr (.inr (.inr ⟨m', d', hm', hv'⟩))
  rcases q4 b' (.inr (.inr ⟨m, d, hm, .inr hv⟩)) with h7 | h7
  · exact feet_apart h.rep h.rrep h.apart b' h7 hrf
  · have := h.rrep.lt hrf
    omega
theorem FHalf.both {B n k : Nat} {w w' : World} {T T1 : Tr} {R R' : RT} {f : Nat → Nat} {d : Nd} {r : RNd} {b : List UInt8} (h : FHalf B w T T1 R f n k d b) (hk : T.nd k = some d) (hbl : b.length ≤ 65536) (hn : n < 80000)
    (hkp : Kept R.foot w w') (hrr : RRep B w' R') (ht : RTurned R R' (f k) r b) (hrk : R.nd (f k) = some r) (hfr : RFresh w.heap.size R R') : Both B w' T1 R' f (n + 1) := by
  have hr : Rep B w' T1 := h.rep.kept hkp (fun b hb hf => feet_apart h.rep h.rrep h.apart b hb hf)
  refine ⟨hr, hrr, h.sim.turned h.tn hk ht hrk, h.tn.ti hk hbl h.ti, ht.rn h.rn hn hbl, ?_, Nat.le_trans h.base hkp.size, h.tn.tg hk h.tg⟩
  intro b' m d m' d' hm1 hm2 hv hv'
  rcases hfr m' d' b' hm2 hv' with h7 | ⟨y, e, h8, h9⟩
  · have := h.rep.lt (.inr (.inr ⟨m, d, hm1, .inr hv⟩))
    omega
  · exact h.apart b' m d y e hm1 h8 hv h9

/-! ### a file without a name, at both -/
def tempR : RNd := ⟨false, .slice none 0 0, [], 0⟩
theorem RRep.tempd {B : Nat} {w w' : World} {R : RT} (h : RRep B w R) (hb : Below w.heap.size w w') {m : Nat} (hm : w.heap.size ≤ m) (hn : w'.heap[m]? = some (.cells #[.bool false, .slice none 0 0, .int .i64 0] 86 (0, 0))) : RRep B w' (R.setNd m tempR) := by
  have h1 := h.below hb
  have hlt : ∀ {x d}, R.nd x = some d → x ≠ m := fun {x d} hx e => by
    have := h.lt (.inr (.inr (.inl ⟨d, hx⟩)))
    omega
  have hcase : ∀ x d, (R.setNd m tempR).nd x = some d → (x = m ∧ d = tempR) ∨ (x ≠ m ∧ R.nd x = some d) := fun x d hx => by
    have hx : (if x = m then some tempR else R.nd x) = some d := hx
    by_cases e : x = m
    · rw [if_pos e] at hx; cases hx; exact .inl ⟨e, rfl⟩
    · rw [if_neg e] at hx; exact .inr ⟨e, hx⟩
  refine ⟨?_, h1.tree, h1.rows, ?_, ?_, ?_⟩
  · rintro b (rfl | hb | ⟨d, hd⟩ | ⟨x, d, hd, hb⟩)
    · exact h.low _ (.inl rfl)
    · exact h.low _ (.inr (.inl hb))
    · rcases hcase b d hd with ⟨rfl, _⟩ | ⟨_, h2⟩
      · exact Nat.le_trans h.base hm
      · exact h.low _ (.inr (.inr (.inl ⟨d, h2⟩)))
    · rcases hcase x d hd with ⟨_, rfl⟩ | ⟨_, h2⟩
      · cases hb
      · exact h.low _ (.inr (.inr (.inr ⟨x, d, h2, hb⟩)))
  · intro x d hx
    rcases hcase x d hx with ⟨rfl, rfl⟩ | ⟨_, h2⟩
    · exact ⟨hn, World.ownsRow_nil _ _ _ _⟩
    · exact h1.node x d h2
  · intro e he
    obtain ⟨d, hd⟩ := h.ents e he
    exact ⟨d, (if_neg (hlt hd)).trans hd⟩
  · intro x d y e b hx hy hb hb2
    rcases hcase x d hx with ⟨_, rfl⟩ | ⟨_, h2⟩
    · cases hb
    · rcases hcase y e hy with ⟨_, rfl⟩ | ⟨_, h4⟩
      · cases hb2
      · exact h.apart x d y e b h2 h4 hb hb2
theorem tempd_set (T : Tr) (k : Nat) : Tempd T (T.set k tempNd) k tempNd := ⟨rfl, rfl, rfl, if_pos rfl, rfl, rfl, rfl, rfl, rfl, fun _ h => if_neg h⟩
theorem rtempd_set (R : RT) (m : Nat) : RTempd R (R.setNd m tempR) m tempR := ⟨rfl, rfl, if_pos rfl, rfl, rfl, rfl, fun _ h => if_neg h⟩
/-- The program's Temp is made at w1, the document's node at w3. -/
theorem Both.tempd {B n : Nat} {w w1 w2 w3 : World} {T : Tr} {R : RT} {f : Nat → Nat} (h : Both B w T R f n) (hb1 : Below w.heap.size w w1) {k : Nat} (hk : w.heap.size ≤ k) (hn : w1.heap[k]? = some (.cells #[.bool false, .slice none 0 0, .map none, .int .i64 0, .int .i64 0] 126 (0, 0)))
    (hb2 : Below w1.heap.size w1 w2) (hb3 : Below w2.heap.size w2 w3) {m : Nat} (hm : w2.heap.size ≤ m) (hmn : w3.heap[m]? = some (.cells #[.bool false, .slice none 0 0, .int .i64 0] 86 (0, 0))) :
    Both B w3 (T.set k tempNd) (R.setNd m tempR) (upd f k m) n := by
  have hkn : T.nd k = none := h.rep.no_node hk
  have hmz : w.heap.size ≤ m := Nat.le_trans hb1.size (Nat.le_trans hb2.size hm)
  have hmn0 : R.nd m = none := by
    cases hx : R.nd m with
    | none => rfl
    | some d =>
      have := h.rrep.lt (.inr (.inr (.inl ⟨d, hx⟩)))
      omega
  have hb12 : Below w.heap.size w w2 := below_trans hb1 hb2
  have hb13 : Below w1.heap.size w1 w3 := below_trans hb2 hb3
  refine ⟨(temp_rep h.base h.rep hb1 hk hn).below hb13, (h.rrep.below hb12).tempd hb3 hm hmn, h.sim.tempd h.ti.tw (tempd_set T k) hkn (rtempd_set R m) hmn0, (tempd_set T k).ti hkn h.ti, (rtempd_set R m).rn h.rn, ?_, Nat.le_trans h.base (below_trans hb12 hb3).size, (tempd_set T k).tg h.tg⟩
  intro b x d y e hx hy hb hb'
  rcases (tempd_set T k).cases x d hx with ⟨_, rfl⟩ | ⟨_, h2⟩
  · cases hb
  · by_cases e1 : y = m
    · have hy : (if y = m then some tempR else R.nd y) = some e := hy
      rw [if_pos e1] at hy
      cases hy
      cases hb'
    · have hy : (if y = m then some tempR else R.nd y) = some e := hy
      rw [if_neg e1] at hy
      exact h.apart b x d y e h2 hy hb hb'
end Go.Proofs.YtjhojohjegkinaaGreatDoor
