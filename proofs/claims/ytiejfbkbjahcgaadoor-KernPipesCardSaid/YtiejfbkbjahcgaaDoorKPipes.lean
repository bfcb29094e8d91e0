/-
  KernPipes's parts: a kern with a pipe; what is written into it and read from it.
-/
import Derived.Test.YtiejfbkbjahcgaaDoorPipe
import Derived.Test.YtiejfbkbjahcgaaDoorKAddsW
namespace Go.Proofs.YtiejfbkbjahcgaaDoor
open Go Go.RowKit

/-- A kern with a pipe at 3 and 4 that holds l, of which p bytes are read. -/
structure PP (B : Nat) (w : World) (kb kn bx bq p : Nat) (l : List UInt8) (c : Int) (K : Ks) (wr : World) : Prop where
  rep : KRep B wr K
  hkb : K.kb = kb
  node : ∃ d, K.T.nd kn = some d ∧ d.dir = false ∧ d.data = l
  d3 : K.fds 3 = some (.file bx)
  d4 : K.fds 4 = some (.file bq)
  f3 : ∃ f, K.fl bx = some ⟨f, 1, (l.length : Nat), kn⟩
  f4 : ∃ f, K.fl bq = some ⟨f, 0, (p : Nat), kn⟩
  ne : bx ≠ bq
  clock : 0 ≤ K.T.clock ∧ K.T.clock ≤ c
  below : Below B w wr
  base : B ≤ wr.heap.size

section
variable {B : Nat} {w wr w' : World} {kb kn bx bq p : Nat} {l : List UInt8} {c : Int} {K : Ks}

theorem PP.kept (h : PP B w kb kn bx bq p l c K wr) {F : Nat → Prop} (k : Kept F wr w') (hF : ∀ b, K.foot b → ¬ F b) (hB : ∀ b, F b → B ≤ b) : PP B w kb kn bx bq p l c K w' :=
  ⟨h.rep.kept k hF, h.hkb, h.node, h.d3, h.d4, h.f3, h.f4, h.ne, h.clock, h.below.trans (k.below hB h.base), Nat.le_trans h.base k.size⟩
theorem PP.next (h : PP B w kb kn bx bq p l c K wr) (k : Below wr.heap.size wr w') : PP B w kb kn bx bq p l c K w' :=
  h.kept (Kept.of_below k (fun _ => False)) (fun _ _ h => h) (fun _ h => h.elim)
theorem PP.later {c' : Int} (h : PP B w kb kn bx bq p l c K wr) (hc : c ≤ c') : PP B w kb kn bx bq p l c' K wr :=
  ⟨h.rep, h.hkb, h.node, h.d3, h.d4, h.f3, h.f4, h.ne, ⟨h.clock.1, by have := h.clock.2; omega⟩, h.below, h.base⟩

def PPMade (B : Nat) (w : World) (kb : Nat) (e : Ending) (w' : World) : Prop :=
  e = .returned (.tuple #[.int .i64 3, .int .i64 4, .nilIface]) ∧ ∃ kn bx bq K, PP B w kb kn bx bq 0 [] 0 K w'

theorem pp_made (hK : KRep B wr K) (hb : Below B w wr) (hB : B ≤ wr.heap.size) (hck : K.T.clock = 0) {e : Ending} (h : KPipe B wr K 3 4 e w') : PPMade B w K.kb e w' := by
  obtain ⟨kn, f, b1, b2, rfl, _, _, _, _, hne, hrep, hk, _⟩ := h
  refine ⟨rfl, kn, b1, b2, _, hrep, rfl, ⟨_, set_k _ _ _, rfl, rfl⟩, rfl, rfl, ⟨f, ?_⟩, ⟨f, setFl_same _ _ _⟩, hne, ?_, hb.trans (hk.below (fun x hx => hK.foot_low hx) hB), Nat.le_trans hB hk.size⟩
  · exact (setFl_other _ _ hne).trans (setFl_same _ _ _)
  · show 0 ≤ K.T.clock ∧ K.T.clock ≤ 0
    rw [hck]
    exact ⟨Int.le_refl _, Int.le_refl _⟩

/-- What a write leaves. -/
def PPW (B : Nat) (w : World) (kb kn bx bq p : Nat) (l : List UInt8) (c : Int) (K : Ks) (wr : World) (e : Ending) (w' : World) : Prop :=
  e = .returned .nilIface ∧ ∃ K', PP B w kb kn bx bq p l (c + 1) K' w' ∧ Kept K.foot wr w' ∧ (∀ x, K'.foot x → K.foot x ∨ wr.heap.size ≤ x)

theorem PP.write (h : PP B w kb kn bx bq p l c K wr) (hc : c ≤ 1000) (bv : Value) (b : List UInt8) (hb : Src wr bv b) (hbf : 0 < b.length → ∀ x, bv.ownBlock = some x → x < B) (hl : l.length + b.length ≤ 65536) :
    Calls Tryd.prog 19 #[.pointer (some ⟨kb, 0, none⟩), .int .i64 3, bv] wr fun e w' => PPW B w kb kn bx bq p (l ++ b) c K wr e w' := by
  obtain ⟨f, hf⟩ := h.f3
  obtain ⟨f2, hf2⟩ := h.f4
  obtain ⟨d, hd, hdir, hdl⟩ := h.node
  have hk := h.hkb
  subst hk
  have hck := h.clock
  refine (kwrite_any h.base h.rep 3 (by decide) bx h.d3 ⟨f, 1, (l.length : Nat), kn⟩ hf d l.length (.inl ⟨rfl, rfl⟩) hck.1 (by omega) hd hdir (by rw [hdl]; omega) b hl bv hb (fun h0 x hx hfo => by
    have h1 := hbf h0 x hx
    have h2 := h.rep.foot_low hfo
    omega)).mono ?_
  rintro e w' ⟨T', rfl, hK, hw, hkp, hft⟩
  rw [hdl, writeD_end] at hw
  obtain ⟨d', q1, q2, q3, _⟩ := hw.here
  have q4 := hw.clock
  refine ⟨rfl, _, ⟨hK, rfl, ⟨d', q1, q2, q3⟩, h.d3, h.d4, ⟨f, ?_⟩, ⟨f2, (setFl_other _ _ h.ne.symm).trans hf2⟩, h.ne, ⟨Int.le_trans hck.1 q4.1, by show T'.clock ≤ c + 1; omega⟩, h.below.trans (hkp.below (fun x hx => h.rep.foot_low hx) h.base), Nat.le_trans h.base hkp.size⟩, hkp, hft⟩
  rw [List.length_append]
  exact setFl_same _ _ _

/-- What a read leaves. -/
def PPR (B : Nat) (w : World) (kb kn bx bq p : Nat) (l : List UInt8) (c : Int) (K : Ks) (o : List UInt8) (wr : World) (e : Ending) (w' : World) : Prop :=
  ∃ v, e = .returned (.tuple #[v, .nilIface]) ∧ w'.ownsRow wr.heap.size 5 1 v o.length (u8s o) ∧ ∃ K', PP B w kb kn bx bq (p + o.length) l c K' w' ∧ Kept K.foot wr w' ∧ (∀ x, K'.foot x → K.foot x)

theorem PP.read (h : PP B w kb kn bx bq p l c K wr) (n : Nat) (hp : p ≤ 65536) (hn : n ≤ 9223372036854775807) (hl : l.length ≤ 65536) :
    Calls Tryd.prog 31 #[.pointer (some ⟨kb, 0, none⟩), .int .i64 4, .int .i64 n] wr fun e w' => PPR B w kb kn bx bq p l c K (readL l p n) wr e w' := by
  obtain ⟨f, hf⟩ := h.f3
  obtain ⟨f2, hf2⟩ := h.f4
  obtain ⟨d, hd, hdir, hdl⟩ := h.node
  have hk := h.hkb
  subst hk
  refine (kread_file h.rep 4 n (by decide) bq h.d4 ⟨f2, 0, (p : Nat), kn⟩ hf2 rfl p rfl (by omega) hn d hd (by rw [hdl]; omega)).mono ?_
  rw [hdl]
  rintro e w' ⟨v, rfl, h1, hK, hkp, hft⟩
  exact ⟨v, rfl, h1, _, ⟨hK, rfl, ⟨d, hd, hdir, hdl⟩, h.d3, h.d4, ⟨f, (setFl_other _ _ h.ne).trans hf⟩, ⟨f2, setFl_same _ _ _⟩, h.ne, h.clock, h.below.trans (hkp.below (fun x hx => h.rep.foot_low hx) h.base), Nat.le_trans h.base hkp.size⟩, hkp, hft⟩
end

/-- Two rows that the law keeps. -/
structure Rows2 (B : Nat) (K : Ks) (av gv : Value) (l g : List UInt8) (wr : World) : Prop where
  a : Row B K av l wr
  g : Row B K gv g wr
  ne : ∀ r, av.ownBlock = some r → gv.ownBlock ≠ some r

section
variable {B : Nat} {w wr w' : World} {kb kn bx bq p : Nat} {l l0 g b : List UInt8} {c : Int} {K K' : Ks} {av gv v : Value}

theorem Rows2.wrote (h : Rows2 B K av gv l g wr) (k : Kept K.foot wr w') (hft : ∀ x, K'.foot x → K.foot x ∨ wr.heap.size ≤ x) : Rows2 B K' av gv l g w' := ⟨h.a.wrote k hft, h.g.wrote k hft, h.ne⟩
theorem Rows2.next (h : Rows2 B K av gv l g wr) (k : Below wr.heap.size wr w') : Rows2 B K av gv l g w' := ⟨h.a.next k, h.g.next k, h.ne⟩

theorem rows_app (h : Row B K av l wr) (o : Row B K gv g wr) (hne : ∀ r, av.ownBlock = some r → gv.ownBlock ≠ some r) (hk : PP B w kb kn bx bq p l0 c K wr)
    (hown : w'.ownsRow B 5 1 v (l.length + b.length) (u8s l ++ u8s b)) (hg : wr.grownBy w' av.ownBlock) (hat : v.ownBlock = av.ownBlock ∨ v.ownBlock = some wr.heap.size) :
    Row B K v (l ++ b) w' ∧ Row B K gv g w' ∧ (∀ r, v.ownBlock = some r → gv.ownBlock ≠ some r) ∧ PP B w kb kn bx bq p l0 c K w' := by
  have k : Kept (fun x => av.ownBlock = some x) wr w' := (Kept.refl _ wr).grown hg (fun x hx => .inl hx)
  refine ⟨⟨by rw [List.length_append, u8s_append]; exact hown, fun r hr hf => ?_⟩, ⟨ownsRow_kept o.1 k (fun r hr hx => hne r hx hr), o.2⟩, fun r hr hx => ?_, hk.kept k (fun x hx hf => h.2 x hf hx) (fun x hx => (h.1.lt x hx).1)⟩
  · rcases hat with e | e
    · exact h.2 r (e ▸ hr) hf
    · rw [e] at hr
      have := hk.rep.lt hf
      cases hr
      omega
  · rcases hat with e | e
    · exact hne r (e ▸ hr) hx
    · rw [e] at hr
      have := (o.1.lt r hx).2
      cases hr
      omega
theorem Rows2.appA (h : Rows2 B K av gv l g wr) (hk : PP B w kb kn bx bq p l0 c K wr)
    (hown : w'.ownsRow B 5 1 v (l.length + b.length) (u8s l ++ u8s b)) (hg : wr.grownBy w' av.ownBlock) (hat : v.ownBlock = av.ownBlock ∨ v.ownBlock = some wr.heap.size) :
    Rows2 B K v gv (l ++ b) g w' ∧ PP B w kb kn bx bq p l0 c K w' := by
  obtain ⟨h1, h2, h3, h4⟩ := rows_app h.a h.g h.ne hk hown hg hat
  exact ⟨⟨h1, h2, h3⟩, h4⟩
theorem Rows2.appG (h : Rows2 B K av gv l g wr) (hk : PP B w kb kn bx bq p l0 c K wr)
    (hown : w'.ownsRow B 5 1 v (g.length + b.length) (u8s g ++ u8s b)) (hg : wr.grownBy w' gv.ownBlock) (hat : v.ownBlock = gv.ownBlock ∨ v.ownBlock = some wr.heap.size) :
    Rows2 B K av v l (g ++ b) w' ∧ PP B w kb kn bx bq p l0 c K w' := by
  obtain ⟨h1, h2, h3, h4⟩ := rows_app h.g h.a (fun r hr hx => h.ne r hx hr) hk hown hg hat
  exact ⟨⟨h2, h1, fun r hr hx => h3 r hx hr⟩, h4⟩
end

/-- What was read is the beginning of what was written. -/
theorem take_read {l : List UInt8} {p : Nat} (hp : p ≤ l.length) (n : Nat) : l.take p ++ readL l p n = l.take (p + (readL l p n).length) ∧ p + (readL l p n).length ≤ l.length ∧ (readL l p n).length ≤ n := by
  have hl : (readL l p n).length = min n (l.length - p) := readL_length l p n
  refine ⟨?_, by omega, by omega⟩
  have h1 : readL l p n = (l.drop p).take (min n (l.length - p)) := by
    unfold readL
    rw [List.take_eq_take_iff]
    simp
  rw [hl, h1, List.take_add]
theorem take_more {l : List UInt8} {p : Nat} (hp : p ≤ l.length) (b : List UInt8) : (l ++ b).take p = l.take p := List.take_append_of_le_length hp
theorem take_rest {l : List UInt8} {p n : Nat} (hn : l.length ≤ n) : l.take p ++ readL l p n = l := by
  unfold readL
  rw [List.take_of_length_le (l := l.drop p) (by rw [List.length_drop]; omega), List.take_append_drop]
end Go.Proofs.YtiejfbkbjahcgaaDoor
