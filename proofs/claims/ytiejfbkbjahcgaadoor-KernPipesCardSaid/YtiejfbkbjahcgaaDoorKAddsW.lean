/-
  KernAdds's walk.
-/
import Derived.Test.YtiejfbkbjahcgaaDoorKAdds
namespace Go.Proofs.YtiejfbkbjahcgaaDoor
open Go Go.RowKit

theorem kp_new {B : Nat} {w w2 w3 : World} {K : Ks} {tb root mb : Nat} (hK : KRep B w2 K) (hT : K.T = newTr tb root mb) (hb : Below B w w2) (hB : B ≤ w2.heap.size) {e : Ending}
    (ho : KOpenNew B w2 K root { dir := true, bv := .slice none 0 0, data := [], names := [], mb := mb, links := 0, tick := 0 } fName 2 3 e w3) :
    e = .returned (.tuple #[.int .i64 3, .nilIface]) ∧ ∃ T' b f kk, w2.heap.size ≤ b ∧ KP B w kk [] 1 (K.opened T' 3 b ⟨f, 2, 0, kk⟩) w3 ∧ T'.tb = tb := by
  obtain ⟨k, bv, f, b, rfl, hk, hf, hbb, hK3, hkp, hft⟩ := ho
  have hrk : root ≠ k := fun he => by
    have h1 := hK.tree.node_lt (n := root) (by rw [hT]; exact newTr_root tb root mb)
    omega
  refine ⟨rfl, _, b, f, k, hbb, ⟨hK3, ⟨_, newFile_k _ _ _ _ _ _ _, rfl, rfl⟩, ⟨{ dir := true, bv := .slice none 0 0, data := [], names := [] ++ [(fName, k)], mb := mb, links := 0, tick := K.T.clock + 1 }, ?_, rfl, ?_⟩, ?_, hb.trans (hkp.below (fun x hx => hK.foot_low hx) hB), Nat.le_trans hB hkp.size⟩, ?_⟩
  · have h1 : K.T.root = root := by rw [hT]; rfl
    show (K.T.newFile root _ fName k bv []).nd K.T.root = _
    rw [h1]
    exact newFile_i _ _ _ _ _ hrk
  · have hb : (fName == fName) = true := (MapKept.bytes_beq fName fName).2 rfl
    simp [look, hb]
  · show 0 ≤ K.T.clock + 1 ∧ K.T.clock + 1 ≤ 1
    rw [hT]
    exact ⟨by show (0 : Int) ≤ 0 + 1; decide, by show (0 : Int) + 1 ≤ 1; decide⟩
  · show K.T.tb = tb
    rw [hT]
    rfl

/-- The kern with its three descriptors. -/
structure KA (B : Nat) (w : World) (kb tb bx bq bz kk p : Nat) (l : List UInt8) (c : Int) (K : Ks) (wr : World) : Prop where
  kp : KP B w kk l c K wr
  hkb : K.kb = kb
  htb : K.T.tb = tb
  d3 : K.fds 3 = some (.file bx)
  d4 : K.fds 4 = some (.file bq)
  d5 : K.fds 5 = some (.file bz)
  f3 : ∃ f q, K.fl bx = some ⟨f, 2, q, kk⟩
  f4 : ∃ f q, K.fl bq = some ⟨f, 2, q, kk⟩
  f5 : ∃ f, K.fl bz = some ⟨f, 0, (p : Int), kk⟩
  n1 : bx ≠ bq
  n2 : bx ≠ bz
  n3 : bq ≠ bz

theorem setFl_same (fl : Nat → Option Fl) (b : Nat) (f : Fl) : setFl fl b f b = some f := by unfold setFl; rw [if_pos rfl]
theorem setFl_other (fl : Nat → Option Fl) {b x : Nat} (f : Fl) (h : x ≠ b) : setFl fl b f x = fl x := by unfold setFl; rw [if_neg h]

section
variable {B : Nat} {w wr w' : World} {kb tb bx bq bz kk p : Nat} {l : List UInt8} {c : Int} {K : Ks}

theorem KA.kept (h : KA B w kb tb bx bq bz kk p l c K wr) {F : Nat → Prop} (k : Kept F wr w') (hF : ∀ b, K.foot b → ¬ F b) (hB : ∀ b, F b → B ≤ b) : KA B w kb tb bx bq bz kk p l c K w' :=
  ⟨h.kp.kept k hF hB, h.hkb, h.htb, h.d3, h.d4, h.d5, h.f3, h.f4, h.f5, h.n1, h.n2, h.n3⟩
theorem KA.next (h : KA B w kb tb bx bq bz kk p l c K wr) (k : Below wr.heap.size wr w') : KA B w kb tb bx bq bz kk p l c K w' :=
  ⟨h.kp.next k, h.hkb, h.htb, h.d3, h.d4, h.d5, h.f3, h.f4, h.f5, h.n1, h.n2, h.n3⟩

/-- What a write leaves. -/
def KAW (B : Nat) (w : World) (kb tb bx bq bz kk p : Nat) (l : List UInt8) (c : Int) (K : Ks) (wr : World) (e : Ending) (w' : World) : Prop :=
  e = .returned .nilIface ∧ ∃ K', KA B w kb tb bx bq bz kk p l (c + 1) K' w' ∧ Kept K.foot wr w' ∧ (∀ x, K'.foot x → K.foot x ∨ wr.heap.size ≤ x)

theorem KA.write3 (h : KA B w kb tb bx bq bz kk p l c K wr) (hc : c ≤ 1000) (bv : Value) (b : List UInt8) (hb : Src wr bv b) (hbf : 0 < b.length → ∀ x, bv.ownBlock = some x → x < B) (hl : l.length + b.length ≤ 65536) :
    Calls Tryd.prog 19 #[.pointer (some ⟨kb, 0, none⟩), .int .i64 3, bv] wr fun e w' => KAW B w kb tb bx bq bz kk p (l ++ b) c K wr e w' := by
  obtain ⟨f, q, hf⟩ := h.f3
  have hk := h.hkb
  subst hk
  refine (h.kp.add hc 3 (by decide) bx f h.d3 q hf bv b hb hbf hl).mono ?_
  rintro e w' ⟨rfl, T', q', hk, htb, hkp, hft⟩
  exact ⟨rfl, _, ⟨hk, rfl, htb.trans h.htb, h.d3, h.d4, h.d5, ⟨f, q', setFl_same _ _ _⟩, by obtain ⟨f4, q4, h4⟩ := h.f4; exact ⟨f4, q4, (setFl_other _ _ h.n1.symm).trans h4⟩, by obtain ⟨f5, h5⟩ := h.f5; exact ⟨f5, (setFl_other _ _ h.n2.symm).trans h5⟩, h.n1, h.n2, h.n3⟩, hkp, hft⟩
theorem KA.write4 (h : KA B w kb tb bx bq bz kk p l c K wr) (hc : c ≤ 1000) (bv : Value) (b : List UInt8) (hb : Src wr bv b) (hbf : 0 < b.length → ∀ x, bv.ownBlock = some x → x < B) (hl : l.length + b.length ≤ 65536) :
    Calls Tryd.prog 19 #[.pointer (some ⟨kb, 0, none⟩), .int .i64 4, bv] wr fun e w' => KAW B w kb tb bx bq bz kk p (l ++ b) c K wr e w' := by
  obtain ⟨f, q, hf⟩ := h.f4
  have hk := h.hkb
  subst hk
  refine (h.kp.add hc 4 (by decide) bq f h.d4 q hf bv b hb hbf hl).mono ?_
  rintro e w' ⟨rfl, T', q', hk, htb, hkp, hft⟩
  exact ⟨rfl, _, ⟨hk, rfl, htb.trans h.htb, h.d3, h.d4, h.d5, by obtain ⟨f4, q4, h4⟩ := h.f3; exact ⟨f4, q4, (setFl_other _ _ h.n1).trans h4⟩, ⟨f, q', setFl_same _ _ _⟩, by obtain ⟨f5, h5⟩ := h.f5; exact ⟨f5, (setFl_other _ _ h.n3.symm).trans h5⟩, h.n1, h.n2, h.n3⟩, hkp, hft⟩

/-- What a read leaves. -/
def KAD (B : Nat) (w : World) (kb tb bx bq bz kk p : Nat) (l : List UInt8) (c : Int) (K : Ks) (o : List UInt8) (wr : World) (e : Ending) (w' : World) : Prop :=
  ∃ v, e = .returned (.tuple #[v, .nilIface]) ∧ w'.ownsRow wr.heap.size 5 1 v o.length (u8s o) ∧ ∃ K', KA B w kb tb bx bq bz kk (p + o.length) l (c + 1) K' w' ∧ Kept K.foot wr w' ∧ (∀ x, K'.foot x → K.foot x)
theorem KA.read (h : KA B w kb tb bx bq bz kk p l c K wr) (n : Nat) (hp : p ≤ 65536) (hn : n ≤ 9223372036854775807) (hl : l.length ≤ 65536) :
    Calls Tryd.prog 31 #[.pointer (some ⟨kb, 0, none⟩), .int .i64 5, .int .i64 n] wr fun e w' => KAD B w kb tb bx bq bz kk p l c K (readL l p n) wr e w' := by
  obtain ⟨f, hf⟩ := h.f5
  have hk := h.hkb
  subst hk
  refine (h.kp.read 5 n (by decide) bz f p h.d5 hf (by omega) hn hl).mono ?_
  rintro e w' ⟨v, rfl, hv, hk, hkp, hft⟩
  exact ⟨v, rfl, hv, _, ⟨hk, rfl, h.htb, h.d3, h.d4, h.d5, by obtain ⟨f4, q4, h4⟩ := h.f3; exact ⟨f4, q4, (setFl_other _ _ h.n2).trans h4⟩, by obtain ⟨f4, q4, h4⟩ := h.f4; exact ⟨f4, q4, (setFl_other _ _ h.n3).trans h4⟩, ⟨f, setFl_same _ _ _⟩, h.n1, h.n2, h.n3⟩, hkp, hft⟩
end

/-- The row that the law keeps, apart from the kern. -/
def Row (B : Nat) (K : Ks) (av : Value) (l : List UInt8) (wr : World) : Prop := wr.ownsRow B 5 1 av l.length (u8s l) ∧ ∀ r, av.ownBlock = some r → ¬ K.foot r
theorem Row.wrote {B : Nat} {K K' : Ks} {av : Value} {l : List UInt8} {wr w' : World} (h : Row B K av l wr) (k : Kept K.foot wr w') (hft : ∀ x, K'.foot x → K.foot x ∨ wr.heap.size ≤ x) : Row B K' av l w' :=
  ⟨ownsRow_kept h.1 k h.2, fun r hr hx => by
    rcases hft r hx with h1 | h1
    · exact h.2 r hr h1
    · have := (h.1.lt r hr).2; omega⟩
theorem Row.next {B : Nat} {K : Ks} {av : Value} {l : List UInt8} {wr w' : World} (h : Row B K av l wr) (k : Below wr.heap.size wr w') : Row B K av l w' := ⟨ownsRow_kept h.1 (Kept.of_below k (fun _ => False)) (fun _ _ h => h), h.2⟩
theorem Row.app {B : Nat} {w : World} {kb tb bx bq bz kk p : Nat} {l0 : List UInt8} {c : Int} {K : Ks} {av v : Value} {l b : List UInt8} {wr w' : World} (h : Row B K av l wr) (hk : KA B w kb tb bx bq bz kk p l0 c K wr)
    (hown : w'.ownsRow B 5 1 v (l.length + b.length) (u8s l ++ u8s b)) (hg : wr.grownBy w' av.ownBlock) (hat : v.ownBlock = av.ownBlock ∨ v.ownBlock = some wr.heap.size) :
    Row B K v (l ++ b) w' ∧ KA B w kb tb bx bq bz kk p l0 c K w' := by
  have k : Kept (fun x => av.ownBlock = some x) wr w' := (Kept.refl _ wr).grown hg (fun x hx => .inl hx)
  refine ⟨⟨by rw [List.length_append, u8s_append]; exact hown, fun r hr hf => ?_⟩, hk.kept k (fun x hx hf => h.2 x hf hx) (fun x hx => (h.1.lt x hx).1)⟩
  rcases hat with e | e
  · exact h.2 r (e ▸ hr) hf
  · rw [e] at hr
    have := hk.kp.rep.lt hf
    cases hr
    omega

theorem bools_at {w wr : World} {a : Option Addr} {c : Nat} {ll : List Bool} (h : BSrc w (.slice a ll.length c) ll) (hb : Below w.heap.size w wr) {k : Nat} (hk : k < ll.length) : ∃ ad, a = some ad ∧ wr.cell? (ad.add k) = some (.bool ll[k]) := by
  rcases h with ⟨_, h0⟩ | ⟨ad, c', h1, h2⟩
  · rw [h0] at hk; exact absurd hk (by simp)
  · have q1 := h2 k hk
    simp only [Value.slice.injEq] at h1
    exact ⟨ad, h1.1, (hb.cell (World.block_lt_of_cell? _ _ q1)).trans q1⟩

theorem ka_made {B : Nat} {w w3 w4 w5 : World} {K : Ks} {T3 T4 T5 : Tr} {b3 b4 b5 f3 f4 f5 kk tb : Nat} (h3 : KP B w kk [] 1 (K.opened T3 3 b3 ⟨f3, 2, 0, kk⟩) w3) (hb4 : w3.heap.size ≤ b4)
    (h4 : KP B w kk [] 2 ((K.opened T3 3 b3 ⟨f3, 2, 0, kk⟩).opened T4 4 b4 ⟨f4, 2, 0, kk⟩) w4) (hb5 : w4.heap.size ≤ b5) (h5 : KP B w kk [] 3 (((K.opened T3 3 b3 ⟨f3, 2, 0, kk⟩).opened T4 4 b4 ⟨f4, 2, 0, kk⟩).opened T5 5 b5 ⟨f5, 0, 0, kk⟩) w5)
    (t3 : T3.tb = tb) (t4 : T4.tb = T3.tb) (t5 : T5.tb = T4.tb) : KA B w K.kb tb b3 b4 b5 kk 0 [] 3 (((K.opened T3 3 b3 ⟨f3, 2, 0, kk⟩).opened T4 4 b4 ⟨f4, 2, 0, kk⟩).opened T5 5 b5 ⟨f5, 0, 0, kk⟩) w5 := by
  have q3 : b3 < w3.heap.size := lt_of_heap (h3.rep.file b3 ⟨f3, 2, 0, kk⟩ (setFl_same _ _ _)).1
  have q4 : b4 < w4.heap.size := lt_of_heap (h4.rep.file b4 ⟨f4, 2, 0, kk⟩ (setFl_same _ _ _)).1
  have n1 : b3 ≠ b4 := by omega
  have n2 : b3 ≠ b5 := by omega
  have n3 : b4 ≠ b5 := by omega
  exact ⟨h5, rfl, t5.trans (t4.trans t3), rfl, rfl, rfl, ⟨f3, 0, ((setFl_other _ _ n2).trans (setFl_other _ _ n1)).trans (setFl_same _ _ _)⟩, ⟨f4, 0, (setFl_other _ _ n3).trans (setFl_same _ _ _)⟩, ⟨f5, setFl_same _ _ _⟩, n1, n2, n3⟩

theorem readL_all (l : List UInt8) {n : Nat} (h : l.length ≤ n) : readL l 0 n = l := by
  unfold readL
  rw [List.drop_zero, List.take_of_length_le h]
theorem readL_end (l : List UInt8) (n : Nat) : readL l (0 + l.length) n = [] := by
  unfold readL
  rw [Nat.zero_add, List.drop_length, List.take_nil]

theorem KA.tread {E : Nat → Addr} {B : Nat} {w wr : World} {kb tb bx bq bz kk p : Nat} {l : List UInt8} {c : Int} {K : Ks} (hE : Ctx E B wr) (h : KA B w kb tb bx bq bz kk p l c K wr) (hl : l.length ≤ 65536) :
    Calls Tryd.prog 21 #[.pointer (some ⟨tb, 0, none⟩), .string fName] wr fun e w' => ReadOk wr l e w' := by
  obtain ⟨d, h1, h2, h3⟩ := h.kp.node
  have ht := h.htb
  subst h3 ht
  exact tree_read fName wr hE h.kp.rep.tree (by decide) kk d h.kp.fileOf h1 (by omega)

/-- Both rows that were read, and the law's own, behind the last read. -/
theorem rows_last {B : Nat} {w wr w4 w5 w6 : World} {kb tb bx bq bz kk p : Nat} {l : List UInt8} {c : Int} {K K4 : Ks} {v4 v5 : Value} (hK : KRep B wr K) (h4 : KA B w kb tb bx bq bz kk p l c K4 w4) (hf : ∀ x, K4.foot x → K.foot x)
    (o4 : w4.ownsRow wr.heap.size 5 1 v4 l.length (u8s l)) (hb : Below w4.heap.size w4 w5) (o5 : w5.ownsRow w4.heap.size 5 1 v5 l.length (u8s l)) (k : Kept K4.foot w5 w6) : Src w6 v4 l ∧ Src w6 v5 l := by
  constructor
  · refine Src.of_owns (ownsRow_kept (ownsRow_kept o4 (Kept.of_below hb (fun _ => False)) (fun _ _ h => h)) k (fun r hr hx => ?_))
    have h1 := (o4.lt r hr).1
    have h2 := hK.lt (hf r hx)
    omega
  · refine Src.of_owns (ownsRow_kept o5 k (fun r hr hx => ?_))
    have h1 := (o5.lt r hr).1
    have h2 := h4.kp.rep.lt hx
    omega
end Go.Proofs.YtiejfbkbjahcgaaDoor
