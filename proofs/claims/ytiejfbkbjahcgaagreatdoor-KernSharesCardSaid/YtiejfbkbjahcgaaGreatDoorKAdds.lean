/-
  KernAdds's parts: a kern over a tree of one file, with several descriptors that lead to it.
-/
import Derived.Test.YtiejfbkbjahcgaaGreatDoorKOpen2
import Derived.Test.YtiejfbkbjahcgaaGreatDoorBytes
import Derived.Test.YtiejfbkbjahcgaaGreatDoorKWrite
import Derived.Test.YtiejfbkbjahcgaaGreatDoorMv
namespace Go.Proofs.YtiejfbkbjahcgaaGreatDoor
open Go Go.RowKit

theorem src_low2 {w : World} {v : Value} {l : List UInt8} (h : Src w v l) : 0 < l.length → ∀ x, v.ownBlock = some x → x < w.heap.size := fun hl x hx => by
  obtain ⟨b, h1, h2⟩ := h.lt hl
  rw [h1] at hx
  cases hx
  exact h2
theorem Ctx.raise2 {E : Nat → Addr} {B : Nat} {w : World} (h : Ctx E B w) : Ctx E w.heap.size w :=
  ⟨⟨Nat.le_refl _, fun c h1 h2 => ⟨Nat.lt_of_lt_of_le (h.env.room c h1 h2).1 h.env.size, Nat.lt_of_lt_of_le (h.env.room c h1 h2).2 h.env.size⟩, h.env.glob, h.env.unlike, h.env.body⟩, h.max, Nat.lt_of_lt_of_le h.maxB h.env.size⟩

/-- A kern over a tree whose file 'f' is node kk and holds l. -/
structure KP (B : Nat) (w : World) (kk : Nat) (l : List UInt8) (c : Int) (K : Ks) (wr : World) : Prop where
  rep : KRep B wr K
  node : ∃ d, K.T.nd kk = some d ∧ d.dir = false ∧ d.data = l
  path : ∃ rd, K.T.nd K.T.root = some rd ∧ rd.dir = true ∧ look rd.names fName = some kk
  clock : 0 ≤ K.T.clock ∧ K.T.clock ≤ c
  below : Below B w wr
  base : B ≤ wr.heap.size

section
variable {B : Nat} {w wr w' : World} {kk : Nat} {l : List UInt8} {c : Int} {K : Ks}

theorem KP.next (h : KP B w kk l c K wr) (k : Below wr.heap.size wr w') : KP B w kk l c K w' :=
  ⟨h.rep.below k, h.node, h.path, h.clock, h.below.trans (k.mono h.base), Nat.le_trans h.base k.size⟩
theorem KP.kept (h : KP B w kk l c K wr) {F : Nat → Prop} (k : Kept F wr w') (hF : ∀ b, K.foot b → ¬ F b) (hB : ∀ b, F b → B ≤ b) : KP B w kk l c K w' :=
  ⟨h.rep.kept k hF, h.node, h.path, h.clock, h.below.trans (k.below hB h.base), Nat.le_trans h.base k.size⟩

theorem KP.find (h : KP B w kk l c K wr) : K.T.find fName = .ok ⟨some K.T.root, fName, some kk⟩ := by
  obtain ⟨rd, h1, h2, h3⟩ := h.path
  unfold Tr.find
  rw [clean_f]
  show K.T.parts [fName] = _
  refine Tr.parts_some ?_
  unfold Tr.start
  refine (Tr.goTo_cons_dir h1 h2 none ByteArray.empty fName []).trans ?_
  rw [h3]
  rfl
theorem KP.fileOf (h : KP B w kk l c K wr) : K.T.fileOf fName = .ok kk := by
  obtain ⟨rd, h1, h2, h3⟩ := h.path
  obtain ⟨d, h4, h5, _⟩ := h.node
  exact fileOf_f h1 h2 h3 h4 h5

theorem KP.rootne (h : KP B w kk l c K wr) : K.T.root ≠ kk := fun he => by
  obtain ⟨rd, h1, h2, _⟩ := h.path
  obtain ⟨d, h4, h5, _⟩ := h.node
  rw [he, h4] at h1
  obtain rfl := Option.some.inj h1
  rw [h5] at h2
  cases h2

/-- The tree was written to at the file. -/
theorem KP.wrote (h : KP B w kk l c K wr) {d : Nd} {T' : Tr} {l' : List UInt8} (hw : Wr K.T T' kk d l') {K' : Ks} (hT : K'.T = T') (hr : KRep B w' K') (k : Kept K.foot wr w') : KP B w kk l' (c + 1) K' w' := by
  refine ⟨hr, ?_, ?_, ?_, h.below.trans (k.below (fun x hx => h.rep.foot_low hx) h.base), Nat.le_trans h.base k.size⟩
  · obtain ⟨d', h1, h2, h3, _⟩ := hw.here
    exact ⟨d', by rw [hT]; exact h1, h2, h3⟩
  · obtain ⟨rd, h1, h2, h3⟩ := h.path
    refine ⟨rd, ?_, h2, h3⟩
    rw [hT, hw.root]
    exact (hw.others _ h.rootne).trans h1
  · have h1 := hw.clock
    have h2 := h.clock
    rw [hT]
    exact ⟨Int.le_trans h2.1 h1.1, by omega⟩

/-- What a kern's Open of the file leaves. -/
def KPOpen (B : Nat) (w : World) (kk : Nat) (l : List UInt8) (c : Int) (K : Ks) (way : Int) (j : Nat) (wr : World) (e : Ending) (w' : World) : Prop :=
  e = .returned (.tuple #[.int .i64 j, .nilIface]) ∧ ∃ T' b f, wr.heap.size ≤ b ∧ KP B w kk l (c + 1) (K.opened T' j b ⟨f, way, 0, kk⟩) w' ∧ T'.tb = K.T.tb

theorem KP.openAdd {E : Nat → Addr} (hE : Ctx E B wr) (h : KP B w kk l c K wr) (hc : c ≤ 1000) (hl : l.length ≤ 65536) (j : Nat) (hj : freeFd K.fds 0 = some j) :
    Calls Tryz.prog 53 #[.pointer (some ⟨K.kb, 0, none⟩), .string fName, .int .i64 2] wr fun e w' => KPOpen B w kk l c K 2 j wr e w' := by
  obtain ⟨d, hd, hdir, hdl⟩ := h.node
  subst hdl
  have hck := h.clock
  have ho := open_old fName 2 (.inr rfl) wr hE h.rep.tree (by decide) _ h.find hck.1 (by omega) kk d rfl hd hdir hl
  refine (kopen_any fName 2 wr h.base h.rep j hj (fun T' => ∃ bv, T' = K.T.setData kk d bv d.data) kk ?_ ?_).mono ?_
  · rintro T' ⟨bv, rfl⟩
    exact ⟨rfl, ⟨_, set_k _ _ _, hdir⟩, setData_files hdir bv _⟩
  · refine ho.mono fun e w' ⟨bv, hq⟩ => ⟨_, ⟨bv, rfl⟩, hq⟩
  · rintro e w' ⟨T', ⟨bv, rfl⟩, f, b, rfl, _, hb, hK, hk, _⟩
    exact ⟨rfl, K.T.setData kk d bv d.data, b, f, hb, h.wrote (Wr.set K.T kk hdir bv d.data) rfl hK hk, rfl⟩

theorem KP.openRead {E : Nat → Addr} (hE : Ctx E B wr) (h : KP B w kk l c K wr) (j : Nat) (hj : freeFd K.fds 0 = some j) :
    Calls Tryz.prog 53 #[.pointer (some ⟨K.kb, 0, none⟩), .string fName, .int .i64 0] wr fun e w' => KPOpen B w kk l c K 0 j wr e w' := by
  obtain ⟨d, hd, hdir, hdl⟩ := h.node
  have ho := open_read fName wr hE h.rep.tree (by decide) kk h.fileOf
  refine (kopen_any fName 0 wr h.base h.rep j hj (fun T' => T' = K.T) kk ?_ ?_).mono ?_
  · rintro T' rfl
    exact ⟨rfl, ⟨d, hd, hdir⟩, fun n x hn hx => ⟨x, hn, hx⟩⟩
  · exact ho.mono fun e w' hq => ⟨_, rfl, hq⟩
  · rintro e w' ⟨T', rfl, f, b, rfl, _, hb, hK, hk, _⟩
    refine ⟨rfl, _, b, f, hb, ?_, rfl⟩
    have hw := Wr.same hd hdir
    rw [hdl] at hw
    exact h.wrote hw rfl hK hk

/-- What a kern's Write to the file leaves. -/
def KPWrite (B : Nat) (w : World) (kk : Nat) (l : List UInt8) (c : Int) (K : Ks) (b0 f : Nat) (wr : World) (e : Ending) (w' : World) : Prop :=
  e = .returned .nilIface ∧ ∃ T' q, KP B w kk l (c + 1) { K with T := T', fl := setFl K.fl b0 ⟨f, 2, q, kk⟩ } w' ∧ T'.tb = K.T.tb ∧ Kept K.foot wr w' ∧ (∀ x, ({ K with T := T', fl := setFl K.fl b0 ⟨f, 2, q, kk⟩ } : Ks).foot x → K.foot x ∨ wr.heap.size ≤ x)

theorem KP.add (h : KP B w kk l c K wr) (hc : c ≤ 1000) (fd : Nat) (hfd : fd < 16) (b0 f : Nat) (hf : K.fds fd = some (.file b0)) (q0 : Int) (hf0 : K.fl b0 = some ⟨f, 2, q0, kk⟩) (bv : Value) (b : List UInt8) (hb : Src wr bv b) (hbf : 0 < b.length → ∀ x, bv.ownBlock = some x → x < B) (hl : l.length + b.length ≤ 65536) :
    Calls Tryz.prog 95 #[.pointer (some ⟨K.kb, 0, none⟩), .int .i64 fd, bv] wr fun e w' => KPWrite B w kk (l ++ b) c K b0 f wr e w' := by
  obtain ⟨d, hd, hdir, hdl⟩ := h.node
  have hck := h.clock
  refine (kwrite_any h.base h.rep fd hfd b0 hf ⟨f, 2, q0, kk⟩ hf0 d d.data.length (.inr ⟨rfl, rfl⟩) hck.1 (by omega) hd hdir (by rw [hdl]; omega) b (by rw [hdl]; exact hl) bv hb (fun h0 x hx hfo => by
    have h1 := hbf h0 x hx
    have h2 := h.rep.foot_low hfo
    omega)).mono ?_
  rintro e w' ⟨T', rfl, hK, hw, hk, hft⟩
  rw [writeD_end, hdl] at hw
  exact ⟨rfl, T', _, h.wrote hw rfl hK hk, hw.tb, hk, hft⟩

/-- What a kern's Read of the file leaves. -/
def KPRead (B : Nat) (w : World) (kk : Nat) (l : List UInt8) (c : Int) (K : Ks) (b0 f p : Nat) (o : List UInt8) (wr : World) (e : Ending) (w' : World) : Prop :=
  ∃ v, e = .returned (.tuple #[v, .nilIface]) ∧ w'.ownsRow wr.heap.size 5 1 v o.length (u8s o) ∧ KP B w kk l (c + 1) { K with fl := setFl K.fl b0 ⟨f, 0, ((p + o.length : Nat) : Int), kk⟩ } w' ∧ Kept K.foot wr w' ∧
    (∀ x, ({ K with fl := setFl K.fl b0 ⟨f, 0, ((p + o.length : Nat) : Int), kk⟩ } : Ks).foot x → K.foot x)

theorem KP.read (h : KP B w kk l c K wr) (fd n : Nat) (hfd : fd < 16) (b0 f p : Nat) (hf : K.fds fd = some (.file b0)) (hf0 : K.fl b0 = some ⟨f, 0, (p : Int), kk⟩) (hp : p ≤ 4611686018427387904) (hn : n ≤ 9223372036854775807) (hl : l.length ≤ 65536) :
    Calls Tryz.prog 55 #[.pointer (some ⟨K.kb, 0, none⟩), .int .i64 fd, .int .i64 n] wr fun e w' => KPRead B w kk l c K b0 f p (readL l p n) wr e w' := by
  obtain ⟨d, hd, hdir, hdl⟩ := h.node
  refine (kread_file h.rep fd n hfd b0 hf ⟨f, 0, (p : Int), kk⟩ hf0 rfl p rfl hp hn d hd (by rw [hdl]; omega)).mono ?_
  rw [hdl]
  rintro e w' ⟨v, rfl, h1, hK, hk, hft⟩
  have hw := Wr.same hd hdir
  rw [hdl] at hw
  exact ⟨v, rfl, h1, h.wrote hw rfl hK hk, hk, hft⟩
end
end Go.Proofs.YtiejfbkbjahcgaaGreatDoor
