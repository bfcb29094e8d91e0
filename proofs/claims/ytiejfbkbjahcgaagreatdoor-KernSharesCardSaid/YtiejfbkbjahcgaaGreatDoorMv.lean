/-
  A kern with one file 'f' that is open to write: the state that laws step through.
-/
import Derived.Test.YtiejfbkbjahcgaaGreatDoorKWrite
import Derived.Test.YtiejfbkbjahcgaaGreatDoorAwake
import Derived.Test.YtiejfbkbjahcgaaGreatDoorStr
namespace Go.Proofs.YtiejfbkbjahcgaaGreatDoor
open Go Go.RowKit

structure MV (B : Nat) (w0 w : World) (K : Ks) (b0 k fb : Nat) (way : Int) (l : List UInt8) (p : Nat) (c : Int) : Prop where
  rep : KRep B w K
  low : ∀ x, K.foot x → w0.heap.size ≤ x
  below : Below w0.heap.size w0 w
  file : K.fl b0 = some ⟨fb, way, p, k⟩
  node : ∃ d, K.T.nd k = some d ∧ d.dir = false ∧ d.data = l
  path : ∃ rd, K.T.nd K.T.root = some rd ∧ rd.dir = true ∧ look rd.names fName = some k
  clock : 0 ≤ K.T.clock ∧ K.T.clock ≤ c

theorem fileOf_f {T : Tr} {rd d : Nd} {k : Nat} (h1 : T.nd T.root = some rd) (h2 : rd.dir = true) (h3 : look rd.names fName = some k) (h4 : T.nd k = some d) (h5 : d.dir = false) : T.fileOf fName = .ok k := by
  have hf : T.find fName = .ok ⟨some T.root, fName, some k⟩ := by
    unfold Tr.find
    rw [clean_f]
    show T.parts [fName] = _
    refine Tr.parts_some ?_
    unfold Tr.start
    refine (Tr.goTo_cons_dir h1 h2 none ByteArray.empty fName []).trans ?_
    rw [h3]
    rfl
  unfold Tr.fileOf
  rw [hf]
  simp [h4, h5]

/-- Its descriptors alone were turned. -/
theorem MV.fds {B : Nat} {w0 w w' : World} {K : Ks} {b0 k fb p : Nat} {way c : Int} {l : List UInt8} (h : MV B w0 w K b0 k fb way l p c) {fds : Nat → Option End} (hk : KAt w' K.kb K.T.tb fds K.ob K.eb) (hp : Kept (fun b => b = K.kb) w w') (hg : ∀ j, K.good (fds j)) :
    MV B w0 w' { K with fds := fds } b0 k fb way l p c :=
  ⟨h.rep.setFds hk hp hg, h.low, h.below.trans (hp.below (B := w0.heap.size) (fun b hb => by rw [hb]; exact h.low K.kb (.inl (.inl rfl))) h.below.size), h.file, h.node, h.path, h.clock⟩

/-- Something grew behind. -/
theorem MV.later {B : Nat} {w0 w w' : World} {K : Ks} {b0 k fb p : Nat} {way c : Int} {l : List UInt8} (h : MV B w0 w K b0 k fb way l p c) (hb : Below w.heap.size w w') : MV B w0 w' K b0 k fb way l p c :=
  ⟨h.rep.below hb, h.low, below_trans h.below hb, h.file, h.node, h.path, h.clock⟩

/-- It was written to. -/
theorem MV.wrote {B : Nat} {w0 w w' : World} {K : Ks} {b0 k fb p p' : Nat} {way c : Int} {l b : List UInt8} {d : Nd} {e : Ending} (h : MV B w0 w K b0 k fb way l p c) (hd : K.T.nd k = some d) (hdir : d.dir = false) (hl : d.data = l)
    (hw : KWAny B w K b0 ⟨fb, way, p, k⟩ d p' b e w') : e = .returned .nilIface ∧ ∃ T' fl, T'.tb = K.T.tb ∧ MV B w0 w' { K with T := T', fl := fl } b0 k fb way (writeD l p' b) (p' + b.length) (c + 1) := by
  obtain ⟨T', rfl, hR, hwr, hk, hft⟩ := hw
  refine ⟨rfl, T', _, hwr.tb, hR, fun x hx => ?_, h.below.trans (hk.below (B := w0.heap.size) h.low h.below.size), ?_, ?_, ?_, ?_⟩
  · rcases hft x hx with h1 | h1
    · exact h.low x h1
    · exact Nat.le_trans h.below.size h1
  · show setFl K.fl b0 _ b0 = _
    unfold setFl
    rw [if_pos rfl]
  · obtain ⟨d', h1, h2, h3, _⟩ := hwr.here
    exact ⟨d', h1, h2, by rw [h3, hl]⟩
  · obtain ⟨rd, h1, h2, h3⟩ := h.path
    refine ⟨rd, ?_, h2, h3⟩
    have hne : K.T.root ≠ k := fun he => by
      rw [he, hd] at h1
      obtain rfl := Option.some.inj h1
      rw [hdir] at h2
      cases h2
    show T'.nd T'.root = some rd
    rw [hwr.root]
    exact (hwr.others _ hne).trans h1
  · have h1 := hwr.clock
    have h2 := h.clock
    exact ⟨Int.le_trans h2.1 h1.1, by show T'.clock ≤ c + 1; omega⟩

/-- kern.New(nil, nil) or over a new tree, then Open "f" by a way that writes: what is there then. -/
theorem mv_opened {B : Nat} {w0 w1 w2 w3 : World} {K : Ks} {tb root mb : Nat} {way : Int} (hK : KRep B w2 K) (hT : K.T = newTr tb root mb) (hown : ∀ b, K.own b → w1.heap.size ≤ b) (h01 : w0.heap.size ≤ w1.heap.size)
    (hlow : w0.heap.size ≤ tb ∧ w0.heap.size ≤ root ∧ w0.heap.size ≤ mb) (hb2 : Below w0.heap.size w0 w2) {e : Ending}
    (ho : KOpenNew B w2 K root { dir := true, bv := .slice none 0 0, data := [], names := [], mb := mb, links := 0, tick := 0 } fName way 3 e w3) :
    e = .returned (.tuple #[.int .i64 3, .nilIface]) ∧ ∃ K' b0 k fb, MV B w0 w3 K' b0 k fb way [] 0 1 ∧ K'.kb = K.kb ∧ K'.T.tb = K.T.tb ∧ K'.fds = setFd K.fds 3 (some (.file b0)) := by
  obtain ⟨k, bv, f, b, rfl, hk, hf, hb, hK3, hkp, hft⟩ := ho
  have hlowK : ∀ x, K.foot x → w0.heap.size ≤ x := fun x hx => by
    rcases hx with hx | hx
    · exact Nat.le_trans h01 (hown x hx)
    · rw [hT] at hx
      rcases newTr_foot hx with rfl | rfl | rfl
      · exact hlow.1
      · exact hlow.2.1
      · exact hlow.2.2
  have hrk : root ≠ k := fun he => by
    have h1 := hK.tree.node_lt (n := root) (by rw [hT]; exact newTr_root tb root mb)
    omega
  refine ⟨rfl, _, b, k, f, ⟨hK3, fun x hx => ?_, hb2.trans (hkp.below (B := w0.heap.size) hlowK hb2.size), ?_, ⟨_, newFile_k _ _ _ _ _ _ _, rfl, rfl⟩, ⟨{ dir := true, bv := .slice none 0 0, data := [], names := [] ++ [(fName, k)], mb := mb, links := 0, tick := K.T.clock + 1 }, ?_, rfl, ?_⟩, ?_⟩, rfl, rfl, rfl⟩
  · rcases hft x hx with h | h
    · exact hlowK x h
    · exact Nat.le_trans hb2.size h
  · show setFl K.fl b _ b = _
    unfold setFl
    rw [if_pos rfl]
    rfl
  · have h1 : K.T.root = root := by rw [hT]; rfl
    show (K.T.newFile root _ fName k bv []).nd K.T.root = _
    rw [h1]
    exact newFile_i _ _ _ _ _ hrk
  · have hb : (fName == fName) = true := (MapKept.bytes_beq fName fName).2 rfl
    simp [look, hb]
  · show 0 ≤ K.T.clock + 1 ∧ K.T.clock + 1 ≤ 1
    rw [hT]
    exact ⟨by show (0 : Int) ≤ 0 + 1; decide, by show (0 : Int) + 1 ≤ 1; decide⟩

/-- What a write through a descriptor of it leaves. -/
def MWPost (B : Nat) (w0 : World) (K : Ks) (b0 k fb : Nat) (way : Int) (l : List UInt8) (p : Nat) (c : Int) (e : Ending) (w' : World) : Prop :=
  e = .returned .nilIface ∧ ∃ K3, MV B w0 w' K3 b0 k fb way l p c ∧ K3.kb = K.kb ∧ K3.fds = K.fds ∧ K3.T.tb = K.T.tb

theorem mv_write {B : Nat} {w0 w : World} {K : Ks} {b0 k fb p p' : Nat} {way c : Int} {l b : List UInt8} (h : MV B w0 w K b0 k fb way l p c) (hB : B ≤ w0.heap.size) (fd : Nat) (hfd : fd < 16) (hf : K.fds fd = some (.file b0))
    (hw : (way = 1 ∧ p = p') ∨ (way = 2 ∧ p' = l.length)) (hc : c ≤ 1000000) (hl : l.length ≤ 65536) (hp : p' + b.length ≤ 65536) (bv : Value) (hs : Src w0 bv b) :
    Calls Tryz.prog 95 #[.pointer (some ⟨K.kb, 0, none⟩), .int .i64 fd, bv] w fun e w' => MWPost B w0 K b0 k fb way (writeD l p' b) (p' + b.length) (c + 1) e w' := by
  obtain ⟨d, hd, hdir, hdl⟩ := h.node
  refine (kwrite_any (Nat.le_trans hB h.below.size) h.rep fd hfd b0 hf ⟨fb, way, p, k⟩ h.file d p' ?_ h.clock.1 (by have := h.clock.2; omega) hd hdir (by rw [hdl]; exact hl) b hp bv (hs.kept (Kept.of_below h.below (fun _ => False)) (fun _ _ h => h)) (fun hb x hx hfo => ?_)).mono fun e w' hpost => ?_
  · rw [hdl]
    rcases hw with ⟨h1, h2⟩ | h1
    · exact .inl ⟨h1, by show (p : Int) = p'; rw [h2]⟩
    · exact .inr h1
  · obtain ⟨y, hy, hlt⟩ := hs.lt hb
    rw [hx] at hy
    obtain rfl := Option.some.inj hy
    have := h.low x hfo
    omega
  · obtain ⟨rfl, T', fl, htb, hm⟩ := h.wrote hd hdir hdl hpost
    exact ⟨rfl, _, hm, rfl, rfl, htb⟩
end Go.Proofs.YtiejfbkbjahcgaaGreatDoor
