/-
  A KERN WITH ITS TREE, ITS CONSOLE AND ITS OPEN FILES IN MEMORY; what it keeps when a part of it is turned.
-/
import Derived.Test.YtiejfbkbjahcgaaGreatDoorKernUsed
import Derived.Test.YtiejfbkbjahcgaaGreatDoorPutOld
namespace Go.Proofs.YtiejfbkbjahcgaaGreatDoor
open Go Go.RowKit

/-- An open file: the block of its tree.File, its way, its place, its node. -/
structure Fl where
  fb : Nat
  way : Int
  pos : Int
  node : Nat

structure Ks where
  kb : Nat
  ib : Nat
  ob : Nat
  eb : Nat
  T : Tr
  fds : Nat → Option End
  inV : Value
  outV : Value
  errV : Value
  inL : List UInt8
  outL : List UInt8
  errL : List UInt8
  fl : Nat → Option Fl

/-- The blocks that are the kern's but not the tree's. -/
def Ks.own (K : Ks) (b : Nat) : Prop :=
  b = K.kb ∨ b = K.ib ∨ b = K.ob ∨ b = K.eb ∨ K.inV.ownBlock = some b ∨ K.outV.ownBlock = some b ∨ K.errV.ownBlock = some b ∨ (∃ f, K.fl b = some f) ∨ ∃ c f, K.fl c = some f ∧ f.fb = b
def Ks.foot (K : Ks) (b : Nat) : Prop := K.own b ∨ K.T.foot b

/-- What a descriptor may lead to. -/
def Ks.good (K : Ks) : Option End → Prop
  | none => True
  | some (.inp b) => b = K.ib
  | some (.out b) => b = K.ob ∨ b = K.eb
  | some (.file b) => ∃ f, K.fl b = some f

structure KRep (B : Nat) (w : World) (K : Ks) : Prop where
  kern : KAt w K.kb K.T.tb K.fds K.ob K.eb
  tree : Rep B w K.T
  low : ∀ b, K.own b → B ≤ b
  apart : ∀ b, K.own b → ¬ K.T.foot b
  inp : w.heap[K.ib]? = some (.cells #[K.inV] 184 (0, 0))
  inS : Src w K.inV K.inL
  inT : ∀ r, K.inV.ownBlock = some r → ∃ c, w.heap[r]? = some (.cells c 5 (0, 0))
  out : w.heap[K.ob]? = some (.cells #[K.outV] 177 (0, 0))
  outS : w.ownsRow B 5 1 K.outV K.outL.length (u8s K.outL)
  err : w.heap[K.eb]? = some (.cells #[K.errV] 177 (0, 0))
  errS : w.ownsRow B 5 1 K.errV K.errL.length (u8s K.errL)
  two : K.ob ≠ K.eb
  rows1 : ∀ r, K.outV.ownBlock = some r → K.errV.ownBlock ≠ some r
  rows2 : ∀ r, K.outV.ownBlock = some r → K.inV.ownBlock ≠ some r
  rows3 : ∀ r, K.errV.ownBlock = some r → K.inV.ownBlock ≠ some r
  file : ∀ b f, K.fl b = some f → w.heap[b]? = some (.cells #[ptrV (some f.fb), .int .i64 f.way, .int .i64 f.pos] 188 (0, 0)) ∧ w.heap[f.fb]? = some (.cells #[ptrV (some f.node), ptrV (some K.T.tb)] 149 (0, 0)) ∧ ∃ d, K.T.nd f.node = some d ∧ d.dir = false
  goodFds : ∀ j, K.good (K.fds j)

theorem row_cells {w : World} {base n : Nat} {e : TypeId} {size : Nat} {v : Value} {xs : List Value} (h : w.ownsRow base e size v n xs) {r : Nat} (hr : v.ownBlock = some r) : ∃ c, w.heap[r]? = some (.cells c e (0, 0)) := by
  rcases h.2 with ⟨rfl, _⟩ | ⟨g, cap, cur, rfl, _, h1, _⟩
  · cases hr
  · simp only [Value.ownBlock, Option.some.injEq] at hr
    subst hr
    exact ⟨cur, h1⟩

/-- Each of the kern's own blocks is there. -/
theorem KRep.own_lt {B : Nat} {w : World} {K : Ks} (h : KRep B w K) {b : Nat} (hb : K.own b) : b < w.heap.size := by
  rcases hb with rfl | rfl | rfl | rfl | hb | hb | hb | ⟨f, hf⟩ | ⟨c, f, hf, rfl⟩
  · exact h.kern.lt
  · exact lt_of_heap h.inp
  · exact lt_of_heap h.out
  · exact lt_of_heap h.err
  · obtain ⟨c, hc⟩ := h.inT b hb; exact lt_of_heap hc
  · exact (h.outS.lt b hb).2
  · exact (h.errS.lt b hb).2
  · exact lt_of_heap (h.file b f hf).1
  · exact lt_of_heap (h.file c f hf).2.1
theorem KRep.lt {B : Nat} {w : World} {K : Ks} (h : KRep B w K) {b : Nat} (hb : K.foot b) : b < w.heap.size := by
  rcases hb with hb | hb
  · exact h.own_lt hb
  · exact h.tree.lt hb
theorem KRep.foot_low {B : Nat} {w : World} {K : Ks} (h : KRep B w K) {b : Nat} (hb : K.foot b) : B ≤ b := by
  rcases hb with hb | hb
  · exact h.low b hb
  · exact h.tree.low b hb

/-- Nothing of it was turned. -/
theorem KRep.kept {B : Nat} {w w' : World} {K : Ks} {F : Nat → Prop} (h : KRep B w K) (k : Kept F w w') (hF : ∀ b, K.foot b → ¬ F b) : KRep B w' K where
  kern := h.kern.kept k (hF _ (.inl (.inl rfl)))
  tree := h.tree.kept k (fun b hb => hF b (.inr hb))
  low := h.low
  apart := h.apart
  inp := (k.block _ (lt_of_heap h.inp) (hF _ (.inl (.inr (.inl rfl))))).trans h.inp
  inS := h.inS.kept k (fun b hb => hF b (.inl (.inr (.inr (.inr (.inr (.inl hb)))))))
  inT r hr := by
    obtain ⟨c, hc⟩ := h.inT r hr
    exact ⟨c, (k.block _ (lt_of_heap hc) (hF _ (.inl (.inr (.inr (.inr (.inr (.inl hr)))))))).trans hc⟩
  out := (k.block _ (lt_of_heap h.out) (hF _ (.inl (.inr (.inr (.inl rfl)))))).trans h.out
  outS := ownsRow_kept h.outS k (fun b hb => hF b (.inl (.inr (.inr (.inr (.inr (.inr (.inl hb))))))))
  err := (k.block _ (lt_of_heap h.err) (hF _ (.inl (.inr (.inr (.inr (.inl rfl))))))).trans h.err
  errS := ownsRow_kept h.errS k (fun b hb => hF b (.inl (.inr (.inr (.inr (.inr (.inr (.inr (.inl hb)))))))))
  two := h.two
  rows1 := h.rows1
  rows2 := h.rows2
  rows3 := h.rows3
  file b f hf := ⟨(k.block _ (lt_of_heap (h.file b f hf).1) (hF _ (.inl (.inr (.inr (.inr (.inr (.inr (.inr (.inr (.inl ⟨f, hf⟩))))))))))).trans (h.file b f hf).1,
    (k.block _ (lt_of_heap (h.file b f hf).2.1) (hF _ (.inl (.inr (.inr (.inr (.inr (.inr (.inr (.inr (.inr ⟨b, f, hf, rfl⟩))))))))))).trans (h.file b f hf).2.1, (h.file b f hf).2.2⟩
  goodFds := h.goodFds

theorem KRep.below {B : Nat} {w w' : World} {K : Ks} (h : KRep B w K) (k : Below w.heap.size w w') : KRep B w' K := h.kept (Kept.of_below k (fun _ => False)) (fun _ _ hf => hf)

/-- The block of the kern itself is none of the others. -/
theorem KRep.kb_apart {B : Nat} {w : World} {K : Ks} (h : KRep B w K) : K.kb ≠ K.ib ∧ K.kb ≠ K.ob ∧ K.kb ≠ K.eb ∧ (∀ r, K.inV.ownBlock = some r → K.kb ≠ r) ∧ (∀ r, K.outV.ownBlock = some r → K.kb ≠ r) ∧ (∀ r, K.errV.ownBlock = some r → K.kb ≠ r) ∧ (∀ b f, K.fl b = some f → K.kb ≠ b ∧ K.kb ≠ f.fb) := by
  obtain ⟨c, hk, _⟩ := h.kern.cells
  refine ⟨cells_ne_type hk h.inp (by decide), cells_ne_type hk h.out (by decide), cells_ne_type hk h.err (by decide), fun r hr => ?_, fun r hr => ?_, fun r hr => ?_, fun b f hf => ⟨cells_ne_type hk (h.file b f hf).1 (by decide), cells_ne_type hk (h.file b f hf).2.1 (by decide)⟩⟩
  · obtain ⟨c', hc⟩ := h.inT r hr; exact cells_ne_type hk hc (by decide)
  · obtain ⟨c', hc⟩ := row_cells h.outS hr; exact cells_ne_type hk hc (by decide)
  · obtain ⟨c', hc⟩ := row_cells h.errS hr; exact cells_ne_type hk hc (by decide)

/-- Its descriptors alone were turned. -/
theorem KRep.setFds {B : Nat} {w w' : World} {K : Ks} (h : KRep B w K) {fds : Nat → Option End} (hk : KAt w' K.kb K.T.tb fds K.ob K.eb) (k : Kept (fun b => b = K.kb) w w') (hg : ∀ j, K.good (fds j)) : KRep B w' { K with fds := fds } := by
  obtain ⟨n1, n2, n3, n4, n5, n6, n7⟩ := h.kb_apart
  refine ⟨hk, h.tree.kept k (fun b hb e => h.apart _ (.inl rfl) (e ▸ hb)), h.low, h.apart, ?_, h.inS.kept k (fun b hb e => n4 b hb e.symm), fun r hr => ?_, ?_, ownsRow_kept h.outS k (fun b hb e => n5 b hb e.symm), ?_, ownsRow_kept h.errS k (fun b hb e => n6 b hb e.symm), h.two, h.rows1, h.rows2, h.rows3, fun b f hf => ⟨?_, ?_, (h.file b f hf).2.2⟩, hg⟩
  · exact (k.block _ (lt_of_heap h.inp) (Ne.symm n1)).trans h.inp
  · obtain ⟨c, hc⟩ := h.inT r hr
    exact ⟨c, (k.block _ (lt_of_heap hc) (Ne.symm (n4 r hr))).trans hc⟩
  · exact (k.block _ (lt_of_heap h.out) (Ne.symm n2)).trans h.out
  · exact (k.block _ (lt_of_heap h.err) (Ne.symm n3)).trans h.err
  · exact (k.block _ (lt_of_heap (h.file b f hf).1) (Ne.symm (n7 b f hf).1)).trans (h.file b f hf).1
  · exact (k.block _ (lt_of_heap (h.file b f hf).2.1) (Ne.symm (n7 b f hf).2)).trans (h.file b f hf).2.1

/-- Its tree alone was turned. -/
theorem KRep.setTree {B : Nat} {w w' : World} {K : Ks} (h : KRep B w K) {T' : Tr} (hT : Rep B w' T') (htb : T'.tb = K.T.tb) (k : Kept K.T.foot w w') (hfoot : ∀ x, T'.foot x → K.T.foot x ∨ w.heap.size ≤ x)
    (hfiles : ∀ n d, K.T.nd n = some d → d.dir = false → ∃ d', T'.nd n = some d' ∧ d'.dir = false) : KRep B w' { K with T := T' } := by
  have key : ∀ b, K.own b → ¬ K.T.foot b := h.apart
  refine ⟨?_, hT, h.low, fun b hb hf => ?_, ?_, ?_, fun r hr => ?_, ?_, ?_, ?_, ?_, h.two, h.rows1, h.rows2, h.rows3, fun b f hf => ⟨?_, ?_, ?_⟩, h.goodFds⟩
  · have h1 := h.kern.kept k (key _ (.inl rfl))
    rw [← htb] at h1
    exact h1
  · rcases hfoot b hf with h1 | h1
    · exact h.apart b hb h1
    · exact absurd (h.own_lt hb) (by omega)
  · exact (k.block _ (lt_of_heap h.inp) (key _ (.inr (.inl rfl)))).trans h.inp
  · exact h.inS.kept k (fun b hb => key b (.inr (.inr (.inr (.inr (.inl hb))))))
  · obtain ⟨c, hc⟩ := h.inT r hr
    exact ⟨c, (k.block _ (lt_of_heap hc) (key _ (.inr (.inr (.inr (.inr (.inl hr))))))).trans hc⟩
  · exact (k.block _ (lt_of_heap h.out) (key _ (.inr (.inr (.inl rfl))))).trans h.out
  · exact ownsRow_kept h.outS k (fun b hb => key b (.inr (.inr (.inr (.inr (.inr (.inl hb)))))))
  · exact (k.block _ (lt_of_heap h.err) (key _ (.inr (.inr (.inr (.inl rfl)))))).trans h.err
  · exact ownsRow_kept h.errS k (fun b hb => key b (.inr (.inr (.inr (.inr (.inr (.inr (.inl hb))))))))
  · exact (k.block _ (lt_of_heap (h.file b f hf).1) (key _ (.inr (.inr (.inr (.inr (.inr (.inr (.inr (.inl ⟨f, hf⟩)))))))))).trans (h.file b f hf).1
  · show w'.heap[f.fb]? = some (.cells #[ptrV (some f.node), ptrV (some T'.tb)] 149 (0, 0))
    rw [htb]
    exact (k.block _ (lt_of_heap (h.file b f hf).2.1) (key _ (.inr (.inr (.inr (.inr (.inr (.inr (.inr (.inr ⟨b, f, hf, rfl⟩)))))))))).trans (h.file b f hf).2.1
  · obtain ⟨d, h1, h2⟩ := (h.file b f hf).2.2
    exact hfiles _ d h1 h2
end Go.Proofs.YtiejfbkbjahcgaaGreatDoor
