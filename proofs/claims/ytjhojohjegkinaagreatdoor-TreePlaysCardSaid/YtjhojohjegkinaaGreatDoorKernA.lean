/-
  A KERN IN MEMORY: its descriptors; the calls that look at them or turn them alone.
  A kern's Dup, Close, Move, Used.
  A kern's Close, Move, Used.
  A kern's Used: the descriptors in use.
  A KERN WITH ITS TREE, ITS CONSOLE AND ITS OPEN FILES IN MEMORY; what it keeps when a part of it is turned.
-/
import Derived.Test.YtjhojohjegkinaaGreatDoorAppA
import Derived.Deep.LoopGhost
import Derived.Test.YtjhojohjegkinaaGreatDoorPutA
namespace Go.Proofs.YtjhojohjegkinaaGreatDoor
open Go Go.RowKit

section
/-- What a descriptor leads to: the console's input, an output, an open file: its block. -/
inductive End where
  | inp (b : Nat)
  | out (b : Nat)
  | file (b : Nat)

def endV : Option End → Value
  | none => .nilIface
  | some (.inp b) => .iface 178 (.pointer (some ⟨b, 0, none⟩))
  | some (.out b) => .iface 170 (.pointer (some ⟨b, 0, none⟩))
  | some (.file b) => .iface 224 (.pointer (some ⟨b, 0, none⟩))

/-- The block of a kern: its tree, its sixteen descriptors, its outputs. -/
structure KAt (w : World) (kb tb : Nat) (fds : Nat → Option End) (ob eb : Nat) : Prop where
  cells : ∃ c : Array Value, w.heap[kb]? = some (.cells c 177 (0, 0)) ∧ c.size = 19 ∧ c[0]? = some (ptrV (some tb)) ∧ (∀ j, j < 16 → c[1 + j]? = some (endV (fds j))) ∧ c[17]? = some (ptrV (some ob)) ∧ c[18]? = some (ptrV (some eb))

theorem KAt.kept {w w' : World} {kb tb : Nat} {fds : Nat → Option End} {ob eb : Nat} {F : Nat → Prop} (h : KAt w kb tb fds ob eb) (k : Kept F w w') (hF : ¬ F kb) : KAt w' kb tb fds ob eb := by
  obtain ⟨c, h1, r⟩ := h.cells
  exact ⟨⟨c, (k.block kb (lt_of_heap h1) hF).trans h1, r⟩⟩
theorem KAt.drew {w : World} {kb tb : Nat} {fds : Nat → Option End} {ob eb : Nat} (h : KAt w kb tb fds ob eb) : KAt w.drew kb tb fds ob eb := ⟨h.cells⟩
theorem KAt.lt {w : World} {kb tb : Nat} {fds : Nat → Option End} {ob eb : Nat} (h : KAt w kb tb fds ob eb) : kb < w.heap.size := by
  obtain ⟨c, h1, _⟩ := h.cells
  exact lt_of_heap h1

def setFd (fds : Nat → Option End) (j : Nat) (e : Option End) : Nat → Option End := fun i => if i = j then e else fds i

theorem KAt.set {w : World} {kb tb : Nat} {fds : Nat → Option End} {ob eb : Nat} (h : KAt w kb tb fds ob eb) (j : Nat) (hj : j < 16) (e : Option End) : KAt (w.setCell ⟨kb, 1 + j, none⟩ (endV e)) kb tb (setFd fds j e) ob eb := by
  obtain ⟨c, h1, h2, h3, h4, h5, h6⟩ := h.cells
  refine ⟨⟨c.setIfInBounds (1 + j) (endV e), heap_set_same h1 _ _, by simp [h2], ?_, fun i hi => ?_, ?_, ?_⟩⟩
  · rw [Array.getElem?_setIfInBounds, if_neg (by omega)]; exact h3
  · rw [Array.getElem?_setIfInBounds]
    unfold setFd
    by_cases hij : i = j
    · subst hij; simp [h2]; omega
    · rw [if_neg (by omega), if_neg hij]; exact h4 i hi
  · rw [Array.getElem?_setIfInBounds, if_neg (by omega)]; exact h5
  · rw [Array.getElem?_setIfInBounds, if_neg (by omega)]; exact h6












/-- Block a holds an error of kern's own, for code c. -/
def Refused (E : Nat → Addr) (L : Nat) (w : World) (a : Nat) (c : Nat) : Prop :=
  ∃ b, L ≤ a ∧ w.heap[a]? = some (.cells #[failV b] 266 (0, 0)) ∧ Failed E L w b c

theorem Refused.kept {E : Nat → Addr} {L : Nat} {w w' : World} {a c : Nat} {F : Nat → Prop} (h : Refused E L w a c) (k : Kept F w w') (hF : ∀ b, F b → b < L) : Refused E L w' a c := by
  obtain ⟨b, l1, h1, h2⟩ := h
  exact ⟨b, l1, (k.block a (lt_of_heap h1) (fun hf => by have := hF _ hf; omega)).trans h1, h2.kept k hF⟩
theorem Refused.below {E : Nat → Addr} {L : Nat} {w w' : World} {a c : Nat} (h : Refused E L w a c) (k : Below w.heap.size w w') : Refused E L w' a c := by
  obtain ⟨b, l1, h1, h2⟩ := h
  exact ⟨b, l1, (k.block a (lt_of_heap h1)).trans h1, h2.below k⟩
theorem Refused.mono {E : Nat → Addr} {L L' : Nat} {w : World} {a c : Nat} (h : Refused E L w a c) (hl : L' ≤ L) : Refused E L' w a c := by
  obtain ⟨b, l1, h1, h2⟩ := h
  exact ⟨b, by omega, h1, h2.mono hl⟩



end

section





end

section






end

section
def ints (l : List Nat) : List Value := l.map fun (n : Nat) => Value.int .i64 n




end

section
/-- An open file: the block of its tree.File, its way, its place, its node. -/
structure Fl where
  fb : Nat
  way : Int
  pos : Int
  node : Nat

structure Ks where
  kb : Nat
  ib : Nat
  ob : Nat
  eb : Nat
  T : Tr
  fds : Nat → Option End
  inV : Value
  outV : Value
  errV : Value
  inL : List UInt8
  outL : List UInt8
  errL : List UInt8
  fl : Nat → Option Fl

/-- The blocks that are the kern's but not the tree's. -/
def Ks.own (K : Ks) (b : Nat) : Prop :=
  b = K.kb ∨ b = K.ib ∨ b = K.ob ∨ b = K.eb ∨ K.inV.ownBlock = some b ∨ K.outV.ownBlock = some b ∨ K.errV.ownBlock = some b ∨ (∃ f, K.fl b = some f) ∨ ∃ c f, K.fl c = some f ∧ f.fb = b
def Ks.foot (K : Ks) (b : Nat) : Prop := K.own b ∨ K.T.foot b

/-- What a descriptor may lead to. -/
def Ks.good (K : Ks) : Option End → Prop
  | none => True
  | some (.inp b) => b = K.ib
  | some (.out b) => b = K.ob ∨ b = K.eb
  | some (.file b) => ∃ f, K.fl b = some f

structure KRep (B : Nat) (w : World) (K : Ks) : Prop where
  kern : KAt w K.kb K.T.tb K.fds K.ob K.eb
  tree : Rep B w K.T
  low : ∀ b, K.own b → B ≤ b
  apart : ∀ b, K.own b → ¬ K.T.foot b
  inp : w.heap[K.ib]? = some (.cells #[K.inV] 179 (0, 0))
  inS : Src w K.inV K.inL
  inT : ∀ r, K.inV.ownBlock = some r → ∃ c, w.heap[r]? = some (.cells c 5 (0, 0))
  out : w.heap[K.ob]? = some (.cells #[K.outV] 172 (0, 0))
  outS : w.ownsRow B 5 1 K.outV K.outL.length (u8s K.outL)
  err : w.heap[K.eb]? = some (.cells #[K.errV] 172 (0, 0))
  errS : w.ownsRow B 5 1 K.errV K.errL.length (u8s K.errL)
  two : K.ob ≠ K.eb
  rows1 : ∀ r, K.outV.ownBlock = some r → K.errV.ownBlock ≠ some r
  rows2 : ∀ r, K.outV.ownBlock = some r → K.inV.ownBlock ≠ some r
  rows3 : ∀ r, K.errV.ownBlock = some r → K.inV.ownBlock ≠ some r
  file : ∀ b f, K.fl b = some f → w.heap[b]? = some (.cells #[ptrV (some f.fb), .int .i64 f.way, .int .i64 f.pos] 226 (0, 0)) ∧ w.heap[f.fb]? = some (.cells #[ptrV (some f.node), ptrV (some K.T.tb)] 169 (0, 0)) ∧ ∃ d, K.T.nd f.node = some d ∧ d.dir = false
  goodFds : ∀ j, K.good (K.fds j)

theorem row_cells {w : World} {base n : Nat} {e : TypeId} {size : Nat} {v : Value} {xs : List Value} (h : w.ownsRow base e size v n xs) {r : Nat} (hr : v.ownBlock = some r) : ∃ c, w.heap[r]? = some (.cells c e (0, 0)) := by
  rcases h.2 with ⟨rfl, _⟩ | ⟨g, cap, cur, rfl, _, h1, _⟩
  · cases hr
  · simp only [Value.ownBlock, Option.some.injEq] at hr
    subst hr
    exact ⟨cur, h1⟩

/-- Each of the kern's own blocks is there. -/
theorem KRep.own_lt {B : Nat} {w : World} {K : Ks} (h : KRep B w K) {b : Nat} (hb : K.own b) : b < w.heap.size := by
  rcases hb with rfl | rfl | rfl | rfl | hb | hb | hb | ⟨f, hf⟩ | ⟨c, f, hf, rfl⟩
  · exact h.kern.lt
  · exact lt_of_heap h.inp
  · exact lt_of_heap h.out
  · exact lt_of_heap h.err
  · obtain ⟨c, hc⟩ := h.inT b hb; exact lt_of_heap hc
  · exact (h.outS.lt b hb).2
  · exact (h.errS.lt b hb).2
  · exact lt_of_heap (h.file b f hf).1
  · exact lt_of_heap (h.file c f hf).2.1
theorem KRep.lt {B : Nat} {w : World} {K : Ks} (h : KRep B w K) {b : Nat} (hb : K.foot b) : b < w.heap.size := by
  rcases hb with hb | hb
  · exact h.own_lt hb
  · exact h.tree.lt hb

/-- Nothing of it was turned. -/
theorem KRep.kept {B : Nat} {w w' : World} {K : Ks} {F : Nat → Prop} (h : KRep B w K) (k : Kept F w w') (hF : ∀ b, K.foot b → ¬ F b) : KRep B w' K where
  kern := h.kern.kept k (hF _ (.inl (.inl rfl)))
  tree := h.tree.kept k (fun b hb => hF b (.inr hb))
  low := h.low
  apart := h.apart
  inp := (k.block _ (lt_of_heap h.inp) (hF _ (.inl (.inr (.inl rfl))))).trans h.inp
  inS := h.inS.kept k (fun b hb => hF b (.inl (.inr (.inr (.inr (.inr (.inl hb)))))))
  inT r hr := by
    obtain ⟨c, hc⟩ := h.inT r hr
    exact ⟨c, (k.block _ (lt_of_heap hc) (hF _ (.inl (.inr (.inr (.inr (.inr (.inl hr)))))))).trans hc⟩
  out := (k.block _ (lt_of_heap h.out) (hF _ (.inl (.inr (.inr (.inl rfl)))))).trans h.out
  outS := ownsRow_kept h.outS k (fun b hb => hF b (.inl (.inr (.inr (.inr (.inr (.inr (.inl hb))))))))
  err := (k.block _ (lt_of_heap h.err) (hF _ (.inl (.inr (.inr (.inr (.inl rfl))))))).trans h.err
  errS := ownsRow_kept h.errS k (fun b hb => hF b (.inl (.inr (.inr (.inr (.inr (.inr (.inr (.inl hb)))))))))
  two := h.two
  rows1 := h.rows1
  rows2 := h.rows2
  rows3 := h.rows3
  file b f hf := ⟨(k.block _ (lt_of_heap (h.file b f hf).1) (hF _ (.inl (.inr (.inr (.inr (.inr (.inr (.inr (.inr (.inl ⟨f, hf⟩))))))))))).trans (h.file b f hf).1,
    (k.block _ (lt_of_heap (h.file b f hf).2.1) (hF _ (.inl (.inr (.inr (.inr (.inr (.inr (.inr (.inr (.inr ⟨b, f, hf, rfl⟩))))))))))).trans (h.file b f hf).2.1, (h.file b f hf).2.2⟩
  goodFds := h.goodFds

theorem KRep.below {B : Nat} {w w' : World} {K : Ks} (h : KRep B w K) (k : Below w.heap.size w w') : KRep B w' K := h.kept (Kept.of_below k (fun _ => False)) (fun _ _ hf => hf)



end
end Go.Proofs.YtjhojohjegkinaaGreatDoor
