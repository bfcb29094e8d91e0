/-
  A KERN IN MEMORY: its descriptors; the calls that look at them or turn them alone.
  A kern's Dup, Close, Move, Used.
  A kern's Close, Move, Used.
  A kern's Used: the descriptors in use.
  A KERN WITH ITS TREE, ITS CONSOLE AND ITS OPEN FILES IN MEMORY; what it keeps when a part of it is turned.
-/
import Derived.Test.YtjhojohjegkinaaGreatDoorAppA
import Derived.Deep.LoopGhost
import Derived.Test.YtjhojohjegkinaaGreatDoorPutA
namespace Go.Proofs.YtjhojohjegkinaaGreatDoor
open Go Go.RowKit

section
/-- What a descriptor leads to: the console's input, an output, an open file: its block. -/
inductive End where
  | inp (b : Nat)
  | out (b : Nat)
  | file (b : Nat)





















end

section





end

section






end

section
def ints (l : List Nat) : List Value := l.map fun (n : Nat) => Value.int .i64 n




end

section
/-- An open file: the block of its tree.File, its way, its place, its node. -/
structure Fl where
  fb : Nat
  way : Int
  pos : Int
  node : Nat

structure Ks where
  kb : Nat
  ib : Nat
  ob : Nat
  eb : Nat
  T : Tr
  fds : Nat → Option End
  inV : Value
  outV : Value
  errV : Value
  inL : List UInt8
  outL : List UInt8
  errL : List UInt8
  fl : Nat → Option Fl

/-- The blocks that are the kern's but not the tree's. -/
def Ks.own (K : Ks) (b : Nat) : Prop :=
  b = K.kb ∨ b = K.ib ∨ b = K.ob ∨ b = K.eb ∨ K.inV.ownBlock = some b ∨ K.outV.ownBlock = some b ∨ K.errV.ownBlock = some b ∨ (∃ f, K.fl b = some f) ∨ ∃ c f, K.fl c = some f ∧ f.fb = b
def Ks.foot (K : Ks) (b : Nat) : Prop := K.own b ∨ K.T.foot b









end
end Go.Proofs.YtjhojohjegkinaaGreatDoor
