/-
 One call at each of the two trees, beside a row of bytes that is neither's.
-/
import Derived.Test.YteeeaeiafdgpkaaGreatDoorLock
namespace Go.Proofs.YteeeaeiafdgpkaaGreatDoor
open Go Go.RowKit
section
variable {E : Nat → Addr} {w : World} {tb rb k : Nat} {bv : Value} {b : List UInt8}
def oWrite (p : ByteArray) (c : List UInt8) (add : Bool) : AOp := ⟨if add then 2 else 1, p, ByteArray.empty, c⟩
def oRemove (p : ByteArray) : AOp := ⟨3, p, ByteArray.empty, []⟩
end
end Go.Proofs.YteeeaeiafdgpkaaGreatDoor
