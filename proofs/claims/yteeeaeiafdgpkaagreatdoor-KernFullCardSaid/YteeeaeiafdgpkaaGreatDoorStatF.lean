/-
 (*Tree).Write of a file that is new, and of one that is there; a tree of one file.
 (*Tree).Stat of a file.
-/
import Derived.Test.YteeeaeiafdgpkaaGreatDoorAwA
import Derived.Test.YteeeaeiafdgpkaaGreatDoorPutA
import Derived.BigRegion
namespace Go.Proofs.YteeeaeiafdgpkaaGreatDoor
open Go Go.RowKit
section
theorem Ctx.raise {E : Nat → Addr} {B : Nat} {w : World} (h : Ctx E B w) : Ctx E w.heap.size w :=
 ⟨⟨Nat.le_refl _, fun c h1 h2 => ⟨Nat.lt_of_lt_of_le (h.env.room c h1 h2).1 h.env.size, Nat.lt_of_lt_of_le (h.env.room c h1 h2).2 h.env.size⟩, h.env.glob, h.env.unlike, h.env.body⟩, h.max, Nat.lt_of_lt_of_le h.maxB h.env.size⟩
end
section
end
end Go.Proofs.YteeeaeiafdgpkaaGreatDoor
