/-
  The reference's Ints: the same numbers?
  pidginlaw17.awake: true.
-/
import Derived.Test.YtjhojohjegkinaaGreatDoorWrA
import Derived.Lib.SlBytesConst
namespace Go.Proofs.YtjhojohjegkinaaGreatDoor
open Go Go.RowKit

section






end

section


def AwPost (w : World) (e : Ending) (w' : World) : Prop := e = .returned (.bool true) ∧ Below w.heap.size w w'

end
end Go.Proofs.YtjhojohjegkinaaGreatDoor
