/-
  An open file's write, whatever is written: the laws of writeD; Size; the calls by ways 1 and 2.
  A kern's Write to an open file, whatever is written.
  Reading: (*File).ReadAt, a file's and an input's read, (*Kern).Read.
-/
import Derived.Test.YtjhojohjegkinaaGreatDoorWrA
import Derived.Test.YtjhojohjegkinaaGreatDoorNewA
namespace Go.Proofs.YtjhojohjegkinaaGreatDoor
open Go Go.RowKit

section
/-- Bytes put into a file at a place; nothing put turns nothing. -/
def writeD (d : List UInt8) (p : Nat) (b : List UInt8) : List UInt8 := if b = [] then d else putAt d p b









end

section




end

section





section
attribute [local go_sem ↓] ap_rule
end




end
end Go.Proofs.YtjhojohjegkinaaGreatDoor
