/-
  The document's Text: a line a path.
-/
import Derived.Test.YtjhojohjegkinaaGreatDoorRefA
import Derived.Test.YtjhojohjegkinaaGreatDoorBothA
import Derived.Lib.AppendIntMem
import Derived.Deep.RegionHeld3
import Derived.Lib.LaidTab
namespace Go.Proofs.YtjhojohjegkinaaGreatDoor
open Go Go.RowKit

/-! ### numerals -/

/-! ### the text -/
/-- The document's line. -/
def rline (R : RT) (e : Ent) : List UInt8 := match R.nd e.2 with
  | none => []
  | some d => e.1 ++ (if e.1 = [] then [47] else []) ++ (if d.dir then [32, 100, 32] else [32, 102, 32] ++ dec d.data.length ++ [32] ++ dec (linksIn R.L e.2) ++ [32]) ++ (dec d.tick ++ [10])
def RT.txt (R : RT) : List UInt8 := R.L.flatMap (rline R)



end Go.Proofs.YtjhojohjegkinaaGreatDoor
