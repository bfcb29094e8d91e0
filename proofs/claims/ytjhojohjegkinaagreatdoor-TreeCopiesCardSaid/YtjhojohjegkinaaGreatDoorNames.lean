/-
  THE NAMES OF A DIRECTORY: the document's kids are the tree's sorted names. THE TEXTS: the document's is the tree's.
-/
import Derived.Test.YtjhojohjegkinaaGreatDoorBothA
import Derived.Test.YtjhojohjegkinaaGreatDoorRText
import Derived.Sort.Walk0
namespace Go.Proofs.YtjhojohjegkinaaGreatDoor
open Go Go.RowKit

/-! ### rising rows -/
def SL (l : List (List UInt8)) : Prop := l.Pairwise (· < ·)

/-! ### the texts -/
end Go.Proofs.YtjhojohjegkinaaGreatDoor
