/-
  Bytes as a string.
  pidginref1.Bytes of the same bytes; a source in a later world.
-/
import Derived.Test.YtjhojohjegkinaaGreatDoorAppA
import Derived.Laws.IdiomStrings
import Derived.Laws.BytesArg
namespace Go.Proofs.YtjhojohjegkinaaGreatDoor
open Go Go.RowKit

section
def strOf (l : List UInt8) : ByteArray := ⟨l.toArray⟩

theorem strOf_size (l : List UInt8) : (strOf l).size = l.length := by simp [strOf, ByteArray.size]

theorem run_str_src {w : World} {s : Value} {l : List UInt8} (h : Src w s l) : (convert 44 9 s).run Tryz.prog w = .ok (.string (strOf l)) w := by
  rcases h with ⟨rfl, rfl⟩ | ⟨ad, c, rfl, _, hc⟩
  · exact run_convert_bytes_nil w _ 5 Tryz.underlying44 Tryz.underlying5 0 0 _ Tryz.underlying9
  · exact run_convert_bytes_back w _ _ 5 ad c l Tryz.underlying44 Tryz.underlying5 Tryz.underlying9 hc
end

section

end
end Go.Proofs.YtjhojohjegkinaaGreatDoor
