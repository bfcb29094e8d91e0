/-
 The library's table of powers, as a row's list lays it.
-/
import Derived.Test.YteeeaeiafdgpkaaGreatDoorRText
import Derived.Lib.LaidTab
import Derived.Lib.AppendIntMem
import Derived.LaidSub
import Derived.MakeChecks
namespace Go.Proofs.YteeeaeiafdgpkaaGreatDoor
open Go Go.RowKit
def isTab (x : String × DataW Unit) : Bool := x.1 == "internal/strconv.uint64pow10"
def tabLaid : String × DataW Unit := ("internal/strconv.uint64pow10", Lib.tabData .u64 Lib.pow10Tab)
theorem tab_of_laid {W : World} {l : List (String × DataW Unit)} (h : laidMetH Tryz.prog l W) (hl : l.filter isTab = [tabLaid]) : TabB W.heap.size W := by
 have h1 := laidMetH.filter isTab h
 rw [hl, MakeChecks.laidMetH_plain _ _ _ (by rfl)] at h1
 exact Lib.tabBelow_of_tabIs (Lib.tabIs_of_head (g := 11) (by kernel_rfl) (by kernel_rfl) Tryz.underlying237 Tryz.underlying156 (by kernel_rfl) (by kernel_rfl) h1)
end Go.Proofs.YteeeaeiafdgpkaaGreatDoor
