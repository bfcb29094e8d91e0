/-
 Bytes as a string.
 pidginref1.Bytes of the same bytes; a source in a later world.
-/
import Derived.Test.YteeeaeiafdgpkaaGreatDoorAppA
import Derived.Laws.IdiomStrings
import Derived.Laws.BytesArg
namespace Go.Proofs.YteeeaeiafdgpkaaGreatDoor
open Go Go.RowKit
section
def strOf (l : List UInt8) : ByteArray := ⟨l.toArray⟩
theorem strOf_size (l : List UInt8) : (strOf l).size = l.length := by simp [strOf, ByteArray.size]
theorem zdd {w : World} {s : Value} {l : List UInt8} (h : Src w s l) : (convert 28 9 s).run Tryz.prog w = .ok (.string (strOf l)) w := by
 rcases h with ⟨rfl, rfl⟩ | ⟨ad, c, rfl, _, hc⟩
 ·exact run_convert_bytes_nil w _ 5 Tryz.underlying28 Tryz.underlying5 0 0 _ Tryz.underlying9
 ·exact run_convert_bytes_back w _ _ 5 ad c l Tryz.underlying28 Tryz.underlying5 Tryz.underlying9 hc
end
section
theorem bytes_true {l : List UInt8} (a c a' c') (w : World) (h : Src w (.slice a l.length c) l) (h' : Src w (.slice a' l.length c') l) :
  Calls Tryz.prog 10 #[.slice a l.length c, .slice a' l.length c'] w fun e w' => e = .returned (.bool true) ∧ w' = w := by
 have q1 := zdd h
 have q2 := zdd h'
 clear h h'
 go_enter Tryz.func10, Tryz.ntmps10
 go_wp2_with fail
 go_ret
 exact ⟨rfl, rfl⟩
theorem src_up {w wr : World} {s : Value} {l : List UInt8} (h : Src w s l) (hb : Below w.heap.size w wr) : Src wr s l := h.kept (Kept.of_below hb (fun _ => False)) (fun _ _ h => h)
end
end Go.Proofs.YteeeaeiafdgpkaaGreatDoor
