/-
  pidginref1.Bytes of the same bytes; a source in a later world.
-/
import Derived.Test.YtiejfbkbjahcgaaGreatDoorStr
namespace Go.Proofs.YtiejfbkbjahcgaaGreatDoor
open Go Go.RowKit

theorem bytes_true {l : List UInt8} (a c a' c') (w : World) (h : Src w (.slice a l.length c) l) (h' : Src w (.slice a' l.length c') l) :
    Calls Tryz.prog 26 #[.slice a l.length c, .slice a' l.length c'] w fun e w' => e = .returned (.bool true) ∧ w' = w := by
  have q1 := run_str_src h
  have q2 := run_str_src h'
  clear h h'
  go_enter Tryz.func26, Tryz.ntmps26
  go_wp2_with fail
  go_ret
  exact ⟨rfl, rfl⟩

theorem src_up {w wr : World} {s : Value} {l : List UInt8} (h : Src w s l) (hb : Below w.heap.size w wr) : Src wr s l := h.kept (Kept.of_below hb (fun _ => False)) (fun _ _ h => h)
end Go.Proofs.YtiejfbkbjahcgaaGreatDoor
