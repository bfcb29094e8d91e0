/-
 WHAT A ROW's ARGUMENT GIVES A WALK: a slice of calls.
-/
import Derived.Test.YteeeaeiafdgpkaaGreatDoorArgsZ
import Derived.Test.YteeeaeiafdgpkaaGreatDoorRefC
import Derived.SizedLaws
namespace Go.Proofs.YteeeaeiafdgpkaaGreatDoor
open Go Go.RowKit Go.ChangeShapes Go.WideShapes
structure OpA where
 act : Int
 path : ByteArray
 other : ByteArray
 data : List UInt8
theorem zbg {w w' : World} (h : Below w.heap.size w w') {p : Addr} {v : Value} (hc : w.cell? p = some v) : w'.cell? p = some v := by
 have hlt : p.block < w.heap.size := by
  unfold World.cell? at hc
  cases hb : w.heap[p.block]? with
  | none => rw [hb] at hc; simp at hc
  | some o => exact (Array.getElem?_eq_some_iff.1 hb).1
 have e : w'.heap[p.block]? = w.heap[p.block]? := h.block _ hlt
 unfold World.cell? at hc ⊢
 rw [e]
 exact hc
section
variable {H : Type} {enc : TypeId × Value → H} {P : Program} {w : World} {base : Nat} {spare : Nat → Bool} {held : Bool}
open Go.Deep
theorem weights_all {e : TypeId} : ∀ {l : List (DataW H)} {d : DataW H} {n : Nat}, d ∈ l → n ∈ d.weights P e → n ∈ DataW.weightsAll P e l
 | [], _, _, h, _ => by cases h
 | x :: l, d, n, h, hn => by
  simp only [DataW.weightsAll, List.mem_append]
  rcases List.mem_cons.1 h with rfl | h
  ·exact .inl hn
  ·exact .inr (weights_all h hn)
end
section
variable {H : Type} {enc : TypeId × Value → H} {W : World} {base : Nat} {v : Value} {d : DataW H} {ps : List MemPlace}
end
end Go.Proofs.YteeeaeiafdgpkaaGreatDoor
