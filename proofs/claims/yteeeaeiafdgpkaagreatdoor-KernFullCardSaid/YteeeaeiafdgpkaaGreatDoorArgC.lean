/-
 WHAT A ROW's ARGUMENT GIVES A WALK: a slice of a kern's calls.
-/
import Derived.Test.YteeeaeiafdgpkaaGreatDoorArgO
namespace Go.Proofs.YteeeaeiafdgpkaaGreatDoor
open Go Go.RowKit Go.ChangeShapes Go.WideShapes
structure Cal where
 act : Int
 fd : Int
 n : Int
 path : ByteArray
 data : List UInt8
instance : Inhabited Cal := ⟨⟨0, 0, 0, ByteArray.empty, []⟩⟩
def ClAt (w : World) (b o : Nat) (x : Cal) (da : Option Addr) (dc : Nat) : Prop :=
 w.cell? ⟨b, o, none⟩ = some (.int .i64 x.act) ∧ w.cell? ⟨b, o + 1, none⟩ = some (.int .i64 x.fd) ∧ w.cell? ⟨b, o + 2, none⟩ = some (.int .i64 x.n) ∧ w.cell? ⟨b, o + 3, none⟩ = some (.string x.path) ∧ w.cell? ⟨b, o + 4, none⟩ = some (.slice da x.data.length dc) ∧ Src w (.slice da x.data.length dc) x.data
structure CalOk (x : Cal) : Prop where
 act : -9223372036854775808 ≤ x.act ∧ x.act ≤ 9223372036854775807
 fd : -9223372036854775808 ≤ x.fd ∧ x.fd ≤ 9223372036854775807
 n : -9223372036854775808 ≤ x.n ∧ x.n ≤ 9223372036854775807
 path : x.path.size ≤ 9223372036854775807
 data : x.data.length ≤ 140737488355328
def CSrc (w : World) (v : Value) (l : List Cal) : Prop :=
 (l = [] ∧ ∃ a c, v = .slice a 0 c) ∨ ∃ b o c, v = .slice (some ⟨b, o, none⟩) l.length c ∧ ∀ j (h : j < l.length), ∃ da dc, ClAt w b (o + j * 5) l[j] da dc
theorem ClAt.below {w w' : World} {b o : Nat} {x : Cal} {da : Option Addr} {dc : Nat} (h : ClAt w b o x da dc) (k : Below w.heap.size w w') : ClAt w' b o x da dc := by
 obtain ⟨h0, h1, h2, h3, h4, h5⟩ := h
 exact ⟨zbg k h0, zbg k h1, zbg k h2, zbg k h3, zbg k h4, h5.kept (Kept.of_below k (fun _ => False)) (fun _ _ h => h)⟩
end Go.Proofs.YteeeaeiafdgpkaaGreatDoor
