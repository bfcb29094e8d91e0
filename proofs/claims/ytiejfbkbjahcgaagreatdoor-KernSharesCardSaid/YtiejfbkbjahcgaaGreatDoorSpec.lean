/-
  THE PLAIN WORDS: a path's parts, as tree.Clean makes them. No program in sight.
-/
import Derived.Test.YtiejfbkbjahcgaaGreatDoorHeap
import Derived.Lib.Split
namespace Go.Proofs.YtiejfbkbjahcgaaGreatDoor
open Go Go.RowKit

def slash : ByteArray := ⟨#[47]⟩
def dot1 : ByteArray := ⟨#[46]⟩
def dot2 : ByteArray := ⟨#[46, 46]⟩

/-- One part more. -/
def step (out : List ByteArray) (s : ByteArray) : List ByteArray :=
  if s.toList.isEmpty = true then out else if (s.toList == [46]) = true then out else if (s.toList == [46, 46]) = true then out.dropLast else out ++ [s]

theorem step_empty {out : List ByteArray} {s : ByteArray} (h : s.toList.isEmpty = true) : step out s = out := by simp only [step, h, if_true]
theorem step_dot {out : List ByteArray} {s : ByteArray} (h : s.toList.isEmpty = false) (h1 : (s.toList == [46]) = true) : step out s = out := by
  unfold step; rw [if_neg (by rw [h]; decide), if_pos h1]
theorem step_dots {out : List ByteArray} {s : ByteArray} (h : s.toList.isEmpty = false) (h1 : (s.toList == [46]) = false) (h2 : (s.toList == [46, 46]) = true) : step out s = out.dropLast := by
  unfold step; rw [if_neg (by rw [h]; decide), if_neg (by rw [h1]; decide), if_pos h2]
theorem step_more {out : List ByteArray} {s : ByteArray} (h : s.toList.isEmpty = false) (h1 : (s.toList == [46]) = false) (h2 : (s.toList == [46, 46]) = false) : step out s = out ++ [s] := by
  unfold step; rw [if_neg (by rw [h]; decide), if_neg (by rw [h1]; decide), if_neg (by rw [h2]; decide)]
theorem step_length (out : List ByteArray) (s : ByteArray) : (step out s).length ≤ out.length + 1 := by
  unfold step; repeat' split
  all_goals simp <;> omega

/-- The pieces between the slashes. -/
def pieces (p : ByteArray) : List ByteArray := Lib.splitB slash 0 (Lib.countB p slash) p

def fold (l : List ByteArray) : List ByteArray := l.foldl step []

def long (l : List ByteArray) : Bool := l.any (fun s => 64 < s.size)

def badPath (p : ByteArray) : Bool := p.size < 1 || 256 < p.size || Lib.indexByte p.data.toList 0 != -1

/-- A path's parts. -/
def clean (p : ByteArray) : Option (List ByteArray) :=
  if badPath p then none else if long (fold (pieces p)) then none else some (fold (pieces p))

theorem fold_length (l : List ByteArray) : (fold l).length ≤ l.length := by
  suffices h : ∀ (l o : List ByteArray), (l.foldl step o).length ≤ o.length + l.length by simpa [fold] using h l []
  intro l
  induction l with
  | nil => intro o; simp
  | cons a l ih => intro o; have h1 := ih (step o a); have h2 := step_length o a; simp only [List.foldl_cons, List.length_cons]; omega
theorem fold_snoc (l : List ByteArray) (s : ByteArray) : fold (l ++ [s]) = step (fold l) s := by simp [fold]
end Go.Proofs.YtiejfbkbjahcgaaGreatDoor
