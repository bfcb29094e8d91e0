/-
  The reference's Ints: the same numbers?
  pidginlaw17.awake: true.
-/
import Derived.Test.YtjhojohjegkinaaGreatDoorWrA
import Derived.Lib.SlBytesConst
namespace Go.Proofs.YtjhojohjegkinaaGreatDoor
open Go Go.RowKit

section
/-- A slice of numbers that reads as l. -/
def ISrc (w : World) (s : Value) (l : List Int) : Prop :=
  (s = .slice none 0 0 ∧ l = []) ∨ ∃ ad c, s = .slice (some ad) l.length c ∧ ∀ j (h : j < l.length), w.cell? (ad.add j) = some (.int .i64 l[j])

theorem ISrc.form {w : World} {s : Value} {l : List Int} (h : ISrc w s l) : ∃ a c, s = .slice a l.length c ∧ ∀ j (h : j < l.length), ∃ ad, a = some ad ∧ w.cell? (ad.add j) = some (.int .i64 l[j]) := by
  rcases h with ⟨rfl, rfl⟩ | ⟨ad, c, rfl, h⟩
  · exact ⟨none, 0, rfl, fun j hj => absurd hj (by simp)⟩
  · exact ⟨some ad, c, rfl, fun j hj => ⟨ad, rfl, h j hj⟩⟩

theorem ISrc.of_owns {w : World} {base : Nat} {v : Value} {l : List Nat} (h : w.ownsRow base 3 1 v l.length (ints l)) : ISrc w v (l.map fun (n : Nat) => (n : Int)) := by
  rcases h.2 with ⟨rfl, h0⟩ | ⟨g, cap, cur, rfl, r1, r2, r3, _, _, r6⟩
  · exact .inl ⟨rfl, by rw [List.eq_nil_of_length_eq_zero h0]; rfl⟩
  · refine .inr ⟨⟨g, 0, none⟩, cap, by simp, fun j hj => ?_⟩
    have hj' : j < l.length := by simpa using hj
    exact h.cells (g := g) rfl j _ (by unfold ints; simp [List.getElem?_eq_getElem hj'])

theorem ISrc.kept {w w' : World} {s : Value} {l : List Int} {F : Nat → Prop} (h : ISrc w s l) (k : Kept F w w') (hF : ∀ b, s.ownBlock = some b → ¬ F b) : ISrc w' s l := by
  rcases h with h | ⟨ad, c, rfl, h⟩
  · exact .inl h
  · refine .inr ⟨ad, c, rfl, fun j hj => ?_⟩
    have h1 := h j hj
    have hb : (ad.add j).block = ad.block := by unfold Addr.add; split <;> rfl
    rw [k.cell (p := ad.add j) (World.block_lt_of_cell? _ _ h1) (by rw [hb]; exact hF _ rfl)]
    exact h1

def IPost (w : World) (r : Bool) (e : Ending) (w' : World) : Prop := e = .returned (.bool r) ∧ Below w.heap.size w w'


end

section


def AwPost (w : World) (e : Ending) (w' : World) : Prop := e = .returned (.bool true) ∧ Below w.heap.size w w'

end
end Go.Proofs.YtjhojohjegkinaaGreatDoor
