/-
  What the form's own reach gives: a slice of bytes has less than 2 ^ 47 of them.
-/
import Derived.Test.YtiejfbkbjahcgaaDoorArgs
import Derived.SizedLaws
namespace Go.Proofs.YtiejfbkbjahcgaaDoor
open Go Go.RowKit Go.ChangeShapes Go.WideShapes

theorem bytes_u8 : Tryd.prog.bytesOf 5 = 1 := by kernel_rfl

section
variable {H : Type} {enc : TypeId × Value → H} {W : World} {d : DataW H} {ps : List MemPlace}
set_option maxRecDepth 100000 in
theorem bytes_reach {a0 : Option Addr} {len cap : Nat} (h : DataW.Trod enc Tryd.prog W 0 (fun _ => true) true 33 (.slice a0 len cap) d ps) {ts : List TypeId} {ds : List (DataW H)} (hall : (DataW.weightsEach Tryd.prog ts ds).all (· ≤ reachBytes) = true) (j : Nat) (ht : ts[j]? = some 33) (hd : ds[j]? = some d) : len ≤ 140737488351232 := by
  obtain ⟨fuel, hf⟩ := h
  rcases open_ints Tryd.underlying33 Tryd.underlying5 (by kernel_rfl) hf with ⟨hcs, _⟩ | ⟨a, len', cap', zs, hcs, _, hl, hm, hz, hx, hcell, hw⟩
  · simp [Value.cells] at hcs
    omega
  · simp [Value.cells] at hcs
    obtain ⟨rfl, rfl, rfl⟩ := hcs
    simp only [if_true] at hz
    obtain ⟨rfl, _⟩ := (Prod.mk.injEq ..).mp hx
    have h1 := sized_slice hall ht hd Tryd.underlying33
    rw [bytes_u8] at h1
    unfold reachBytes at h1
    simp only [lits, List.length_map, List.length_take, List.length_drop] at h1
    omega
end
end Go.Proofs.YtiejfbkbjahcgaaDoor
