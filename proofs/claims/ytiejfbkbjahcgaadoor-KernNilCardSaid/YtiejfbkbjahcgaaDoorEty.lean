/-
  The handle that errors.As reads, out of a row's list.
-/
import Derived.Test.YtiejfbkbjahcgaaDoorArgs
import Derived.Test.YtiejfbkbjahcgaaDoorAs
namespace Go.Proofs.YtiejfbkbjahcgaaDoor
open Go Go.RowKit Go.ChangeShapes Go.WideShapes

theorem Tryd.et : Tryd.prog.globalNamed "errors.errorType" = some 10 := by kernel_rfl
theorem Tryd.rt : (Tryd.prog.cutTypes.find? (·.1 == "internal/reflectlite.rtype")).map (·.2) = some 165 := by kernel_rfl
theorem Tryd.tsize : Tryd.prog.types.size = 248 := by kernel_rfl
theorem Tryd.oneRow : ((List.range 248).filter fun t => Tryd.prog.rowNamed t [101, 114, 114, 111, 114]) = [26] := by kernel_rfl

def etyLaid : String × DataW Unit := ("errors.errorType", .iface "internal/reflectlite.rtype" (.agg [.ptr (.lit (.string [101, 114, 114, 111, 114]))]))

theorem ety_of_laid {W : World} {l : List (String × DataW Unit)} (h : laidMetH Tryd.prog l W) (hl : (l.filter fun x => x.2.handleName?.isSome) = [etyLaid]) : Ety W.heap.size W := by
  unfold laidMetH at h
  rw [hl] at h
  have h' : laidMet Tryd.prog (l.filter fun x => x.2.handleName?.isNone) W ∧ handlesMet Tryd.prog [etyLaid] W := h
  obtain ⟨name, u, ty, e1, e2, e3, e4, e5⟩ := h'.2 _ (List.mem_singleton.2 rfl)
  have en : name = [101, 114, 114, 111, 114] := (Option.some.inj e1).symm
  subst en
  obtain rfl := Option.some.inj (Tryd.rt.symm.trans e2)
  have hm : ty ∈ (List.range 248).filter fun t => Tryd.prog.rowNamed t [101, 114, 114, 111, 114] := List.mem_filter.2 ⟨List.mem_range.2 (by rw [← Tryd.tsize]; exact e3), e4⟩
  rw [Tryd.oneRow] at hm
  obtain rfl := List.mem_singleton.1 hm
  have hh : typeHandle Tryd.prog 26 = .pointer (some ⟨25, 26, none⟩) := by kernel_rfl
  rw [hh] at e5
  have hc : W.cell? ⟨10, 0, none⟩ = some (.iface 165 (.agg #[.pointer (some ⟨25, 26, none⟩)])) := by simpa using World.var?_cell Tryd.et e5 0
  exact ⟨hc, World.block_lt_of_cell? _ _ hc, Nat.le_refl _⟩
end Go.Proofs.YtiejfbkbjahcgaaDoor
