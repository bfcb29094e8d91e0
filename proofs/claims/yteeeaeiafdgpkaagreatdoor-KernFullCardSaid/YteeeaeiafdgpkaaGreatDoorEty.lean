/-
 The handle that errors.As reads, out of a row's list.
-/
import Derived.Test.YteeeaeiafdgpkaaGreatDoorArgsZ
import Derived.Test.YteeeaeiafdgpkaaGreatDoorAs
namespace Go.Proofs.YteeeaeiafdgpkaaGreatDoor
open Go Go.RowKit Go.ChangeShapes Go.WideShapes
theorem Tryz.et : Tryz.prog.globalNamed "errors.errorType" = some 0 := by kernel_rfl
theorem Tryz.rt : (Tryz.prog.cutTypes.find? (·.1 == "internal/reflectlite.rtype")).map (·.2) = some 208 := by kernel_rfl
theorem Tryz.tsize : Tryz.prog.types.size = 296 := by kernel_rfl
theorem Tryz.oneRow : ((List.range 296).filter fun t => Tryz.prog.rowNamed t [101, 114, 114, 111, 114]) = [75] := by kernel_rfl
def etyLaid : String × DataW Unit := ("errors.errorType", .iface "internal/reflectlite.rtype" (.agg [.ptr (.lit (.string [101, 114, 114, 111, 114]))]))
theorem ety_of_laid {W : World} {l : List (String × DataW Unit)} (h : laidMetH Tryz.prog l W) (hl : (l.filter fun x => x.2.handleName?.isSome) = [etyLaid]) : Ety W.heap.size W := by
 unfold laidMetH at h
 rw [hl] at h
 have h' : laidMet Tryz.prog (l.filter fun x => x.2.handleName?.isNone) W ∧ handlesMet Tryz.prog [etyLaid] W := h
 obtain ⟨name, u, ty, e1, e2, e3, e4, e5⟩ := h'.2 _ (List.mem_singleton.2 rfl)
 have en : name = [101, 114, 114, 111, 114] := (Option.some.inj e1).symm
 subst en
 obtain rfl := Option.some.inj (Tryz.rt.symm.trans e2)
 have hm : ty ∈ (List.range 296).filter fun t => Tryz.prog.rowNamed t [101, 114, 114, 111, 114] := List.mem_filter.2 ⟨List.mem_range.2 (by rw [← Tryz.tsize]; exact e3), e4⟩
 rw [Tryz.oneRow] at hm
 obtain rfl := List.mem_singleton.1 hm
 have hh : typeHandle Tryz.prog 75 = .pointer (some ⟨28, 75, none⟩) := by kernel_rfl
 rw [hh] at e5
 have hc : W.cell? ⟨0, 0, none⟩ = some (.iface 208 (.agg #[.pointer (some ⟨28, 75, none⟩)])) := by simpa using World.var?_cell Tryz.et e5 0
 exact ⟨hc, World.block_lt_of_cell? _ _ hc, Nat.le_refl _⟩
end Go.Proofs.YteeeaeiafdgpkaaGreatDoor
