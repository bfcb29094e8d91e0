/-
  TreePaths: for every input the law returns true and turns none of its arguments. Conditions: the listed package-level variables read as listed when the call begins (in the bare row); the card ties them to the program's own text.
-/
import Derived.Test.YtiejfbkbjahcgaaDoorArgs
import Derived.Test.YtiejfbkbjahcgaaDoorTPaths

import Derived.Test.YtiejfbkbjahcgaaDoorCards
import Derived.SevenTiedAt
import Derived.ChangeMaps5
namespace Go.Proofs.YtiejfbkbjahcgaaDoor
open Go Go.RowKit Go.ChangeShapes Go.WideShapes

/-- A world that meets the list: the handle's cell laid first, then the data. -/
noncomputable def treePathsBase (os : Os) : World :=
  let w0 := World.holding Tryd.prog os ⟨#[], #[], []⟩
  { w0 with heap := w0.heap.modify 10 fun
      | .cells _ t frozen => .cells #[.iface 165 (.agg #[typeHandle Tryd.prog 26])] t frozen
      | o => o }
def treePathsPlain : List (String × DataW Unit) := Rows.treePathsRow.laid.filter fun x => x.2.handleName?.isNone
noncomputable def treePathsWit (os : Os) : World := (treePathsBase os).layVars Tryd.prog treePathsPlain

set_option maxRecDepth 100000 in
theorem treePathsWit_met (os : Os) (args : Array Value) : laidMetH Tryd.prog Rows.treePathsRow.laid ((treePathsWit os).forCall (fun _ _ => 0) ⟨#[], args, []⟩).memory := by
  refine laidMetH_of_parts ?_ (by kernel_rfl)
  have e1 : (treePathsPlain.filter fun x => (treePathsPlain.map (·.1)).contains x.1) = treePathsPlain := List.filter_eq_self.2 fun x hx => List.contains_iff_mem.2 (List.mem_map.2 ⟨x, hx, rfl⟩)
  have e2 : (treePathsPlain.filter fun x => !(treePathsPlain.map (·.1)).contains x.1) = [] := List.filter_eq_nil_iff.2 fun x hx => by rw [List.contains_iff_mem.2 (List.mem_map.2 ⟨x, hx, rfl⟩)]; simp
  have h : laidMet Tryd.prog treePathsPlain (treePathsWit os) := laidMet_layVars (w0 := treePathsBase os) (treePathsPlain.map (·.1)) [] (by rw [e1]; rfl) (by rw [e1]; kernel_rfl) (by rw [e1]; kernel_rfl) (by rw [e2]; exact LaidIn.none)
  exact h.of_heap (by simp [World.memory, World.forCall, Input.heap])

set_option maxRecDepth 100000 in
theorem treePaths_lifted (os : Os) (started : os.Started) (H : Type) (enc : TypeId × Value → H) :
    ReturnsInHanded {} Tryd.checked os 6 .any (fun w args => (Rows.treePathsSpec.pre enc Tryd.prog Tryd.f6 [] false w args ∧ laidMetH Tryd.prog Rows.treePathsRow.laid w) ∧ sizedMet enc Tryd.prog Tryd.f6 (OpenSpec.ofChange Rows.treePathsSpec) false w args)
      (Rows.treePathsSpec.post enc Tryd.prog Tryd.f6 false true false false) := by
  refine handed (C := Tryd.checked) (X := fun w => laidMetH Tryd.prog Rows.treePathsRow.laid w) (fun _ _ hh h => h.of_heap hh) Tryd.own started (by kernel_rfl) Tryd.func6
    (ChangeSpec.witness_shaped (enc := enc) (C := Tryd.checked) (os := os) (X := fun w _ => laidMetH Tryd.prog Rows.treePathsRow.laid w) false (treePathsWit os) #[.string ByteArray.empty, .slice none 0 0] 8 (World.layVars_os _ _ _)
      (World.shaped_of_ZipB (by kernel_rfl) (by kernel_rfl)) (by kernel_rfl) (by kernel_rfl) (by kernel_rfl) (treePathsWit_met os _)) ?_
  intro W base args ds gs before hval0 hW hwt hL hsh
  have hval : ∀ (j : Nat) t v, Tryd.f6.params[j]? = some t → args[j]? = some v → Value.okWide Tryd.prog W .any base t v := hval0
  have hW' := hW
  obtain ⟨p, q, hA0, hV, rfl, _, _⟩ := hW
  have hA : DataW.TrodAll enc Tryd.prog W 0 (fun _ => true) true Tryd.f6.params.toList args.toList ds p := hA0
  rw [Tryd.params6] at hA hval
  obtain ⟨v0, v1, d0, d1, p0, p1, rfl, rfl, rfl, h0, h1⟩ := trodAll_two hA
  obtain ⟨rfl, rfl⟩ := trodVars_none hV
  obtain ⟨s0, rfl, e0, q0, z0⟩ := ChangeMaps.open_string Tryd.underlying9 (hval 0 9 v0 rfl rfl) h0
  obtain ⟨a1, c1, l1, rfl, s1, n1⟩ := arg_bytes (hval 1 33 v1 rfl rfl) h1
  clear hA0 hval0
  simp only [List.append_nil] at hW'
  have hlt : ∀ x ∈ p0 ++ p1, x.block < W.heap.size := fun x hx => by simpa using hW'.lt x hx
  obtain ⟨E, hE⟩ := ctx_of_laid hL (by rfl) hsh
  refine (treePaths_any W hE s0 (by unfold maxLen at z0; omega) a1 c1 l1 s1 n1).mono fun e W' ⟨he, hb⟩ => ?_
  subst he
  exact ⟨_, rfl, post_true hW' rfl rfl rfl rfl Tryd.underlying4 (trodAll_mk2 (Below.trod Tryd.laidOut (by kernel_rfl) (of_decide_eq_true (by kernel_rfl)) h0 hb (fun x hx => hlt x (by simp [hx]))) (Below.trod Tryd.laidOut (by kernel_rfl) (of_decide_eq_true (by kernel_rfl)) h1 hb (fun x hx => hlt x (by simp [hx])))) hb⟩

theorem treePaths_said : Rows.TreePathsSaid :=
  OpenClaim.holds_of_wide 6 Tryd.f6 rfl rfl rfl rfl rfl rfl rfl ⟨rfl, rfl, rfl, rfl, rfl⟩ rfl rfl rfl rfl rfl (by kernel_rfl) Tryd.func6 (by kernel_rfl)
    (of_decide_eq_true (by kernel_rfl)) (by unfold Func.isWrapper; first | (rw [if_pos (by decide +kernel)]; kernel_rfl) | (rw [if_neg (by decide +kernel)]; exact ⟨rfl, rfl⟩))
    (fun os started H enc _ => treePaths_lifted os started H enc)

theorem treePaths_holds : Rows.TreePathsCardSaid :=
  Claim7.holds_tied_plain_at .later [] Rows.treePathsCard.laidKinds true Rows.treePathsCard.stood.harness true treePaths_said (fun _ h => by cases h) (by kernel_rfl) (fun _ h => by cases h) treePaths_row_tie rfl ⟨rfl, rfl⟩ (by kernel_rfl) rfl
    (fun f fn hf hfn => by
      obtain rfl : f = 6 := Option.some.inj ((show Tryd.prog.funcNamed "pidgin/pidginlaw16.TreePaths" = some 6 by kernel_rfl).symm.trans hf) |>.symm
      obtain rfl : fn = Tryd.f6 := (Option.some.inj (Tryd.func6.symm.trans hfn)).symm
      exact ⟨by kernel_rfl, fun j t ht => by
        rw [Tryd.params6] at ht
        have hm : t ∈ [9, 33] := by simpa using Array.mem_of_getElem? ht
        have hall : ([9, 33].all fun u => !Tryd.prog.wantsStandIn u) = true := by kernel_rfl
        exact (show Tryd.prog.wantsStandIn t = false by simpa using List.all_eq_true.1 hall t hm)⟩)
    (by kernel_rfl)
#print axioms treePaths_holds
end Go.Proofs.YtiejfbkbjahcgaaDoor
