/-
  KernPipes: for every input the law returns true and turns none of its arguments. Conditions: the listed package-level variables read as listed when the call begins (in the bare row); the card ties them to the program's own text.
-/
import Derived.Test.YtiejfbkbjahcgaaDoorArgs
import Derived.Test.YtiejfbkbjahcgaaDoorKPipesL

import Derived.Test.YtiejfbkbjahcgaaDoorCards
import Derived.SevenTiedAt
import Derived.ChangeMaps5
namespace Go.Proofs.YtiejfbkbjahcgaaDoor
open Go Go.RowKit Go.ChangeShapes Go.WideShapes

/-- A world that meets the list: the handle's cell laid first, then the data. -/
noncomputable def kernPipesBase (os : Os) : World :=
  let w0 := World.holding Tryd.prog os ⟨#[], #[], []⟩
  { w0 with heap := w0.heap.modify 10 fun
      | .cells _ t frozen => .cells #[.iface 165 (.agg #[typeHandle Tryd.prog 26])] t frozen
      | o => o }
def kernPipesPlain : List (String × DataW Unit) := Rows.kernPipesRow.laid.filter fun x => x.2.handleName?.isNone
noncomputable def kernPipesWit (os : Os) : World := (kernPipesBase os).layVars Tryd.prog kernPipesPlain

set_option maxRecDepth 100000 in
theorem kernPipesWit_met (os : Os) (args : Array Value) : laidMetH Tryd.prog Rows.kernPipesRow.laid ((kernPipesWit os).forCall (fun _ _ => 0) ⟨#[], args, []⟩).memory := by
  refine laidMetH_of_parts ?_ (by kernel_rfl)
  have e1 : (kernPipesPlain.filter fun x => (kernPipesPlain.map (·.1)).contains x.1) = kernPipesPlain := List.filter_eq_self.2 fun x hx => List.contains_iff_mem.2 (List.mem_map.2 ⟨x, hx, rfl⟩)
  have e2 : (kernPipesPlain.filter fun x => !(kernPipesPlain.map (·.1)).contains x.1) = [] := List.filter_eq_nil_iff.2 fun x hx => by rw [List.contains_iff_mem.2 (List.mem_map.2 ⟨x, hx, rfl⟩)]; simp
  have h : laidMet Tryd.prog kernPipesPlain (kernPipesWit os) := laidMet_layVars (w0 := kernPipesBase os) (kernPipesPlain.map (·.1)) [] (by rw [e1]; rfl) (by rw [e1]; kernel_rfl) (by rw [e1]; kernel_rfl) (by rw [e2]; exact LaidIn.none)
  exact h.of_heap (by simp [World.memory, World.forCall, Input.heap])

set_option maxRecDepth 100000 in
theorem kernPipes_lifted (os : Os) (started : os.Started) (H : Type) (enc : TypeId × Value → H) :
    ReturnsInHanded {} Tryd.checked os 10 .any (fun w args => (Rows.kernPipesSpec.pre enc Tryd.prog Tryd.f10 [] false w args ∧ laidMetH Tryd.prog Rows.kernPipesRow.laid w) ∧ sizedMet enc Tryd.prog Tryd.f10 (OpenSpec.ofChange Rows.kernPipesSpec) false w args)
      (Rows.kernPipesSpec.post enc Tryd.prog Tryd.f10 false true false false) := by
  refine handed (C := Tryd.checked) (X := fun w => laidMetH Tryd.prog Rows.kernPipesRow.laid w) (fun _ _ hh h => h.of_heap hh) Tryd.own started (by kernel_rfl) Tryd.func10
    (ChangeSpec.witness_shaped (enc := enc) (C := Tryd.checked) (os := os) (X := fun w _ => laidMetH Tryd.prog Rows.kernPipesRow.laid w) false (kernPipesWit os) #[.slice none 0 0, .slice none 0 0] 8 (World.layVars_os _ _ _)
      (World.shaped_of_ZipB (by kernel_rfl) (by kernel_rfl)) (by kernel_rfl) (by kernel_rfl) (by kernel_rfl) (kernPipesWit_met os _)) ?_
  intro W base args ds gs before hval0 hW hwt hL hsh
  have hval : ∀ (j : Nat) t v, Tryd.f10.params[j]? = some t → args[j]? = some v → Value.okWide Tryd.prog W .any base t v := hval0
  have hW' := hW
  obtain ⟨p, q, hA0, hV, rfl, _, _⟩ := hW
  have hA : DataW.TrodAll enc Tryd.prog W 0 (fun _ => true) true Tryd.f10.params.toList args.toList ds p := hA0
  rw [Tryd.params10] at hA hval
  obtain ⟨v0, v1, d0, d1, p0, p1, rfl, rfl, rfl, h0, h1⟩ := trodAll_two hA
  obtain ⟨rfl, rfl⟩ := trodVars_none hV
  obtain ⟨a0, c0, l0, rfl, s0, n0⟩ := arg_rows (hval 0 50 v0 rfl rfl) h0
  obtain ⟨a1, c1, l1, rfl, s1, n1, z1⟩ := arg_ints (hval 1 22 v1 rfl rfl) h1
  clear hA0 hval0
  simp only [List.append_nil] at hW'
  have hlt : ∀ x ∈ p0 ++ p1, x.block < W.heap.size := fun x hx => by simpa using hW'.lt x hx
  obtain ⟨E, hE⟩ := ctx_of_laid hL (by rfl) hsh
  refine (kernPipes_any W hE a0 c0 l0 s0 n0 a1 c1 l1 s1 n1 z1).mono fun e W' ⟨he, hb⟩ => ?_
  subst he
  exact ⟨_, rfl, post_true hW' rfl rfl rfl rfl Tryd.underlying4 (trodAll_mk2 (Below.trod Tryd.laidOut (by kernel_rfl) (of_decide_eq_true (by kernel_rfl)) h0 hb (fun x hx => hlt x (by simp [hx]))) (Below.trod Tryd.laidOut (by kernel_rfl) (of_decide_eq_true (by kernel_rfl)) h1 hb (fun x hx => hlt x (by simp [hx])))) hb⟩

theorem kernPipes_said : Rows.KernPipesSaid :=
  OpenClaim.holds_of_wide 10 Tryd.f10 rfl rfl rfl rfl rfl rfl rfl ⟨rfl, rfl, rfl, rfl, rfl⟩ rfl rfl rfl rfl rfl (by kernel_rfl) Tryd.func10 (by kernel_rfl)
    (of_decide_eq_true (by kernel_rfl)) (by unfold Func.isWrapper; first | (rw [if_pos (by decide +kernel)]; kernel_rfl) | (rw [if_neg (by decide +kernel)]; exact ⟨rfl, rfl⟩))
    (fun os started H enc _ => kernPipes_lifted os started H enc)

theorem kernPipes_holds : Rows.KernPipesCardSaid :=
  Claim7.holds_tied_plain_at .later [] Rows.kernPipesCard.laidKinds true Rows.kernPipesCard.stood.harness true kernPipes_said (fun _ h => by cases h) (by kernel_rfl) (fun _ h => by cases h) kernPipes_row_tie rfl ⟨rfl, rfl⟩ (by kernel_rfl) rfl
    (fun f fn hf hfn => by
      obtain rfl : f = 10 := Option.some.inj ((show Tryd.prog.funcNamed "pidgin/pidginlaw17.KernPipes" = some 10 by kernel_rfl).symm.trans hf) |>.symm
      obtain rfl : fn = Tryd.f10 := (Option.some.inj (Tryd.func10.symm.trans hfn)).symm
      exact ⟨by kernel_rfl, fun j t ht => by
        rw [Tryd.params10] at ht
        have hm : t ∈ [50, 22] := by simpa using Array.mem_of_getElem? ht
        have hall : ([50, 22].all fun u => !Tryd.prog.wantsStandIn u) = true := by kernel_rfl
        exact (show Tryd.prog.wantsStandIn t = false by simpa using List.all_eq_true.1 hall t hm)⟩)
    (by kernel_rfl)
#print axioms kernPipes_holds
end Go.Proofs.YtiejfbkbjahcgaaDoor
