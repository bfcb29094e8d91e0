/-
 KernPlays: for every input the law returns true and turns none of its arguments. Conditions: the listed package-level variables read as listed when the call begins (in the bare row); the card ties them to the program's own text.
-/
import Derived.Test.YteeeaeiafdgpkaaGreatDoorEty
import Derived.Test.YteeeaeiafdgpkaaGreatDoorKPlays
import Derived.Test.YteeeaeiafdgpkaaGreatDoorReach
import Derived.Test.YteeeaeiafdgpkaaGreatDoorTab
import Derived.Test.YteeeaeiafdgpkaaGreatDoorCards
import Derived.SevenTiedAt
import Derived.ChangeMaps5
namespace Go.Proofs.YteeeaeiafdgpkaaGreatDoor
open Go Go.RowKit Go.ChangeShapes Go.WideShapes
noncomputable def zfp (os : Os) : World :=
 let w0 := World.holding Tryz.prog os ⟨#[], #[], []⟩
 { w0 with heap := w0.heap.modify 0 fun
   | .cells _ t frozen => .cells #[.iface 208 (.agg #[typeHandle Tryz.prog 75])] t frozen
   | o => o }
def zbo : List (String × DataW Unit) := Rows.kernPlaysRow.laid.filter fun x => x.2.handleName?.isNone
noncomputable def zei (os : Os) : World := (zfp os).layVars Tryz.prog zbo
set_option maxRecDepth 100000 in
theorem kernPlaysWit_met (os : Os) (args : Array Value) : laidMetH Tryz.prog Rows.kernPlaysRow.laid ((zei os).forCall (fun _ _ => 0) ⟨#[], args, []⟩).memory := by
 refine laidMetH_of_parts ?_ (by kernel_rfl)
 have e1 : (zbo.filter fun x => (zbo.map (·.1)).contains x.1) = zbo := List.filter_eq_self.2 fun x hx => List.contains_iff_mem.2 (List.mem_map.2 ⟨x, hx, rfl⟩)
 have e2 : (zbo.filter fun x => !(zbo.map (·.1)).contains x.1) = [] := List.filter_eq_nil_iff.2 fun x hx => by rw [List.contains_iff_mem.2 (List.mem_map.2 ⟨x, hx, rfl⟩)]; simp
 have h : laidMet Tryz.prog zbo (zei os) := laidMet_layVars (w0 := zfp os) (zbo.map (·.1)) [] (by rw [e1]; rfl) (by rw [e1]; kernel_rfl) (by rw [e1]; kernel_rfl) (by rw [e2]; exact LaidIn.none)
 exact h.of_heap (by simp [World.memory, World.forCall, Input.heap])
set_option maxRecDepth 100000 in
theorem kernPlays_lifted (os : Os) (started : os.Started) (H : Type) (enc : TypeId × Value → H) :
  ReturnsInHanded {} Tryz.checked os 4 .any (fun w args => (Rows.kernPlaysSpec.pre enc Tryz.prog Tryz.f4 [] false w args ∧ laidMetH Tryz.prog Rows.kernPlaysRow.laid w) ∧ sizedMet enc Tryz.prog Tryz.f4 (OpenSpec.ofChange Rows.kernPlaysSpec) false w args)
   (Rows.kernPlaysSpec.post enc Tryz.prog Tryz.f4 false true false false) := by
 refine handed (C := Tryz.checked) (X := fun w => laidMetH Tryz.prog Rows.kernPlaysRow.laid w) (fun _ _ hh h => h.of_heap hh) Tryz.own started (by kernel_rfl) Tryz.func4
  (ChangeSpec.witness_shaped (enc := enc) (C := Tryz.checked) (os := os) (X := fun w _ => laidMetH Tryz.prog Rows.kernPlaysRow.laid w) false (zei os) #[.slice none 0 0, .slice none 0 0] 8 (World.layVars_os _ _ _)
   (World.shaped_of_ZipB (by kernel_rfl) (by kernel_rfl)) (by kernel_rfl) (by kernel_rfl) (by kernel_rfl) (kernPlaysWit_met os _)) ?_
 intro W base args ds gs before hval0 hW hwt hL hsh
 have hval : ∀ (j : Nat) t v, Tryz.f4.params[j]? = some t → args[j]? = some v → Value.okWide Tryz.prog W .any base t v := hval0
 have hW' := hW
 obtain ⟨p, q, hA0, hV, rfl, _, _⟩ := hW
 have hA : DataW.TrodAll enc Tryz.prog W 0 (fun _ => true) true Tryz.f4.params.toList args.toList ds p := hA0
 rw [Tryz.params4] at hA hval
 obtain ⟨v0, v1, d0, d1, p0, p1, rfl, rfl, rfl, h0, h1⟩ := trodAll_two hA
 obtain ⟨rfl, rfl⟩ := trodVars_none hV
 obtain ⟨a0, c0, l0, rfl, s0, n0⟩ := arg_bytes (hval 0 28 v0 rfl rfl) h0
 have r0 := bytes_reach h0 hwt 0 rfl rfl
 obtain ⟨a1, c1, l1, rfl, s1, n1, o1⟩ := arg_calls (hval 1 37 v1 rfl rfl) h1 hwt 1 rfl rfl
 clear hA0 hval0
 simp only [List.append_nil] at hW'
 have hlt : ∀ x ∈ p0 ++ p1, x.block < W.heap.size := fun x hx => by simpa using hW'.lt x hx
 obtain ⟨E, hE⟩ := ctx_of_laid hL (by rfl) hsh
 refine (kernPlays_any W hE (ety_of_laid hL (by rfl)) (tab_of_laid hL (by rfl)) a0 c0 l0 s0 (by omega) a1 c1 l1 s1 n1 o1).mono fun e W' ⟨he, hb⟩ => ?_
 subst he
 exact ⟨_, rfl, post_true hW' rfl rfl rfl rfl Tryz.underlying4 (trodAll_mk2 (Below.trod Tryz.laidOut (by kernel_rfl) (of_decide_eq_true (by kernel_rfl)) h0 hb (fun x hx => hlt x (by simp [hx]))) (Below.trod Tryz.laidOut (by kernel_rfl) (of_decide_eq_true (by kernel_rfl)) h1 hb (fun x hx => hlt x (by simp [hx])))) hb⟩
theorem andT {a b : Bool} (h1 : a = true) (h2 : b = true) : (a && b) = true := by rw [h1, h2]; rfl
set_option maxHeartbeats 4000000 in
theorem kernPlays_closed : joinedFacts Tryz.pinned.checked.prog 4 Tryz.f4 Rows.kernPlaysSpec Rows.kernPlaysRow = true := by
 unfold joinedFacts
 refine (andT (andT (andT (andT (andT (andT (andT (andT (andT (andT (andT (andT (andT (andT (andT (andT (andT (andT (andT (andT (andT (andT (andT (andT (andT (andT (andT (andT (andT (andT (andT ?_ ?_) ?_) ?_) ?_) ?_) ?_) ?_) ?_) ?_) ?_) ?_) ?_) ?_) ?_) ?_) ?_) ?_) ?_) ?_) ?_) ?_) ?_) ?_) ?_) ?_) ?_) ?_) ?_) ?_) ?_) ?_)
 all_goals as_aux_lemma => kernel_rfl
theorem kernPlays_named : Tryz.pinned.checked.prog.funcNamed Rows.kernPlaysRow.func = some 4 := by kernel_rfl
theorem kernPlays_inst : Tryz.f4.isInstance Tryz.pinned.checked.prog Rows.kernPlaysRow.origin Rows.kernPlaysRow.targs := of_decide_eq_true (by kernel_rfl)
theorem kernPlays_wrap : Tryz.f4.isWrapper Tryz.pinned.checked.prog Rows.kernPlaysRow.wrapper Rows.kernPlaysRow.mainSum := by unfold Func.isWrapper; first | (rw [if_pos (by decide +kernel)]; kernel_rfl) | (rw [if_neg (by decide +kernel)]; exact ⟨rfl, rfl⟩)
theorem kernPlays_said : Rows.KernPlaysSaid :=
 OpenClaim.holds_of_wide 4 Tryz.f4 rfl rfl rfl rfl rfl rfl rfl ⟨rfl, rfl, rfl, rfl, rfl⟩ rfl rfl rfl rfl rfl kernPlays_named Tryz.func4 kernPlays_closed kernPlays_inst kernPlays_wrap
  (fun os started H enc _ => kernPlays_lifted os started H enc)
theorem kernPlays_holds : Rows.KernPlaysCardSaid :=
 Claim7.holds_tied_plain_at .later [] Rows.kernPlaysCard.laidKinds true Rows.kernPlaysCard.stood.harness true kernPlays_said (fun _ h => by cases h) (by kernel_rfl) (fun _ h => by cases h) kernPlays_row_tie rfl ⟨rfl, rfl⟩ (by kernel_rfl) rfl
  (fun f fn hf hfn => by
   obtain rfl : f = 4 := Option.some.inj ((show Tryz.prog.funcNamed "pidgin/pidginlaw17.KernPlays" = some 4 by kernel_rfl).symm.trans hf) |>.symm
   obtain rfl : fn = Tryz.f4 := (Option.some.inj (Tryz.func4.symm.trans hfn)).symm
   exact ⟨by kernel_rfl, fun j t ht => by
    rw [Tryz.params4] at ht
    have hm : t ∈ [28, 37] := by simpa using Array.mem_of_getElem? ht
    have hall : ([28, 37].all fun u => !Tryz.prog.wantsStandIn u) = true := by kernel_rfl
    exact (show Tryz.prog.wantsStandIn t = false by simpa using List.all_eq_true.1 hall t hm)⟩)
  (by kernel_rfl)
#print axioms kernPlays_holds
end Go.Proofs.YteeeaeiafdgpkaaGreatDoor
