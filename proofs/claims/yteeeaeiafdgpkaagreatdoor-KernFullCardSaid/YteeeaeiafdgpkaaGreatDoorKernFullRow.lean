/-
 KernFull: for every input the law returns true and turns none of its arguments. Conditions: the listed package-level variables read as listed when the call begins (in the bare row); the card ties them to the program's own text.
-/
import Derived.Test.YteeeaeiafdgpkaaGreatDoorEty
import Derived.Test.YteeeaeiafdgpkaaGreatDoorKFull
import Derived.Test.YteeeaeiafdgpkaaGreatDoorTab
import Derived.Test.YteeeaeiafdgpkaaGreatDoorCards
import Derived.SevenTiedAt
import Derived.ChangeMaps5
namespace Go.Proofs.YteeeaeiafdgpkaaGreatDoor
open Go Go.RowKit Go.ChangeShapes Go.WideShapes
noncomputable def kernFullBase (os : Os) : World :=
 let w0 := World.holding Tryz.prog os ⟨#[], #[], []⟩
 { w0 with heap := w0.heap.modify 0 fun
   | .cells _ t frozen => .cells #[.iface 208 (.agg #[typeHandle Tryz.prog 75])] t frozen
   | o => o }
def zbs : List (String × DataW Unit) := Rows.kernFullRow.laid.filter fun x => x.2.handleName?.isNone
noncomputable def zfb (os : Os) : World := (kernFullBase os).layVars Tryz.prog zbs
set_option maxRecDepth 100000 in
theorem kernFullWit_met (os : Os) (args : Array Value) : laidMetH Tryz.prog Rows.kernFullRow.laid ((zfb os).forCall (fun _ _ => 0) ⟨#[], args, []⟩).memory := by
 refine laidMetH_of_parts ?_ (by kernel_rfl)
 have e1 : (zbs.filter fun x => (zbs.map (·.1)).contains x.1) = zbs := List.filter_eq_self.2 fun x hx => List.contains_iff_mem.2 (List.mem_map.2 ⟨x, hx, rfl⟩)
 have e2 : (zbs.filter fun x => !(zbs.map (·.1)).contains x.1) = [] := List.filter_eq_nil_iff.2 fun x hx => by rw [List.contains_iff_mem.2 (List.mem_map.2 ⟨x, hx, rfl⟩)]; simp
 have h : laidMet Tryz.prog zbs (zfb os) := laidMet_layVars (w0 := kernFullBase os) (zbs.map (·.1)) [] (by rw [e1]; rfl) (by rw [e1]; kernel_rfl) (by rw [e1]; kernel_rfl) (by rw [e2]; exact LaidIn.none)
 exact h.of_heap (by simp [World.memory, World.forCall, Input.heap])
set_option maxRecDepth 100000 in
theorem kernFull_lifted (os : Os) (started : os.Started) (H : Type) (enc : TypeId × Value → H) :
  ReturnsInHanded {} Tryz.checked os 3 .any (fun w args => (Rows.kernFullSpec.pre enc Tryz.prog Tryz.f3 [] false w args ∧ laidMetH Tryz.prog Rows.kernFullRow.laid w) ∧ sizedMet enc Tryz.prog Tryz.f3 (OpenSpec.ofChange Rows.kernFullSpec) false w args)
   (Rows.kernFullSpec.post enc Tryz.prog Tryz.f3 false true false false) := by
 refine handed (C := Tryz.checked) (X := fun w => laidMetH Tryz.prog Rows.kernFullRow.laid w) (fun _ _ hh h => h.of_heap hh) Tryz.own started (by kernel_rfl) Tryz.func3
  (ChangeSpec.witness_shaped (enc := enc) (C := Tryz.checked) (os := os) (X := fun w _ => laidMetH Tryz.prog Rows.kernFullRow.laid w) false (zfb os) #[.int .i64 0, .int .i64 0, .int .i64 0, .int .u8 0] 8 (World.layVars_os _ _ _)
   (World.shaped_of_ZipB (by kernel_rfl) (by kernel_rfl)) (by kernel_rfl) (by kernel_rfl) (by kernel_rfl) (kernFullWit_met os _)) ?_
 intro W base args ds gs before hval0 hW hwt hL hsh
 have hval : ∀ (j : Nat) t v, Tryz.f3.params[j]? = some t → args[j]? = some v → Value.okWide Tryz.prog W .any base t v := hval0
 have hW' := hW
 obtain ⟨p, q, hA0, hV, rfl, _, _⟩ := hW
 have hA : DataW.TrodAll enc Tryz.prog W 0 (fun _ => true) true Tryz.f3.params.toList args.toList ds p := hA0
 rw [Tryz.params3] at hA hval
 obtain ⟨v0, v1, v2, v3, d0, d1, d2, d3, p0, p1, p2, p3, rfl, rfl, rfl, h0, h1, h2, h3⟩ := trodAll_four hA
 obtain ⟨rfl, rfl⟩ := trodVars_none hV
 obtain ⟨i0, rfl, e0, q0, z0⟩ := open_int Tryz.underlying3 (hval 0 3 v0 rfl rfl) h0
 obtain ⟨i1, rfl, e1, q1, z1⟩ := open_int Tryz.underlying3 (hval 1 3 v1 rfl rfl) h1
 obtain ⟨i2, rfl, e2, q2, z2⟩ := open_int Tryz.underlying3 (hval 2 3 v2 rfl rfl) h2
 obtain ⟨i3, rfl, e3, q3, z3⟩ := open_int Tryz.underlying5 (hval 3 5 v3 rfl rfl) h3
 obtain ⟨x3, hx3⟩ : ∃ x : UInt8, ((x.toNat : Nat) : Int) = i3 := ⟨_, byte_wf z3⟩
 subst hx3
 clear hA0 hval0
 simp only [List.append_nil] at hW'
 have hlt : ∀ x ∈ p0 ++ p1 ++ p2 ++ p3, x.block < W.heap.size := fun x hx => by simpa using hW'.lt x hx
 obtain ⟨E, hE⟩ := ctx_of_laid hL (by rfl) hsh
 refine (kernFull_any W hE (ety_of_laid hL (by rfl)) (tab_of_laid hL (by rfl)) i0 (zdu z0) i1 (zdu z1) i2 (zdu z2) x3).mono fun e W' ⟨he, hb⟩ => ?_
 subst he
 exact ⟨_, rfl, post_true hW' rfl rfl rfl rfl Tryz.underlying4 (by simp only [List.append_assoc]; exact trodAll_mk4 (Below.trod Tryz.laidOut (by kernel_rfl) (of_decide_eq_true (by kernel_rfl)) h0 hb (fun x hx => hlt x (by simp [hx]))) (Below.trod Tryz.laidOut (by kernel_rfl) (of_decide_eq_true (by kernel_rfl)) h1 hb (fun x hx => hlt x (by simp [hx]))) (Below.trod Tryz.laidOut (by kernel_rfl) (of_decide_eq_true (by kernel_rfl)) h2 hb (fun x hx => hlt x (by simp [hx]))) (Below.trod Tryz.laidOut (by kernel_rfl) (of_decide_eq_true (by kernel_rfl)) h3 hb (fun x hx => hlt x (by simp [hx])))) hb⟩
theorem andT {a b : Bool} (h1 : a = true) (h2 : b = true) : (a && b) = true := by rw [h1, h2]; rfl
set_option maxHeartbeats 4000000 in
theorem kernFull_closed : joinedFacts Tryz.pinned.checked.prog 3 Tryz.f3 Rows.kernFullSpec Rows.kernFullRow = true := by
 unfold joinedFacts
 refine (andT (andT (andT (andT (andT (andT (andT (andT (andT (andT (andT (andT (andT (andT (andT (andT (andT (andT (andT (andT (andT (andT (andT (andT (andT (andT (andT (andT (andT (andT (andT ?_ ?_) ?_) ?_) ?_) ?_) ?_) ?_) ?_) ?_) ?_) ?_) ?_) ?_) ?_) ?_) ?_) ?_) ?_) ?_) ?_) ?_) ?_) ?_) ?_) ?_) ?_) ?_) ?_) ?_) ?_) ?_)
 all_goals as_aux_lemma => kernel_rfl
theorem kernFull_named : Tryz.pinned.checked.prog.funcNamed Rows.kernFullRow.func = some 3 := by kernel_rfl
theorem kernFull_inst : Tryz.f3.isInstance Tryz.pinned.checked.prog Rows.kernFullRow.origin Rows.kernFullRow.targs := of_decide_eq_true (by kernel_rfl)
theorem kernFull_wrap : Tryz.f3.isWrapper Tryz.pinned.checked.prog Rows.kernFullRow.wrapper Rows.kernFullRow.mainSum := by unfold Func.isWrapper; first | (rw [if_pos (by decide +kernel)]; kernel_rfl) | (rw [if_neg (by decide +kernel)]; exact ⟨rfl, rfl⟩)
theorem kernFull_said : Rows.KernFullSaid :=
 OpenClaim.holds_of_wide 3 Tryz.f3 rfl rfl rfl rfl rfl rfl rfl ⟨rfl, rfl, rfl, rfl, rfl⟩ rfl rfl rfl rfl rfl kernFull_named Tryz.func3 kernFull_closed kernFull_inst kernFull_wrap
  (fun os started H enc _ => kernFull_lifted os started H enc)
theorem kernFull_holds : Rows.KernFullCardSaid :=
 Claim7.holds_tied_plain_at .later [] Rows.kernFullCard.laidKinds true Rows.kernFullCard.stood.harness true kernFull_said (fun _ h => by cases h) (by kernel_rfl) (fun _ h => by cases h) kernFull_row_tie rfl ⟨rfl, rfl⟩ (by kernel_rfl) rfl
  (fun f fn hf hfn => by
   obtain rfl : f = 3 := Option.some.inj ((show Tryz.prog.funcNamed "pidgin/pidginlaw17.KernFull" = some 3 by kernel_rfl).symm.trans hf) |>.symm
   obtain rfl : fn = Tryz.f3 := (Option.some.inj (Tryz.func3.symm.trans hfn)).symm
   exact ⟨by kernel_rfl, fun j t ht => by
    rw [Tryz.params3] at ht
    have hm : t ∈ [3, 3, 3, 5] := by simpa using Array.mem_of_getElem? ht
    have hall : ([3, 3, 3, 5].all fun u => !Tryz.prog.wantsStandIn u) = true := by kernel_rfl
    exact (show Tryz.prog.wantsStandIn t = false by simpa using List.all_eq_true.1 hall t hm)⟩)
  (by kernel_rfl)
#print axioms kernFull_holds
end Go.Proofs.YteeeaeiafdgpkaaGreatDoor
