/-
  TreePlays: for every input the law returns true and turns none of its arguments. Conditions: the listed package-level variables read as listed when the call begins (in the bare row); the card ties them to the program's own text.
-/
import Derived.Test.YtjhojohjegkinaaGreatDoorEty
import Derived.Test.YtjhojohjegkinaaGreatDoorTPlays
import Derived.Test.YtjhojohjegkinaaGreatDoorArgO
import Derived.Test.YtjhojohjegkinaaGreatDoorTab
import Derived.Test.YtjhojohjegkinaaGreatDoorCards
import Derived.SevenTiedAt
import Derived.ChangeMaps5
namespace Go.Proofs.YtjhojohjegkinaaGreatDoor
open Go Go.RowKit Go.ChangeShapes Go.WideShapes

/-- A world that meets the list: the handle's cell laid first, then the data. -/
noncomputable def treePlaysBase (os : Os) : World :=
  let w0 := World.holding Tryz.prog os ⟨#[], #[], []⟩
  { w0 with heap := w0.heap.modify 0 fun
      | .cells _ t frozen => .cells #[.iface 247 (.agg #[typeHandle Tryz.prog 32])] t frozen
      | o => o }
def treePlaysPlain : List (String × DataW Unit) := Rows.treePlaysRow.laid.filter fun x => x.2.handleName?.isNone
noncomputable def treePlaysWit (os : Os) : World := (treePlaysBase os).layVars Tryz.prog treePlaysPlain

set_option maxRecDepth 100000 in
theorem treePlaysWit_met (os : Os) (args : Array Value) : laidMetH Tryz.prog Rows.treePlaysRow.laid ((treePlaysWit os).forCall (fun _ _ => 0) ⟨#[], args, []⟩).memory := by
  refine laidMetH_of_parts ?_ (by kernel_rfl)
  have e1 : (treePlaysPlain.filter fun x => (treePlaysPlain.map (·.1)).contains x.1) = treePlaysPlain := List.filter_eq_self.2 fun x hx => List.contains_iff_mem.2 (List.mem_map.2 ⟨x, hx, rfl⟩)
  have e2 : (treePlaysPlain.filter fun x => !(treePlaysPlain.map (·.1)).contains x.1) = [] := List.filter_eq_nil_iff.2 fun x hx => by rw [List.contains_iff_mem.2 (List.mem_map.2 ⟨x, hx, rfl⟩)]; simp
  have h : laidMet Tryz.prog treePlaysPlain (treePlaysWit os) := laidMet_layVars (w0 := treePlaysBase os) (treePlaysPlain.map (·.1)) [] (by rw [e1]; rfl) (by rw [e1]; kernel_rfl) (by rw [e1]; kernel_rfl) (by rw [e2]; exact LaidIn.none)
  exact h.of_heap (by simp [World.memory, World.forCall, Input.heap])

set_option maxRecDepth 100000 in
theorem treePlays_lifted (os : Os) (started : os.Started) (H : Type) (enc : TypeId × Value → H) :
    ReturnsInHanded {} Tryz.checked os 9 .any (fun w args => (Rows.treePlaysSpec.pre enc Tryz.prog Tryz.f9 [] false w args ∧ laidMetH Tryz.prog Rows.treePlaysRow.laid w) ∧ sizedMet enc Tryz.prog Tryz.f9 (OpenSpec.ofChange Rows.treePlaysSpec) false w args)
      (Rows.treePlaysSpec.post enc Tryz.prog Tryz.f9 false true false false) := by
  refine handed (C := Tryz.checked) (X := fun w => laidMetH Tryz.prog Rows.treePlaysRow.laid w) (fun _ _ hh h => h.of_heap hh) Tryz.own started (by kernel_rfl) Tryz.func9
    (ChangeSpec.witness_shaped (enc := enc) (C := Tryz.checked) (os := os) (X := fun w _ => laidMetH Tryz.prog Rows.treePlaysRow.laid w) false (treePlaysWit os) #[.slice none 0 0] 8 (World.layVars_os _ _ _)
      (World.shaped_of_ZipB (by kernel_rfl) (by kernel_rfl)) (by kernel_rfl) (by kernel_rfl) (by kernel_rfl) (treePlaysWit_met os _)) ?_
  intro W base args ds gs before hval0 hW hwt hL hsh
  have hval : ∀ (j : Nat) t v, Tryz.f9.params[j]? = some t → args[j]? = some v → Value.okWide Tryz.prog W .any base t v := hval0
  have hW' := hW
  obtain ⟨p, q, hA0, hV, rfl, _, _⟩ := hW
  have hA : DataW.TrodAll enc Tryz.prog W 0 (fun _ => true) true Tryz.f9.params.toList args.toList ds p := hA0
  rw [Tryz.params9] at hA hval
  obtain ⟨v0, d0, rfl, rfl, h0⟩ := trodAll_one hA
  obtain ⟨rfl, rfl⟩ := trodVars_none hV
  obtain ⟨a0, c0, l0, rfl, s0, n0, o0⟩ := arg_ops (hval 0 22 v0 rfl rfl) h0 hwt 0 rfl rfl
  clear hA0 hval0
  simp only [List.append_nil] at hW'
  have hlt : ∀ x ∈ p, x.block < W.heap.size := fun x hx => by simpa using hW'.lt x hx
  obtain ⟨E, hE⟩ := ctx_of_laid hL (by rfl) hsh
  refine (treePlays_any W hE (ety_of_laid hL (by rfl)) (tab_of_laid hL (by rfl)) a0 c0 l0 s0 n0 o0).mono fun e W' ⟨he, hb⟩ => ?_
  subst he
  exact ⟨_, rfl, post_true hW' rfl rfl rfl rfl Tryz.underlying4 (trodAll_mk1 (Below.trod Tryz.laidOut (by kernel_rfl) (of_decide_eq_true (by kernel_rfl)) h0 hb (fun x hx => hlt x (by exact hx)))) hb⟩

theorem andT {a b : Bool} (h1 : a = true) (h2 : b = true) : (a && b) = true := by rw [h1, h2]; rfl
set_option maxHeartbeats 4000000 in
theorem treePlays_closed : joinedFacts Tryz.pinned.checked.prog 9 Tryz.f9 Rows.treePlaysSpec Rows.treePlaysRow = true := by
  unfold joinedFacts
  refine (andT (andT (andT (andT (andT (andT (andT (andT (andT (andT (andT (andT (andT (andT (andT (andT (andT (andT (andT (andT (andT (andT (andT (andT (andT (andT (andT (andT (andT (andT (andT ?_ ?_) ?_) ?_) ?_) ?_) ?_) ?_) ?_) ?_) ?_) ?_) ?_) ?_) ?_) ?_) ?_) ?_) ?_) ?_) ?_) ?_) ?_) ?_) ?_) ?_) ?_) ?_) ?_) ?_) ?_) ?_)
  all_goals as_aux_lemma => kernel_rfl

theorem treePlays_named : Tryz.pinned.checked.prog.funcNamed Rows.treePlaysRow.func = some 9 := by kernel_rfl
theorem treePlays_inst : Tryz.f9.isInstance Tryz.pinned.checked.prog Rows.treePlaysRow.origin Rows.treePlaysRow.targs := of_decide_eq_true (by kernel_rfl)
theorem treePlays_wrap : Tryz.f9.isWrapper Tryz.pinned.checked.prog Rows.treePlaysRow.wrapper Rows.treePlaysRow.mainSum := by unfold Func.isWrapper; first | (rw [if_pos (by decide +kernel)]; kernel_rfl) | (rw [if_neg (by decide +kernel)]; exact ⟨rfl, rfl⟩)

theorem treePlays_said : Rows.TreePlaysSaid :=
  OpenClaim.holds_of_wide 9 Tryz.f9 rfl rfl rfl rfl rfl rfl rfl ⟨rfl, rfl, rfl, rfl, rfl⟩ rfl rfl rfl rfl rfl treePlays_named Tryz.func9 treePlays_closed treePlays_inst treePlays_wrap
    (fun os started H enc _ => treePlays_lifted os started H enc)

theorem treePlays_holds : Rows.TreePlaysCardSaid :=
  Claim7.holds_tied_plain_at .later [] Rows.treePlaysCard.laidKinds true Rows.treePlaysCard.stood.harness true treePlays_said (fun _ h => by cases h) (by kernel_rfl) (fun _ h => by cases h) treePlays_row_tie rfl ⟨rfl, rfl⟩ (by kernel_rfl) rfl
    (fun f fn hf hfn => by
      obtain rfl : f = 9 := Option.some.inj ((show Tryz.prog.funcNamed "pidgin/pidginlaw16.TreePlays" = some 9 by kernel_rfl).symm.trans hf) |>.symm
      obtain rfl : fn = Tryz.f9 := (Option.some.inj (Tryz.func9.symm.trans hfn)).symm
      exact ⟨by kernel_rfl, fun j t ht => by
        rw [Tryz.params9] at ht
        have hm : t ∈ [22] := by simpa using Array.mem_of_getElem? ht
        have hall : ([22].all fun u => !Tryz.prog.wantsStandIn u) = true := by kernel_rfl
        exact (show Tryz.prog.wantsStandIn t = false by simpa using List.all_eq_true.1 hall t hm)⟩)
    (by kernel_rfl)
#print axioms treePlays_holds
end Go.Proofs.YtjhojohjegkinaaGreatDoor
