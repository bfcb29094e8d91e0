/-
  TreeFull: for every input the law returns true and turns none of its arguments. Conditions: the listed package-level variables read as listed when the call begins (in the bare row); the card ties them to the program's own text.
-/
import Derived.Test.YtjhojohjegkinaaGreatDoorEty
import Derived.Test.YtjhojohjegkinaaGreatDoorTFull
import Derived.Test.YtjhojohjegkinaaGreatDoorTab
import Derived.Test.YtjhojohjegkinaaGreatDoorCards
import Derived.SevenTiedAt
import Derived.ChangeMaps5
namespace Go.Proofs.YtjhojohjegkinaaGreatDoor
open Go Go.RowKit Go.ChangeShapes Go.WideShapes

/-- A world that meets the list: the handle's cell laid first, then the data. -/
noncomputable def treeFullBase (os : Os) : World :=
  let w0 := World.holding Tryz.prog os ⟨#[], #[], []⟩
  { w0 with heap := w0.heap.modify 0 fun
      | .cells _ t frozen => .cells #[.iface 247 (.agg #[typeHandle Tryz.prog 32])] t frozen
      | o => o }
def treeFullPlain : List (String × DataW Unit) := Rows.treeFullRow.laid.filter fun x => x.2.handleName?.isNone
noncomputable def treeFullWit (os : Os) : World := (treeFullBase os).layVars Tryz.prog treeFullPlain

set_option maxRecDepth 100000 in
theorem treeFullWit_met (os : Os) (args : Array Value) : laidMetH Tryz.prog Rows.treeFullRow.laid ((treeFullWit os).forCall (fun _ _ => 0) ⟨#[], args, []⟩).memory := by
  refine laidMetH_of_parts ?_ (by kernel_rfl)
  have e1 : (treeFullPlain.filter fun x => (treeFullPlain.map (·.1)).contains x.1) = treeFullPlain := List.filter_eq_self.2 fun x hx => List.contains_iff_mem.2 (List.mem_map.2 ⟨x, hx, rfl⟩)
  have e2 : (treeFullPlain.filter fun x => !(treeFullPlain.map (·.1)).contains x.1) = [] := List.filter_eq_nil_iff.2 fun x hx => by rw [List.contains_iff_mem.2 (List.mem_map.2 ⟨x, hx, rfl⟩)]; simp
  have h : laidMet Tryz.prog treeFullPlain (treeFullWit os) := laidMet_layVars (w0 := treeFullBase os) (treeFullPlain.map (·.1)) [] (by rw [e1]; rfl) (by rw [e1]; kernel_rfl) (by rw [e1]; kernel_rfl) (by rw [e2]; exact LaidIn.none)
  exact h.of_heap (by simp [World.memory, World.forCall, Input.heap])

set_option maxRecDepth 100000 in
theorem treeFull_lifted (os : Os) (started : os.Started) (H : Type) (enc : TypeId × Value → H) :
    ReturnsInHanded {} Tryz.checked os 8 .any (fun w args => (Rows.treeFullSpec.pre enc Tryz.prog Tryz.f8 [] false w args ∧ laidMetH Tryz.prog Rows.treeFullRow.laid w) ∧ sizedMet enc Tryz.prog Tryz.f8 (OpenSpec.ofChange Rows.treeFullSpec) false w args)
      (Rows.treeFullSpec.post enc Tryz.prog Tryz.f8 false true false false) := by
  refine handed (C := Tryz.checked) (X := fun w => laidMetH Tryz.prog Rows.treeFullRow.laid w) (fun _ _ hh h => h.of_heap hh) Tryz.own started (by kernel_rfl) Tryz.func8
    (ChangeSpec.witness_shaped (enc := enc) (C := Tryz.checked) (os := os) (X := fun w _ => laidMetH Tryz.prog Rows.treeFullRow.laid w) false (treeFullWit os) #[.int .i64 0, .int .i64 0, .bool false] 8 (World.layVars_os _ _ _)
      (World.shaped_of_ZipB (by kernel_rfl) (by kernel_rfl)) (by kernel_rfl) (by kernel_rfl) (by kernel_rfl) (treeFullWit_met os _)) ?_
  intro W base args ds gs before hval0 hW hwt hL hsh
  have hval : ∀ (j : Nat) t v, Tryz.f8.params[j]? = some t → args[j]? = some v → Value.okWide Tryz.prog W .any base t v := hval0
  have hW' := hW
  obtain ⟨p, q, hA0, hV, rfl, _, _⟩ := hW
  have hA : DataW.TrodAll enc Tryz.prog W 0 (fun _ => true) true Tryz.f8.params.toList args.toList ds p := hA0
  rw [Tryz.params8] at hA hval
  obtain ⟨v0, v1, v2, d0, d1, d2, p0, p1, p2, rfl, rfl, rfl, h0, h1, h2⟩ := trodAll_three hA
  obtain ⟨rfl, rfl⟩ := trodVars_none hV
  obtain ⟨i0, rfl, e0, q0, z0⟩ := open_int Tryz.underlying3 (hval 0 3 v0 rfl rfl) h0
  obtain ⟨i1, rfl, e1, q1, z1⟩ := open_int Tryz.underlying3 (hval 1 3 v1 rfl rfl) h1
  obtain ⟨b2, rfl, e2, q2⟩ := open_bool Tryz.underlying4 (hval 2 4 v2 rfl rfl) h2
  clear hA0 hval0
  simp only [List.append_nil] at hW'
  have hlt : ∀ x ∈ p0 ++ p1 ++ p2, x.block < W.heap.size := fun x hx => by simpa using hW'.lt x hx
  obtain ⟨E, hE⟩ := ctx_of_laid hL (by rfl) hsh
  refine (treeFull_any W hE (ety_of_laid hL (by rfl)) (tab_of_laid hL (by rfl)) i0 (wf_bounds z0) i1 (wf_bounds z1) b2).mono fun e W' ⟨he, hb⟩ => ?_
  subst he
  exact ⟨_, rfl, post_true hW' rfl rfl rfl rfl Tryz.underlying4 (by simp only [List.append_assoc]; exact trodAll_mk3 (Below.trod Tryz.laidOut (by kernel_rfl) (of_decide_eq_true (by kernel_rfl)) h0 hb (fun x hx => hlt x (by simp [hx]))) (Below.trod Tryz.laidOut (by kernel_rfl) (of_decide_eq_true (by kernel_rfl)) h1 hb (fun x hx => hlt x (by simp [hx]))) (Below.trod Tryz.laidOut (by kernel_rfl) (of_decide_eq_true (by kernel_rfl)) h2 hb (fun x hx => hlt x (by simp [hx])))) hb⟩

theorem andT {a b : Bool} (h1 : a = true) (h2 : b = true) : (a && b) = true := by rw [h1, h2]; rfl
set_option maxHeartbeats 4000000 in
theorem treeFull_closed : joinedFacts Tryz.pinned.checked.prog 8 Tryz.f8 Rows.treeFullSpec Rows.treeFullRow = true := by
  unfold joinedFacts
  refine (andT (andT (andT (andT (andT (andT (andT (andT (andT (andT (andT (andT (andT (andT (andT (andT (andT (andT (andT (andT (andT (andT (andT (andT (andT (andT (andT (andT (andT (andT (andT ?_ ?_) ?_) ?_) ?_) ?_) ?_) ?_) ?_) ?_) ?_) ?_) ?_) ?_) ?_) ?_) ?_) ?_) ?_) ?_) ?_) ?_) ?_) ?_) ?_) ?_) ?_) ?_) ?_) ?_) ?_) ?_)
  all_goals as_aux_lemma => kernel_rfl

theorem treeFull_named : Tryz.pinned.checked.prog.funcNamed Rows.treeFullRow.func = some 8 := by kernel_rfl
theorem treeFull_inst : Tryz.f8.isInstance Tryz.pinned.checked.prog Rows.treeFullRow.origin Rows.treeFullRow.targs := of_decide_eq_true (by kernel_rfl)
theorem treeFull_wrap : Tryz.f8.isWrapper Tryz.pinned.checked.prog Rows.treeFullRow.wrapper Rows.treeFullRow.mainSum := by unfold Func.isWrapper; first | (rw [if_pos (by decide +kernel)]; kernel_rfl) | (rw [if_neg (by decide +kernel)]; exact ⟨rfl, rfl⟩)

theorem treeFull_said : Rows.TreeFullSaid :=
  OpenClaim.holds_of_wide 8 Tryz.f8 rfl rfl rfl rfl rfl rfl rfl ⟨rfl, rfl, rfl, rfl, rfl⟩ rfl rfl rfl rfl rfl treeFull_named Tryz.func8 treeFull_closed treeFull_inst treeFull_wrap
    (fun os started H enc _ => treeFull_lifted os started H enc)

theorem treeFull_holds : Rows.TreeFullCardSaid :=
  Claim7.holds_tied_plain_at .later [] Rows.treeFullCard.laidKinds true Rows.treeFullCard.stood.harness true treeFull_said (fun _ h => by cases h) (by kernel_rfl) (fun _ h => by cases h) treeFull_row_tie rfl ⟨rfl, rfl⟩ (by kernel_rfl) rfl
    (fun f fn hf hfn => by
      obtain rfl : f = 8 := Option.some.inj ((show Tryz.prog.funcNamed "pidgin/pidginlaw16.TreeFull" = some 8 by kernel_rfl).symm.trans hf) |>.symm
      obtain rfl : fn = Tryz.f8 := (Option.some.inj (Tryz.func8.symm.trans hfn)).symm
      exact ⟨by kernel_rfl, fun j t ht => by
        rw [Tryz.params8] at ht
        have hm : t ∈ [3, 3, 4] := by simpa using Array.mem_of_getElem? ht
        have hall : ([3, 3, 4].all fun u => !Tryz.prog.wantsStandIn u) = true := by kernel_rfl
        exact (show Tryz.prog.wantsStandIn t = false by simpa using List.all_eq_true.1 hall t hm)⟩)
    (by kernel_rfl)
#print axioms treeFull_holds
end Go.Proofs.YtjhojohjegkinaaGreatDoor
