/-
  TreeNames: for every input the law returns true and turns none of its arguments. Conditions: the listed package-level variables read as listed when the call begins (in the bare row); the card ties them to the program's own text.
-/
import Derived.Test.YtjhojohjegkinaaGreatDoorArgsZ
import Derived.Test.YtjhojohjegkinaaGreatDoorTNames
import Derived.Test.YtjhojohjegkinaaGreatDoorArgO
import Derived.Test.YtjhojohjegkinaaGreatDoorCards
import Derived.SevenTiedAt
import Derived.ChangeMaps5
namespace Go.Proofs.YtjhojohjegkinaaGreatDoor
open Go Go.RowKit Go.ChangeShapes Go.WideShapes

/-- A world that meets the list: the handle's cell laid first, then the data. -/
noncomputable def treeNamesBase (os : Os) : World :=
  let w0 := World.holding Tryz.prog os ⟨#[], #[], []⟩
  { w0 with heap := w0.heap.modify 0 fun
      | .cells _ t frozen => .cells #[.iface 247 (.agg #[typeHandle Tryz.prog 32])] t frozen
      | o => o }
def treeNamesPlain : List (String × DataW Unit) := Rows.treeNamesRow.laid.filter fun x => x.2.handleName?.isNone
noncomputable def treeNamesWit (os : Os) : World := (treeNamesBase os).layVars Tryz.prog treeNamesPlain

set_option maxRecDepth 100000 in
theorem treeNamesWit_met (os : Os) (args : Array Value) : laidMetH Tryz.prog Rows.treeNamesRow.laid ((treeNamesWit os).forCall (fun _ _ => 0) ⟨#[], args, []⟩).memory := by
  refine laidMetH_of_parts ?_ (by kernel_rfl)
  have e1 : (treeNamesPlain.filter fun x => (treeNamesPlain.map (·.1)).contains x.1) = treeNamesPlain := List.filter_eq_self.2 fun x hx => List.contains_iff_mem.2 (List.mem_map.2 ⟨x, hx, rfl⟩)
  have e2 : (treeNamesPlain.filter fun x => !(treeNamesPlain.map (·.1)).contains x.1) = [] := List.filter_eq_nil_iff.2 fun x hx => by rw [List.contains_iff_mem.2 (List.mem_map.2 ⟨x, hx, rfl⟩)]; simp
  have h : laidMet Tryz.prog treeNamesPlain (treeNamesWit os) := laidMet_layVars (w0 := treeNamesBase os) (treeNamesPlain.map (·.1)) [] (by rw [e1]; rfl) (by rw [e1]; kernel_rfl) (by rw [e1]; kernel_rfl) (by rw [e2]; exact LaidIn.none)
  exact h.of_heap (by simp [World.memory, World.forCall, Input.heap])

set_option maxRecDepth 100000 in
theorem treeNames_lifted (os : Os) (started : os.Started) (H : Type) (enc : TypeId × Value → H) :
    ReturnsInHanded {} Tryz.checked os 4 .any (fun w args => (Rows.treeNamesSpec.pre enc Tryz.prog Tryz.f4 [] false w args ∧ laidMetH Tryz.prog Rows.treeNamesRow.laid w) ∧ sizedMet enc Tryz.prog Tryz.f4 (OpenSpec.ofChange Rows.treeNamesSpec) false w args)
      (Rows.treeNamesSpec.post enc Tryz.prog Tryz.f4 false true false false) := by
  refine handed (C := Tryz.checked) (X := fun w => laidMetH Tryz.prog Rows.treeNamesRow.laid w) (fun _ _ hh h => h.of_heap hh) Tryz.own started (by kernel_rfl) Tryz.func4
    (ChangeSpec.witness_shaped (enc := enc) (C := Tryz.checked) (os := os) (X := fun w _ => laidMetH Tryz.prog Rows.treeNamesRow.laid w) false (treeNamesWit os) #[.slice none 0 0, .string ByteArray.empty, .string ByteArray.empty] 8 (World.layVars_os _ _ _)
      (World.shaped_of_ZipB (by kernel_rfl) (by kernel_rfl)) (by kernel_rfl) (by kernel_rfl) (by kernel_rfl) (treeNamesWit_met os _)) ?_
  intro W base args ds gs before hval0 hW hwt hL hsh
  have hval : ∀ (j : Nat) t v, Tryz.f4.params[j]? = some t → args[j]? = some v → Value.okWide Tryz.prog W .any base t v := hval0
  have hW' := hW
  obtain ⟨p, q, hA0, hV, rfl, _, _⟩ := hW
  have hA : DataW.TrodAll enc Tryz.prog W 0 (fun _ => true) true Tryz.f4.params.toList args.toList ds p := hA0
  rw [Tryz.params4] at hA hval
  obtain ⟨v0, v1, v2, d0, d1, d2, p0, p1, p2, rfl, rfl, rfl, h0, h1, h2⟩ := trodAll_three hA
  obtain ⟨rfl, rfl⟩ := trodVars_none hV
  obtain ⟨a0, c0, l0, rfl, s0, n0, o0⟩ := arg_ops (hval 0 22 v0 rfl rfl) h0 hwt 0 rfl rfl
  obtain ⟨s1, rfl, e1, q1, z1⟩ := ChangeMaps.open_string Tryz.underlying9 (hval 1 9 v1 rfl rfl) h1
  have r1 : s1.size ≤ 140737488351232 := by
    have h := sized_string hwt (j := 1) (bytes := s1.data.toList) rfl (congrArg some e1)
    unfold reachBytes at h
    rw [Array.length_toList] at h
    exact h
  obtain ⟨s2, rfl, e2, q2, z2⟩ := ChangeMaps.open_string Tryz.underlying9 (hval 2 9 v2 rfl rfl) h2
  have r2 : s2.size ≤ 140737488351232 := by
    have h := sized_string hwt (j := 2) (bytes := s2.data.toList) rfl (congrArg some e2)
    unfold reachBytes at h
    rw [Array.length_toList] at h
    exact h
  clear hA0 hval0
  simp only [List.append_nil] at hW'
  have hlt : ∀ x ∈ p0 ++ p1 ++ p2, x.block < W.heap.size := fun x hx => by simpa using hW'.lt x hx
  obtain ⟨E, hE⟩ := ctx_of_laid hL (by rfl) hsh
  refine (treeNames_any W hE a0 c0 l0 s0 n0 o0 s1 r1 s2 r2).mono fun e W' ⟨he, hb⟩ => ?_
  subst he
  exact ⟨_, rfl, post_true hW' rfl rfl rfl rfl Tryz.underlying4 (by simp only [List.append_assoc]; exact trodAll_mk3 (Below.trod Tryz.laidOut (by kernel_rfl) (of_decide_eq_true (by kernel_rfl)) h0 hb (fun x hx => hlt x (by simp [hx]))) (Below.trod Tryz.laidOut (by kernel_rfl) (of_decide_eq_true (by kernel_rfl)) h1 hb (fun x hx => hlt x (by simp [hx]))) (Below.trod Tryz.laidOut (by kernel_rfl) (of_decide_eq_true (by kernel_rfl)) h2 hb (fun x hx => hlt x (by simp [hx])))) hb⟩

theorem andT {a b : Bool} (h1 : a = true) (h2 : b = true) : (a && b) = true := by rw [h1, h2]; rfl
set_option maxHeartbeats 4000000 in
theorem treeNames_closed : joinedFacts Tryz.pinned.checked.prog 4 Tryz.f4 Rows.treeNamesSpec Rows.treeNamesRow = true := by
  unfold joinedFacts
  refine (andT (andT (andT (andT (andT (andT (andT (andT (andT (andT (andT (andT (andT (andT (andT (andT (andT (andT (andT (andT (andT (andT (andT (andT (andT (andT (andT (andT (andT (andT (andT ?_ ?_) ?_) ?_) ?_) ?_) ?_) ?_) ?_) ?_) ?_) ?_) ?_) ?_) ?_) ?_) ?_) ?_) ?_) ?_) ?_) ?_) ?_) ?_) ?_) ?_) ?_) ?_) ?_) ?_) ?_) ?_)
  all_goals as_aux_lemma => kernel_rfl

theorem treeNames_named : Tryz.pinned.checked.prog.funcNamed Rows.treeNamesRow.func = some 4 := by kernel_rfl
theorem treeNames_inst : Tryz.f4.isInstance Tryz.pinned.checked.prog Rows.treeNamesRow.origin Rows.treeNamesRow.targs := of_decide_eq_true (by kernel_rfl)
theorem treeNames_wrap : Tryz.f4.isWrapper Tryz.pinned.checked.prog Rows.treeNamesRow.wrapper Rows.treeNamesRow.mainSum := by unfold Func.isWrapper; first | (rw [if_pos (by decide +kernel)]; kernel_rfl) | (rw [if_neg (by decide +kernel)]; exact ⟨rfl, rfl⟩)

theorem treeNames_said : Rows.TreeNamesSaid :=
  OpenClaim.holds_of_wide 4 Tryz.f4 rfl rfl rfl rfl rfl rfl rfl ⟨rfl, rfl, rfl, rfl, rfl⟩ rfl rfl rfl rfl rfl treeNames_named Tryz.func4 treeNames_closed treeNames_inst treeNames_wrap
    (fun os started H enc _ => treeNames_lifted os started H enc)

theorem treeNames_holds : Rows.TreeNamesCardSaid :=
  Claim7.holds_tied_plain_at .later [] Rows.treeNamesCard.laidKinds true Rows.treeNamesCard.stood.harness true treeNames_said (fun _ h => by cases h) (by kernel_rfl) (fun _ h => by cases h) treeNames_row_tie rfl ⟨rfl, rfl⟩ (by kernel_rfl) rfl
    (fun f fn hf hfn => by
      obtain rfl : f = 4 := Option.some.inj ((show Tryz.prog.funcNamed "pidgin/pidginlaw16.TreeNames" = some 4 by kernel_rfl).symm.trans hf) |>.symm
      obtain rfl : fn = Tryz.f4 := (Option.some.inj (Tryz.func4.symm.trans hfn)).symm
      exact ⟨by kernel_rfl, fun j t ht => by
        rw [Tryz.params4] at ht
        have hm : t ∈ [22, 9, 9] := by simpa using Array.mem_of_getElem? ht
        have hall : ([22, 9, 9].all fun u => !Tryz.prog.wantsStandIn u) = true := by kernel_rfl
        exact (show Tryz.prog.wantsStandIn t = false by simpa using List.all_eq_true.1 hall t hm)⟩)
    (by kernel_rfl)
#print axioms treeNames_holds
end Go.Proofs.YtjhojohjegkinaaGreatDoor
