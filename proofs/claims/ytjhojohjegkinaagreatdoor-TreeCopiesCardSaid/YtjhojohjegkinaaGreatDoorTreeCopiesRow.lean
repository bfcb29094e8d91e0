/-
  TreeCopies: for every input the law returns true and turns none of its arguments. Conditions: the listed package-level variables read as listed when the call begins (in the bare row); the card ties them to the program's own text.
-/
import Derived.Test.YtjhojohjegkinaaGreatDoorEty
import Derived.Test.YtjhojohjegkinaaGreatDoorTCopies
import Derived.Test.YtjhojohjegkinaaGreatDoorArgO
import Derived.Test.YtjhojohjegkinaaGreatDoorCards
import Derived.SevenTiedAt
import Derived.ChangeMaps5
namespace Go.Proofs.YtjhojohjegkinaaGreatDoor
open Go Go.RowKit Go.ChangeShapes Go.WideShapes

/-- A world that meets the list: the handle's cell laid first, then the data. -/
noncomputable def treeCopiesBase (os : Os) : World :=
  let w0 := World.holding Tryz.prog os ⟨#[], #[], []⟩
  { w0 with heap := w0.heap.modify 0 fun
      | .cells _ t frozen => .cells #[.iface 247 (.agg #[typeHandle Tryz.prog 32])] t frozen
      | o => o }
def treeCopiesPlain : List (String × DataW Unit) := Rows.treeCopiesRow.laid.filter fun x => x.2.handleName?.isNone
noncomputable def treeCopiesWit (os : Os) : World := (treeCopiesBase os).layVars Tryz.prog treeCopiesPlain

set_option maxRecDepth 100000 in
theorem treeCopiesWit_met (os : Os) (args : Array Value) : laidMetH Tryz.prog Rows.treeCopiesRow.laid ((treeCopiesWit os).forCall (fun _ _ => 0) ⟨#[], args, []⟩).memory := by
  refine laidMetH_of_parts ?_ (by kernel_rfl)
  have e1 : (treeCopiesPlain.filter fun x => (treeCopiesPlain.map (·.1)).contains x.1) = treeCopiesPlain := List.filter_eq_self.2 fun x hx => List.contains_iff_mem.2 (List.mem_map.2 ⟨x, hx, rfl⟩)
  have e2 : (treeCopiesPlain.filter fun x => !(treeCopiesPlain.map (·.1)).contains x.1) = [] := List.filter_eq_nil_iff.2 fun x hx => by rw [List.contains_iff_mem.2 (List.mem_map.2 ⟨x, hx, rfl⟩)]; simp
  have h : laidMet Tryz.prog treeCopiesPlain (treeCopiesWit os) := laidMet_layVars (w0 := treeCopiesBase os) (treeCopiesPlain.map (·.1)) [] (by rw [e1]; rfl) (by rw [e1]; kernel_rfl) (by rw [e1]; kernel_rfl) (by rw [e2]; exact LaidIn.none)
  exact h.of_heap (by simp [World.memory, World.forCall, Input.heap])

set_option maxRecDepth 100000 in
theorem treeCopies_lifted (os : Os) (started : os.Started) (H : Type) (enc : TypeId × Value → H) :
    ReturnsInHanded {} Tryz.checked os 6 .any (fun w args => (Rows.treeCopiesSpec.pre enc Tryz.prog Tryz.f6 [] false w args ∧ laidMetH Tryz.prog Rows.treeCopiesRow.laid w) ∧ sizedMet enc Tryz.prog Tryz.f6 (OpenSpec.ofChange Rows.treeCopiesSpec) false w args)
      (Rows.treeCopiesSpec.post enc Tryz.prog Tryz.f6 false true false false) := by
  refine handed (C := Tryz.checked) (X := fun w => laidMetH Tryz.prog Rows.treeCopiesRow.laid w) (fun _ _ hh h => h.of_heap hh) Tryz.own started (by kernel_rfl) Tryz.func6
    (ChangeSpec.witness_shaped (enc := enc) (C := Tryz.checked) (os := os) (X := fun w _ => laidMetH Tryz.prog Rows.treeCopiesRow.laid w) false (treeCopiesWit os) #[.slice none 0 0, .slice none 0 0, .slice none 0 0] 8 (World.layVars_os _ _ _)
      (World.shaped_of_ZipB (by kernel_rfl) (by kernel_rfl)) (by kernel_rfl) (by kernel_rfl) (by kernel_rfl) (treeCopiesWit_met os _)) ?_
  intro W base args ds gs before hval0 hW hwt hL hsh
  have hval : ∀ (j : Nat) t v, Tryz.f6.params[j]? = some t → args[j]? = some v → Value.okWide Tryz.prog W .any base t v := hval0
  have hW' := hW
  obtain ⟨p, q, hA0, hV, rfl, _, _⟩ := hW
  have hA : DataW.TrodAll enc Tryz.prog W 0 (fun _ => true) true Tryz.f6.params.toList args.toList ds p := hA0
  rw [Tryz.params6] at hA hval
  obtain ⟨v0, v1, v2, d0, d1, d2, p0, p1, p2, rfl, rfl, rfl, h0, h1, h2⟩ := trodAll_three hA
  obtain ⟨rfl, rfl⟩ := trodVars_none hV
  obtain ⟨a0, c0, l0, rfl, s0, n0, o0⟩ := arg_ops (hval 0 22 v0 rfl rfl) h0 hwt 0 rfl rfl
  obtain ⟨a1, c1, l1, rfl, s1, n1, o1⟩ := arg_ops (hval 1 22 v1 rfl rfl) h1 hwt 1 rfl rfl
  obtain ⟨a2, c2, l2, rfl, s2, n2, o2⟩ := arg_ops (hval 2 22 v2 rfl rfl) h2 hwt 2 rfl rfl
  clear hA0 hval0
  simp only [List.append_nil] at hW'
  have hlt : ∀ x ∈ p0 ++ p1 ++ p2, x.block < W.heap.size := fun x hx => by simpa using hW'.lt x hx
  obtain ⟨E, hE⟩ := ctx_of_laid hL (by rfl) hsh
  refine (treeCopies_any W hE (ety_of_laid hL (by rfl)) a0 c0 l0 s0 n0 o0 a1 c1 l1 s1 n1 o1 a2 c2 l2 s2 n2 o2).mono fun e W' ⟨he, hb⟩ => ?_
  subst he
  exact ⟨_, rfl, post_true hW' rfl rfl rfl rfl Tryz.underlying4 (by simp only [List.append_assoc]; exact trodAll_mk3 (Below.trod Tryz.laidOut (by kernel_rfl) (of_decide_eq_true (by kernel_rfl)) h0 hb (fun x hx => hlt x (by simp [hx]))) (Below.trod Tryz.laidOut (by kernel_rfl) (of_decide_eq_true (by kernel_rfl)) h1 hb (fun x hx => hlt x (by simp [hx]))) (Below.trod Tryz.laidOut (by kernel_rfl) (of_decide_eq_true (by kernel_rfl)) h2 hb (fun x hx => hlt x (by simp [hx])))) hb⟩

theorem andT {a b : Bool} (h1 : a = true) (h2 : b = true) : (a && b) = true := by rw [h1, h2]; rfl
set_option maxHeartbeats 4000000 in
theorem treeCopies_closed : joinedFacts Tryz.pinned.checked.prog 6 Tryz.f6 Rows.treeCopiesSpec Rows.treeCopiesRow = true := by
  unfold joinedFacts
  refine (andT (andT (andT (andT (andT (andT (andT (andT (andT (andT (andT (andT (andT (andT (andT (andT (andT (andT (andT (andT (andT (andT (andT (andT (andT (andT (andT (andT (andT (andT (andT ?_ ?_) ?_) ?_) ?_) ?_) ?_) ?_) ?_) ?_) ?_) ?_) ?_) ?_) ?_) ?_) ?_) ?_) ?_) ?_) ?_) ?_) ?_) ?_) ?_) ?_) ?_) ?_) ?_) ?_) ?_) ?_)
  all_goals as_aux_lemma => kernel_rfl

theorem treeCopies_named : Tryz.pinned.checked.prog.funcNamed Rows.treeCopiesRow.func = some 6 := by kernel_rfl
theorem treeCopies_inst : Tryz.f6.isInstance Tryz.pinned.checked.prog Rows.treeCopiesRow.origin Rows.treeCopiesRow.targs := of_decide_eq_true (by kernel_rfl)
theorem treeCopies_wrap : Tryz.f6.isWrapper Tryz.pinned.checked.prog Rows.treeCopiesRow.wrapper Rows.treeCopiesRow.mainSum := by unfold Func.isWrapper; first | (rw [if_pos (by decide +kernel)]; kernel_rfl) | (rw [if_neg (by decide +kernel)]; exact ⟨rfl, rfl⟩)

theorem treeCopies_said : Rows.TreeCopiesSaid :=
  OpenClaim.holds_of_wide 6 Tryz.f6 rfl rfl rfl rfl rfl rfl rfl ⟨rfl, rfl, rfl, rfl, rfl⟩ rfl rfl rfl rfl rfl treeCopies_named Tryz.func6 treeCopies_closed treeCopies_inst treeCopies_wrap
    (fun os started H enc _ => treeCopies_lifted os started H enc)

theorem treeCopies_holds : Rows.TreeCopiesCardSaid :=
  Claim7.holds_tied_plain_at .later [] Rows.treeCopiesCard.laidKinds true Rows.treeCopiesCard.stood.harness true treeCopies_said (fun _ h => by cases h) (by kernel_rfl) (fun _ h => by cases h) treeCopies_row_tie rfl ⟨rfl, rfl⟩ (by kernel_rfl) rfl
    (fun f fn hf hfn => by
      obtain rfl : f = 6 := Option.some.inj ((show Tryz.prog.funcNamed "pidgin/pidginlaw16.TreeCopies" = some 6 by kernel_rfl).symm.trans hf) |>.symm
      obtain rfl : fn = Tryz.f6 := (Option.some.inj (Tryz.func6.symm.trans hfn)).symm
      exact ⟨by kernel_rfl, fun j t ht => by
        rw [Tryz.params6] at ht
        have hm : t ∈ [22, 22, 22] := by simpa using Array.mem_of_getElem? ht
        have hall : ([22, 22, 22].all fun u => !Tryz.prog.wantsStandIn u) = true := by kernel_rfl
        exact (show Tryz.prog.wantsStandIn t = false by simpa using List.all_eq_true.1 hall t hm)⟩)
    (by kernel_rfl)
#print axioms treeCopies_holds
end Go.Proofs.YtjhojohjegkinaaGreatDoor
