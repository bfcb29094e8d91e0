/-
  TreeFiles: for every input the law returns true and turns none of its arguments. Conditions: the listed package-level variables read as listed when the call begins (in the bare row); the card ties them to the program's own text.
-/
import Derived.Test.YtjhojohjegkinaaGreatDoorEty
import Derived.Test.YtjhojohjegkinaaGreatDoorTFiles
import Derived.Test.YtjhojohjegkinaaGreatDoorArgO
import Derived.Test.YtjhojohjegkinaaGreatDoorArgT
import Derived.Test.YtjhojohjegkinaaGreatDoorTab
import Derived.Test.YtjhojohjegkinaaGreatDoorCards
import Derived.SevenTiedAt
import Derived.ChangeMaps5
namespace Go.Proofs.YtjhojohjegkinaaGreatDoor
open Go Go.RowKit Go.ChangeShapes Go.WideShapes

/-- A world that meets the list: the handle's cell laid first, then the data. -/
noncomputable def treeFilesBase (os : Os) : World :=
  let w0 := World.holding Tryz.prog os ⟨#[], #[], []⟩
  { w0 with heap := w0.heap.modify 0 fun
      | .cells _ t frozen => .cells #[.iface 247 (.agg #[typeHandle Tryz.prog 32])] t frozen
      | o => o }
def treeFilesPlain : List (String × DataW Unit) := Rows.treeFilesRow.laid.filter fun x => x.2.handleName?.isNone
noncomputable def treeFilesWit (os : Os) : World := (treeFilesBase os).layVars Tryz.prog treeFilesPlain

set_option maxRecDepth 100000 in
theorem treeFilesWit_met (os : Os) (args : Array Value) : laidMetH Tryz.prog Rows.treeFilesRow.laid ((treeFilesWit os).forCall (fun _ _ => 0) ⟨#[], args, []⟩).memory := by
  refine laidMetH_of_parts ?_ (by kernel_rfl)
  have e1 : (treeFilesPlain.filter fun x => (treeFilesPlain.map (·.1)).contains x.1) = treeFilesPlain := List.filter_eq_self.2 fun x hx => List.contains_iff_mem.2 (List.mem_map.2 ⟨x, hx, rfl⟩)
  have e2 : (treeFilesPlain.filter fun x => !(treeFilesPlain.map (·.1)).contains x.1) = [] := List.filter_eq_nil_iff.2 fun x hx => by rw [List.contains_iff_mem.2 (List.mem_map.2 ⟨x, hx, rfl⟩)]; simp
  have h : laidMet Tryz.prog treeFilesPlain (treeFilesWit os) := laidMet_layVars (w0 := treeFilesBase os) (treeFilesPlain.map (·.1)) [] (by rw [e1]; rfl) (by rw [e1]; kernel_rfl) (by rw [e1]; kernel_rfl) (by rw [e2]; exact LaidIn.none)
  exact h.of_heap (by simp [World.memory, World.forCall, Input.heap])

set_option maxRecDepth 100000 in
theorem treeFiles_lifted (os : Os) (started : os.Started) (H : Type) (enc : TypeId × Value → H) :
    ReturnsInHanded {} Tryz.checked os 10 .any (fun w args => (Rows.treeFilesSpec.pre enc Tryz.prog Tryz.f10 [] false w args ∧ laidMetH Tryz.prog Rows.treeFilesRow.laid w) ∧ sizedMet enc Tryz.prog Tryz.f10 (OpenSpec.ofChange Rows.treeFilesSpec) false w args)
      (Rows.treeFilesSpec.post enc Tryz.prog Tryz.f10 false true false false) := by
  refine handed (C := Tryz.checked) (X := fun w => laidMetH Tryz.prog Rows.treeFilesRow.laid w) (fun _ _ hh h => h.of_heap hh) Tryz.own started (by kernel_rfl) Tryz.func10
    (ChangeSpec.witness_shaped (enc := enc) (C := Tryz.checked) (os := os) (X := fun w _ => laidMetH Tryz.prog Rows.treeFilesRow.laid w) false (treeFilesWit os) #[.slice none 0 0, .string ByteArray.empty, .int .i64 0, .bool false, .bool false, .slice none 0 0] 8 (World.layVars_os _ _ _)
      (World.shaped_of_ZipB (by kernel_rfl) (by kernel_rfl)) (by kernel_rfl) (by kernel_rfl) (by kernel_rfl) (treeFilesWit_met os _)) ?_
  intro W base args ds gs before hval0 hW hwt hL hsh
  have hval : ∀ (j : Nat) t v, Tryz.f10.params[j]? = some t → args[j]? = some v → Value.okWide Tryz.prog W .any base t v := hval0
  have hW' := hW
  obtain ⟨p, q, hA0, hV, rfl, _, _⟩ := hW
  have hA : DataW.TrodAll enc Tryz.prog W 0 (fun _ => true) true Tryz.f10.params.toList args.toList ds p := hA0
  rw [Tryz.params10] at hA hval
  obtain ⟨v0, v1, v2, v3, v4, v5, d0, d1, d2, d3, d4, d5, p0, p1, p2, p3, p4, p5, rfl, rfl, rfl, h0, h1, h2, h3, h4, h5⟩ := trodAll_six hA
  obtain ⟨rfl, rfl⟩ := trodVars_none hV
  obtain ⟨a0, c0, l0, rfl, s0, n0, o0⟩ := arg_ops (hval 0 22 v0 rfl rfl) h0 hwt 0 rfl rfl
  obtain ⟨s1, rfl, e1, q1, z1⟩ := ChangeMaps.open_string Tryz.underlying9 (hval 1 9 v1 rfl rfl) h1
  obtain ⟨i2, rfl, e2, q2, z2⟩ := open_int Tryz.underlying3 (hval 2 3 v2 rfl rfl) h2
  obtain ⟨b3, rfl, e3, q3⟩ := open_bool Tryz.underlying4 (hval 3 4 v3 rfl rfl) h3
  obtain ⟨b4, rfl, e4, q4⟩ := open_bool Tryz.underlying4 (hval 4 4 v4 rfl rfl) h4
  obtain ⟨a5, c5, l5, rfl, s5, n5, o5⟩ := arg_ats (hval 5 77 v5 rfl rfl) h5 hwt 5 rfl rfl
  clear hA0 hval0
  simp only [List.append_nil] at hW'
  have hlt : ∀ x ∈ p0 ++ p1 ++ p2 ++ p3 ++ p4 ++ p5, x.block < W.heap.size := fun x hx => by simpa using hW'.lt x hx
  obtain ⟨E, hE⟩ := ctx_of_laid hL (by rfl) hsh
  refine (treeFiles_any W hE (ety_of_laid hL (by rfl)) (tab_of_laid hL (by rfl)) a0 c0 l0 s0 n0 o0 s1 (by unfold maxLen at z1; omega) i2 (wf_bounds z2) b3 b4 a5 c5 l5 s5 n5 o5).mono fun e W' ⟨he, hb⟩ => ?_
  subst he
  exact ⟨_, rfl, post_true hW' rfl rfl rfl rfl Tryz.underlying4 (by simp only [List.append_assoc]; exact trodAll_mk6 (Below.trod Tryz.laidOut (by kernel_rfl) (of_decide_eq_true (by kernel_rfl)) h0 hb (fun x hx => hlt x (by simp [hx]))) (Below.trod Tryz.laidOut (by kernel_rfl) (of_decide_eq_true (by kernel_rfl)) h1 hb (fun x hx => hlt x (by simp [hx]))) (Below.trod Tryz.laidOut (by kernel_rfl) (of_decide_eq_true (by kernel_rfl)) h2 hb (fun x hx => hlt x (by simp [hx]))) (Below.trod Tryz.laidOut (by kernel_rfl) (of_decide_eq_true (by kernel_rfl)) h3 hb (fun x hx => hlt x (by simp [hx]))) (Below.trod Tryz.laidOut (by kernel_rfl) (of_decide_eq_true (by kernel_rfl)) h4 hb (fun x hx => hlt x (by simp [hx]))) (Below.trod Tryz.laidOut (by kernel_rfl) (of_decide_eq_true (by kernel_rfl)) h5 hb (fun x hx => hlt x (by simp [hx])))) hb⟩

theorem andT {a b : Bool} (h1 : a = true) (h2 : b = true) : (a && b) = true := by rw [h1, h2]; rfl
set_option maxHeartbeats 4000000 in
theorem treeFiles_closed : joinedFacts Tryz.pinned.checked.prog 10 Tryz.f10 Rows.treeFilesSpec Rows.treeFilesRow = true := by
  unfold joinedFacts
  refine (andT (andT (andT (andT (andT (andT (andT (andT (andT (andT (andT (andT (andT (andT (andT (andT (andT (andT (andT (andT (andT (andT (andT (andT (andT (andT (andT (andT (andT (andT (andT ?_ ?_) ?_) ?_) ?_) ?_) ?_) ?_) ?_) ?_) ?_) ?_) ?_) ?_) ?_) ?_) ?_) ?_) ?_) ?_) ?_) ?_) ?_) ?_) ?_) ?_) ?_) ?_) ?_) ?_) ?_) ?_)
  all_goals as_aux_lemma => kernel_rfl

theorem treeFiles_named : Tryz.pinned.checked.prog.funcNamed Rows.treeFilesRow.func = some 10 := by kernel_rfl
theorem treeFiles_inst : Tryz.f10.isInstance Tryz.pinned.checked.prog Rows.treeFilesRow.origin Rows.treeFilesRow.targs := of_decide_eq_true (by kernel_rfl)
theorem treeFiles_wrap : Tryz.f10.isWrapper Tryz.pinned.checked.prog Rows.treeFilesRow.wrapper Rows.treeFilesRow.mainSum := by unfold Func.isWrapper; first | (rw [if_pos (by decide +kernel)]; kernel_rfl) | (rw [if_neg (by decide +kernel)]; exact ⟨rfl, rfl⟩)

theorem treeFiles_said : Rows.TreeFilesSaid :=
  OpenClaim.holds_of_wide 10 Tryz.f10 rfl rfl rfl rfl rfl rfl rfl ⟨rfl, rfl, rfl, rfl, rfl⟩ rfl rfl rfl rfl rfl treeFiles_named Tryz.func10 treeFiles_closed treeFiles_inst treeFiles_wrap
    (fun os started H enc _ => treeFiles_lifted os started H enc)

theorem treeFiles_holds : Rows.TreeFilesCardSaid :=
  Claim7.holds_tied_plain_at .later [] Rows.treeFilesCard.laidKinds true Rows.treeFilesCard.stood.harness true treeFiles_said (fun _ h => by cases h) (by kernel_rfl) (fun _ h => by cases h) treeFiles_row_tie rfl ⟨rfl, rfl⟩ (by kernel_rfl) rfl
    (fun f fn hf hfn => by
      obtain rfl : f = 10 := Option.some.inj ((show Tryz.prog.funcNamed "pidgin/pidginlaw16.TreeFiles" = some 10 by kernel_rfl).symm.trans hf) |>.symm
      obtain rfl : fn = Tryz.f10 := (Option.some.inj (Tryz.func10.symm.trans hfn)).symm
      exact ⟨by kernel_rfl, fun j t ht => by
        rw [Tryz.params10] at ht
        have hm : t ∈ [22, 9, 3, 4, 4, 77] := by simpa using Array.mem_of_getElem? ht
        have hall : ([22, 9, 3, 4, 4, 77].all fun u => !Tryz.prog.wantsStandIn u) = true := by kernel_rfl
        exact (show Tryz.prog.wantsStandIn t = false by simpa using List.all_eq_true.1 hall t hm)⟩)
    (by kernel_rfl)
#print axioms treeFiles_holds
end Go.Proofs.YtjhojohjegkinaaGreatDoor
