/-
  THE ROW 'KernLeast' PROVED, AND ITS TIED CARD.
-/
import Derived.Test.YtiejfbkbjahcgaaDoorRowKit
import Derived.Test.YtiejfbkbjahcgaaDoorLeast
import Derived.Test.YtiejfbkbjahcgaaDoorCards
import Derived.SevenTiedAt
namespace Go.Proofs.YtiejfbkbjahcgaaDoor
open Go Go.RowKit Go.ChangeShapes Go.WideShapes

/-- A world that meets the list: the handle's cell laid first, then the data. -/
noncomputable def kbase (os : Os) : World :=
  let w0 := World.holding Tryd.prog os ⟨#[], #[], []⟩
  { w0 with heap := w0.heap.modify 10 fun
      | .cells _ t frozen => .cells #[.iface 165 (.agg #[typeHandle Tryd.prog 26])] t frozen
      | o => o }
def kplain : List (String × DataW Unit) := Rows.kernLeastRow.laid.filter fun x => x.2.handleName?.isNone
noncomputable def kwit (os : Os) : World := (kbase os).layVars Tryd.prog kplain

set_option maxRecDepth 100000 in
theorem kwit_met (os : Os) (args : Array Value) : laidMetH Tryd.prog Rows.kernLeastRow.laid ((kwit os).forCall (fun _ _ => 0) ⟨#[], args, []⟩).memory := by
  refine laidMetH_of_parts ?_ (by kernel_rfl)
  have e1 : (kplain.filter fun x => (kplain.map (·.1)).contains x.1) = kplain := List.filter_eq_self.2 fun x hx => List.contains_iff_mem.2 (List.mem_map.2 ⟨x, hx, rfl⟩)
  have e2 : (kplain.filter fun x => !(kplain.map (·.1)).contains x.1) = [] := List.filter_eq_nil_iff.2 fun x hx => by rw [List.contains_iff_mem.2 (List.mem_map.2 ⟨x, hx, rfl⟩)]; simp
  have h : laidMet Tryd.prog kplain (kwit os) := laidMet_layVars (w0 := kbase os) (kplain.map (·.1)) [] (by rw [e1]; rfl) (by rw [e1]; kernel_rfl) (by rw [e1]; kernel_rfl) (by rw [e2]; exact LaidIn.none)
  exact h.of_heap (by simp [World.memory, World.forCall, Input.heap])

set_option maxRecDepth 100000 in
theorem least_lifted (os : Os) (started : os.Started) (H : Type) (enc : TypeId × Value → H) :
    ReturnsInHanded {} Tryd.checked os 3 .any (fun w args => (Rows.kernLeastSpec.pre enc Tryd.prog Tryd.f3 [] false w args ∧ laidMetH Tryd.prog Rows.kernLeastRow.laid w) ∧ sizedMet enc Tryd.prog Tryd.f3 (OpenSpec.ofChange Rows.kernLeastSpec) false w args)
      (Rows.kernLeastSpec.post enc Tryd.prog Tryd.f3 false true false false) := by
  refine handed (C := Tryd.checked) (X := fun w => laidMetH Tryd.prog Rows.kernLeastRow.laid w) (fun _ _ hh h => h.of_heap hh) Tryd.own started (by kernel_rfl) Tryd.func3
    (ChangeSpec.witness_shaped (enc := enc) (C := Tryd.checked) (os := os) (X := fun w _ => laidMetH Tryd.prog Rows.kernLeastRow.laid w) false (kwit os) #[.slice none 0 0] 8 (World.layVars_os _ _ _)
      (World.shaped_of_ZipB (by kernel_rfl) (by kernel_rfl)) (by kernel_rfl) (by kernel_rfl) (by kernel_rfl) (kwit_met os _)) ?_
  intro W base args ds gs before hval0 hW _ hL hsh
  have hval : ∀ (j : Nat) t v, Tryd.f3.params[j]? = some t → args[j]? = some v → Value.okWide Tryd.prog W .any base t v := hval0
  have hW' := hW
  obtain ⟨p, q, hA0, hV, rfl, _, _⟩ := hW
  have hA : DataW.TrodAll enc Tryd.prog W 0 (fun _ => true) true Tryd.f3.params.toList args.toList ds p := hA0
  rw [Tryd.params3] at hA hval
  obtain ⟨v0, d0, rfl, rfl, h0⟩ := trodAll_one hA
  obtain ⟨rfl, rfl⟩ := trodVars_none hV
  obtain ⟨a0, len, cap, rfl⟩ := okWide_slice Tryd.underlying22 (hval 0 22 v0 rfl rfl)
  have h0k := h0
  obtain ⟨fuel, hf⟩ := h0
  clear hA0 hval0
  simp only [List.append_nil] at hW'
  have hlt : ∀ x ∈ p, x.block < W.heap.size := fun x hx => by simpa using hW'.lt x hx
  obtain ⟨E, hE⟩ := ctx_of_laid hL (by rfl) hsh
  have hs : ∃ l : List Int, ISrc W (.slice a0 len cap) l ∧ len = l.length ∧ l.length ≤ 9223372036854775807 := by
    rcases open_ints Tryd.underlying22 Tryd.underlying3 (by kernel_rfl) hf with ⟨hcs, _⟩ | ⟨a, len', cap', zs, hcs, _, hl, hm, hz, _, hcell, _⟩
    · simp [Value.cells] at hcs
      obtain ⟨rfl, rfl, rfl⟩ := hcs
      exact ⟨[], .inl ⟨rfl, rfl⟩, rfl, by simp⟩
    · simp [Value.cells] at hcs
      obtain ⟨rfl, rfl, rfl⟩ := hcs
      simp only [if_true] at hz
      have hll : (zs.take len).length = len := by simp; omega
      refine ⟨zs.take len, .inr ⟨a, cap, by rw [hll], fun j hj => ?_⟩, hll.symm, by rw [hll]; unfold maxLen at hm; omega⟩
      have h1 := hcell j (by omega)
      rw [h1]
      have hjz : j < zs.length := by omega
      simp [List.getElem?_eq_getElem hjz]
  obtain ⟨l, hs, hll, hlm⟩ := hs
  refine (least_any W hE a0 len cap l hs hll hlm).mono fun e W' ⟨he, hb⟩ => ?_
  subst he
  exact ⟨_, rfl, post_true hW' rfl rfl rfl rfl Tryd.underlying4 (trodAll_mk1 (Below.trod Tryd.laidOut (by kernel_rfl) (of_decide_eq_true (by kernel_rfl)) h0k hb hlt)) hb⟩

theorem least_holds : Rows.KernLeastSaid :=
  OpenClaim.holds_of_wide 3 Tryd.f3 rfl rfl rfl rfl rfl rfl rfl ⟨rfl, rfl, rfl, rfl, rfl⟩ rfl rfl rfl rfl rfl (by kernel_rfl) Tryd.func3 (by kernel_rfl)
    (of_decide_eq_true (by kernel_rfl)) (by unfold Func.isWrapper; first | (rw [if_pos (by decide +kernel)]; kernel_rfl) | (rw [if_neg (by decide +kernel)]; exact ⟨rfl, rfl⟩))
    (fun os started H enc _ => least_lifted os started H enc)

theorem kernLeast_holds : Rows.KernLeastCardSaid :=
  Claim7.holds_tied_plain_at .later [] Rows.kernLeastCard.laidKinds true Rows.kernLeastCard.stood.harness true least_holds (fun _ h => by cases h) (by kernel_rfl) (fun _ h => by cases h) kernLeast_row_tie rfl ⟨rfl, rfl⟩ (by kernel_rfl) rfl
    (fun f fn hf hfn => by
      obtain rfl : f = 3 := Option.some.inj ((show Tryd.prog.funcNamed "pidgin/pidginlaw17.KernLeast" = some 3 by kernel_rfl).symm.trans hf) |>.symm
      obtain rfl : fn = Tryd.f3 := (Option.some.inj (Tryd.func3.symm.trans hfn)).symm
      exact ⟨by kernel_rfl, fun j t ht => by
        rw [Tryd.params3] at ht
        have hm : t ∈ [22] := by simpa using Array.mem_of_getElem? ht
        have hall : ([22].all fun u => !Tryd.prog.wantsStandIn u) = true := by kernel_rfl
        exact (show Tryd.prog.wantsStandIn t = false by simpa using List.all_eq_true.1 hall t hm)⟩)
    (by kernel_rfl)
#print axioms kernLeast_holds
end Go.Proofs.YtiejfbkbjahcgaaDoor
