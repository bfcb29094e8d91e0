/-
  (*Tree).tick, of one node and of two: its contracts.
-/
import Derived.Test.YtiejfbkbjahcgaaGreatDoorFind
namespace Go.Proofs.YtiejfbkbjahcgaaGreatDoor
open Go Go.RowKit

set_option maxRecDepth 100000 in
set_option maxHeartbeats 1000000 in
theorem tick_one (tb n sb : Nat) (clock : Int) (w : World) (h0 : 0 ≤ clock) (h1 : clock ≤ 1152921504606846976) (v4 : Value)
    (hc : w.cell? ⟨tb, 1, none⟩ = some (.int .i64 clock)) (hf : w.frozen? ⟨tb, 1, none⟩ = false)
    (hs : w.cell? ⟨sb, 0, none⟩ = some (.pointer (some ⟨n, 0, none⟩))) (hn : w.cell? ⟨n, 4, none⟩ = some v4) (hfn : w.frozen? ⟨n, 4, none⟩ = false) (h3 : n ≠ tb) :
    Calls Tryz.prog 76 #[.pointer (some ⟨tb, 0, none⟩), .slice (some ⟨sb, 0, none⟩) 1 1] w fun e w' => e = .returned (.tuple #[]) ∧
      w' = (w.setCell ⟨tb, 1, none⟩ (.int .i64 (clock + 1))).setCell ⟨n, 4, none⟩ (.int .i64 (clock + 1)) := by
  have h5 : tb ≠ n := fun h => h3 h.symm
  go_enter Tryz.func76, Tryz.ntmps76
  go_wp2_with fail
  refine wp_loop_rounds 2 ?_
  rw [rounds_succ]
  go_wp2_with fail
  rw [rounds_succ]
  go_wp2_with fail
  go_end0
  exact ⟨rfl, rfl⟩

set_option maxRecDepth 100000 in
set_option maxHeartbeats 1000000 in
theorem tick_two (tb n m sb : Nat) (clock : Int) (w : World) (h0 : 0 ≤ clock) (h1 : clock ≤ 1152921504606846976) (v4 u4 : Value)
    (hc : w.cell? ⟨tb, 1, none⟩ = some (.int .i64 clock)) (hf : w.frozen? ⟨tb, 1, none⟩ = false)
    (hs : w.cell? ⟨sb, 0, none⟩ = some (.pointer (some ⟨n, 0, none⟩))) (hs1 : w.cell? ⟨sb, 1, none⟩ = some (.pointer (some ⟨m, 0, none⟩)))
    (hn : w.cell? ⟨n, 4, none⟩ = some v4) (hfn : w.frozen? ⟨n, 4, none⟩ = false) (hm : w.cell? ⟨m, 4, none⟩ = some u4) (hfm : w.frozen? ⟨m, 4, none⟩ = false)
    (h3 : n ≠ tb) (h4 : sb ≠ tb) (h6 : m ≠ tb) (h7 : n ≠ m) (h8 : sb ≠ n) :
    Calls Tryz.prog 76 #[.pointer (some ⟨tb, 0, none⟩), .slice (some ⟨sb, 0, none⟩) 2 2] w fun e w' => e = .returned (.tuple #[]) ∧
      w' = ((w.setCell ⟨tb, 1, none⟩ (.int .i64 (clock + 1))).setCell ⟨n, 4, none⟩ (.int .i64 (clock + 1))).setCell ⟨m, 4, none⟩ (.int .i64 (clock + 1)) := by
  have h5 : tb ≠ n := fun h => h3 h.symm
  have h9 : tb ≠ m := fun h => h6 h.symm
  have h10 : m ≠ n := fun h => h7 h.symm
  go_enter Tryz.func76, Tryz.ntmps76
  go_wp2_with fail
  refine wp_loop_rounds 3 ?_
  rw [rounds_succ]
  go_wp2_with fail
  rw [rounds_succ]
  go_wp2_with fail
  rw [rounds_succ]
  go_wp2_with fail
  go_end0
  exact ⟨rfl, rfl⟩

/-- What tick leaves of the blocks that it writes. -/
structure TickPost1 (w : World) (tb n : Nat) (r c a0 a1 a2 a3 : Value) (clock : Int) (e : Ending) (w' : World) : Prop where
  ret : e = .returned (.tuple #[])
  tree : w'.heap[tb]? = some (.cells #[r, .int .i64 (clock + 1), c] 139 (0, 0))
  node : w'.heap[n]? = some (.cells #[a0, a1, a2, a3, .int .i64 (clock + 1)] 132 (0, 0))
  kept : Kept (fun b => b = tb ∨ b = n) w w'

structure TickPost2 (w : World) (tb n m : Nat) (r c a0 a1 a2 a3 b0 b1 b2 b3 : Value) (clock : Int) (e : Ending) (w' : World) : Prop where
  ret : e = .returned (.tuple #[])
  tree : w'.heap[tb]? = some (.cells #[r, .int .i64 (clock + 1), c] 139 (0, 0))
  node : w'.heap[n]? = some (.cells #[a0, a1, a2, a3, .int .i64 (clock + 1)] 132 (0, 0))
  node2 : w'.heap[m]? = some (.cells #[b0, b1, b2, b3, .int .i64 (clock + 1)] 132 (0, 0))
  kept : Kept (fun b => b = tb ∨ b = n ∨ b = m) w w'

theorem tick1 {w : World} {tb n sb : Nat} {r c a0 a1 a2 a3 a4 : Value} {clock : Int} (h0 : 0 ≤ clock) (h1 : clock ≤ 1152921504606846976)
    (hT : w.heap[tb]? = some (.cells #[r, .int .i64 clock, c] 139 (0, 0))) (hN : w.heap[n]? = some (.cells #[a0, a1, a2, a3, a4] 132 (0, 0)))
    (hS : w.heap[sb]? = some (.cells #[.pointer (some ⟨n, 0, none⟩)] 128 (0, 0))) :
    Calls Tryz.prog 76 #[.pointer (some ⟨tb, 0, none⟩), .slice (some ⟨sb, 0, none⟩) 1 1] w fun e w' => TickPost1 w tb n r c a0 a1 a2 a3 clock e w' := by
  have n1 : tb ≠ n := cells_ne_type hT hN (by decide)
  refine (tick_one tb n sb clock w h0 h1 a4 (cell_of hT rfl) (free_of hT 1) (cell_of hS rfl) (cell_of hN rfl) (free_of hN 4) (Ne.symm n1)).mono ?_
  rintro e w' ⟨rfl, rfl⟩
  refine ⟨rfl, ?_, ?_, ?_⟩
  · rw [heap_set_other _ _ _ n1]
    exact heap_set_same hT 1 _
  · exact heap_set_same ((heap_set_other _ _ _ (Ne.symm n1)).trans hN) 4 _
  · exact ((Kept.refl (fun b => b = tb ∨ b = n) w).setCell (p := ⟨tb, 1, none⟩) (.inl (.inl rfl)) _).setCell (p := ⟨n, 4, none⟩) (.inl (.inr rfl)) _

theorem tick2 {w : World} {tb n m sb : Nat} {r c a0 a1 a2 a3 a4 b0 b1 b2 b3 b4 : Value} {clock : Int} (h0 : 0 ≤ clock) (h1 : clock ≤ 1152921504606846976)
    (hT : w.heap[tb]? = some (.cells #[r, .int .i64 clock, c] 139 (0, 0))) (hN : w.heap[n]? = some (.cells #[a0, a1, a2, a3, a4] 132 (0, 0)))
    (hM : w.heap[m]? = some (.cells #[b0, b1, b2, b3, b4] 132 (0, 0))) (hS : w.heap[sb]? = some (.cells #[.pointer (some ⟨n, 0, none⟩), .pointer (some ⟨m, 0, none⟩)] 128 (0, 0))) (hnm : n ≠ m) :
    Calls Tryz.prog 76 #[.pointer (some ⟨tb, 0, none⟩), .slice (some ⟨sb, 0, none⟩) 2 2] w fun e w' => TickPost2 w tb n m r c a0 a1 a2 a3 b0 b1 b2 b3 clock e w' := by
  have n1 : tb ≠ n := cells_ne_type hT hN (by decide)
  have n2 : tb ≠ m := cells_ne_type hT hM (by decide)
  refine (tick_two tb n m sb clock w h0 h1 a4 b4 (cell_of hT rfl) (free_of hT 1) (cell_of hS rfl) (cell_of hS rfl) (cell_of hN rfl) (free_of hN 4) (cell_of hM rfl) (free_of hM 4) (Ne.symm n1) (cells_ne_type hS hT (by decide)) (Ne.symm n2) hnm (cells_ne_type hS hN (by decide))).mono ?_
  rintro e w' ⟨rfl, rfl⟩
  refine ⟨rfl, ?_, ?_, ?_, ?_⟩
  · rw [heap_set_other _ _ _ n2, heap_set_other _ _ _ n1]
    exact heap_set_same hT 1 _
  · rw [heap_set_other _ _ _ hnm]
    exact heap_set_same ((heap_set_other _ _ _ (Ne.symm n1)).trans hN) 4 _
  · refine heap_set_same ((heap_set_other _ _ _ (Ne.symm hnm)).trans ((heap_set_other _ _ _ (Ne.symm n2)).trans hM)) 4 _
  · exact (((Kept.refl (fun b => b = tb ∨ b = n ∨ b = m) w).setCell (p := ⟨tb, 1, none⟩) (.inl (.inl rfl)) _).setCell (p := ⟨n, 4, none⟩) (.inl (.inr (.inl rfl))) _).setCell (p := ⟨m, 4, none⟩) (.inl (.inr (.inr rfl))) _
end Go.Proofs.YtiejfbkbjahcgaaGreatDoor
