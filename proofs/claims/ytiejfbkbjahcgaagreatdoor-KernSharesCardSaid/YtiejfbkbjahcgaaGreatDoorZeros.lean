/-
  append of noughts ('append(b, make([]byte, n)...)'): its run, by name.
-/
import Derived.Test.YtiejfbkbjahcgaaGreatDoorAppend
import Derived.Lib.AppendZerosOnto
namespace Go.Proofs.YtiejfbkbjahcgaaGreatDoor
open Go Go.RowKit

theorem zeroCells_u8 (n : Nat) : (Builtin.zeroCells (Value.int .u8 0).cells n).toList = List.replicate n (.int .u8 0) := by
  unfold Builtin.zeroCells
  have e : (Value.int .u8 0).cells = #[.int .u8 0] := rfl
  rw [e]
  apply List.ext_getElem
  · simp
  · intro i h1 h2
    simp [Nat.mod_one]

theorem run_append_zeros {w : World} (base : Nat) (v : Value) (n : Nat) (xs : List Value) (hown : w.ownsRow base 5 1 v n xs) (k : Nat) (hk : 0 < k) (hn : n + k ≤ 70000000000) (hbase : base ≤ w.heap.size) :
    ∃ v' w', (Builtin.append_ #[44, 3] 44 #[v, .int .i64 k]).run Tryz.prog w = .ok v' w' ∧ w'.ownsRow base 5 1 v' (n + k) (xs ++ List.replicate k (.int .u8 0)) ∧ w.grownBy w' v.ownBlock ∧
      (v'.ownBlock = v.ownBlock ∨ ∃ g, v'.ownBlock = some g ∧ w.heap.size ≤ g) := by
  obtain ⟨i, hi, hz0, hz1, hz2⟩ := info_parts infoU8
  have ht : Tryz.prog.underlying 44 = some (.slice 5) := Tryz.underlying44
  have htn : Tryz.prog.underlying 3 = some (.int .i64) := Tryz.underlying3
  rcases hown.2 with ⟨rfl, rfl⟩ | ⟨g, cap, cur, rfl, hbg, hg, hnc, hcm, hcs, htake⟩
  · have hx : xs = [] := List.eq_nil_of_length_eq_zero (by simpa using hown.1)
    subst hx
    have hr := Lib.run_append_nil_zeros (P := Tryz.prog) w 44 3 44 5 i (.int .u8 0) .i64 .i64 ht htn hi hz0 k hk (by omega) (by omega) (by rw [hz2]; omega)
    have hge := grownCap_ge w k 0 5
    have hcm : grownCap w k 0 5 ≤ maxLen := grownCap_le_maxLen w k 0 5 (by unfold maxLen; omega)
    refine ⟨_, _, hr, ⟨by simp, .inr ⟨w.heap.size, _, _, by rw [Nat.zero_add], hbase, heap_alloc_new w.drew _, by omega, hcm, ?_, ?_⟩⟩, ⟨rfl, rfl, rfl, by simp, fun q hq _ => Below.heap_alloc w.drew _ q hq⟩, .inr ⟨w.heap.size, rfl, Nat.le_refl _⟩⟩
    · simp only [Array.size_append, size_zeroCells]
      have e : (Value.int .u8 0).cells.size = 1 := rfl
      rw [e]; omega
    · rw [Array.toList_append, zeroCells_u8, zeroCells_u8]
      simp
  · by_cases hroom : n + k ≤ cap
    · have hw : IntKind.i64.wrap (k : Int) = k := by rw [IntKind.wrap_i64]; omega
      have hneg : ¬ ((k : Int) < 0) := by omega
      have hk0 : k ≠ 0 := by omega
      have hst := run_storeCells_at Tryz.prog g n 5 (List.replicate k (.int .u8 0)) 0 cur w hg (by simp [hcs]; omega) (fun u hu => by rw [List.eq_of_mem_replicate hu]; rfl)
      have h48i : ¬ (281474976710656 < (k : Int)) := by omega
      have hzc := zeroCells_u8 k
      have hr : (Builtin.append_ #[44, 3] 44 #[.slice (some ⟨g, 0, none⟩) n cap, .int .i64 k]).run Tryz.prog w = .ok (.slice (some ⟨g, 0, none⟩) (n + k) cap) (w.setRow g (cur.toList.take (n + 0) ++ List.replicate k (Value.int .u8 0) ++ cur.toList.drop (n + 0 + (List.replicate k (Value.int .u8 0)).length)).toArray) := by
        simp [Builtin.append_, run_underlying ht, run_underlying htn, sizeOf, typeInfo, zeroValue, hi, hz0, hz1, hz2, asInt, asIntOf, hw, hneg, hk0, h48i, hroom, Addr.add_lit]
        rw [hzc]
        simpa using congrArg (fun r => r.andThen fun _ w' => Result.ok (Value.slice (some ⟨g, 0, none⟩) (n + k) cap) w') hst
      refine ⟨_, _, hr, ⟨by have := hown.1; simp; omega, .inr ⟨g, cap, _, rfl, hbg, setRow_heap w g cur _ 5 _ hg, hroom, hcm, ?_, ?_⟩⟩, ⟨rfl, rfl, rfl, by simp, fun q _ hq => setRow_other w g q _ (fun e => hq (by simp [Value.ownBlock, e]))⟩, .inl rfl⟩
      · simp only [List.size_toArray, List.length_append, List.length_take, List.length_drop, Array.length_toList, List.length_replicate]
        omega
      · have hxl : xs.length = n := by have := hown.1; omega
        have e1 : cur.toList.take (n + 0) = xs := by rw [← htake]; simp
        rw [e1]
        have e2 : (n + k) * 1 = (xs ++ List.replicate k (Value.int .u8 0)).length := by simp [hxl]
        rw [e2]
        exact List.take_left
    · have hcells : ∀ j u, xs[j]? = some u → w.drew.cell? ((⟨g, 0, none⟩ : Addr).add j) = some u := hown.cells (g := g) rfl
      have holds : (Builtin.firstCells i.size n (.slice (some ⟨g, 0, none⟩) n cap)).run Tryz.prog w.drew = .ok xs.toArray w.drew := run_firstCells_some (P := Tryz.prog) w.drew i.size n ⟨g, 0, none⟩ n cap xs (by rw [hz1]; exact hown.1) hcells
      have hr := Lib.run_append_grow_zeros (P := Tryz.prog) w 44 3 44 5 i (.int .u8 0) .i64 .i64 ht htn hi hz0 (some ⟨g, 0, none⟩) n cap xs holds k hk (by omega) (by omega) (by omega) (by rw [hz2]; omega) (growslice_fits (by omega) (by rw [hz2]; omega))
      have hge := grownCap_ge w (n + k) cap 5
      have hcm2 : grownCap w (n + k) cap 5 ≤ maxLen := grownCap_le_maxLen w (n + k) cap 5 (by unfold maxLen; omega)
      have hxl : xs.length = n := by have := hown.1; omega
      refine ⟨_, _, hr, ⟨by simp [hxl], .inr ⟨w.heap.size, _, _, rfl, hbase, heap_alloc_new w.drew _, by omega, hcm2, ?_, ?_⟩⟩, ⟨rfl, rfl, rfl, by simp, fun q hq _ => Below.heap_alloc w.drew _ q hq⟩, .inr ⟨w.heap.size, rfl, Nat.le_refl _⟩⟩
      · simp only [Array.size_append, size_zeroCells, List.size_toArray]
        have e : (Value.int .u8 0).cells.size = 1 := rfl
        rw [e]; omega
      · rw [Array.toList_append, Array.toList_append, zeroCells_u8, zeroCells_u8]
        have e2 : (n + k) * 1 = (xs ++ List.replicate k (Value.int .u8 0)).length := by simp [hxl]
        rw [e2]
        exact List.take_left

noncomputable def azRun (w : World) (v x : Value) : Result Value := (Builtin.append_ #[44, 3] 44 #[v, x]).run Tryz.prog w
noncomputable def azA (w : World) (v x : Value) : Option Addr := match azRun w v x with | .ok (.slice a _ _) _ => a | _ => none
noncomputable def azN (w : World) (v x : Value) : Nat := match azRun w v x with | .ok (.slice _ n _) _ => n | _ => 0
noncomputable def azC (w : World) (v x : Value) : Nat := match azRun w v x with | .ok (.slice _ _ c) _ => c | _ => 0
noncomputable def azW (w : World) (v x : Value) : World := match azRun w v x with | .ok _ w' => w' | _ => w
def AzOk (w : World) (v x : Value) : Prop := ∃ a n c w', azRun w v x = .ok (.slice a n c) w'

theorem azOk_run {w : World} {v x : Value} (h : AzOk w v x) : azRun w v x = .ok (.slice (azA w v x) (azN w v x) (azC w v x)) (azW w v x) := by
  obtain ⟨a, n, c, w', h⟩ := h
  unfold azA azN azC azW
  rw [h]

theorem az_rule {w : World} {a : Act} {d : Option Tmp} {s t : Nat} {pos : String} {af : Array Edge} {g : Option (Nat × Bool)} (h : AzOk w (a.eval (.tmp s)) (a.eval (.tmp t))) :
    (execOp a.eval ⟨d, .call { callee := .builtin .append, args := #[.tmp s, .tmp t], argTypes := #[44, 3] }, 44, pos, af, g⟩).run Tryz.prog w =
      .ok (.value (.slice (azA w (a.eval (.tmp s)) (a.eval (.tmp t))) (azN w (a.eval (.tmp s)) (a.eval (.tmp t))) (azC w (a.eval (.tmp s)) (a.eval (.tmp t))))) (azW w (a.eval (.tmp s)) (a.eval (.tmp t))) := by
  have hr := azOk_run h
  unfold azRun at hr
  unfold execOp
  simp only [resolve, invoke, builtin, Sem.run_bind, Sem.run_pure, Result.andThen_ok, List.map_toArray, List.map_cons, List.map_nil, hr]

theorem az_known {w : World} (base : Nat) (v : Value) (n : Nat) (xs : List Value) (hown : w.ownsRow base 5 1 v n xs) (k : Nat) (hk : 0 < k) (hn : n + k ≤ 70000000000) (hbase : base ≤ w.heap.size) :
    AzOk w v (.int .i64 k) ∧ azN w v (.int .i64 k) = n + k ∧ (azW w v (.int .i64 k)).ownsRow base 5 1 (.slice (azA w v (.int .i64 k)) (n + k) (azC w v (.int .i64 k))) (n + k) (xs ++ List.replicate k (.int .u8 0)) ∧ w.grownBy (azW w v (.int .i64 k)) v.ownBlock ∧
      ((Value.slice (azA w v (.int .i64 k)) (n + k) (azC w v (.int .i64 k))).ownBlock = v.ownBlock ∨ ∃ g, (Value.slice (azA w v (.int .i64 k)) (n + k) (azC w v (.int .i64 k))).ownBlock = some g ∧ w.heap.size ≤ g) := by
  obtain ⟨v', w', h1, h2, h3, h4⟩ := run_append_zeros base v n xs hown k hk hn hbase
  obtain ⟨a, c, rfl⟩ := owns_form h2
  have hr : azRun w v (.int .i64 k) = .ok (.slice a (n + k) c) w' := h1
  have e1 : azA w v (.int .i64 k) = a := by unfold azA; rw [hr]
  have e2 : azN w v (.int .i64 k) = n + k := by unfold azN; rw [hr]
  have e3 : azC w v (.int .i64 k) = c := by unfold azC; rw [hr]
  have e4 : azW w v (.int .i64 k) = w' := by unfold azW; rw [hr]
  rw [e1, e2, e3, e4]
  exact ⟨⟨a, _, c, w', hr⟩, rfl, h2, h3, h4⟩
end Go.Proofs.YtiejfbkbjahcgaaGreatDoor
