/-
  A store into a map of names, and a name taken away: the laws at the operations.
-/
import Derived.Test.YtiejfbkbjahcgaaGreatDoorAppend
namespace Go.Proofs.YtiejfbkbjahcgaaGreatDoor
open Go Go.RowKit

theorem Kept.setHeap (w : World) (mb : Nat) (o : Obj) : Kept (fun b => b = mb) w { w with heap := w.heap.setIfInBounds mb o } :=
  ⟨rfl, rfl, rfl, by simp, fun k _ hk => by
    show (w.heap.setIfInBounds mb o)[k]? = w.heap[k]?
    rw [Array.getElem?_setIfInBounds, if_neg (fun e => hk e.symm)]⟩

theorem heap_setHeap {w : World} {mb : Nat} (h : mb < w.heap.size) (o : Obj) : ({ w with heap := w.heap.setIfInBounds mb o } : World).heap[mb]? = some o := by
  show (w.heap.setIfInBounds mb o)[mb]? = some o
  simp [h]

theorem look_none_idx {names : List (ByteArray × Nat)} {s : ByteArray} (h : look names s = none) : names.findIdx? (fun p => s == p.1) = none := by
  rw [look_idx] at h
  cases hj : names.findIdx? (fun p => s == p.1) with
  | none => rfl
  | some j => rw [hj] at h; cases h

theorem look_none_mem {names : List (ByteArray × Nat)} {s : ByteArray} (h : look names s = none) : ∀ p ∈ names, p.1 ≠ s := by
  intro p hp he
  unfold look at h
  rw [Option.map_eq_none_iff, List.find?_eq_none] at h
  exact h p hp (by rw [he]; exact (MapKept.bytes_beq s s).2 rfl)
theorem names_fresh {es : Array MapEntry} {names : List (ByteArray × Nat)} {s : ByteArray} (he : es.toList.map (fun e => (e.key, e.val)) = names.map (fun p => (Value.string p.1, Value.pointer (some ⟨p.2, 0, none⟩)))) (h : look names s = none) :
    ∀ x ∈ es.toList, x.key ≠ .string s := by
  intro x hx hk
  have h1 : (x.key, x.val) ∈ es.toList.map (fun e => (e.key, e.val)) := List.mem_map.2 ⟨x, hx, rfl⟩
  rw [he] at h1
  obtain ⟨p, hp, h2⟩ := List.mem_map.1 h1
  simp only [Prod.mk.injEq] at h2
  rw [hk] at h2
  exact look_none_mem h p hp (by simpa using h2.1)

theorem run_update_names {w : World} {mb : Nat} {names : List (ByteArray × Nat)} (h : MapAt w mb names) (s : ByteArray) (hnew : look names s = none) (k : Nat) :
    ∃ w', (Instr.mapUpdate 130 (.map (some mb)) (.string s) (.pointer (some ⟨k, 0, none⟩))).run Tryz.prog w = .ok () w' ∧ MapAt w' mb (names ++ [(s, k)]) ∧ Kept (fun b => b = mb) w w' := by
  obtain ⟨es, clock, hb, he, hsd⟩ := h
  have hm : Tryz.prog.underlying 130 = some (.map 9 128) := Tryz.underlying130
  have hs : Tryz.prog.underlying 9 = some .string := Tryz.underlying9
  have hf := findNow_names s es.toList names 0 he
  rw [look_none_idx hnew] at hf
  have hg : (getObj mb).run Tryz.prog w = .ok (.map es clock) w := MapKept.run_getObj_map hb
  have hc := checkKey_str hs false 9999 s w
  have hst := MapKept.run_setObj_map (P := Tryz.prog) (Obj.map (es.push { key := .string s, val := .pointer (some ⟨k, 0, none⟩), born := clock }) (clock + 1)) hb
  refine ⟨{ w with heap := w.heap.setIfInBounds mb (Obj.map (es.push { key := .string s, val := .pointer (some ⟨k, 0, none⟩), born := clock }) (clock + 1)) }, ?_, ?_, Kept.setHeap w mb _⟩
  · simp [Instr.mapUpdate, run_underlying hm, hg, hc, Instr.findKey, run_underlying hs, hf, hst, Result.andThen]
  · exact ⟨_, _, heap_setHeap (lt_of_heap hb) _, by simp [he], MapKept.stamped_push hsd (names_fresh he hnew)⟩

theorem wpList_mapUpdate_names (w : World) {ops : Array Oper} {rest : List Oper} {o : Oper} {a : Act} {Q : Exit → Act → World → Prop} (hg : o.guard = none) (m x v : Operand) (hop : o.op = Op.mapUpdate 130 m x v)
    (mb : Nat) (names : List (ByteArray × Nat)) (s : ByteArray) (k : Nat) (hm : a.eval m = .map (some mb)) (hx : a.eval x = .string s) (hv : a.eval v = .pointer (some ⟨k, 0, none⟩)) (hmap : MapAt w mb names) (hnew : look names s = none)
    (hK : ∀ w', MapAt w' mb (names ++ [(s, k)]) → Kept (fun b => b = mb) w w' → wpList Tryz.prog ops Q rest (a.put o.dst undef) w') : wpList Tryz.prog ops Q (o :: rest) a w := by
  refine wpList_plain hg fun K' hK' => ?_
  obtain ⟨w', hrun, r1, r2⟩ := run_update_names hmap s hnew k
  unfold Oper.wp
  simp [execOp, hop, hm, hx, hv, hrun, Result.andThen]
  exact hK' _ _ (hK w' r1 r2)
end Go.Proofs.YtiejfbkbjahcgaaGreatDoor
