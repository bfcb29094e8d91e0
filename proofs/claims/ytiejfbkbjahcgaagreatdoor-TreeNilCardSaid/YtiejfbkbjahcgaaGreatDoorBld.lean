/-
  A strings.Builder: what is written to it.
-/
import Derived.Test.YtiejfbkbjahcgaaGreatDoorStr
import Derived.Lib.Builder
import Derived.Lib.AppendStr
import Derived.Lib.OthersKept
import Derived.Lib.Hide
namespace Go.Proofs.YtiejfbkbjahcgaaGreatDoor
open Go Go.RowKit

theorem byteCells_u8s (l : List UInt8) : Lib.byteCells l = u8s l := rfl
theorem strCells_u8s (s : ByteArray) : Lib.strCells s = u8s s.data.toList := rfl

/-- A builder in block b that holds l; its row lies from B on. -/
abbrev Bld (B b : Nat) (l : List UInt8) (w : World) : Prop := Lib.IsBuilder 126 5 B b (u8s l) w

/-- What a write to a builder leaves. -/
def BWPost (B b : Nat) (l : List UInt8) (n : Nat) (w : World) (e : Ending) (w' : World) : Prop :=
  e = .returned (.tuple #[.int .i64 n, .nilIface]) ∧ Bld B b l w' ∧ Below B w w' ∧ Lib.OthersKept 5 (some b) w w'

theorem bld_parts {B b : Nat} {l : List UInt8} {w : World} (h : Bld B b l w) : B ≤ b ∧ ∃ p v, (p = .pointer none ∨ p = .pointer (some ⟨b, 0, none⟩)) ∧ w.heap[b]? = some (.cells #[p, v] 126 (0, 0)) ∧ w.ownsRow B 5 1 v l.length (u8s l) ∧ v.ownBlock ≠ some b := by
  rcases h with ⟨h1, v, h2, h3, h4⟩ | ⟨h1, v, h2, h3, h4⟩
  · exact ⟨h1, _, v, .inl rfl, h2, by rw [u8s_length] at h3; exact h3, h4⟩
  · exact ⟨h1, _, v, .inr rfl, h2, by rw [u8s_length] at h3; exact h3, h4⟩

theorem row_cells' {w : World} {base n : Nat} {e : TypeId} {size : Nat} {v : Value} {xs : List Value} (h : w.ownsRow base e size v n xs) {r : Nat} (hr : v.ownBlock = some r) : ∃ c, w.heap[r]? = some (.cells c e (0, 0)) := by
  rcases h.2 with ⟨rfl, _⟩ | ⟨g, cap, cur, rfl, _, h1, _⟩
  · cases hr
  · simp only [Value.ownBlock, Option.some.injEq] at hr
    subst hr
    exact ⟨cur, h1⟩

theorem others_set (w : World) (b o : Nat) (x : Value) (e : TypeId) : Lib.OthersKept e (some b) w (w.setCell ⟨b, o, none⟩ x) := fun k ob hk hne _ => by
  rw [heap_set_other _ _ _ (fun he => hne (by rw [he]))]
  exact hk

theorem Tryz.sizeBuilder : (Tryz.prog.info? 126).map (·.size) = some 2 := by kernel_rfl
theorem Tryz.liesBuilder : liesAt Tryz.prog Tryz.prog.depth 126 (2 / Tryz.prog.cellsOf 126) 0 126 1 = true := by kernel_rfl

set_option maxHeartbeats 1000000 in
set_option maxRecDepth 100000 in
theorem copyCheck_used (b : Nat) (w : World) (h0 : w.cell? ⟨b, 0, none⟩ = some (.pointer (some ⟨b, 0, none⟩))) :
    Calls Tryz.prog 105 #[.pointer (some ⟨b, 0, none⟩)] w fun e w' => e = .returned (.tuple #[]) ∧ w' = w := by
  obtain ⟨j, hj, _⟩ := Option.map_eq_some_iff.1 Tryz.sizeBuilder
  go_enter Tryz.func105, Tryz.ntmps105
  go_wp2
  rw [Lib.run_neq_ptr_same w _ Tryz.underlying124 hj]
  go_wp2
  go_end0
  exact ⟨rfl, rfl⟩

set_option maxHeartbeats 1000000 in
set_option maxRecDepth 100000 in
theorem copyCheck_fresh (b : Nat) (w : World) (h0 : w.cell? ⟨b, 0, none⟩ = some (.pointer none)) (hsh : w.shape? b = some (126, 2)) (hfz : w.frozen? ⟨b, 0, none⟩ = false) :
    Calls Tryz.prog 105 #[.pointer (some ⟨b, 0, none⟩)] w fun e w' => e = .returned (.tuple #[]) ∧ w' = w.setCell ⟨b, 0, none⟩ (.pointer (some ⟨b, 0, none⟩)) := by
  obtain ⟨j, hj, hjs⟩ := Option.map_eq_some_iff.1 Tryz.sizeBuilder
  go_enter Tryz.func105, Tryz.ntmps105
  go_wp2
  rw [Lib.run_to_unsafe w ⟨b, 0, none⟩ Tryz.underlying124 Tryz.underlying214 hj (by rw [hjs]; decide) hsh (Nat.zero_lt_succ 1)]
  simp only [Result.andThen]
  rw [Oper.upon_value]
  go_wp2
  rw [run_callFunc_extern Tryz.func132 (by kernel_rfl) (by kernel_rfl) (by kernel_rfl) (e := Extern.AbiNoEscape.same) (by kernel_rfl)]
  rw [Lib.run_noEscape]
  simp only [Result.andThen]
  rw [Oper.upon_value]
  go_wp2
  rw [Lib.run_from_unsafe w ⟨b, 0, none⟩ Tryz.underlying214 Tryz.underlying124 hj hsh Tryz.liesBuilder]
  simp only [Result.andThen]
  rw [Oper.upon_value]
  go_wp2
  go_end0
  exact ⟨rfl, rfl⟩

/-- What copyCheck leaves. -/
def CCPost (w : World) (b : Nat) (v : Value) (e : Ending) (w' : World) : Prop :=
  e = .returned (.tuple #[]) ∧ w'.heap[b]? = some (.cells #[.pointer (some ⟨b, 0, none⟩), v] 126 (0, 0)) ∧ Kept (fun x => x = b) w w'

theorem copyCheck_ok {b : Nat} {p v : Value} (hp : p = .pointer none ∨ p = .pointer (some ⟨b, 0, none⟩)) (w : World) (h : w.heap[b]? = some (.cells #[p, v] 126 (0, 0))) :
    Calls Tryz.prog 105 #[.pointer (some ⟨b, 0, none⟩)] w fun e w' => CCPost w b v e w' := by
  rcases hp with rfl | rfl
  · refine (copyCheck_fresh b w (cell_of h rfl) (by simp [World.shape?, h]) (free_of h 0)).mono ?_
    rintro e w' ⟨rfl, rfl⟩
    exact ⟨rfl, heap_set_same h 0 _, (Kept.refl (fun x => x = b) _).setCell (p := ⟨b, 0, none⟩) (.inl rfl) _⟩
  · refine (copyCheck_used b w (cell_of h rfl)).mono ?_
    rintro e w' ⟨rfl, rfl⟩
    exact ⟨rfl, h, Kept.refl _ _⟩

theorem others_of_kept {w w' : World} {b : Nat} {e : TypeId} (k : Kept (fun x => x = b) w w') : Lib.OthersKept e (some b) w w' := fun x o hx hne _ =>
  (k.block x (lt_of_heap hx) (fun he => hne (by rw [he]))).trans hx

set_option maxHeartbeats 1000000 in
set_option maxRecDepth 100000 in
theorem writeString_ok {B b : Nat} {l : List UInt8} (s : ByteArray) (w : World) (h : Bld B b l w) (hlen : l.length + s.size ≤ 140737488355328) (hB : B ≤ w.heap.size) :
    Calls Tryz.prog 68 #[.pointer (some ⟨b, 0, none⟩), .string s] w fun e w' => BWPost B b (l ++ s.data.toList) s.size w e w' := by
  obtain ⟨hBb, p, v, hp, h0, hrow, hne⟩ := bld_parts h
  have HCC := Lib.hid (copyCheck_ok hp w h0)
  obtain ⟨i0, hi, hz0, hz1, hz2⟩ := info_parts infoU8
  have HROW := Lib.hid hrow
  have HNE := Lib.hid hne
  have H0 := Lib.hid h0
  obtain ⟨va, vc, hv⟩ := owns_form hrow
  subst hv
  clear h h0 hp hrow hne
  go_enter Tryz.func68, Tryz.ntmps68
  go_wp2_with fail
  refine HCC.out.mono ?_
  rintro e w1 ⟨rfl, h1, k1⟩
  have H1 := Lib.hid h1
  have K1 := Lib.hid k1
  have R1 := Lib.hid (ownsRow_kept HROW.out k1 (fun r hr he => HNE.out (by rw [hr, he])))
  have c1 := cell_of (o := 1) h1 rfl
  have hs1 : B ≤ w1.heap.size := Nat.le_trans hB k1.size
  clear h1 k1 HCC
  go_wp2_with (at_builtin; refine Lib.wpList_append_own_string _ rfl _ _ 44 9 rfl B 5 i0 Tryz.underlying44 Tryz.underlying9 hi hz0 hz1 hz2 _ _ _ rfl R1.out s rfl (by unfold maxLen; omega) (by omega) hs1 ?_)
  intro v2 w2 hown hgrow _
  obtain ⟨va2, vc2, rfl⟩ := owns_form hown
  have H2 : Hid (w2.heap[b]? = some (.cells #[.pointer (some ⟨b, 0, none⟩), .slice va l.length vc] 126 (0, 0))) := (hgrow.block b (lt_of_heap H1.out) (fun e => HNE.out e.symm)).trans H1.out
  have d1 := cell_of (o := 1) H2.out rfl
  have f1 := free_of H2.out 1
  have HFIN : Hid (BWPost B b (l ++ s.data.toList) s.size w (.returned (.tuple #[.int .i64 s.size, .nilIface])) (w2.setCell ⟨b, 1, none⟩ (.slice va2 (l.length + s.size) vc2))) := by
    have hnb : ∀ r, (Value.slice va2 (l.length + s.size) vc2).ownBlock = some r → r ≠ b := fun r hr => by
      obtain ⟨c, hc⟩ := row_cells' hown hr
      exact cells_ne_type hc H2.out (by decide)
    refine ⟨rfl, .inr ⟨hBb, _, heap_set_same H2.out 1 _, ?_, fun he => hnb b he rfl⟩, ?_, ?_⟩
    · have hl : (u8s (l ++ s.data.toList)).length = l.length + s.size := by rw [u8s_length, List.length_append]; rfl
      rw [hl, u8s_append]
      exact ownsRow_kept hown (Kept.setCell (F := fun x => x = b) (Kept.refl _ _) (.inl rfl) _) (fun r hr he => hnb r hr he)
    · have q1 : Below B w w1 := K1.out.below (fun x hx => by omega) hB
      have q2 : Below B w w2 := q1.grown hgrow hs1 (fun r hr => (R1.out.lt r hr).1)
      exact q2.trans ((Kept.setCell (F := fun x => x = b) (Kept.refl _ w2) (p := ⟨b, 1, none⟩) (.inl rfl) _).below (fun x hx => by omega) (Nat.le_trans hs1 hgrow.size))
    · refine ((others_of_kept K1.out).trans (fun x o hx hne' hk => ?_)).trans (others_set _ _ _ _ _)
      refine (hgrow.block x (lt_of_heap hx) (fun he => ?_)).trans hx
      obtain ⟨c, hc⟩ := row_cells' R1.out he.symm
      rw [hx] at hc
      exact hk _ _ (Option.some.inj hc)
  clear hown hgrow
  go_wp2_with fail
  go_ret2
  exact HFIN.out

/-- A builder that was just made. -/
theorem bld_new (w : World) : Bld w.heap.size w.heap.size [] (w.alloc (.cells #[.pointer none, .slice none 0 0] 126)) := Lib.fresh_isBuilder _ _ w

theorem bld_others {B b : Nat} {l : List UInt8} {w w' : World} (h : Bld B b l w) (k : Below w.heap.size w w') : Bld B b l w' := by
  obtain ⟨hBb, p, v, hp, h0, hrow, hne⟩ := bld_parts h
  have h1 := below_heap k (lt_of_heap h0) h0
  have h2 := ownsRow_kept hrow (Kept.of_below k (fun _ => False)) (fun _ _ h => h)
  rcases hp with rfl | rfl
  · exact .inl ⟨hBb, v, h1, by rw [u8s_length]; exact h2, hne⟩
  · exact .inr ⟨hBb, v, h1, by rw [u8s_length]; exact h2, hne⟩
end Go.Proofs.YtiejfbkbjahcgaaGreatDoor
