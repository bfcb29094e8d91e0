/-
  A kern's Used: the descriptors in use.
-/
import Derived.Test.YtiejfbkbjahcgaaGreatDoorKernThree
namespace Go.Proofs.YtiejfbkbjahcgaaGreatDoor
open Go Go.RowKit

def usedTo (fds : Nat → Option End) (k : Nat) : List Nat := (List.range k).filter fun j => (fds j).isSome
def ints (l : List Nat) : List Value := l.map fun (n : Nat) => Value.int .i64 n

theorem usedTo_next (fds : Nat → Option End) (k : Nat) : usedTo fds (k + 1) = if (fds k).isSome then usedTo fds k ++ [k] else usedTo fds k := by
  unfold usedTo
  rw [List.range_succ, List.filter_append]
  split <;> rename_i h <;> simp [h]
theorem usedTo_len (fds : Nat → Option End) (k : Nat) : (usedTo fds k).length ≤ k := by
  unfold usedTo
  have := List.length_filter_le (fun j => (fds j).isSome) (List.range k)
  simpa using this

/-- What Used leaves. -/
def UsedOk (w : World) (l : List Nat) (e : Ending) (w' : World) : Prop :=
  ∃ v, e = .returned v ∧ w'.ownsRow w.heap.size 3 1 v l.length (ints l) ∧ Below w.heap.size w w'

theorem infoInt : (Tryz.prog.info? 3).map (fun i => (i.zero, i.size, i.bytes)) = some (some (.int .i64 0), 1, 8) := by kernel_rfl

set_option maxRecDepth 100000 in
set_option maxHeartbeats 2000000 in
theorem kern_Used {w : World} {kb tb : Nat} {fds : Nat → Option End} {ob eb : Nat} (h : KAt w kb tb fds ob eb) :
    Calls Tryz.prog 58 #[.pointer (some ⟨kb, 0, none⟩)] w fun e w' => UsedOk w (usedTo fds 16) e w' := by
  have H : Hid (KAt w kb tb fds ob eb) := h
  clear h
  obtain ⟨i0, hi9, hz0, hz1, hz2⟩ := info_parts infoInt
  go_enter Tryz.func58, Tryz.ntmps58
  go_wp2_with fail
  go_loopw [3, 7] (fun out idx wr => ∃ k : Nat, k ≤ 16 ∧ idx = .int .i64 k ∧ Hid (wr.ownsRow w.heap.size 3 1 out (usedTo fds k).length (ints (usedTo fds k))) ∧ Hid (Below w.heap.size w wr)) (fun _ idx _ => 16 - (intOf idx).toNat)
  case atStart => exact ⟨0, by omega, rfl, World.ownsRow_nil _ _ _ _, Below.refl _ _⟩
  case round =>
    obtain ⟨k, hk, rfl, hown, hb⟩ := hrel
    by_cases hlt : k < 16
    · have hcell : wr.cell? ⟨kb, 1 + k, none⟩ = some (endV (fds k)) := (hb.out.cell (p := ⟨kb, 1 + k, none⟩) H.out.lt).trans (H.out.fd k hlt)
      have hlen : (usedTo fds k).length ≤ 16 := Nat.le_trans (usedTo_len fds k) hk
      have hki : (k : Int) < 16 := by omega
      cases hfd : fds k with
      | none =>
        have HT : Hid (usedTo fds (k + 1) = usedTo fds k) := by show _ = _; rw [usedTo_next, hfd]; rfl
        rw [hfd] at hcell
        simp only [endV] at hcell
        clear hfd
        go_wp2_with fail
        go_roundw
        case rel => exact ⟨k + 1, by omega, by go_num, by show wr.ownsRow _ _ _ _ _ _; rw [HT.out]; exact hown.out, hb.out⟩
        case measure => simp [intOf]; omega
      | some e =>
        have HT : Hid (usedTo fds (k + 1) = usedTo fds k ++ [k]) := by show _ = _; rw [usedTo_next, hfd]; rfl
        rw [hfd] at hcell
        clear hfd
        cases e with
        | inp b =>
          simp only [endV] at hcell
          go_wp2_with (at_builtin; refine wpList_append_own _ rfl _ _ 104 rfl w.heap.size 3 i0 (.int .i64 0) 1 8 Tryz.underlying104 hi9 hz0 hz1 hz2 rfl (by decide) _ _ _ rfl (hown.out.alloc _) ⟨wr.heap.size, 0, none⟩ 1 1 [.int .i64 k] rfl rfl ?c1 ?c2 ?c3 ?c4 ?c5 ?_)
          case c1 =>
            intro j u hu
            cases j with
            | zero => simp at hu; subst hu; simp [Addr.add]
            | succ j => simp at hu
          case c2 => intro u hu; simp at hu; subst hu; rfl
          case c3 => unfold maxLen; omega
          case c4 => omega
          case c5 => have := hb.out.size; simp; omega
          intro v' w2 hown2 hgrow _
          have HO : Hid (w2.ownsRow w.heap.size 3 1 v' ((usedTo fds k).length + 1) (ints (usedTo fds k) ++ [.int .i64 k])) := hown2
          have HN : Hid (Below w.heap.size w w2) := (hb.out.alloc hb.out.size _).grown hgrow (by have := hb.out.size; simp; omega) (fun q hq => (hown.out.lt q hq).1)
          clear hown2 hgrow
          go_wp2_with fail
          go_roundw
          case rel =>
            refine ⟨k + 1, by omega, by go_num, ?_, HN.out⟩
            show w2.ownsRow _ _ _ _ _ _
            rw [HT.out, List.length_append, ints, List.map_append]
            exact HO.out
          case measure => simp [intOf]; omega
        | out b =>
          simp only [endV] at hcell
          go_wp2_with (at_builtin; refine wpList_append_own _ rfl _ _ 104 rfl w.heap.size 3 i0 (.int .i64 0) 1 8 Tryz.underlying104 hi9 hz0 hz1 hz2 rfl (by decide) _ _ _ rfl (hown.out.alloc _) ⟨wr.heap.size, 0, none⟩ 1 1 [.int .i64 k] rfl rfl ?c1 ?c2 ?c3 ?c4 ?c5 ?_)
          case c1 =>
            intro j u hu
            cases j with
            | zero => simp at hu; subst hu; simp [Addr.add]
            | succ j => simp at hu
          case c2 => intro u hu; simp at hu; subst hu; rfl
          case c3 => unfold maxLen; omega
          case c4 => omega
          case c5 => have := hb.out.size; simp; omega
          intro v' w2 hown2 hgrow _
          have HO : Hid (w2.ownsRow w.heap.size 3 1 v' ((usedTo fds k).length + 1) (ints (usedTo fds k) ++ [.int .i64 k])) := hown2
          have HN : Hid (Below w.heap.size w w2) := (hb.out.alloc hb.out.size _).grown hgrow (by have := hb.out.size; simp; omega) (fun q hq => (hown.out.lt q hq).1)
          clear hown2 hgrow
          go_wp2_with fail
          go_roundw
          case rel =>
            refine ⟨k + 1, by omega, by go_num, ?_, HN.out⟩
            show w2.ownsRow _ _ _ _ _ _
            rw [HT.out, List.length_append, ints, List.map_append]
            exact HO.out
          case measure => simp [intOf]; omega
        | file b =>
          simp only [endV] at hcell
          go_wp2_with (at_builtin; refine wpList_append_own _ rfl _ _ 104 rfl w.heap.size 3 i0 (.int .i64 0) 1 8 Tryz.underlying104 hi9 hz0 hz1 hz2 rfl (by decide) _ _ _ rfl (hown.out.alloc _) ⟨wr.heap.size, 0, none⟩ 1 1 [.int .i64 k] rfl rfl ?c1 ?c2 ?c3 ?c4 ?c5 ?_)
          case c1 =>
            intro j u hu
            cases j with
            | zero => simp at hu; subst hu; simp [Addr.add]
            | succ j => simp at hu
          case c2 => intro u hu; simp at hu; subst hu; rfl
          case c3 => unfold maxLen; omega
          case c4 => omega
          case c5 => have := hb.out.size; simp; omega
          intro v' w2 hown2 hgrow _
          have HO : Hid (w2.ownsRow w.heap.size 3 1 v' ((usedTo fds k).length + 1) (ints (usedTo fds k) ++ [.int .i64 k])) := hown2
          have HN : Hid (Below w.heap.size w w2) := (hb.out.alloc hb.out.size _).grown hgrow (by have := hb.out.size; simp; omega) (fun q hq => (hown.out.lt q hq).1)
          clear hown2 hgrow
          go_wp2_with fail
          go_roundw
          case rel =>
            refine ⟨k + 1, by omega, by go_num, ?_, HN.out⟩
            show w2.ownsRow _ _ _ _ _ _
            rw [HT.out, List.length_append, ints, List.map_append]
            exact HO.out
          case measure => simp [intOf]; omega
    · obtain rfl : k = 16 := by omega
      go_wp2_with fail
      go_ret
      exact ⟨_, rfl, hown.out, hb.out⟩
end Go.Proofs.YtiejfbkbjahcgaaGreatDoor
