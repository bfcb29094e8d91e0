/-
 The document's kern: its descriptors; used, free, Used.
 The document's kern: Dup, Close, Move.
 The document's openings: Opened.
 The document's kern: Open.
 The document's kern: Get, Read.
 The document's kern: Read; Put.
-/
import Derived.Test.YteeeaeiafdgpkaaGreatDoorRefB
import Derived.Test.YteeeaeiafdgpkaaGreatDoorKernA
import Derived.Deep.RegionHeld3
import Derived.Test.YteeeaeiafdgpkaaGreatDoorRefC
import Derived.Test.YteeeaeiafdgpkaaGreatDoorRAt
import Derived.Test.YteeeaeiafdgpkaaGreatDoorArgO
namespace Go.Proofs.YteeeaeiafdgpkaaGreatDoor
open Go Go.RowKit
open Go.Lib (hid)
section
structure RKAt (w : World) (kb rt : Nat) (fds : Nat → Option Nat) (c0 c1 : Nat) : Prop where
 cells : ∃ c : Array Value, w.heap[kb]? = some (.cells c 47 (0, 0)) ∧ c.size = 19 ∧ c[0]? = some (ptrV (some rt)) ∧ (∀ j, j < 16 → c[1 + j]? = some (ptrV (fds j))) ∧ c[17]? = some (ptrV (some c0)) ∧ c[18]? = some (ptrV (some c1))
theorem RKAt.kept {w w' : World} {kb rt : Nat} {fds : Nat → Option Nat} {c0 c1 : Nat} {F : Nat → Prop} (h : RKAt w kb rt fds c0 c1) (k : Kept F w w') (hF : ¬ F kb) : RKAt w' kb rt fds c0 c1 := by
 obtain ⟨c, h1, r⟩ := h.cells
 exact ⟨⟨c, (k.block kb (zab h1) hF).trans h1, r⟩⟩
theorem RKAt.below {w w' : World} {kb rt : Nat} {fds : Nat → Option Nat} {c0 c1 : Nat} (h : RKAt w kb rt fds c0 c1) (k : Below w.heap.size w w') : RKAt w' kb rt fds c0 c1 := h.kept (Kept.of_below k (fun _ => False)) (fun h => h)
theorem RKAt.fd {w : World} {kb rt : Nat} {fds : Nat → Option Nat} {c0 c1 : Nat} (h : RKAt w kb rt fds c0 c1) (j : Nat) (hj : j < 16) : w.cell? ⟨kb, 1 + j, none⟩ = some (ptrV (fds j)) := by
 obtain ⟨c, h1, _, _, h2, _⟩ := h.cells
 exact zaa h1 (h2 j hj)
theorem RKAt.tree {w : World} {kb rt : Nat} {fds : Nat → Option Nat} {c0 c1 : Nat} (h : RKAt w kb rt fds c0 c1) : w.cell? ⟨kb, 0, none⟩ = some (.pointer (some ⟨rt, 0, none⟩)) := by
 obtain ⟨c, h1, _, h2, _⟩ := h.cells
 exact zaa h1 h2
theorem RKAt.free {w : World} {kb rt : Nat} {fds : Nat → Option Nat} {c0 c1 : Nat} (h : RKAt w kb rt fds c0 c1) (o : Nat) : w.frozen? ⟨kb, o, none⟩ = false := by
 obtain ⟨c, h1, _⟩ := h.cells
 exact zah h1 o
theorem RKAt.lt {w : World} {kb rt : Nat} {fds : Nat → Option Nat} {c0 c1 : Nat} (h : RKAt w kb rt fds c0 c1) : kb < w.heap.size := by
 obtain ⟨c, h1, _⟩ := h.cells
 exact zab h1
def za6 (fds : Nat → Option Nat) (j : Nat) (e : Option Nat) : Nat → Option Nat := fun i => if i = j then e else fds i
theorem RKAt.set {w : World} {kb rt : Nat} {fds : Nat → Option Nat} {c0 c1 : Nat} (h : RKAt w kb rt fds c0 c1) (j : Nat) (hj : j < 16) (e : Option Nat) : RKAt (w.setCell ⟨kb, 1 + j, none⟩ (ptrV e)) kb rt (za6 fds j e) c0 c1 := by
 obtain ⟨c, h1, h2, h3, h4, h5, h6⟩ := h.cells
 refine ⟨⟨c.setIfInBounds (1 + j) (ptrV e), zaj h1 _ _, by simp [h2], ?_, fun i hi => ?_, ?_, ?_⟩⟩
 ·rw [Array.getElem?_setIfInBounds, if_neg (by omega)]; exact h3
 ·rw [Array.getElem?_setIfInBounds]
  unfold za6
  by_cases hij : i = j
  ·subst hij
   rw [if_pos rfl, if_pos (by omega), if_pos rfl]
  ·rw [if_neg (by omega), if_neg hij]
   exact h4 i hi
 ·rw [Array.getElem?_setIfInBounds, if_neg (by omega)]; exact h5
 ·rw [Array.getElem?_setIfInBounds, if_neg (by omega)]; exact h6
def fdsV (fds : Nat → Option Nat) : Array Value := #[ptrV (fds 0), ptrV (fds 1), ptrV (fds 2), ptrV (fds 3), ptrV (fds 4), ptrV (fds 5), ptrV (fds 6), ptrV (fds 7), ptrV (fds 8), ptrV (fds 9), ptrV (fds 10), ptrV (fds 11), ptrV (fds 12), ptrV (fds 13), ptrV (fds 14), ptrV (fds 15)]
theorem zfj (fds : Nat → Option Nat) (W : World) : ∀ k : Nat, k < 16 → (Instr.index 44 (.agg (fdsV fds)) (.int .i64 k)).run Tryz.prog W = .ok (ptrV (fds k)) W
 | 0, _ | 1, _ | 2, _ | 3, _ | 4, _ | 5, _ | 6, _ | 7, _ | 8, _ | 9, _ | 10, _ | 11, _ | 12, _ | 13, _ | 14, _ | 15, _ => by unfold fdsV; kernel_rfl
 | k + 16, h => by omega
theorem run_neq_ptr (o : Option Nat) (W : World) : (binOp .neq 43 (ptrV o) (.pointer none)).run Tryz.prog W = .ok (.bool o.isSome) W := by
 cases o with
 | none => kernel_rfl
 | some b => kernel_rfl
theorem run_eql_ptr (o : Option Nat) (W : World) : (binOp .eql 43 (ptrV o) (.pointer none)).run Tryz.prog W = .ok (.bool o.isNone) W := by
 cases o with
 | none => kernel_rfl
 | some b => kernel_rfl
theorem guard_neq_ptr (o : Option Nat) (x y : Operand) (W : World) : (eqGuard .neq 43 x y (ptrV o) (.pointer none)).run Tryz.prog W = .ok () W := by
 cases o with
 | none => kernel_rfl
 | some b => kernel_rfl
theorem guard_eql_ptr (o : Option Nat) (x y : Operand) (W : World) : (eqGuard .eql 43 x y (ptrV o) (.pointer none)).run Tryz.prog W = .ok () W := by
 cases o with
 | none => kernel_rfl
 | some b => kernel_rfl
def zbr (fds : Nat → Option Nat) (fd : Int) : Bool := decide (0 ≤ fd) && decide (fd < 16) && (fds fd.toNat).isSome
set_option maxRecDepth 100000 in
set_option maxHeartbeats 1000000 in
theorem zcu {w : World} {kb rt : Nat} {fds : Nat → Option Nat} {c0 c1 : Nat} (h : RKAt w kb rt fds c0 c1) (fd : Int) :
  Calls Tryz.prog 61 #[.pointer (some ⟨kb, 0, none⟩), .int .i64 fd] w fun e w' => e = .returned (.bool (zbr fds fd)) ∧ w' = w := by
 have H := hid h
 clear h
 by_cases h0 : fd < 0
 ·have hu : zbr fds fd = false := by unfold zbr; rw [decide_eq_false (by omega)]; rfl
  rw [hu]
  have h1 : ¬ 0 ≤ fd := by omega
  clear hu
  go_enter Tryz.func61, Tryz.ntmps61
  go_wp2_with fail
  go_ret
  exact ⟨rfl, rfl⟩
 ·obtain ⟨k, rfl⟩ : ∃ k : Nat, fd = k := ⟨fd.toNat, by omega⟩
  by_cases h16 : k < 16
  ·have hu : zbr fds (k : Int) = (fds k).isSome := by
    unfold zbr
    rw [decide_eq_true (by omega), decide_eq_true (by omega), Int.toNat_natCast]
    rfl
   rw [hu]
   have hc := H.out.fd k h16
   have hki : (k : Int) < 16 := by omega
   clear hu h0
   cases hf : fds k with
   | none =>
    rw [hf] at hc
    simp only [za0] at hc
    clear hf
    go_enter Tryz.func61, Tryz.ntmps61
    go_wp2_with fail
    go_ret
    exact ⟨rfl, rfl⟩
   | some o =>
    rw [hf] at hc
    simp only [zau] at hc
    clear hf
    go_enter Tryz.func61, Tryz.ntmps61
    go_wp2_with fail
    go_ret
    exact ⟨rfl, rfl⟩
  ·have hu : zbr fds (k : Int) = false := by unfold zbr; rw [decide_eq_false (p := (k : Int) < 16) (by omega)]; simp
   rw [hu]
   have hki : ¬ (k : Int) < 16 := by omega
   clear hu h0
   go_enter Tryz.func61, Tryz.ntmps61
   go_wp2_with fail
   go_ret
   exact ⟨rfl, rfl⟩
def uTo (p : Nat → Bool) (k : Nat) : List Nat := (List.range k).filter p
theorem uTo_next (p : Nat → Bool) (k : Nat) : uTo p (k + 1) = if p k then uTo p k ++ [k] else uTo p k := by
 unfold uTo
 rw [List.range_succ, List.filter_append]
 split <;> rename_i h <;> simp [h]
theorem uTo_len (p : Nat → Bool) (k : Nat) : (uTo p k).length ≤ k := by
 unfold uTo
 have := List.length_filter_le p (List.range k)
 simpa using this
def zeh (l : List Nat) : List Value := l.map fun (n : Nat) => Value.int .i64 n
def NumsOk (w : World) (l : List Nat) (e : Ending) (w' : World) : Prop :=
 ∃ v, e = .returned v ∧ w'.ownsRow w.heap.size 3 1 v l.length (zeh l) ∧ Below w.heap.size w w'
theorem infoNum : (Tryz.prog.info? 3).map (fun i => (i.zero, i.size, i.bytes)) = some (some (.int .i64 0), 1, 8) := by kernel_rfl
set_option maxRecDepth 100000 in
set_option maxHeartbeats 1000000 in
theorem rk_Used {w : World} {kb rt : Nat} {fds : Nat → Option Nat} {c0 c1 : Nat} (h : RKAt w kb rt fds c0 c1) :
  Calls Tryz.prog 19 #[.pointer (some ⟨kb, 0, none⟩)] w fun e w' => NumsOk w (uTo (fun j => (fds j).isSome) 16) e w' := by
 have H := hid h
 obtain ⟨i0, hi9, hz0, hz1, hz2⟩ := info_parts infoNum
 have q0 := h.fd 0 (by decide)
 have q1 := h.fd 1 (by decide)
 have q2 := h.fd 2 (by decide)
 have q3 := h.fd 3 (by decide)
 have q4 := h.fd 4 (by decide)
 have q5 := h.fd 5 (by decide)
 have q6 := h.fd 6 (by decide)
 have q7 := h.fd 7 (by decide)
 have q8 := h.fd 8 (by decide)
 have q9 := h.fd 9 (by decide)
 have q10 := h.fd 10 (by decide)
 have q11 := h.fd 11 (by decide)
 have q12 := h.fd 12 (by decide)
 have q13 := h.fd 13 (by decide)
 have q14 := h.fd 14 (by decide)
 have q15 := h.fd 15 (by decide)
 clear h
 go_enter Tryz.func19, Tryz.ntmps19
 go_wp2_with fail
 clear q0 q1 q2 q3 q4 q5 q6 q7 q8 q9 q10 q11 q12 q13 q14 q15
 go_loopw [3, 10] (fun out idx wr => ∃ k : Nat, k ≤ 16 ∧ idx = .int .i64 k ∧ Hid (wr.ownsRow w.heap.size 3 1 out (uTo (fun j => (fds j).isSome) k).length (zeh (uTo (fun j => (fds j).isSome) k))) ∧ Hid (Below w.heap.size w wr)) (fun _ idx _ => 16 - (intOf idx).toNat)
 case atStart => exact ⟨0, by omega, rfl, World.ownsRow_nil _ _ _ _, Below.refl _ _⟩
 case round =>
  obtain ⟨k, hk, rfl, hown, hb⟩ := hrel
  by_cases hlt : k < 16
  ·have hix := zfj fds wr k hlt
   unfold fdsV at hix
   have hne := run_neq_ptr (fds k) wr
   have hgd := fun x y => guard_neq_ptr (fds k) x y wr
   have hki : (k : Int) < 16 := by omega
   have hlen : (uTo (fun j => (fds j).isSome) k).length ≤ 16 := Nat.le_trans (uTo_len _ k) hk
   have HT : Hid (uTo (fun j => (fds j).isSome) (k + 1) = if (fds k).isSome then uTo (fun j => (fds j).isSome) k ++ [k] else uTo (fun j => (fds j).isSome) k) := uTo_next _ k
   cases hfd : (fds k).isSome with
   | false =>
    rw [hfd] at hne HT
    clear hfd
    go_wp2_with fail
    go_roundw
    case rel => exact ⟨k + 1, by omega, by go_num, by show wr.ownsRow _ _ _ _ _ _; rw [HT.out]; exact hown.out, hb.out⟩
    case measure => simp [intOf]; omega
   | true =>
    rw [hfd] at hne HT
    clear hfd
    go_wp2_with (at_builtin; refine wpList_append_own _ rfl _ _ 54 rfl w.heap.size 3 i0 (.int .i64 0) 1 8 Tryz.underlying54 hi9 hz0 hz1 hz2 rfl (by decide) _ _ _ rfl (hown.out.alloc _) ⟨wr.heap.size, 0, none⟩ 1 1 [.int .i64 k] rfl rfl ?h1 ?h2 ?h3 ?h4 ?h5 ?_)
    case h2 => rfl
    case h3 => unfold maxLen; omega
    case h4 => omega
    case h5 => have := hb.out.size; simp; omega
    intro v' w2 hown2 hgrow _
    have HO : Hid (w2.ownsRow w.heap.size 3 1 v' ((uTo (fun j => (fds j).isSome) k).length + 1) (zeh (uTo (fun j => (fds j).isSome) k) ++ [.int .i64 k])) := hown2
    have HN : Hid (Below w.heap.size w w2) := (hb.out.alloc hb.out.size _).grown hgrow (by have := hb.out.size; simp; omega) (fun q hq => (hown.out.lt q hq).1)
    clear hown2 hgrow
    go_wp2_with fail
    go_roundw
    case rel =>
     refine ⟨k + 1, by omega, by go_num, ?_, HN.out⟩
     show w2.ownsRow _ _ _ _ _ _
     rw [HT.out, if_pos trivial, List.length_append, zeh, List.map_append]
     exact HO.out
    case measure => simp [intOf]; omega
  ·obtain rfl : k = 16 := by omega
   go_wp2_with fail
   go_ret
   exact ⟨_, rfl, hown.out, hb.out⟩
set_option maxRecDepth 100000 in
set_option maxHeartbeats 1000000 in
theorem ze8 {w : World} {kb rt : Nat} {fds : Nat → Option Nat} {c0 c1 : Nat} (h : RKAt w kb rt fds c0 c1) :
  Calls Tryz.prog 58 #[.pointer (some ⟨kb, 0, none⟩)] w fun e w' => NumsOk w (uTo (fun j => (fds j).isNone) 16) e w' := by
 have H := hid h
 obtain ⟨i0, hi9, hz0, hz1, hz2⟩ := info_parts infoNum
 have q0 := h.fd 0 (by decide)
 have q1 := h.fd 1 (by decide)
 have q2 := h.fd 2 (by decide)
 have q3 := h.fd 3 (by decide)
 have q4 := h.fd 4 (by decide)
 have q5 := h.fd 5 (by decide)
 have q6 := h.fd 6 (by decide)
 have q7 := h.fd 7 (by decide)
 have q8 := h.fd 8 (by decide)
 have q9 := h.fd 9 (by decide)
 have q10 := h.fd 10 (by decide)
 have q11 := h.fd 11 (by decide)
 have q12 := h.fd 12 (by decide)
 have q13 := h.fd 13 (by decide)
 have q14 := h.fd 14 (by decide)
 have q15 := h.fd 15 (by decide)
 clear h
 go_enter Tryz.func58, Tryz.ntmps58
 go_wp2_with fail
 clear q0 q1 q2 q3 q4 q5 q6 q7 q8 q9 q10 q11 q12 q13 q14 q15
 go_loopw [3, 10] (fun out idx wr => ∃ k : Nat, k ≤ 16 ∧ idx = .int .i64 k ∧ Hid (wr.ownsRow w.heap.size 3 1 out (uTo (fun j => (fds j).isNone) k).length (zeh (uTo (fun j => (fds j).isNone) k))) ∧ Hid (Below w.heap.size w wr)) (fun _ idx _ => 16 - (intOf idx).toNat)
 case atStart => exact ⟨0, by omega, rfl, World.ownsRow_nil _ _ _ _, Below.refl _ _⟩
 case round =>
  obtain ⟨k, hk, rfl, hown, hb⟩ := hrel
  by_cases hlt : k < 16
  ·have hix := zfj fds wr k hlt
   unfold fdsV at hix
   have hne := run_eql_ptr (fds k) wr
   have hgd := fun x y => guard_eql_ptr (fds k) x y wr
   have hki : (k : Int) < 16 := by omega
   have hlen : (uTo (fun j => (fds j).isNone) k).length ≤ 16 := Nat.le_trans (uTo_len _ k) hk
   have HT : Hid (uTo (fun j => (fds j).isNone) (k + 1) = if (fds k).isNone then uTo (fun j => (fds j).isNone) k ++ [k] else uTo (fun j => (fds j).isNone) k) := uTo_next _ k
   cases hfd : (fds k).isNone with
   | false =>
    rw [hfd] at hne HT
    clear hfd
    go_wp2_with fail
    go_roundw
    case rel => exact ⟨k + 1, by omega, by go_num, by show wr.ownsRow _ _ _ _ _ _; rw [HT.out]; exact hown.out, hb.out⟩
    case measure => simp [intOf]; omega
   | true =>
    rw [hfd] at hne HT
    clear hfd
    go_wp2_with (at_builtin; refine wpList_append_own _ rfl _ _ 54 rfl w.heap.size 3 i0 (.int .i64 0) 1 8 Tryz.underlying54 hi9 hz0 hz1 hz2 rfl (by decide) _ _ _ rfl (hown.out.alloc _) ⟨wr.heap.size, 0, none⟩ 1 1 [.int .i64 k] rfl rfl ?h1 ?h2 ?h3 ?h4 ?h5 ?_)
    case h2 => rfl
    case h3 => unfold maxLen; omega
    case h4 => omega
    case h5 => have := hb.out.size; simp; omega
    intro v' w2 hown2 hgrow _
    have HO : Hid (w2.ownsRow w.heap.size 3 1 v' ((uTo (fun j => (fds j).isNone) k).length + 1) (zeh (uTo (fun j => (fds j).isNone) k) ++ [.int .i64 k])) := hown2
    have HN : Hid (Below w.heap.size w w2) := (hb.out.alloc hb.out.size _).grown hgrow (by have := hb.out.size; simp; omega) (fun q hq => (hown.out.lt q hq).1)
    clear hown2 hgrow
    go_wp2_with fail
    go_roundw
    case rel =>
     refine ⟨k + 1, by omega, by go_num, ?_, HN.out⟩
     show w2.ownsRow _ _ _ _ _ _
     rw [HT.out, if_pos trivial, List.length_append, zeh, List.map_append]
     exact HO.out
    case measure => simp [intOf]; omega
  ·obtain rfl : k = 16 := by omega
   go_wp2_with fail
   go_ret
   exact ⟨_, rfl, hown.out, hb.out⟩
end
section
def zd0 (fds : Nat → Option Nat) : List Nat := uTo (fun j => (fds j).isNone) 16
theorem frees_head {fds : Nat → Option Nat} {j : Nat} {r : List Nat} (h : zd0 fds = j :: r) : j < 16 ∧ fds j = none := by
 have hm : j ∈ zd0 fds := by rw [h]; simp
 unfold zd0 uTo at hm
 rw [List.mem_filter, List.mem_range] at hm
 exact ⟨hm.1, by simpa using hm.2⟩
theorem zer {fds : Nat → Option Nat} {fd : Int} (h : zbr fds fd = true) : ∃ k : Nat, fd = k ∧ k < 16 ∧ ∃ o, fds k = some o := by
 unfold zbr at h
 simp only [Bool.and_eq_true, decide_eq_true_eq, Option.isSome_iff_exists] at h
 obtain ⟨⟨h0, h1⟩, o, ho⟩ := h
 exact ⟨fd.toNat, by omega, by omega, o, ho⟩
theorem nums_first {w : World} {base : Nat} {v : Value} {j : Nat} {r : List Nat} (h : w.ownsRow base 3 1 v (j :: r).length (zeh (j :: r))) : ∃ g c, v = .slice (some ⟨g, 0, none⟩) (r.length + 1) c ∧ w.cell? ⟨g, 0, none⟩ = some (.int .i64 j) ∧ base ≤ g ∧ r.length + 1 ≤ c := by
 rcases h.2 with ⟨_, h0⟩ | ⟨g, cap, cur, hv, hb, hh, hc, _, _, ht⟩
 ·simp at h0
 ·subst hv
  refine ⟨g, cap, rfl, ?_, hb, by simpa using hc⟩
  have := h.cells (g := g) rfl 0 (.int .i64 j) (by unfold zeh; simp)
  exact this
def RNo (w : World) (v : Value) (e : Ending) (w' : World) : Prop := e = .returned v ∧ Below w.heap.size w w'
def RSet (w : World) (kb rt : Nat) (fds : Nat → Option Nat) (n0 n1 : Nat) (v : Value) (e : Ending) (w' : World) : Prop := e = .returned v ∧ RKAt w' kb rt fds n0 n1 ∧ Kept (fun b => b = kb) w w'
set_option maxRecDepth 100000 in
set_option maxHeartbeats 1000000 in
theorem rk_dup_bad {w : World} {kb rt : Nat} {fds : Nat → Option Nat} {n0 n1 : Nat} (h : RKAt w kb rt fds n0 n1) (fd : Int) (hu : zbr fds fd = false) :
  Calls Tryz.prog 32 #[.pointer (some ⟨kb, 0, none⟩), .int .i64 fd] w fun e w' => RNo w (.tuple #[.int .i64 0, fltV 1]) e w' := by
 have H := hid h
 have HB0 := hid (zad w (.cells #[.int .i64 0, .int .i64 0, .int .i64 0] 32))
 have HH0 := hid (heap_alloc_new w (.cells #[.int .i64 0, .int .i64 0, .int .i64 0] 32))
 clear h
 go_enter Tryz.func32, Tryz.ntmps32
 go_wp2_with fail
 generalize w.alloc (.cells #[.int .i64 0, .int .i64 0, .int .i64 0] 32) = w0 at *
 refine (ze8 (H.out.below HB0.out)).mono ?_
 rintro e w1 ⟨v, rfl, hown, hb⟩
 have HB1 := hid (zaf HB0.out hb)
 have HH1 : Hid (w1.heap[w.heap.size]? = some (.cells #[.int .i64 0, .int .i64 0, .int .i64 0] 32 (0, 0))) := zae hb (zab HH0.out) HH0.out
 clear hown
 have HU := hid (hu ▸ zcu (H.out.below HB1.out) fd)
 clear hb hu
 go_wp2_with fail
 refine HU.out.mono ?_
 rintro e w2 ⟨rfl, rfl⟩
 go_wp2_with fail
 refine (zax 1 w2).mono ?_
 rintro e w9 ⟨rfl, hb9⟩
 have HB9 := hid (zaf HB1.out hb9)
 have HH9 : Hid (w9.heap[w.heap.size]? = some (.cells #[.int .i64 0, .int .i64 0, .int .i64 0] 32 (0, 0))) := zae hb9 (zab HH1.out) HH1.out
 clear hb9
 obtain ⟨g0, g1, g2⟩ := zz3 HH9.out
 have gf := fun o => zah HH9.out o
 obtain ⟨hx, hy⟩ := zat HB9.out (Nat.le_refl _) HH9.out (.int .i64 1) (.int .i64 0) (.int .i64 11)
 have HX := hid hx
 have HY := hid hy
 clear hx hy
 simp only [fltV]
 go_wp2_with fail
 clear g0 g1 g2 gf
 generalize ((w9.setCell ⟨w.heap.size, 0, none⟩ (.int .i64 1)).setCell ⟨w.heap.size, 1, none⟩ (.int .i64 0)).setCell ⟨w.heap.size, 2, none⟩ (.int .i64 11) = W at *
 obtain ⟨r0, r1, r2⟩ := zz3 HY.out
 refine bodyPost_ret (v := .tuple #[.int .i64 0, fltV 1]) ?_ rfl (⟨rfl, HX.out⟩)
 simp [results, Tryz.results32, go_sem, r0, r1, r2, fltV]
set_option maxRecDepth 100000 in
set_option maxHeartbeats 1000000 in
theorem rk_dup_full {w : World} {kb rt : Nat} {fds : Nat → Option Nat} {n0 n1 : Nat} (h : RKAt w kb rt fds n0 n1) (fd : Int) (hu : zbr fds fd = true) (hl : zd0 fds = []) :
  Calls Tryz.prog 32 #[.pointer (some ⟨kb, 0, none⟩), .int .i64 fd] w fun e w' => RNo w (.tuple #[.int .i64 0, fltV 19]) e w' := by
 have H := hid h
 have HB0 := hid (zad w (.cells #[.int .i64 0, .int .i64 0, .int .i64 0] 32))
 have HH0 := hid (heap_alloc_new w (.cells #[.int .i64 0, .int .i64 0, .int .i64 0] 32))
 clear h
 go_enter Tryz.func32, Tryz.ntmps32
 go_wp2_with fail
 generalize w.alloc (.cells #[.int .i64 0, .int .i64 0, .int .i64 0] 32) = w0 at *
 refine (ze8 (H.out.below HB0.out)).mono ?_
 rintro e w1 ⟨v, rfl, hown, hb⟩
 have HB1 := hid (zaf HB0.out hb)
 have HH1 : Hid (w1.heap[w.heap.size]? = some (.cells #[.int .i64 0, .int .i64 0, .int .i64 0] 32 (0, 0))) := zae hb (zab HH0.out) HH0.out
 have hz : ∃ a c, v = .slice a 0 c := by
  obtain ⟨a, c, hv⟩ := zak hown
  have h0 : (uTo (fun j => (fds j).isNone) 16).length = 0 := by have : uTo (fun j => (fds j).isNone) 16 = [] := hl; rw [this]; rfl
  rw [h0] at hv
  exact ⟨a, c, hv⟩
 obtain ⟨a, c, rfl⟩ := hz
 clear hown hl
 have HU := hid (hu ▸ zcu (H.out.below HB1.out) fd)
 clear hb hu
 go_wp2_with fail
 refine HU.out.mono ?_
 rintro e w2 ⟨rfl, rfl⟩
 go_wp2_with fail
 refine (zax 19 w2).mono ?_
 rintro e w9 ⟨rfl, hb9⟩
 have HB9 := hid (zaf HB1.out hb9)
 have HH9 : Hid (w9.heap[w.heap.size]? = some (.cells #[.int .i64 0, .int .i64 0, .int .i64 0] 32 (0, 0))) := zae hb9 (zab HH1.out) HH1.out
 clear hb9
 obtain ⟨g0, g1, g2⟩ := zz3 HH9.out
 have gf := fun o => zah HH9.out o
 obtain ⟨hx, hy⟩ := zat HB9.out (Nat.le_refl _) HH9.out (.int .i64 19) (.int .i64 0) (.int .i64 11)
 have HX := hid hx
 have HY := hid hy
 clear hx hy
 simp only [fltV]
 go_wp2_with fail
 clear g0 g1 g2 gf
 generalize ((w9.setCell ⟨w.heap.size, 0, none⟩ (.int .i64 19)).setCell ⟨w.heap.size, 1, none⟩ (.int .i64 0)).setCell ⟨w.heap.size, 2, none⟩ (.int .i64 11) = W at *
 obtain ⟨r0, r1, r2⟩ := zz3 HY.out
 refine bodyPost_ret (v := .tuple #[.int .i64 0, fltV 19]) ?_ rfl (⟨rfl, HX.out⟩)
 simp [results, Tryz.results32, go_sem, r0, r1, r2, fltV]
set_option maxRecDepth 100000 in
set_option maxHeartbeats 1000000 in
theorem rk_dup_ok {w : World} {kb rt : Nat} {fds : Nat → Option Nat} {n0 n1 : Nat} (h : RKAt w kb rt fds n0 n1) (fd : Nat) (hu : zbr fds fd = true) {j : Nat} {r : List Nat} (hl : zd0 fds = j :: r) :
  Calls Tryz.prog 32 #[.pointer (some ⟨kb, 0, none⟩), .int .i64 fd] w fun e w' => RSet w kb rt (za6 fds j (fds fd)) n0 n1 (.tuple #[.int .i64 j, flt0]) e w' := by
 have H := hid h
 have HB0 := hid (zad w (.cells #[.int .i64 0, .int .i64 0, .int .i64 0] 32))
 have HH0 := hid (heap_alloc_new w (.cells #[.int .i64 0, .int .i64 0, .int .i64 0] 32))
 clear h
 obtain ⟨hj16, hjn⟩ := frees_head hl
 have hfd : fd < 16 ∧ ∃ o, fds fd = some o := by
  obtain ⟨k, hk, h1, h2⟩ := zer hu
  have : k = fd := by omega
  subst this
  exact ⟨h1, h2⟩
 obtain ⟨hf16, o, ho⟩ := hfd
 go_enter Tryz.func32, Tryz.ntmps32
 go_wp2_with fail
 generalize w.alloc (.cells #[.int .i64 0, .int .i64 0, .int .i64 0] 32) = w0 at *
 refine (ze8 (H.out.below HB0.out)).mono ?_
 rintro e w1 ⟨v, rfl, hown, hb⟩
 have HB1 := hid (zaf HB0.out hb)
 have HH1 : Hid (w1.heap[w.heap.size]? = some (.cells #[.int .i64 0, .int .i64 0, .int .i64 0] 32 (0, 0))) := zae hb (zab HH0.out) HH0.out
 have hrow : w1.ownsRow w0.heap.size 3 1 v (j :: r).length (zeh (j :: r)) := by rw [← hl]; exact hown
 obtain ⟨g, c, rfl, hg0, hgb, hgc⟩ := nums_first hrow
 have HU := hid (hu ▸ zcu (H.out.below HB1.out) fd)
 have HK1 := hid (H.out.below HB1.out)
 have hlen : (uTo (fun j => (fds j).isNone) 16).length = r.length + 1 := by have : uTo (fun j => (fds j).isNone) 16 = j :: r := hl; rw [this]; rfl
 have HGK : Hid (kb ≠ g) := hid (by have := H.out.lt; have := HB0.out.size; omega)
 clear hown hrow hb hu hl hgb hlen
 go_wp2_with fail
 refine HU.out.mono ?_
 rintro e w2 ⟨rfl, rfl⟩
 have HKL : Hid (kb < w2.heap.size) := HK1.out.lt
 have HNE : Hid (w.heap.size ≠ kb) := hid (by have := H.out.lt; omega)
 have q1 := HK1.out.fd fd hf16
 have q2 := HK1.out.fd j hj16
 have qf := fun o => HK1.out.free o
 rw [ho] at q1
 rw [hjn] at q2
 simp only [zau, za0] at q1 q2
 have hfi : (fd : Int) < 16 := by omega
 have hji : (j : Int) < 16 := by omega
 have HKS2 := hid (HK1.out.set j hj16 (some o))
 have HHS : Hid ((w2.setCell ⟨kb, 1 + j, none⟩ (ptrV (some o))).heap[w.heap.size]? = some (.cells #[.int .i64 0, .int .i64 0, .int .i64 0] 32 (0, 0))) := (zag w2 _ _ HNE.out).trans HH1.out
 have HKB : Hid (Kept (fun b => b = kb) w (w2.setCell ⟨kb, 1 + j, none⟩ (ptrV (some o)))) := (Kept.of_below HB1.out (fun b => b = kb)).setCell (p := ⟨kb, 1 + j, none⟩) (.inl rfl) (ptrV (some o))
 have hg0' : (w2.setCell ⟨kb, 1 + j, none⟩ (ptrV (some o))).cell? ⟨g, 0, none⟩ = some (.int .i64 j) := (World.cell?_setCell_far _ _ _ _ HGK.out).trans hg0
 simp only [zau] at HKS2 HHS HKB hg0'
 go_wp2_with fail
 go_region
 all_goals
  clear q1 q2 qf hg0
  generalize w2.setCell ⟨kb, 1 + j, none⟩ (.pointer (some ⟨o, 0, none⟩)) = w5 at *
  have HH5 : Hid (w5.drew.heap[w.heap.size]? = some (.cells #[.int .i64 0, .int .i64 0, .int .i64 0] 32 (0, 0))) := HHS.out
  have HK5 : Hid (Kept (fun b => b = kb) w w5.drew) := HKB.out.drew
  have HR5 : Hid (RKAt w5.drew kb rt (za6 fds j (fds fd)) n0 n1) := by
   have h5 : RKAt w5 kb rt (za6 fds j (fds fd)) n0 n1 := by rw [ho]; exact HKS2.out
   exact ⟨h5.cells⟩
  have hg5 : w5.drew.cell? ⟨g, 0, none⟩ = some (.int .i64 j) := hg0'
  clear hg0' HHS HKB HKS2
  generalize w5.drew = w6 at *
  obtain ⟨g0, g1, g2⟩ := zz3 HH5.out
  have gf := fun o => zah HH5.out o
  have HY := hid (zap HH5.out (.int .i64 0) (.int .i64 0) (.int .i64 0))
  have HKS := hid (zao w6 w.heap.size (.int .i64 0) (.int .i64 0) (.int .i64 0))
  go_wp2_with fail
  clear g0 g1 g2 gf
  generalize ((w6.setCell ⟨w.heap.size, 0, none⟩ (.int .i64 0)).setCell ⟨w.heap.size, 1, none⟩ (.int .i64 0)).setCell ⟨w.heap.size, 2, none⟩ (.int .i64 0) = W at *
  obtain ⟨r0, r1, r2⟩ := zz3 HY.out
  refine bodyPost_ret (v := .tuple #[.int .i64 j, flt0]) ?_ rfl (⟨rfl, HR5.out.kept HKS.out (fun h => HNE.out h.symm), HK5.out.trans HKS.out (fun b h => .inr (by rw [h]; exact Nat.le_refl _))⟩)
  simp [results, Tryz.results32, go_sem, r0, r1, r2, flt0]
set_option maxRecDepth 100000 in
set_option maxHeartbeats 1000000 in
theorem rk_close_bad {w : World} {kb rt : Nat} {fds : Nat → Option Nat} {n0 n1 : Nat} (h : RKAt w kb rt fds n0 n1) (fd : Int) (hu : zbr fds fd = false) :
  Calls Tryz.prog 34 #[.pointer (some ⟨kb, 0, none⟩), .int .i64 fd] w fun e w' => RNo w (fltV 1) e w' := by
 have H := hid h
 have HB0 := hid (zad w (.cells #[.int .i64 0, .int .i64 0, .int .i64 0] 32))
 have HH0 := hid (heap_alloc_new w (.cells #[.int .i64 0, .int .i64 0, .int .i64 0] 32))
 clear h
 have HU := hid (hu ▸ zcu (H.out.below HB0.out) fd)
 clear hu
 go_enter Tryz.func34, Tryz.ntmps34
 go_wp2_with fail
 generalize w.alloc (.cells #[.int .i64 0, .int .i64 0, .int .i64 0] 32) = w0 at *
 refine HU.out.mono ?_
 rintro e w2 ⟨rfl, rfl⟩
 go_wp2_with fail
 refine (zax 1 w2).mono ?_
 rintro e w9 ⟨rfl, hb9⟩
 have HB9 := hid (zaf HB0.out hb9)
 have HH9 : Hid (w9.heap[w.heap.size]? = some (.cells #[.int .i64 0, .int .i64 0, .int .i64 0] 32 (0, 0))) := zae hb9 (zab HH0.out) HH0.out
 clear hb9
 obtain ⟨g0, g1, g2⟩ := zz3 HH9.out
 have gf := fun o => zah HH9.out o
 obtain ⟨hx, hy⟩ := zat HB9.out (Nat.le_refl _) HH9.out (.int .i64 1) (.int .i64 0) (.int .i64 11)
 have HX := hid hx
 have HY := hid hy
 clear hx hy
 simp only [fltV]
 go_wp2_with fail
 clear g0 g1 g2 gf
 generalize ((w9.setCell ⟨w.heap.size, 0, none⟩ (.int .i64 1)).setCell ⟨w.heap.size, 1, none⟩ (.int .i64 0)).setCell ⟨w.heap.size, 2, none⟩ (.int .i64 11) = W at *
 obtain ⟨r0, r1, r2⟩ := zz3 HY.out
 refine bodyPost_ret (v := fltV 1) ?_ rfl (⟨rfl, HX.out⟩)
 simp [results, Tryz.results34, go_sem, r0, r1, r2, fltV]
set_option maxRecDepth 100000 in
set_option maxHeartbeats 1000000 in
theorem rk_close_ok {w : World} {kb rt : Nat} {fds : Nat → Option Nat} {n0 n1 : Nat} (h : RKAt w kb rt fds n0 n1) (fd : Nat) (hu : zbr fds fd = true) :
  Calls Tryz.prog 34 #[.pointer (some ⟨kb, 0, none⟩), .int .i64 fd] w fun e w' => RSet w kb rt (za6 fds fd none) n0 n1 flt0 e w' := by
 have H := hid h
 have HB0 := hid (zad w (.cells #[.int .i64 0, .int .i64 0, .int .i64 0] 32))
 have HH0 := hid (heap_alloc_new w (.cells #[.int .i64 0, .int .i64 0, .int .i64 0] 32))
 clear h
 obtain ⟨k, hk, hf16, o, ho⟩ := zer hu
 obtain rfl : fd = k := by omega
 have HU := hid (hu ▸ zcu (H.out.below HB0.out) (fd : Int))
 have HK1 := hid (H.out.below HB0.out)
 have HNE : Hid (w.heap.size ≠ kb) := hid (by have := H.out.lt; omega)
 clear hu hk
 go_enter Tryz.func34, Tryz.ntmps34
 go_wp2_with fail
 generalize w.alloc (.cells #[.int .i64 0, .int .i64 0, .int .i64 0] 32) = w0 at *
 refine HU.out.mono ?_
 rintro e w2 ⟨rfl, rfl⟩
 have q1 := HK1.out.fd fd hf16
 have qf := fun o => HK1.out.free o
 rw [ho] at q1
 simp only [zau] at q1
 have hfi : (fd : Int) < 16 := by omega
 have HKS2 := hid (HK1.out.set fd hf16 none)
 have HHS : Hid ((w2.setCell ⟨kb, 1 + fd, none⟩ (ptrV none)).heap[w.heap.size]? = some (.cells #[.int .i64 0, .int .i64 0, .int .i64 0] 32 (0, 0))) := (zag w2 _ _ HNE.out).trans HH0.out
 have HKB : Hid (Kept (fun b => b = kb) w (w2.setCell ⟨kb, 1 + fd, none⟩ (ptrV none))) := (Kept.of_below HB0.out (fun b => b = kb)).setCell (p := ⟨kb, 1 + fd, none⟩) (.inl rfl) (ptrV none)
 simp only [za0] at HKS2 HHS HKB
 go_upto_region 4 with fail
 clear q1 qf
 generalize w2.setCell ⟨kb, 1 + fd, none⟩ (.pointer none) = w6 at *
 obtain ⟨g0, g1, g2⟩ := zz3 HHS.out
 have gf := fun o => zah HHS.out o
 have HY := hid (zap HHS.out (.int .i64 0) (.int .i64 0) (.int .i64 0))
 have HKS := hid (zao w6 w.heap.size (.int .i64 0) (.int .i64 0) (.int .i64 0))
 go_wp2_with fail
 clear g0 g1 g2 gf
 generalize ((w6.setCell ⟨w.heap.size, 0, none⟩ (.int .i64 0)).setCell ⟨w.heap.size, 1, none⟩ (.int .i64 0)).setCell ⟨w.heap.size, 2, none⟩ (.int .i64 0) = W at *
 obtain ⟨r0, r1, r2⟩ := zz3 HY.out
 refine bodyPost_ret (v := flt0) ?_ rfl (⟨rfl, HKS2.out.kept HKS.out (fun h => HNE.out h.symm), HKB.out.trans HKS.out (fun b h => .inr (by rw [h]; exact Nat.le_refl _))⟩)
 simp [results, Tryz.results34, go_sem, r0, r1, r2, flt0]
set_option maxRecDepth 100000 in
set_option maxHeartbeats 1000000 in
theorem rk_move_bad {w : World} {kb rt : Nat} {fds : Nat → Option Nat} {n0 n1 : Nat} (h : RKAt w kb rt fds n0 n1) (fd onto : Int) (hu : zbr fds fd = false ∨ onto < 0 ∨ 16 ≤ onto) :
  Calls Tryz.prog 33 #[.pointer (some ⟨kb, 0, none⟩), .int .i64 fd, .int .i64 onto] w fun e w' => RNo w (fltV 1) e w' := by
 have H := hid h
 have HB0 := hid (zad w (.cells #[.int .i64 0, .int .i64 0, .int .i64 0] 32))
 have HH0 := hid (heap_alloc_new w (.cells #[.int .i64 0, .int .i64 0, .int .i64 0] 32))
 clear h
 have HU := hid (zcu (H.out.below HB0.out) fd)
 go_enter Tryz.func33, Tryz.ntmps33
 go_wp2_with fail
 generalize w.alloc (.cells #[.int .i64 0, .int .i64 0, .int .i64 0] 32) = w0 at *
 refine HU.out.mono ?_
 rintro e w2 ⟨rfl, rfl⟩
 cases hb : zbr fds fd with
 | false =>
  clear hu hb
  go_wp2_with fail
  refine (zax 1 w2).mono ?_
  rintro e w9 ⟨rfl, hb9⟩
  have HB9 := hid (zaf HB0.out hb9)
  have HH9 : Hid (w9.heap[w.heap.size]? = some (.cells #[.int .i64 0, .int .i64 0, .int .i64 0] 32 (0, 0))) := zae hb9 (zab HH0.out) HH0.out
  clear hb9
  obtain ⟨g0, g1, g2⟩ := zz3 HH9.out
  have gf := fun o => zah HH9.out o
  obtain ⟨hx, hy⟩ := zat HB9.out (Nat.le_refl _) HH9.out (.int .i64 1) (.int .i64 0) (.int .i64 11)
  have HX := hid hx
  have HY := hid hy
  clear hx hy
  simp only [fltV]
  go_wp2_with fail
  clear g0 g1 g2 gf
  generalize ((w9.setCell ⟨w.heap.size, 0, none⟩ (.int .i64 1)).setCell ⟨w.heap.size, 1, none⟩ (.int .i64 0)).setCell ⟨w.heap.size, 2, none⟩ (.int .i64 11) = W at *
  obtain ⟨r0, r1, r2⟩ := zz3 HY.out
  refine bodyPost_ret (v := fltV 1) ?_ rfl (⟨rfl, HX.out⟩)
  simp [results, Tryz.results33, go_sem, r0, r1, r2, fltV]
 | true =>
  rw [hb] at hu
  clear hb
  by_cases h0 : onto < 0
  ·clear hu
   go_wp2_with fail
   refine (zax 1 w2).mono ?_
   rintro e w9 ⟨rfl, hb9⟩
   have HB9 := hid (zaf HB0.out hb9)
   have HH9 : Hid (w9.heap[w.heap.size]? = some (.cells #[.int .i64 0, .int .i64 0, .int .i64 0] 32 (0, 0))) := zae hb9 (zab HH0.out) HH0.out
   clear hb9
   obtain ⟨g0, g1, g2⟩ := zz3 HH9.out
   have gf := fun o => zah HH9.out o
   obtain ⟨hx, hy⟩ := zat HB9.out (Nat.le_refl _) HH9.out (.int .i64 1) (.int .i64 0) (.int .i64 11)
   have HX := hid hx
   have HY := hid hy
   clear hx hy
   simp only [fltV]
   go_wp2_with fail
   clear g0 g1 g2 gf
   generalize ((w9.setCell ⟨w.heap.size, 0, none⟩ (.int .i64 1)).setCell ⟨w.heap.size, 1, none⟩ (.int .i64 0)).setCell ⟨w.heap.size, 2, none⟩ (.int .i64 11) = W at *
   obtain ⟨r0, r1, r2⟩ := zz3 HY.out
   refine bodyPost_ret (v := fltV 1) ?_ rfl (⟨rfl, HX.out⟩)
   simp [results, Tryz.results33, go_sem, r0, r1, r2, fltV]
  ·have h1 : 16 ≤ onto := by
    rcases hu with h | h | h
    ·cases h
    ·exact absurd h h0
    ·exact h
   clear hu
   go_wp2_with fail
   refine (zax 1 w2).mono ?_
   rintro e w9 ⟨rfl, hb9⟩
   have HB9 := hid (zaf HB0.out hb9)
   have HH9 : Hid (w9.heap[w.heap.size]? = some (.cells #[.int .i64 0, .int .i64 0, .int .i64 0] 32 (0, 0))) := zae hb9 (zab HH0.out) HH0.out
   clear hb9
   obtain ⟨g0, g1, g2⟩ := zz3 HH9.out
   have gf := fun o => zah HH9.out o
   obtain ⟨hx, hy⟩ := zat HB9.out (Nat.le_refl _) HH9.out (.int .i64 1) (.int .i64 0) (.int .i64 11)
   have HX := hid hx
   have HY := hid hy
   clear hx hy
   simp only [fltV]
   go_wp2_with fail
   clear g0 g1 g2 gf
   generalize ((w9.setCell ⟨w.heap.size, 0, none⟩ (.int .i64 1)).setCell ⟨w.heap.size, 1, none⟩ (.int .i64 0)).setCell ⟨w.heap.size, 2, none⟩ (.int .i64 11) = W at *
   obtain ⟨r0, r1, r2⟩ := zz3 HY.out
   refine bodyPost_ret (v := fltV 1) ?_ rfl (⟨rfl, HX.out⟩)
   simp [results, Tryz.results33, go_sem, r0, r1, r2, fltV]
set_option maxRecDepth 100000 in
set_option maxHeartbeats 1000000 in
theorem rk_move_same {w : World} {kb rt : Nat} {fds : Nat → Option Nat} {n0 n1 : Nat} (h : RKAt w kb rt fds n0 n1) (fd : Nat) (hu : zbr fds fd = true) :
  Calls Tryz.prog 33 #[.pointer (some ⟨kb, 0, none⟩), .int .i64 fd, .int .i64 fd] w fun e w' => RSet w kb rt fds n0 n1 flt0 e w' := by
 have H := hid h
 have HB0 := hid (zad w (.cells #[.int .i64 0, .int .i64 0, .int .i64 0] 32))
 have HH0 := hid (heap_alloc_new w (.cells #[.int .i64 0, .int .i64 0, .int .i64 0] 32))
 clear h
 obtain ⟨k, hk, hf16, o, ho⟩ := zer hu
 obtain rfl : fd = k := by omega
 have HU := hid (hu ▸ zcu (H.out.below HB0.out) (fd : Int))
 have HK1 := hid (H.out.below HB0.out)
 have HNE : Hid (w.heap.size ≠ kb) := hid (by have := H.out.lt; omega)
 have HKB := hid (Kept.of_below HB0.out (fun b => b = kb))
 have hf0 : ¬ (fd : Int) < 0 := by omega
 have hfi : ¬ 16 ≤ (fd : Int) := by omega
 clear hu hk
 go_enter Tryz.func33, Tryz.ntmps33
 go_wp2_with fail
 generalize w.alloc (.cells #[.int .i64 0, .int .i64 0, .int .i64 0] 32) = w6 at *
 refine HU.out.mono ?_
 rintro e w2 ⟨rfl, rfl⟩
 go_upto_region 5 with fail
 obtain ⟨g0, g1, g2⟩ := zz3 HH0.out
 have gf := fun o => zah HH0.out o
 have HY := hid (zap HH0.out (.int .i64 0) (.int .i64 0) (.int .i64 0))
 have HKS := hid (zao w2 w.heap.size (.int .i64 0) (.int .i64 0) (.int .i64 0))
 go_wp2_with fail
 clear g0 g1 g2 gf
 generalize ((w2.setCell ⟨w.heap.size, 0, none⟩ (.int .i64 0)).setCell ⟨w.heap.size, 1, none⟩ (.int .i64 0)).setCell ⟨w.heap.size, 2, none⟩ (.int .i64 0) = W at *
 obtain ⟨r0, r1, r2⟩ := zz3 HY.out
 refine bodyPost_ret (v := flt0) ?_ rfl (⟨rfl, HK1.out.kept HKS.out (fun h => HNE.out h.symm), HKB.out.trans HKS.out (fun b h => .inr (by rw [h]; exact Nat.le_refl _))⟩)
 simp [results, Tryz.results33, go_sem, r0, r1, r2, flt0]
set_option maxRecDepth 100000 in
set_option maxHeartbeats 1000000 in
theorem rk_move_ok {w : World} {kb rt : Nat} {fds : Nat → Option Nat} {n0 n1 : Nat} (h : RKAt w kb rt fds n0 n1) (fd onto : Nat) (hu : zbr fds fd = true) (ho16 : onto < 16) (hne : fd ≠ onto) :
  Calls Tryz.prog 33 #[.pointer (some ⟨kb, 0, none⟩), .int .i64 fd, .int .i64 onto] w fun e w' => RSet w kb rt (za6 (za6 fds onto (fds fd)) fd none) n0 n1 flt0 e w' := by
 have H := hid h
 have HB0 := hid (zad w (.cells #[.int .i64 0, .int .i64 0, .int .i64 0] 32))
 have HH0 := hid (heap_alloc_new w (.cells #[.int .i64 0, .int .i64 0, .int .i64 0] 32))
 clear h
 obtain ⟨k, hk, hf16, o, ho⟩ := zer hu
 obtain rfl : fd = k := by omega
 have HU := hid (hu ▸ zcu (H.out.below HB0.out) (fd : Int))
 have HK1 := hid (H.out.below HB0.out)
 have HNE : Hid (w.heap.size ≠ kb) := hid (by have := H.out.lt; omega)
 have hf0 : ¬ (onto : Int) < 0 := by omega
 have hfi : ¬ 16 ≤ (onto : Int) := by omega
 have hfi2 : (onto : Int) < 16 := by omega
 have hfi3 : (fd : Int) < 16 := by omega
 have hnn : ¬ (fd : Int) = onto := by omega
 clear hu hk
 go_enter Tryz.func33, Tryz.ntmps33
 go_wp2_with fail
 generalize w.alloc (.cells #[.int .i64 0, .int .i64 0, .int .i64 0] 32) = w0 at *
 refine HU.out.mono ?_
 rintro e w2 ⟨rfl, rfl⟩
 have q1 := HK1.out.fd fd hf16
 have q2 := HK1.out.fd onto ho16
 have qf := fun o => HK1.out.free o
 rw [ho] at q1
 simp only [zau] at q1
 have HKS2 := hid ((HK1.out.set onto ho16 (some o)).set fd hf16 none)
 have HHS : Hid (((w2.setCell ⟨kb, 1 + onto, none⟩ (ptrV (some o))).setCell ⟨kb, 1 + fd, none⟩ (ptrV none)).heap[w.heap.size]? = some (.cells #[.int .i64 0, .int .i64 0, .int .i64 0] 32 (0, 0))) := (zag _ _ _ HNE.out).trans ((zag w2 _ _ HNE.out).trans HH0.out)
 have HKB : Hid (Kept (fun b => b = kb) w ((w2.setCell ⟨kb, 1 + onto, none⟩ (ptrV (some o))).setCell ⟨kb, 1 + fd, none⟩ (ptrV none))) := ((Kept.of_below HB0.out (fun b => b = kb)).setCell (p := ⟨kb, 1 + onto, none⟩) (.inl rfl) (ptrV (some o))).setCell (p := ⟨kb, 1 + fd, none⟩) (.inl rfl) (ptrV none)
 simp only [za0, zau] at HKS2 HHS HKB
 go_upto_region 4 with fail
 go_region
 all_goals
  clear q1 q2 qf
  generalize (w2.setCell ⟨kb, 1 + onto, none⟩ (.pointer (some ⟨o, 0, none⟩))).setCell ⟨kb, 1 + fd, none⟩ (.pointer none) = w5 at *
  have HH5 : Hid (w5.drew.heap[w.heap.size]? = some (.cells #[.int .i64 0, .int .i64 0, .int .i64 0] 32 (0, 0))) := HHS.out
  have HK5 : Hid (Kept (fun b => b = kb) w w5.drew) := HKB.out.drew
  have HR5 : Hid (RKAt w5.drew kb rt (za6 (za6 fds onto (fds fd)) fd none) n0 n1) := by
   have h5 : RKAt w5 kb rt (za6 (za6 fds onto (fds fd)) fd none) n0 n1 := by rw [ho]; exact HKS2.out
   exact ⟨h5.cells⟩
  clear HHS HKB HKS2
  generalize w5.drew = w6 at *
  obtain ⟨g0, g1, g2⟩ := zz3 HH5.out
  have gf := fun o => zah HH5.out o
  have HY := hid (zap HH5.out (.int .i64 0) (.int .i64 0) (.int .i64 0))
  have HKS := hid (zao w6 w.heap.size (.int .i64 0) (.int .i64 0) (.int .i64 0))
  go_wp2_with fail
  clear g0 g1 g2 gf
  generalize ((w6.setCell ⟨w.heap.size, 0, none⟩ (.int .i64 0)).setCell ⟨w.heap.size, 1, none⟩ (.int .i64 0)).setCell ⟨w.heap.size, 2, none⟩ (.int .i64 0) = W at *
  obtain ⟨r0, r1, r2⟩ := zz3 HY.out
  refine bodyPost_ret (v := flt0) ?_ rfl (⟨rfl, HR5.out.kept HKS.out (fun h => HNE.out h.symm), HK5.out.trans HKS.out (fun b h => .inr (by rw [h]; exact Nat.le_refl _))⟩)
  simp [results, Tryz.results33, go_sem, r0, r1, r2, flt0]
end
section
structure ROp where
 node : Nat
 inn : Bool
 out : Bool
 add : Bool
 place : Int
 log : Bool
def zbi (w : World) (o : Nat) (x : ROp) : Prop := w.heap[o]? = some (.cells #[.pointer (some ⟨x.node, 0, none⟩), .bool x.inn, .bool x.out, .bool x.add, .int .i64 x.place, .bool x.log] 68 (0, 0))
def opened (k : Nat) (way : Int) : ROp := ⟨k, decide (way = 0), decide (¬ way = 0), decide (way = 2), 0, false⟩
def OErr (R : RT) (s : ByteArray) (way : Int) (c : Nat) : Prop := (c = 1 ∧ way ≠ 0 ∧ way ≠ 1 ∧ way ≠ 2) ∨ (way = 0 ∧ NoFile R s c) ∨ (way = 1 ∧ NoWrite R s [] false c) ∨ (way = 2 ∧ NoWrite R s [] true c)
def ODone (R R' : RT) (s : ByteArray) (way : Int) : Prop := (way = 0 ∧ R' = R) ∨ (way = 1 ∧ zd9 R R' s [] false) ∨ (way = 2 ∧ zd9 R R' s [] true)
theorem ODone.way {R R' : RT} {s : ByteArray} {way : Int} (h : ODone R R' s way) : way = 0 ∨ way = 1 ∨ way = 2 := by
 rcases h with ⟨h, _⟩ | ⟨h, _⟩ | ⟨h, _⟩
 ·exact .inl h
 ·exact .inr (.inl h)
 ·exact .inr (.inr h)
structure OpndPost (B : Nat) (w : World) (R : RT) (s : ByteArray) (way : Int) (e : Ending) (w' : World) : Prop where
 kept : Kept R.foot w w'
 case : (∃ c, c ≠ 0 ∧ e = .returned (.tuple #[.pointer none, fltV c]) ∧ RRep B w' R ∧ OErr R s way c) ∨
  (∃ k d R' o, e = .returned (.tuple #[.pointer (some ⟨o, 0, none⟩), flt0]) ∧ zbi w' o (opened k way) ∧ w.heap.size ≤ o ∧ RRep B w' R' ∧ R'.tb = R.tb ∧ za5 w.heap.size R R' ∧ ze5 R' s k d ∧ ODone R R' s way)
set_option maxRecDepth 100000 in
set_option maxHeartbeats 2000000 in
theorem rk_opened {B : Nat} {R : RT} (s : ByteArray) (way : Int) (w : World) (hR : RRep B w R) (hb : RB R) (hl : R.L.length < 90000) (hn : R.now < 1152921504606846976) (hsz : s.size ≤ 9223372036854775807) (hdl : ∀ n d, R.nd n = some d → d.data.length ≤ 180000000000000) :
  Calls Tryz.prog 60 #[.pointer (some ⟨R.tb, 0, none⟩), .string s, .int .i64 way] w fun e w' => OpndPost B w R s way e w' := by
 have HB0 := hid (zad w (.cells #[.int .i64 0, .int .i64 0, .int .i64 0] 32))
 have HH0 := hid (heap_alloc_new w (.cells #[.int .i64 0, .int .i64 0, .int .i64 0] 32))
 have HR := hid hR
 have HO : Hid (∀ W, Below w.heap.size w W → Calls Tryz.prog 87 #[.pointer (some ⟨R.tb, 0, none⟩), .string s, .int .i64 way] W fun e w' => OpenPost B W R s way e w') := fun W h => ref_open s way W (hR.below h) hb hl hn hsz hdl
 clear hR hb hl hn hsz hdl
 go_enter Tryz.func60, Tryz.ntmps60
 go_wp2_with fail
 generalize w.alloc (.cells #[.int .i64 0, .int .i64 0, .int .i64 0] 32) = w0 at *
 refine (HO.out w0 HB0.out).mono ?_
 intro e w1 hp
 have HR0 := hid (HR.out.below HB0.out)
 have HK1 : Hid (Kept R.foot w w1) := (Kept.of_below HB0.out R.foot).trans hp.kept (fun b h => .inl h)
 have HH1 : Hid (w1.heap[w.heap.size]? = some (.cells #[.int .i64 0, .int .i64 0, .int .i64 0] 32 (0, 0))) := (hp.kept.block _ (zab HH0.out) (HR0.out.not_foot HH0.out (by decide) (by decide) (by decide) (by decide))).trans HH0.out
 have HNE : Hid (w.heap.size ≠ w1.heap.size) := hid (by have := zab HH1.out; omega)
 rcases hp.case with ⟨c, hc, rfl, hrr, hno⟩ | ⟨k, d, R', rfl, hrr, htb, hfr, hif, hdo⟩
 ·have HRR := hid hrr
  have HNO : Hid (OErr R s way c) := hno
  have HC := hid hc
  have hci : ¬ (c : Int) = 0 := by omega
  have hc1 : ((c : Int) == 0) = false := by simp only [beq_eq_false_iff_ne, ne_eq]; omega
  have hc2 : ((c : Int) != 0) = true := by simp only [bne, hc1]; rfl
  clear hp hrr hno hc
  simp only [fltV]
  obtain ⟨w2, hw2⟩ : ∃ w2, w2 = w1.alloc (.cells #[.int .i64 c, .int .i64 0, .int .i64 11] 32) := ⟨_, rfl⟩
  have HW2 := hid hw2
  have HB2 : Hid (Below w1.heap.size w1 w2) := by rw [hw2]; exact zad w1 _
  have HH2 : Hid (w2.heap[w.heap.size]? = some (.cells #[.int .i64 0, .int .i64 0, .int .i64 0] 32 (0, 0))) := zae HB2.out (zab HH1.out) HH1.out
  have HF2 : Hid (w2.heap[w1.heap.size]? = some (.cells #[.int .i64 c, .int .i64 0, .int .i64 11] 32 (0, 0))) := by rw [hw2]; exact heap_alloc_new w1 _
  clear hw2
  go_upto_region 3 with fail
  rw [← HW2.out]
  clear HW2
  have HR2 := hid (HRR.out.below HB2.out)
  have HK2 : Hid (Kept R.foot w w2) := HK1.out.trans (Kept.of_below HB2.out (fun _ => False)) (fun _ h => h.elim)
  generalize w1.heap.size = fb at *
  obtain ⟨g0, g1, g2⟩ := zz3 HH2.out
  have gf := fun o => zah HH2.out o
  have f0 := zaa (o := 0) HF2.out rfl
  have f1 := zaa (o := 1) HF2.out rfl
  have f2 := zaa (o := 2) HF2.out rfl
  have hne : w.heap.size ≠ fb := HNE.out
  have hne2 : fb ≠ w.heap.size := HNE.out.symm
  have HY := hid (zap HH2.out (.int .i64 c) (.int .i64 0) (.int .i64 11))
  have HKS := hid (zao w2 w.heap.size (.int .i64 c) (.int .i64 0) (.int .i64 11))
  go_region
  all_goals
   go_wp2_with fail
   clear g0 g1 g2 gf f0 f1 f2 hne hne2
   generalize ((w2.setCell ⟨w.heap.size, 0, none⟩ (.int .i64 c)).setCell ⟨w.heap.size, 1, none⟩ (.int .i64 0)).setCell ⟨w.heap.size, 2, none⟩ (.int .i64 11) = W at *
   obtain ⟨r0, r1, r2⟩ := zz3 HY.out
   have HRW : Hid (RRep B W.drew R) := (HR2.out.kept HKS.out (fun b hb hf => HR2.out.not_foot HH2.out (by decide) (by decide) (by decide) (by decide) (by rw [← hf]; exact hb))).below (Below.refl _ _).drew
   refine bodyPost_ret (v := .tuple #[.pointer none, fltV c]) ?_ rfl ⟨(HK2.out.trans HKS.out (fun b h => .inr (by rw [h]; exact Nat.le_refl _))).drew, .inl ⟨c, HC.out, rfl, HRW.out, HNO.out⟩⟩
   simp [results, Tryz.results60, go_sem, r0, r1, r2, fltV]
 ·have HRR := hid hrr
  have HTB := hid htb
  have HFR : Hid (za5 w.heap.size R R') := hfr.mono HB0.out.size
  have HIF := hid hif
  have HDO : Hid (ODone R R' s way) := hdo
  clear hp hrr htb hfr hif hdo
  simp only [flt0]
  obtain ⟨w2, hw2⟩ : ∃ w2, w2 = w1.alloc (.cells #[.int .i64 0, .int .i64 0, .int .i64 0] 32) := ⟨_, rfl⟩
  have HW2 := hid hw2
  have HB2 : Hid (Below w1.heap.size w1 w2) := by rw [hw2]; exact zad w1 _
  have HH2 : Hid (w2.heap[w.heap.size]? = some (.cells #[.int .i64 0, .int .i64 0, .int .i64 0] 32 (0, 0))) := zae HB2.out (zab HH1.out) HH1.out
  have HF2 : Hid (w2.heap[w1.heap.size]? = some (.cells #[.int .i64 0, .int .i64 0, .int .i64 0] 32 (0, 0))) := by rw [hw2]; exact heap_alloc_new w1 _
  clear hw2
  go_upto_region 4 with fail
  rw [← HW2.out]
  clear HW2
  have HR2 := hid (HRR.out.below HB2.out)
  have HK2 : Hid (Kept R.foot w w2) := HK1.out.trans (Kept.of_below HB2.out (fun _ => False)) (fun _ h => h.elim)
  generalize w1.heap.size = fb at *
  obtain ⟨g0, g1, g2⟩ := zz3 HH2.out
  have gf := fun o => zah HH2.out o
  have f0 := zaa (o := 0) HF2.out rfl
  have f1 := zaa (o := 1) HF2.out rfl
  have f2 := zaa (o := 2) HF2.out rfl
  have hne : w.heap.size ≠ fb := HNE.out
  have hne2 : fb ≠ w.heap.size := HNE.out.symm
  have hlt : w.heap.size < w2.heap.size := zab HH2.out
  have hlt2 : fb < w2.heap.size := zab HF2.out
  have HY := hid (zap HH2.out (.int .i64 0) (.int .i64 0) (.int .i64 0))
  have HKS := hid (zao w2 w.heap.size (.int .i64 0) (.int .i64 0) (.int .i64 0))
  have HSZ : Hid ((((w2.setCell ⟨w.heap.size, 0, none⟩ (.int .i64 0)).setCell ⟨w.heap.size, 1, none⟩ (.int .i64 0)).setCell ⟨w.heap.size, 2, none⟩ (.int .i64 0)).heap.size = w2.heap.size) := by show _ = _; simp
  have HRW := hid (HR2.out.kept HKS.out (fun b hb hf => HR2.out.not_foot HH2.out (by decide) (by decide) (by decide) (by decide) (by rw [← hf]; exact hb)))
  have HKF : Hid (Kept R.foot w (((w2.setCell ⟨w.heap.size, 0, none⟩ (.int .i64 0)).setCell ⟨w.heap.size, 1, none⟩ (.int .i64 0)).setCell ⟨w.heap.size, 2, none⟩ (.int .i64 0))) := HK2.out.trans HKS.out (fun b h => .inr (by rw [h]; exact Nat.le_refl _))
  rcases HDO.out.way with rfl | rfl | rfl
  ·go_region
   all_goals
    go_wp2_with fail
    clear g0 g1 g2 gf f0 f1 f2 hne hne2 hlt2
    generalize ((w2.setCell ⟨w.heap.size, 0, none⟩ (.int .i64 0)).setCell ⟨w.heap.size, 1, none⟩ (.int .i64 0)).setCell ⟨w.heap.size, 2, none⟩ (.int .i64 0) = W at *
    have HX : Hid (Below W.heap.size W ((W.alloc (.cells #[.pointer (some ⟨k, 0, none⟩), .bool true, .bool false, .bool false, .int .i64 0, .bool false] 68)).drew)) := (zad W _).drew
    have HN : Hid (((W.alloc (.cells #[.pointer (some ⟨k, 0, none⟩), .bool true, .bool false, .bool false, .int .i64 0, .bool false] 68)).drew).heap[w2.heap.size]? = some (.cells #[.pointer (some ⟨k, 0, none⟩), .bool true, .bool false, .bool false, .int .i64 0, .bool false] 68 (0, 0))) := by rw [← HSZ.out]; exact heap_alloc_new W _
    generalize (W.alloc (.cells #[.pointer (some ⟨k, 0, none⟩), .bool true, .bool false, .bool false, .int .i64 0, .bool false] 68)).drew = W2 at *
    have HY2 := hid (zae HX.out (zab HY.out) HY.out)
    obtain ⟨r0, r1, r2⟩ := zz3 HY2.out
    refine bodyPost_ret (v := .tuple #[.pointer (some ⟨w2.heap.size, 0, none⟩), flt0]) ?_ rfl ⟨HKF.out.trans (Kept.of_below HX.out (fun _ => False)) (fun _ h => h.elim), .inr ⟨k, d, R', w2.heap.size, rfl, HN.out, Nat.le_of_lt hlt, HRW.out.below HX.out, HTB.out, HFR.out, HIF.out, HDO.out⟩⟩
    simp [results, Tryz.results60, go_sem, r0, r1, r2, flt0]
  ·go_region
   all_goals
    go_wp2_with fail
    clear g0 g1 g2 gf f0 f1 f2 hne hne2 hlt2
    generalize ((w2.setCell ⟨w.heap.size, 0, none⟩ (.int .i64 0)).setCell ⟨w.heap.size, 1, none⟩ (.int .i64 0)).setCell ⟨w.heap.size, 2, none⟩ (.int .i64 0) = W at *
    have HX : Hid (Below W.heap.size W ((W.alloc (.cells #[.pointer (some ⟨k, 0, none⟩), .bool false, .bool true, .bool false, .int .i64 0, .bool false] 68)).drew)) := (zad W _).drew
    have HN : Hid (((W.alloc (.cells #[.pointer (some ⟨k, 0, none⟩), .bool false, .bool true, .bool false, .int .i64 0, .bool false] 68)).drew).heap[w2.heap.size]? = some (.cells #[.pointer (some ⟨k, 0, none⟩), .bool false, .bool true, .bool false, .int .i64 0, .bool false] 68 (0, 0))) := by rw [← HSZ.out]; exact heap_alloc_new W _
    generalize (W.alloc (.cells #[.pointer (some ⟨k, 0, none⟩), .bool false, .bool true, .bool false, .int .i64 0, .bool false] 68)).drew = W2 at *
    have HY2 := hid (zae HX.out (zab HY.out) HY.out)
    obtain ⟨r0, r1, r2⟩ := zz3 HY2.out
    refine bodyPost_ret (v := .tuple #[.pointer (some ⟨w2.heap.size, 0, none⟩), flt0]) ?_ rfl ⟨HKF.out.trans (Kept.of_below HX.out (fun _ => False)) (fun _ h => h.elim), .inr ⟨k, d, R', w2.heap.size, rfl, HN.out, Nat.le_of_lt hlt, HRW.out.below HX.out, HTB.out, HFR.out, HIF.out, HDO.out⟩⟩
    simp [results, Tryz.results60, go_sem, r0, r1, r2, flt0]
  ·go_region
   all_goals
    go_wp2_with fail
    clear g0 g1 g2 gf f0 f1 f2 hne hne2 hlt2
    generalize ((w2.setCell ⟨w.heap.size, 0, none⟩ (.int .i64 0)).setCell ⟨w.heap.size, 1, none⟩ (.int .i64 0)).setCell ⟨w.heap.size, 2, none⟩ (.int .i64 0) = W at *
    have HX : Hid (Below W.heap.size W ((W.alloc (.cells #[.pointer (some ⟨k, 0, none⟩), .bool false, .bool true, .bool true, .int .i64 0, .bool false] 68)).drew)) := (zad W _).drew
    have HN : Hid (((W.alloc (.cells #[.pointer (some ⟨k, 0, none⟩), .bool false, .bool true, .bool true, .int .i64 0, .bool false] 68)).drew).heap[w2.heap.size]? = some (.cells #[.pointer (some ⟨k, 0, none⟩), .bool false, .bool true, .bool true, .int .i64 0, .bool false] 68 (0, 0))) := by rw [← HSZ.out]; exact heap_alloc_new W _
    generalize (W.alloc (.cells #[.pointer (some ⟨k, 0, none⟩), .bool false, .bool true, .bool true, .int .i64 0, .bool false] 68)).drew = W2 at *
    have HY2 := hid (zae HX.out (zab HY.out) HY.out)
    obtain ⟨r0, r1, r2⟩ := zz3 HY2.out
    refine bodyPost_ret (v := .tuple #[.pointer (some ⟨w2.heap.size, 0, none⟩), flt0]) ?_ rfl ⟨HKF.out.trans (Kept.of_below HX.out (fun _ => False)) (fun _ h => h.elim), .inr ⟨k, d, R', w2.heap.size, rfl, HN.out, Nat.le_of_lt hlt, HRW.out.below HX.out, HTB.out, HFR.out, HIF.out, HDO.out⟩⟩
    simp [results, Tryz.results60, go_sem, r0, r1, r2, flt0]
end
section
theorem nums_heap {w : World} {base : Nat} {v : Value} {j : Nat} {r : List Nat} (h : w.ownsRow base 3 1 v (j :: r).length (zeh (j :: r))) : ∃ g c cur, v = .slice (some ⟨g, 0, none⟩) (r.length + 1) c ∧ w.heap[g]? = some (.cells cur 3 (0, 0)) ∧ cur[0]? = some (.int .i64 j) ∧ base ≤ g ∧ r.length + 1 ≤ c := by
 rcases h.2 with ⟨_, h0⟩ | ⟨g, cap, cur, hv, hb, hh, hc, _, _, ht⟩
 ·simp at h0
 ·subst hv
  refine ⟨g, cap, cur, rfl, hh, ?_, hb, by simpa using hc⟩
  have := congrArg (fun x => x[0]?) ht
  simpa [zeh, List.getElem?_take] using this
structure KOpnPost (B : Nat) (w : World) (R : RT) (kb : Nat) (fds : Nat → Option Nat) (n0 n1 : Nat) (s : ByteArray) (way : Int) (j : Nat) (e : Ending) (w' : World) : Prop where
 kept : Kept (fun b => R.foot b ∨ b = kb) w w'
 case : (∃ c, c ≠ 0 ∧ e = .returned (.tuple #[.int .i64 0, fltV c]) ∧ RRep B w' R ∧ RKAt w' kb R.tb fds n0 n1 ∧ OErr R s way c) ∨
  (∃ k d R' o, e = .returned (.tuple #[.int .i64 j, flt0]) ∧ RKAt w' kb R.tb (za6 fds j (some o)) n0 n1 ∧ zbi w' o (opened k way) ∧ w.heap.size ≤ o ∧ RRep B w' R' ∧ R'.tb = R.tb ∧ za5 w.heap.size R R' ∧ ze5 R' s k d ∧ ODone R R' s way)
set_option maxRecDepth 100000 in
set_option maxHeartbeats 1000000 in
theorem rk_open_full {w : World} {kb rt : Nat} {fds : Nat → Option Nat} {n0 n1 : Nat} (h : RKAt w kb rt fds n0 n1) (s : ByteArray) (way : Int) (hl : zd0 fds = []) :
  Calls Tryz.prog 30 #[.pointer (some ⟨kb, 0, none⟩), .string s, .int .i64 way] w fun e w' => RNo w (.tuple #[.int .i64 0, fltV 19]) e w' := by
 have H := hid h
 have HB0 := hid (zad w (.cells #[.int .i64 0, .int .i64 0, .int .i64 0] 32))
 have HH0 := hid (heap_alloc_new w (.cells #[.int .i64 0, .int .i64 0, .int .i64 0] 32))
 clear h
 go_enter Tryz.func30, Tryz.ntmps30
 go_wp2_with fail
 generalize w.alloc (.cells #[.int .i64 0, .int .i64 0, .int .i64 0] 32) = w0 at *
 refine (ze8 (H.out.below HB0.out)).mono ?_
 rintro e w1 ⟨v, rfl, hown, hb⟩
 have HB1 := hid (zaf HB0.out hb)
 have HH1 : Hid (w1.heap[w.heap.size]? = some (.cells #[.int .i64 0, .int .i64 0, .int .i64 0] 32 (0, 0))) := zae hb (zab HH0.out) HH0.out
 have hz : ∃ a c, v = .slice a 0 c := by
  obtain ⟨a, c, hv⟩ := zak hown
  have h0 : (uTo (fun j => (fds j).isNone) 16).length = 0 := by have : uTo (fun j => (fds j).isNone) 16 = [] := hl; rw [this]; rfl
  rw [h0] at hv
  exact ⟨a, c, hv⟩
 obtain ⟨a, c, rfl⟩ := hz
 clear hown hl hb
 go_wp2_with fail
 refine (zax 19 w1).mono ?_
 rintro e w9 ⟨rfl, hb9⟩
 have HB9 := hid (zaf HB1.out hb9)
 have HH9 : Hid (w9.heap[w.heap.size]? = some (.cells #[.int .i64 0, .int .i64 0, .int .i64 0] 32 (0, 0))) := zae hb9 (zab HH1.out) HH1.out
 clear hb9
 obtain ⟨g0, g1, g2⟩ := zz3 HH9.out
 have gf := fun o => zah HH9.out o
 obtain ⟨hx, hy⟩ := zat HB9.out (Nat.le_refl _) HH9.out (.int .i64 19) (.int .i64 0) (.int .i64 11)
 have HX := hid hx
 have HY := hid hy
 clear hx hy
 simp only [fltV]
 go_wp2_with fail
 clear g0 g1 g2 gf
 generalize ((w9.setCell ⟨w.heap.size, 0, none⟩ (.int .i64 19)).setCell ⟨w.heap.size, 1, none⟩ (.int .i64 0)).setCell ⟨w.heap.size, 2, none⟩ (.int .i64 11) = W at *
 obtain ⟨r0, r1, r2⟩ := zz3 HY.out
 refine bodyPost_ret (v := .tuple #[.int .i64 0, fltV 19]) ?_ rfl (⟨rfl, HX.out⟩)
 simp [results, Tryz.results30, go_sem, r0, r1, r2, fltV]
set_option maxRecDepth 100000 in
set_option maxHeartbeats 2000000 in
theorem rk_open {B : Nat} {R : RT} {w : World} {kb : Nat} {fds : Nat → Option Nat} {n0 n1 : Nat} (h : RKAt w kb R.tb fds n0 n1) (s : ByteArray) (way : Int) {j : Nat} {r : List Nat} (hl : zd0 fds = j :: r) (hR : RRep B w R) (hrb : RB R) (hrl : R.L.length < 90000) (hrn : R.now < 1152921504606846976) (hsz : s.size ≤ 9223372036854775807) (hdl : ∀ n d, R.nd n = some d → d.data.length ≤ 180000000000000) :
  Calls Tryz.prog 30 #[.pointer (some ⟨kb, 0, none⟩), .string s, .int .i64 way] w fun e w' => KOpnPost B w R kb fds n0 n1 s way j e w' := by
 have H := hid h
 have HB0 := hid (zad w (.cells #[.int .i64 0, .int .i64 0, .int .i64 0] 32))
 have HH0 := hid (heap_alloc_new w (.cells #[.int .i64 0, .int .i64 0, .int .i64 0] 32))
 clear h
 obtain ⟨hj16, hjn⟩ := frees_head hl
 have HR := hid hR
 have HO : Hid (∀ W, Below w.heap.size w W → Calls Tryz.prog 60 #[.pointer (some ⟨R.tb, 0, none⟩), .string s, .int .i64 way] W fun e w' => OpndPost B W R s way e w') := fun W h => rk_opened s way W (hR.below h) hrb hrl hrn hsz hdl
 clear hR hrb hrl hrn hsz hdl
 go_enter Tryz.func30, Tryz.ntmps30
 go_wp2_with fail
 generalize w.alloc (.cells #[.int .i64 0, .int .i64 0, .int .i64 0] 32) = w0 at *
 refine (ze8 (H.out.below HB0.out)).mono ?_
 rintro e w1 ⟨v, rfl, hown, hb⟩
 have HB1 := hid (zaf HB0.out hb)
 have HH1 : Hid (w1.heap[w.heap.size]? = some (.cells #[.int .i64 0, .int .i64 0, .int .i64 0] 32 (0, 0))) := zae hb (zab HH0.out) HH0.out
 have hrow : w1.ownsRow w0.heap.size 3 1 v (j :: r).length (zeh (j :: r)) := by rw [← hl]; exact hown
 obtain ⟨g, c, cur, rfl, hgh, hgc0, hgb, hgc⟩ := nums_heap hrow
 have hlen : (uTo (fun j => (fds j).isNone) 16).length = r.length + 1 := by have : uTo (fun j => (fds j).isNone) 16 = j :: r := hl; rw [this]; rfl
 have HK1 := hid (H.out.below HB1.out)
 have HNE : Hid (w.heap.size ≠ kb) := hid (by have := H.out.lt; omega)
 have HGK : Hid (kb ≠ g) := hid (by have := H.out.lt; have := HB0.out.size; omega)
 have HGH := hid hgh
 have HGC := hid hgc0
 clear hown hrow hb hl hgb hlen hgh hgc0
 have qt := HK1.out.tree
 have hr1 : ¬ (r.length : Int) + 1 = 0 := by omega
 have hr2 : ((r.length : Int) + 1 == 0) = false := by simp only [beq_eq_false_iff_ne, ne_eq]; omega
 go_wp2_with fail
 refine (HO.out w1 HB1.out).mono ?_
 intro e w2 hp
 have HR1 := hid (HR.out.below HB1.out)
 have al : ∀ {x : Nat} {cs : Array Value} {t : TypeId}, (t ≠ 73 ∧ t ≠ 70 ∧ t ≠ 41 ∧ t ≠ 5) → w1.heap[x]? = some (.cells cs t (0, 0)) → w2.heap[x]? = some (.cells cs t (0, 0)) := fun ht hx => (hp.kept.block _ (zab hx) (HR1.out.not_foot hx ht.1 ht.2.1 ht.2.2.1 ht.2.2.2)).trans hx
 have HH2 : Hid (w2.heap[w.heap.size]? = some (.cells #[.int .i64 0, .int .i64 0, .int .i64 0] 32 (0, 0))) := al (by decide) HH1.out
 have HGH2 : Hid (w2.heap[g]? = some (.cells cur 3 (0, 0))) := al (by decide) HGH.out
 have HK2 : Hid (RKAt w2 kb R.tb fds n0 n1) := by
  obtain ⟨c, h1, h2⟩ := HK1.out.cells
  exact ⟨⟨c, al (by decide) h1, h2⟩⟩
 have HKP : Hid (Kept (fun b => R.foot b ∨ b = kb) w w2) := (Kept.of_below HB1.out _).trans hp.kept (fun b h => .inl (.inl h))
 have HSB : Hid (w.heap.size ≤ w1.heap.size) := HB1.out.size
 have HFB : Hid (w.heap.size ≠ w2.heap.size) := hid (by have := zab HH2.out; omega)
 have HGF : Hid (g ≠ w2.heap.size) := hid (by have := zab HGH2.out; omega)
 have HKF : Hid (kb ≠ w2.heap.size) := hid (by have := HK2.out.lt; omega)
 clear al qt
 rcases hp.case with ⟨cc, hc, rfl, hrr, hno⟩ | ⟨k, d, R', o, rfl, hop, hos, hrr, htb, hfr, hif, hdo⟩
 ·have HRR := hid hrr
  have HNO := hid hno
  have HC := hid hc
  have hci : ¬ (cc : Int) = 0 := by omega
  have hc1 : ((cc : Int) == 0) = false := by simp only [beq_eq_false_iff_ne, ne_eq]; omega
  have hc2 : ((cc : Int) != 0) = true := by simp only [bne, hc1]; rfl
  clear hp hrr hno hc
  simp only [fltV]
  obtain ⟨w3, hw3⟩ : ∃ w3, w3 = w2.alloc (.cells #[.int .i64 cc, .int .i64 0, .int .i64 11] 32) := ⟨_, rfl⟩
  have HW3 := hid hw3
  have HB3 : Hid (Below w2.heap.size w2 w3) := by rw [hw3]; exact zad w2 _
  have HH3 : Hid (w3.heap[w.heap.size]? = some (.cells #[.int .i64 0, .int .i64 0, .int .i64 0] 32 (0, 0))) := zae HB3.out (zab HH2.out) HH2.out
  have HF3 : Hid (w3.heap[w2.heap.size]? = some (.cells #[.int .i64 cc, .int .i64 0, .int .i64 11] 32 (0, 0))) := by rw [hw3]; exact heap_alloc_new w2 _
  clear hw3
  go_upto_region 6 with fail
  rw [← HW3.out]
  clear HW3
  have HR3 := hid (HRR.out.below HB3.out)
  have HK3 := hid (HK2.out.below HB3.out)
  have HKP3 : Hid (Kept (fun b => R.foot b ∨ b = kb) w w3) := HKP.out.trans (Kept.of_below HB3.out (fun _ => False)) (fun _ h => h.elim)
  generalize w2.heap.size = fb at *
  obtain ⟨g0, g1, g2⟩ := zz3 HH3.out
  have gf := fun o => zah HH3.out o
  have f0 := zaa (o := 0) HF3.out rfl
  have f1 := zaa (o := 1) HF3.out rfl
  have f2 := zaa (o := 2) HF3.out rfl
  have hne : w.heap.size ≠ fb := HFB.out
  have hne2 : fb ≠ w.heap.size := HFB.out.symm
  have HY := hid (zap HH3.out (.int .i64 cc) (.int .i64 0) (.int .i64 11))
  have HKS := hid (zao w3 w.heap.size (.int .i64 cc) (.int .i64 0) (.int .i64 11))
  go_region
  all_goals
   go_wp2_with fail
   clear g0 g1 g2 gf f0 f1 f2 hne hne2
   generalize ((w3.setCell ⟨w.heap.size, 0, none⟩ (.int .i64 cc)).setCell ⟨w.heap.size, 1, none⟩ (.int .i64 0)).setCell ⟨w.heap.size, 2, none⟩ (.int .i64 11) = W at *
   obtain ⟨r0, r1, r2⟩ := zz3 HY.out
   have HRW : Hid (RRep B W.drew R) := (HR3.out.kept HKS.out (fun b hb hf => HR3.out.not_foot HH3.out (by decide) (by decide) (by decide) (by decide) (by rw [← hf]; exact hb))).below (Below.refl _ _).drew
   have HKW : Hid (RKAt W.drew kb R.tb fds n0 n1) := (HK3.out.kept HKS.out (fun h => HNE.out h.symm)).below (Below.refl _ _).drew
   refine bodyPost_ret (v := .tuple #[.int .i64 0, fltV cc]) ?_ rfl ⟨(HKP3.out.trans HKS.out (fun b h => .inr (by rw [h]; exact Nat.le_refl _))).drew, .inl ⟨cc, HC.out, rfl, HRW.out, HKW.out, HNO.out⟩⟩
   simp [results, Tryz.results30, go_sem, r0, r1, r2, fltV]
 ·have HRR := hid hrr
  have HOP := hid hop
  have HOS := hid hos
  have HTB := hid htb
  have HFR : Hid (za5 w.heap.size R R') := hfr.mono HSB.out
  have HIF := hid hif
  have HDO := hid hdo
  have HKO : Hid (kb ≠ o) := hid (by have := HK1.out.lt; omega)
  clear hp hrr hop hos htb hfr hif hdo
  simp only [flt0]
  obtain ⟨w3, hw3⟩ : ∃ w3, w3 = w2.alloc (.cells #[.int .i64 0, .int .i64 0, .int .i64 0] 32) := ⟨_, rfl⟩
  have HW3 := hid hw3
  have HB3 : Hid (Below w2.heap.size w2 w3) := by rw [hw3]; exact zad w2 _
  have HH3 : Hid (w3.heap[w.heap.size]? = some (.cells #[.int .i64 0, .int .i64 0, .int .i64 0] 32 (0, 0))) := zae HB3.out (zab HH2.out) HH2.out
  have HG3 : Hid (w3.heap[g]? = some (.cells cur 3 (0, 0))) := zae HB3.out (zab HGH2.out) HGH2.out
  have HF3 : Hid (w3.heap[w2.heap.size]? = some (.cells #[.int .i64 0, .int .i64 0, .int .i64 0] 32 (0, 0))) := by rw [hw3]; exact heap_alloc_new w2 _
  have HO3 : Hid (zbi w3 o (opened k way)) := zae HB3.out (zab HOP.out) HOP.out
  have HOF : Hid (o ≠ w.heap.size) := hid (by have := zab HH1.out; have := HOS.out; omega)
  clear hw3
  go_upto_region 7 with fail
  rw [← HW3.out]
  clear HW3
  have HR3 := hid (HRR.out.below HB3.out)
  have HK3 := hid (HK2.out.below HB3.out)
  have HKP3 : Hid (Kept (fun b => R.foot b ∨ b = kb) w w3) := HKP.out.trans (Kept.of_below HB3.out (fun _ => False)) (fun _ h => h.elim)
  generalize w2.heap.size = fb at *
  have q2 := HK3.out.fd j hj16
  have qf := fun o => HK3.out.free o
  rw [hjn] at q2
  simp only [za0] at q2
  have hji : (j : Int) < 16 := by omega
  have hg0 : w3.cell? ⟨g, 0, none⟩ = some (.int .i64 j) := zaa HG3.out HGC.out
  have HKS2 := hid (HK3.out.set j hj16 (some o))
  have HHS : Hid ((w3.setCell ⟨kb, 1 + j, none⟩ (ptrV (some o))).heap[w.heap.size]? = some (.cells #[.int .i64 0, .int .i64 0, .int .i64 0] 32 (0, 0))) := (zag w3 _ _ HNE.out).trans HH3.out
  have HFS : Hid ((w3.setCell ⟨kb, 1 + j, none⟩ (ptrV (some o))).heap[fb]? = some (.cells #[.int .i64 0, .int .i64 0, .int .i64 0] 32 (0, 0))) := (zag w3 _ _ HKF.out.symm).trans HF3.out
  have HGS : Hid ((w3.setCell ⟨kb, 1 + j, none⟩ (ptrV (some o))).heap[g]? = some (.cells cur 3 (0, 0))) := (zag w3 _ _ HGK.out.symm).trans HG3.out
  have HOS2 : Hid (zbi (w3.setCell ⟨kb, 1 + j, none⟩ (ptrV (some o))) o (opened k way)) := (zag w3 _ _ HKO.out.symm).trans HO3.out
  have HKB : Hid (Kept (fun b => R.foot b ∨ b = kb) w (w3.setCell ⟨kb, 1 + j, none⟩ (ptrV (some o)))) := HKP3.out.setCell (p := ⟨kb, 1 + j, none⟩) (.inl (.inr rfl)) (ptrV (some o))
  have HRS : Hid (RRep B (w3.setCell ⟨kb, 1 + j, none⟩ (ptrV (some o))) R') := by
   obtain ⟨c, h1, _⟩ := HK3.out.cells
   exact HR3.out.kept ((Kept.refl (fun b => b = kb) w3).setCell (p := ⟨kb, 1 + j, none⟩) (.inl rfl) (ptrV (some o))) (fun b hb hf => HR3.out.not_foot h1 (by decide) (by decide) (by decide) (by decide) (by rw [← hf]; exact hb))
  simp only [zau] at HKS2 HHS HFS HGS HOS2 HKB HRS
  go_region
  all_goals
   clear q2 qf hg0
   generalize w3.setCell ⟨kb, 1 + j, none⟩ (.pointer (some ⟨o, 0, none⟩)) = w5 at *
   have HBD : Hid (Below w5.heap.size w5 w5.drew) := (Below.refl _ _).drew
   have HH5 : Hid (w5.drew.heap[w.heap.size]? = some (.cells #[.int .i64 0, .int .i64 0, .int .i64 0] 32 (0, 0))) := HHS.out
   have HF5 : Hid (w5.drew.heap[fb]? = some (.cells #[.int .i64 0, .int .i64 0, .int .i64 0] 32 (0, 0))) := HFS.out
   have hg5 : w5.drew.cell? ⟨g, 0, none⟩ = some (.int .i64 j) := zaa (w := w5.drew) HGS.out HGC.out
   have HR5 := hid (HRS.out.below HBD.out)
   have HK5 := hid (HKS2.out.below HBD.out)
   have HO5 : Hid (zbi w5.drew o (opened k way)) := HOS2.out
   have HKP5 : Hid (Kept (fun b => R.foot b ∨ b = kb) w w5.drew) := HKB.out.drew
   clear HHS HFS HGS HRS HKS2 HOS2 HKB HBD
   generalize w5.drew = w6 at *
   obtain ⟨g0, g1, g2⟩ := zz3 HH5.out
   have gf := fun o => zah HH5.out o
   have f0 := zaa (o := 0) HF5.out rfl
   have f1 := zaa (o := 1) HF5.out rfl
   have f2 := zaa (o := 2) HF5.out rfl
   have hne : w.heap.size ≠ fb := HFB.out
   have hne2 : fb ≠ w.heap.size := HFB.out.symm
   have HY := hid (zap HH5.out (.int .i64 0) (.int .i64 0) (.int .i64 0))
   have HKS := hid (zao w6 w.heap.size (.int .i64 0) (.int .i64 0) (.int .i64 0))
   go_wp2_with fail
   go_region
   all_goals
    go_wp2_with fail
    clear g0 g1 g2 gf f0 f1 f2 hne hne2 hg5
    generalize ((w6.setCell ⟨w.heap.size, 0, none⟩ (.int .i64 0)).setCell ⟨w.heap.size, 1, none⟩ (.int .i64 0)).setCell ⟨w.heap.size, 2, none⟩ (.int .i64 0) = W at *
    obtain ⟨r0, r1, r2⟩ := zz3 HY.out
    have HRW : Hid (RRep B W.drew R') := (HR5.out.kept HKS.out (fun b hb hf => HR5.out.not_foot HH5.out (by decide) (by decide) (by decide) (by decide) (by rw [← hf]; exact hb))).below (Below.refl _ _).drew
    have HKW : Hid (RKAt W.drew kb R.tb (za6 fds j (some o)) n0 n1) := (HK5.out.kept HKS.out (fun h => HNE.out h.symm)).below (Below.refl _ _).drew
    have HOW : Hid (zbi W.drew o (opened k way)) := (HKS.out.block o (zab HO5.out) HOF.out).trans HO5.out
    refine bodyPost_ret (v := .tuple #[.int .i64 j, flt0]) ?_ rfl ⟨(HKP5.out.trans HKS.out (fun b h => .inr (by rw [h]; exact Nat.le_refl _))).drew, .inr ⟨k, d, R', o, rfl, HKW.out, HOW.out, Nat.le_trans HSB.out HOS.out, HRW.out, HTB.out, HFR.out, HIF.out, HDO.out⟩⟩
    simp [results, Tryz.results30, go_sem, r0, r1, r2, flt0]
end
section
theorem rread_src {B : Nat} (pos n : Int) (w : World) (k : Nat) (v : Value) (l : List UInt8) (hk : w.cell? ⟨k, 1, none⟩ = some v) (hrow : w.ownsRow B 5 1 v l.length (u8s l)) (hdl : l.length ≤ 140737488355328) (hp : -9223372036854775808 ≤ pos ∧ pos ≤ 9223372036854775807) (hn : -9223372036854775808 ≤ n ∧ n ≤ 9223372036854775807) :
  Calls Tryz.prog 88 #[.pointer (some ⟨k, 0, none⟩), .int .i64 pos, .int .i64 n] w fun e w' => zcx w (zdr l pos n) e w' := by
 unfold zdr
 by_cases h0 : pos < 0 ∨ n < 0
 ·rw [if_pos h0]
  obtain ⟨a, c, hbv⟩ := zak hrow
  rw [hbv] at hk
  exact rread_none k a _ c pos n w hk (by omega)
 ·rw [if_neg h0]
  obtain ⟨p, rfl⟩ : ∃ p : Nat, pos = p := ⟨pos.toNat, by omega⟩
  obtain ⟨m, rfl⟩ : ∃ m : Nat, n = m := ⟨n.toNat, by omega⟩
  simp only [Int.toNat_natCast]
  by_cases hlt : p < l.length
  ·rcases hrow.2 with ⟨_, h0⟩ | ⟨g, cap, cur, hbv, _, _, hc, _⟩
   ·omega
   ·rw [hbv] at hk hrow
    exact rread_some p m k g l.length cap w (by omega) hlt hdl hc hk l rfl (Src.of_owns hrow)
  ·obtain ⟨a, c, hbv⟩ := zak hrow
   rw [hbv] at hk
   have e : zb8 l p m = [] := by
    unfold zb8
    rw [List.drop_eq_nil_of_le (by omega)]
    simp
   rw [e]
   exact rread_none k a l.length c p m w hk (by omega)
def GetPost (w : World) (o : Nat) (x : ROp) (l : List UInt8) (e : Ending) (w' : World) : Prop :=
 ∃ v, e = .returned v ∧ w'.ownsRow w.heap.size 5 1 v l.length (u8s l) ∧ zbi w' o { x with place := x.place + l.length } ∧ Kept (fun b => b = o) w w'
set_option maxRecDepth 100000 in
set_option maxHeartbeats 2000000 in
theorem rk_get {B : Nat} {w : World} {o : Nat} {x : ROp} {v : Value} {l : List UInt8} (h : zbi w o x) (hk : w.cell? ⟨x.node, 1, none⟩ = some v) (hrow : w.ownsRow B 5 1 v l.length (u8s l)) (hdl : l.length ≤ 140737488355328) (hp0 : 0 ≤ x.place) (hp1 : x.place ≤ 4611686018427387904) (n : Int) (hn : -9223372036854775808 ≤ n ∧ n ≤ 9223372036854775807) :
  Calls Tryz.prog 62 #[.pointer (some ⟨o, 0, none⟩), .int .i64 n] w fun e w' => GetPost w o x (zdr l x.place n) e w' := by
 obtain ⟨m, i0, i1, i2, pl, lg⟩ := x
 have hp0 : 0 ≤ pl := hp0
 have hp1 : pl ≤ 4611686018427387904 := hp1
 have H := hid h
 have HRL : Hid ((zdr l pl n).length ≤ 140737488355328) := Nat.le_trans (readI_le l pl n) hdl
 have HRD : Hid (∀ W, Hid (Below w.heap.size w W) → Calls Tryz.prog 88 #[.pointer (some ⟨m, 0, none⟩), .int .i64 pl, .int .i64 n] W fun e w' => (∃ va vc, e = .returned (.slice va (zdr l pl n).length vc) ∧ Hid (w'.ownsRow w.heap.size 5 1 (.slice va (zdr l pl n).length vc) (zdr l pl n).length (u8s (zdr l pl n)))) ∧ Hid (Below w.heap.size w w') ∧ w'.cell? ⟨o, 0, none⟩ = some (.pointer (some ⟨m, 0, none⟩)) ∧ w'.cell? ⟨o, 4, none⟩ = some (.int .i64 pl)) := fun W hW => by
  have hrw : W.ownsRow B 5 1 v l.length (u8s l) := zai hrow (Kept.of_below hW.out (fun _ => False)) (fun _ _ h => h)
  refine (rread_src pl n W m v l (zbg hW.out hk) hrw hdl (by omega) hn).mono fun e w' ⟨v', he, hown, hb⟩ => ?_
  obtain ⟨va, vc, rfl⟩ := zak hown
  have hb2 := zaf hW.out hb
  have hh : zbi w' o ⟨m, i0, i1, i2, pl, lg⟩ := zae hb2 (zab H.out) H.out
  exact ⟨⟨va, vc, he, zb4 hown hW.out.size⟩, hb2, zaa hh rfl, zaa hh rfl⟩
 clear h hk hrow hdl
 generalize zdr l pl n = rl at *
 have d0 := zaa (o := 0) H.out rfl
 have d4 := zaa (o := 4) H.out rfl
 have HBR : Hid (Below w.heap.size w w) := Below.refl _ _
 have HBD : Hid (Below w.heap.size w w.drew) := (Below.refl _ _).drew
 have hw1 : IntKind.i64.wrap (pl + (rl.length : Int)) = pl + rl.length := IntWalk.i64_in _ (by have := HRL.out; omega)
 clear hp0 hp1
 go_enter Tryz.func62, Tryz.ntmps62
 go_wp2_with fail
 go_region_held3 (fun W => W.cell? ⟨o, 0, none⟩ = some (.pointer (some ⟨m, 0, none⟩)) ∧ W.cell? ⟨o, 4, none⟩ = some (.int .i64 pl)) (first | with_reducible exact ⟨by assumption, by assumption⟩ | exact ⟨d0, d4⟩)
  (first | (go_at_call 88; refine (HRD.out _ (by with_reducible assumption)).mono ?_; rintro e w' ⟨⟨va, vc, rfl, HO⟩, HBX, c0, c4⟩))
 all_goals
  have hh : zbi w' o ⟨m, i0, i1, i2, pl, lg⟩ := zae HBX.out (zab H.out) H.out
  have HH := hid hh
  have gf := fun q => zah hh q
  clear hh c0
  have HKW := hid (((Kept.of_below HBX.out (fun b => b = o))).setCell (p := ⟨o, 4, none⟩) (.inl rfl) (.int .i64 (pl + rl.length)))
  have HOW : Hid (zbi (w'.setCell ⟨o, 4, none⟩ (.int .i64 (pl + rl.length))) o ⟨m, i0, i1, i2, pl + rl.length, lg⟩) := zaj HH.out 4 _
  have HRW : Hid ((w'.setCell ⟨o, 4, none⟩ (.int .i64 (pl + rl.length))).ownsRow w.heap.size 5 1 (.slice va rl.length vc) rl.length (u8s rl)) := zai HO.out ((Kept.refl (fun b => b = o) w').setCell (p := ⟨o, 4, none⟩) (.inl rfl) _) (fun b hb hf => by
   have h1 := (HO.out.lt b hb).1
   have h2 := zab H.out
   have h3 : b = o := hf
   omega)
  go_wp2_with fail
  go_ret
  exact ⟨_, rfl, HRW.out, HOW.out, HKW.out⟩
end
section
set_option maxRecDepth 100000 in
set_option maxHeartbeats 1000000 in
theorem rk_read_bad {w : World} {kb rt : Nat} {fds : Nat → Option Nat} {n0 n1 : Nat} (h : RKAt w kb rt fds n0 n1) (fd n : Int) (hu : zbr fds fd = false ∨ n < 0) :
  Calls Tryz.prog 35 #[.pointer (some ⟨kb, 0, none⟩), .int .i64 fd, .int .i64 n] w fun e w' => RNo w (.tuple #[.slice none 0 0, fltV 1]) e w' := by
 have H := hid h
 have HB0 := hid (zad w (.cells #[.int .i64 0, .int .i64 0, .int .i64 0] 32))
 have HH0 := hid (heap_alloc_new w (.cells #[.int .i64 0, .int .i64 0, .int .i64 0] 32))
 clear h
 have HU := hid (zcu (H.out.below HB0.out) fd)
 go_enter Tryz.func35, Tryz.ntmps35
 go_wp2_with fail
 generalize w.alloc (.cells #[.int .i64 0, .int .i64 0, .int .i64 0] 32) = w0 at *
 refine HU.out.mono ?_
 rintro e w2 ⟨rfl, rfl⟩
 cases hb : zbr fds fd with
 | false =>
  clear hu hb
  go_wp2_with fail
  refine (zax 1 w2).mono ?_
  rintro e w9 ⟨rfl, hb9⟩
  have HB9 := hid (zaf HB0.out hb9)
  have HH9 : Hid (w9.heap[w.heap.size]? = some (.cells #[.int .i64 0, .int .i64 0, .int .i64 0] 32 (0, 0))) := zae hb9 (zab HH0.out) HH0.out
  clear hb9
  obtain ⟨g0, g1, g2⟩ := zz3 HH9.out
  have gf := fun o => zah HH9.out o
  obtain ⟨hx, hy⟩ := zat HB9.out (Nat.le_refl _) HH9.out (.int .i64 1) (.int .i64 0) (.int .i64 11)
  have HX := hid hx
  have HY := hid hy
  clear hx hy
  simp only [fltV]
  go_wp2_with fail
  clear g0 g1 g2 gf
  generalize ((w9.setCell ⟨w.heap.size, 0, none⟩ (.int .i64 1)).setCell ⟨w.heap.size, 1, none⟩ (.int .i64 0)).setCell ⟨w.heap.size, 2, none⟩ (.int .i64 11) = W at *
  obtain ⟨r0, r1, r2⟩ := zz3 HY.out
  refine bodyPost_ret (v := .tuple #[.slice none 0 0, fltV 1]) ?_ rfl (⟨rfl, HX.out⟩)
  simp [results, Tryz.results35, go_sem, r0, r1, r2, fltV]
 | true =>
  rw [hb] at hu
  have hn : n < 0 := by
   rcases hu with h | h
   ·cases h
   ·exact h
  clear hb hu
  go_wp2_with fail
  refine (zax 1 w2).mono ?_
  rintro e w9 ⟨rfl, hb9⟩
  have HB9 := hid (zaf HB0.out hb9)
  have HH9 : Hid (w9.heap[w.heap.size]? = some (.cells #[.int .i64 0, .int .i64 0, .int .i64 0] 32 (0, 0))) := zae hb9 (zab HH0.out) HH0.out
  clear hb9
  obtain ⟨g0, g1, g2⟩ := zz3 HH9.out
  have gf := fun o => zah HH9.out o
  obtain ⟨hx, hy⟩ := zat HB9.out (Nat.le_refl _) HH9.out (.int .i64 1) (.int .i64 0) (.int .i64 11)
  have HX := hid hx
  have HY := hid hy
  clear hx hy
  simp only [fltV]
  go_wp2_with fail
  clear g0 g1 g2 gf
  generalize ((w9.setCell ⟨w.heap.size, 0, none⟩ (.int .i64 1)).setCell ⟨w.heap.size, 1, none⟩ (.int .i64 0)).setCell ⟨w.heap.size, 2, none⟩ (.int .i64 11) = W at *
  obtain ⟨r0, r1, r2⟩ := zz3 HY.out
  refine bodyPost_ret (v := .tuple #[.slice none 0 0, fltV 1]) ?_ rfl (⟨rfl, HX.out⟩)
  simp [results, Tryz.results35, go_sem, r0, r1, r2, fltV]
set_option maxRecDepth 100000 in
set_option maxHeartbeats 1000000 in
theorem rk_read_no {w : World} {kb rt : Nat} {fds : Nat → Option Nat} {n0 n1 : Nat} (h : RKAt w kb rt fds n0 n1) (fd : Nat) (hf16 : fd < 16) {o : Nat} (ho : fds fd = some o) {x : ROp} (hx : zbi w o x) (hi : x.inn = false) (n : Int) (hn : 0 ≤ n) :
  Calls Tryz.prog 35 #[.pointer (some ⟨kb, 0, none⟩), .int .i64 fd, .int .i64 n] w fun e w' => RNo w (.tuple #[.slice none 0 0, fltV 16]) e w' := by
 have H := hid h
 have HB0 := hid (zad w (.cells #[.int .i64 0, .int .i64 0, .int .i64 0] 32))
 have HH0 := hid (heap_alloc_new w (.cells #[.int .i64 0, .int .i64 0, .int .i64 0] 32))
 clear h
 have hu : zbr fds (fd : Int) = true := by
  unfold zbr
  rw [decide_eq_true (by omega), decide_eq_true (by omega), Int.toNat_natCast, ho]
  rfl
 have HU := hid (hu ▸ zcu (H.out.below HB0.out) (fd : Int))
 have HX0 : Hid (zbi _ o x) := zae HB0.out (zab hx) hx
 have q1 := (H.out.below HB0.out).fd fd hf16
 rw [ho] at q1
 simp only [zau] at q1
 have hfi : (fd : Int) < 16 := by omega
 have hn0 : ¬ n < 0 := by omega
 clear hu hx hn
 have q2 : _ = some (Value.bool x.inn) := zaa (o := 1) HX0.out rfl
 rw [hi] at q2
 clear hi
 go_enter Tryz.func35, Tryz.ntmps35
 go_wp2_with fail
 generalize w.alloc (.cells #[.int .i64 0, .int .i64 0, .int .i64 0] 32) = w0 at *
 refine HU.out.mono ?_
 rintro e w2 ⟨rfl, rfl⟩
 go_wp2_with fail
 refine (zax 16 w2).mono ?_
 rintro e w9 ⟨rfl, hb9⟩
 have HB9 := hid (zaf HB0.out hb9)
 have HH9 : Hid (w9.heap[w.heap.size]? = some (.cells #[.int .i64 0, .int .i64 0, .int .i64 0] 32 (0, 0))) := zae hb9 (zab HH0.out) HH0.out
 clear hb9
 obtain ⟨g0, g1, g2⟩ := zz3 HH9.out
 have gf := fun o => zah HH9.out o
 obtain ⟨hx, hy⟩ := zat HB9.out (Nat.le_refl _) HH9.out (.int .i64 16) (.int .i64 0) (.int .i64 11)
 have HX := hid hx
 have HY := hid hy
 clear hx hy
 simp only [fltV]
 go_wp2_with fail
 clear g0 g1 g2 gf
 generalize ((w9.setCell ⟨w.heap.size, 0, none⟩ (.int .i64 16)).setCell ⟨w.heap.size, 1, none⟩ (.int .i64 0)).setCell ⟨w.heap.size, 2, none⟩ (.int .i64 11) = W at *
 obtain ⟨r0, r1, r2⟩ := zz3 HY.out
 refine bodyPost_ret (v := .tuple #[.slice none 0 0, fltV 16]) ?_ rfl (⟨rfl, HX.out⟩)
 simp [results, Tryz.results35, go_sem, r0, r1, r2, fltV]
def RReadOk (w : World) (o : Nat) (x : ROp) (l : List UInt8) (e : Ending) (w' : World) : Prop :=
 ∃ v, e = .returned (.tuple #[v, flt0]) ∧ w'.ownsRow w.heap.size 5 1 v l.length (u8s l) ∧ zbi w' o { x with place := x.place + l.length } ∧ Kept (fun b => b = o) w w'
set_option maxRecDepth 100000 in
set_option maxHeartbeats 1000000 in
theorem rk_read_ok {w : World} {kb rt : Nat} {fds : Nat → Option Nat} {n0 n1 : Nat} (h : RKAt w kb rt fds n0 n1) (fd : Nat) (hf16 : fd < 16) {o : Nat} (ho : fds fd = some o) {x : ROp} (hx : zbi w o x) (hi : x.inn = true) {B : Nat} {v : Value} {l : List UInt8} (hk : w.cell? ⟨x.node, 1, none⟩ = some v) (hrow : w.ownsRow B 5 1 v l.length (u8s l)) (hdl : l.length ≤ 140737488355328) (hp0 : 0 ≤ x.place) (hp1 : x.place ≤ 4611686018427387904) (n : Int) (hn : 0 ≤ n) (hn1 : n ≤ 9223372036854775807) :
  Calls Tryz.prog 35 #[.pointer (some ⟨kb, 0, none⟩), .int .i64 fd, .int .i64 n] w fun e w' => RReadOk w o x (zdr l x.place n) e w' := by
 have H := hid h
 have HB0 := hid (zad w (.cells #[.int .i64 0, .int .i64 0, .int .i64 0] 32))
 have HH0 := hid (heap_alloc_new w (.cells #[.int .i64 0, .int .i64 0, .int .i64 0] 32))
 clear h
 have HG : Hid (∀ W, Below w.heap.size w W → Calls Tryz.prog 62 #[.pointer (some ⟨o, 0, none⟩), .int .i64 n] W fun e w' => GetPost W o x (zdr l x.place n) e w') := fun W hW => rk_get (zae hW (zab hx) hx) (zbg hW hk) (zai hrow (Kept.of_below hW (fun _ => False)) (fun _ _ h => h)) hdl hp0 hp1 n (by omega)
 have HOL : Hid (o ≠ w.heap.size) := hid (by have := zab hx; omega)
 clear hk hrow hdl hp0 hp1 hn1
 have hu : zbr fds (fd : Int) = true := by
  unfold zbr
  rw [decide_eq_true (by omega), decide_eq_true (by omega), Int.toNat_natCast, ho]
  rfl
 have HU := hid (hu ▸ zcu (H.out.below HB0.out) (fd : Int))
 have HX0 : Hid (zbi _ o x) := zae HB0.out (zab hx) hx
 have q1 := (H.out.below HB0.out).fd fd hf16
 rw [ho] at q1
 simp only [zau] at q1
 have hfi : (fd : Int) < 16 := by omega
 have hn0 : ¬ n < 0 := by omega
 clear hu hx hn
 have q2 : _ = some (Value.bool x.inn) := zaa (o := 1) HX0.out rfl
 rw [hi] at q2
 clear hi
 generalize zdr l x.place n = rl at *
 go_enter Tryz.func35, Tryz.ntmps35
 go_wp2_with fail
 generalize w.alloc (.cells #[.int .i64 0, .int .i64 0, .int .i64 0] 32) = w0 at *
 refine HU.out.mono ?_
 rintro e w2 ⟨rfl, rfl⟩
 go_wp2_with fail
 refine (HG.out w2 HB0.out).mono ?_
 rintro e w3 ⟨v', rfl, hown, hop, hkp⟩
 have HO3 := hid hown
 have HP3 := hid hop
 have HK3 : Hid (Kept (fun b => b = o) w w3) := (Kept.of_below HB0.out _).trans hkp (fun b h => .inl h)
 have HH3 : Hid (w3.heap[w.heap.size]? = some (.cells #[.int .i64 0, .int .i64 0, .int .i64 0] 32 (0, 0))) := (hkp.block _ (zab HH0.out) (fun h => HOL.out h.symm)).trans HH0.out
 have HSZ : Hid (w.heap.size < w2.heap.size) := zab HH0.out
 clear hown hop hkp q1 q2
 obtain ⟨g0, g1, g2⟩ := zz3 HH3.out
 have gf := fun o => zah HH3.out o
 have HY := hid (zap HH3.out (.int .i64 0) (.int .i64 0) (.int .i64 0))
 have HKS := hid (zao w3 w.heap.size (.int .i64 0) (.int .i64 0) (.int .i64 0))
 go_wp2_with fail
 clear g0 g1 g2 gf
 generalize ((w3.setCell ⟨w.heap.size, 0, none⟩ (.int .i64 0)).setCell ⟨w.heap.size, 1, none⟩ (.int .i64 0)).setCell ⟨w.heap.size, 2, none⟩ (.int .i64 0) = W at *
 obtain ⟨r0, r1, r2⟩ := zz3 HY.out
 refine bodyPost_ret (v := .tuple #[v', flt0]) ?_ rfl (⟨v', rfl, zb4 (zai HO3.out HKS.out (fun b hb hf => by have := (HO3.out.lt b hb).1; have := HSZ.out; omega)) (Nat.le_of_lt HSZ.out), (HKS.out.block o (zab HP3.out) HOL.out).trans HP3.out, HK3.out.trans HKS.out (fun b h => .inr (by rw [h]; exact Nat.le_refl _))⟩)
 simp [results, Tryz.results35, go_sem, r0, r1, r2, flt0]
set_option maxRecDepth 100000 in
set_option maxHeartbeats 2000000 in
theorem rk_put_no {w : World} {o : Nat} {x : ROp} (hx : zbi w o x) (ho : x.out = false) (rt : Nat) (bv : Value) :
  Calls Tryz.prog 63 #[.pointer (some ⟨o, 0, none⟩), .pointer (some ⟨rt, 0, none⟩), bv] w fun e w' => RNo w (fltV 16) e w' := by
 have HX0 := hid hx
 have HB0 := hid (zad w (.cells #[.int .i64 0, .int .i64 0, .int .i64 0] 32))
 have HH0 := hid (heap_alloc_new w (.cells #[.int .i64 0, .int .i64 0, .int .i64 0] 32))
 have HX1 : Hid (zbi _ o x) := zae HB0.out (zab hx) hx
 clear hx
 have q2 : _ = some (Value.bool x.out) := zaa (o := 2) HX1.out rfl
 rw [ho] at q2
 clear ho
 go_enter Tryz.func63, Tryz.ntmps63
 go_wp2_with fail
 generalize w.alloc (.cells #[.int .i64 0, .int .i64 0, .int .i64 0] 32) = w0 at *
 refine (zax 16 w0).mono ?_
 rintro e w9 ⟨rfl, hb9⟩
 have HB9 := hid (zaf HB0.out hb9)
 have HH9 : Hid (w9.heap[w.heap.size]? = some (.cells #[.int .i64 0, .int .i64 0, .int .i64 0] 32 (0, 0))) := zae hb9 (zab HH0.out) HH0.out
 clear hb9
 obtain ⟨g0, g1, g2⟩ := zz3 HH9.out
 have gf := fun o => zah HH9.out o
 obtain ⟨hx, hy⟩ := zat HB9.out (Nat.le_refl _) HH9.out (.int .i64 16) (.int .i64 0) (.int .i64 11)
 have HX := hid hx
 have HY := hid hy
 clear hx hy
 simp only [fltV]
 go_wp2_with fail
 clear g0 g1 g2 gf
 generalize ((w9.setCell ⟨w.heap.size, 0, none⟩ (.int .i64 16)).setCell ⟨w.heap.size, 1, none⟩ (.int .i64 0)).setCell ⟨w.heap.size, 2, none⟩ (.int .i64 11) = W at *
 obtain ⟨r0, r1, r2⟩ := zz3 HY.out
 refine bodyPost_ret (v := fltV 16) ?_ rfl (⟨rfl, HX.out⟩)
 simp [results, Tryz.results63, go_sem, r0, r1, r2, fltV]
set_option maxRecDepth 100000 in
set_option maxHeartbeats 2000000 in
theorem rk_put_full {w : World} {o : Nat} {x : ROp} (hx : zbi w o x) (ho : x.out = true) (hl : x.log = true) {a : Option Addr} {dl c : Nat} (hk : w.cell? ⟨x.node, 1, none⟩ = some (.slice a dl c)) (hdl : dl ≤ 65536) (rt : Nat) (ba : Option Addr) (bl bc : Nat) (hb : 65536 < dl + bl) :
  Calls Tryz.prog 63 #[.pointer (some ⟨o, 0, none⟩), .pointer (some ⟨rt, 0, none⟩), .slice ba bl bc] w fun e w' => RNo w (fltV 19) e w' := by
 have HX0 := hid hx
 have HB0 := hid (zad w (.cells #[.int .i64 0, .int .i64 0, .int .i64 0] 32))
 have HH0 := hid (heap_alloc_new w (.cells #[.int .i64 0, .int .i64 0, .int .i64 0] 32))
 have HX1 : Hid (zbi _ o x) := zae HB0.out (zab hx) hx
 clear hx
 have q0 : _ = some (Value.pointer (some ⟨x.node, 0, none⟩)) := zaa (o := 0) HX1.out rfl
 have q2 : _ = some (Value.bool x.out) := zaa (o := 2) HX1.out rfl
 have q5 : _ = some (Value.bool x.log) := zaa (o := 5) HX1.out rfl
 rw [ho] at q2
 rw [hl] at q5
 clear ho hl
 have qk := zbg HB0.out hk
 have e1 : IntKind.i64.wrap (65536 - (dl : Int)) = 65536 - dl := IntWalk.i64_in _ (by omega)
 have h2 : 65536 - (dl : Int) < bl := by omega
 clear hk
 go_enter Tryz.func63, Tryz.ntmps63
 go_wp2_with fail
 generalize w.alloc (.cells #[.int .i64 0, .int .i64 0, .int .i64 0] 32) = w0 at *
 refine (zax 19 w0).mono ?_
 rintro e w9 ⟨rfl, hb9⟩
 have HB9 := hid (zaf HB0.out hb9)
 have HH9 : Hid (w9.heap[w.heap.size]? = some (.cells #[.int .i64 0, .int .i64 0, .int .i64 0] 32 (0, 0))) := zae hb9 (zab HH0.out) HH0.out
 clear hb9
 obtain ⟨g0, g1, g2⟩ := zz3 HH9.out
 have gf := fun o => zah HH9.out o
 obtain ⟨hx, hy⟩ := zat HB9.out (Nat.le_refl _) HH9.out (.int .i64 19) (.int .i64 0) (.int .i64 11)
 have HX := hid hx
 have HY := hid hy
 clear hx hy
 simp only [fltV]
 go_wp2_with fail
 clear g0 g1 g2 gf
 generalize ((w9.setCell ⟨w.heap.size, 0, none⟩ (.int .i64 19)).setCell ⟨w.heap.size, 1, none⟩ (.int .i64 0)).setCell ⟨w.heap.size, 2, none⟩ (.int .i64 11) = W at *
 obtain ⟨r0, r1, r2⟩ := zz3 HY.out
 refine bodyPost_ret (v := fltV 19) ?_ rfl (⟨rfl, HX.out⟩)
 simp [results, Tryz.results63, go_sem, r0, r1, r2, fltV]
end
end Go.Proofs.YteeeaeiafdgpkaaGreatDoor
