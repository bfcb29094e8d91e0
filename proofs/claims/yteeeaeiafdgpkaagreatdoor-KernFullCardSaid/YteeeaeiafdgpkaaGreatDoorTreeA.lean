/-
 tree.Clean: its contract.
 A TREE IN MEMORY: nodes, their rows of bytes, their maps of names; and the plain functions that tell what the tree's calls do. The laws of a map of names.
 (*Tree).find: its contract.
 (*Tree).tick, of one node and of two: its contracts.
-/
import Derived.Test.YteeeaeiafdgpkaaGreatDoorCore
import Derived.Test.YteeeaeiafdgpkaaGreatDoorShelf
import Derived.Handy
import Derived.Lib.ReplaceLaws
import Derived.RegionTactic
import Derived.ChangeAlike
import Derived.BigRegion
namespace Go.Proofs.YteeeaeiafdgpkaaGreatDoor
open Go Go.RowKit
section
theorem zeg {w : World} {base : Nat} {e : TypeId} {g cap n : Nat} {xs : List Value} (h : w.ownsRow base e 1 (.slice (some ⟨g, 0, none⟩) n cap) n xs) (m : Nat) (hm : m ≤ n) :
  w.ownsRow base e 1 (.slice (some ⟨g, 0, none⟩) m cap) m (xs.take m) := by
 obtain ⟨h1, h2⟩ := h
 refine ⟨by simp at h1 ⊢; omega, ?_⟩
 rcases h2 with ⟨h3, _⟩ | ⟨g', cap', cur, h3, r1, r2, r3, r4, r5, r6⟩
 ·cases h3
 ·simp only [Value.slice.injEq, Option.some.injEq, Addr.mk.injEq] at h3
  obtain ⟨⟨rfl, _⟩, _, rfl⟩ := h3
  exact .inr ⟨g, cap, cur, rfl, r1, r2, by omega, r4, r5, by rw [← r6]; simp [List.take_take, Nat.min_eq_left hm]⟩
def zcg (w : World) (base : Nat) (v : Value) (l : List ByteArray) : Prop :=
 (l = [] ∧ ∃ a c, v = .slice a 0 c) ∨
 ∃ g cap cur, v = .slice (some ⟨g, 0, none⟩) l.length cap ∧ l.length ≤ cap ∧ base ≤ g ∧ w.heap[g]? = some (.cells cur 9 (0, 0)) ∧ ∀ j (h : j < l.length), cur[j]? = some (.string l[j])
theorem zcg.of_owns {w : World} {base b : Nat} {v : Value} {l : List ByteArray} (h : w.ownsRow base 9 1 v l.length (l.map .string)) (hb : b ≤ base) : zcg w b v l := by
 rcases h.2 with ⟨rfl, h0⟩ | ⟨g, cap, cur, rfl, r1, r2, r3, _, _, r6⟩
 ·exact .inl ⟨List.eq_nil_of_length_eq_zero h0, _, _, rfl⟩
 ·refine .inr ⟨g, cap, cur, rfl, r3, by omega, r2, fun j hj => ?_⟩
  have := congrArg (fun x => x[j]?) r6
  simp only [List.getElem?_take, Nat.mul_one, hj, if_true, Array.getElem?_toList, List.getElem?_map, List.getElem?_eq_getElem hj, Option.map_some] at this
  exact this
theorem zcg.cap {w : World} {base : Nat} {a : Option Addr} {n c c' : Nat} {l : List ByteArray} (h : zcg w base (.slice a n c) l) (hc : n ≤ c') : zcg w base (.slice a n c') l := by
 rcases h with ⟨h0, a', c0, h1⟩ | ⟨g, cap, cur, h1, _, r⟩
 ·simp only [Value.slice.injEq] at h1
  obtain ⟨rfl, rfl, rfl⟩ := h1
  exact .inl ⟨h0, _, _, rfl⟩
 ·simp only [Value.slice.injEq] at h1
  obtain ⟨rfl, rfl, rfl⟩ := h1
  exact .inr ⟨g, c', cur, rfl, hc, r⟩
theorem zcg.form {w : World} {base : Nat} {v : Value} {l : List ByteArray} (h : zcg w base v l) : ∃ a c, v = .slice a l.length c ∧ l.length ≤ c ∧ ∀ j (hj : j < l.length), ∃ g, a = some ⟨g, 0, none⟩ ∧ base ≤ g ∧ w.cell? ⟨g, j, none⟩ = some (.string l[j]) := by
 rcases h with ⟨rfl, a, c, rfl⟩ | ⟨g, cap, cur, rfl, r0, r1, r2, r3⟩
 ·exact ⟨a, c, rfl, Nat.zero_le _, fun j hj => by simp at hj⟩
 ·exact ⟨_, cap, rfl, r0, fun j hj => ⟨g, rfl, r1, zaa r2 (r3 j hj)⟩⟩
theorem zcg.kept {w w' : World} {base : Nat} {v : Value} {l : List ByteArray} {F : Nat → Prop} (h : zcg w base v l) (k : Kept F w w') (hF : ∀ b, F b → b < base) : zcg w' base v l := by
 rcases h with h | ⟨g, cap, cur, rfl, r0, r1, r2, r3⟩
 ·exact .inl h
 ·exact .inr ⟨g, cap, cur, rfl, r0, r1, (k.block g (zab r2) (fun hf => by have := hF g hf; omega)).trans r2, r3⟩
theorem long_false {l : List ByteArray} (h : ∀ j (hj : j < l.length), l[j].size ≤ 64) : long l = false := by
 unfold long
 rw [List.any_eq_false]
 intro x hx
 obtain ⟨j, hj, rfl⟩ := List.getElem_of_mem hx
 have := h j hj
 simp; omega
theorem long_true {l : List ByteArray} {j : Nat} (hj : j < l.length) (h : 64 < l[j].size) : long l = true := by
 unfold long
 rw [List.any_eq_true]
 exact ⟨l[j], List.getElem_mem hj, by simpa using h⟩
def CleanPost (w : World) (l : List ByteArray) (e : Ending) (w' : World) : Prop :=
 ∃ v, e = .returned (.tuple (if long l then #[.slice none 0 0, .bool false] else #[v, .bool true])) ∧ zcg w' w.heap.size v l ∧ Below w.heap.size w w'
theorem infoStr : (Tryz.prog.info? 9).map (fun i => (i.zero, i.size, i.bytes)) = some (some (.string ByteArray.empty), 1, 16) := by kernel_rfl
def ze0 (w : World) (xs : List ByteArray) : World := w.alloc (.cells (xs.map .string).toArray 9)
set_option maxRecDepth 100000 in
set_option maxHeartbeats 2000000 in
theorem clean_all (s : ByteArray) (w : World) (h0 : 0 < s.size) (h1 : s.size ≤ 256)
  (hi : Calls Tryz.prog 106 #[.string s, .int .u8 0] w fun e w' => e = .returned (.int .i64 (-1)) ∧ w' = w) (xs : List ByteArray) (hxl : xs.length ≤ 300)
  (hs : Calls Tryz.prog 107 #[.string s, .string ⟨#[47]⟩] w fun e w' => e = .returned (.slice (some ⟨w.heap.size, 0, none⟩) xs.length xs.length) ∧ w' = ze0 w xs) :
  Calls Tryz.prog 85 #[.string s] w fun e w' => CleanPost w (fold xs) e w' := by
 obtain ⟨i0, hi9, hz0, hz1, hz2⟩ := info_parts infoStr
 go_enter Tryz.func85, Tryz.ntmps85
 go_wp2_with fail
 refine hi.mono ?_
 rintro e w' ⟨rfl, rfl⟩
 go_wp2_with fail
 refine hs.mono ?_
 rintro e w1 ⟨rfl, rfl⟩
 have HW : Hid (Below (w'.heap.size + 1) (ze0 w' xs) (ze0 w' xs)) := Below.refl _ _
 have HB : Hid (∀ j (h : j < xs.length), (ze0 w' xs).cell? ⟨w'.heap.size, j, none⟩ = some (.string xs[j])) := by
  intro j hj
  unfold ze0
  rw [World.cell?_alloc_at _ _ _ _ rfl]
  simp [hj]
 have HS : Hid ((ze0 w' xs).heap.size = w'.heap.size + 1) := by show (ze0 w' xs).heap.size = _; simp [ze0]
 have HK : Hid (Below w'.heap.size w' (ze0 w' xs)) := (Below.refl _ _).alloc (Nat.le_refl _) _
 clear hs hi
 generalize ze0 w' xs = ws at *
 go_wp2_with fail
 go_loopw [4, 25] (fun out idx wr => ∃ k : Nat, k ≤ xs.length ∧ idx = .int .i64 k ∧ Hid (wr.ownsRow (w'.heap.size+1) 9 1 out (fold (xs.take k)).length ((fold (xs.take k)).map .string)) ∧ Below (w'.heap.size + 1) ws wr) (fun _ idx _ => xs.length - (intOf idx).toNat)
 case atStart => exact ⟨0, Nat.zero_le _, rfl, World.ownsRow_nil _ _ _ _, HW.out⟩
 case round =>
  obtain ⟨k, hk, rfl, hown, hb⟩ := hrel
  by_cases hlt : k < xs.length
  ·have hcell : wr.cell? ⟨w'.heap.size, k, none⟩ = some (.string xs[k]) := (hb.cell (p := ⟨w'.heap.size, k, none⟩) (by simp)).trans (HB.out k hlt)
   have HT : Hid (fold (xs.take (k + 1)) = step (fold (xs.take k)) xs[k]) := by
    show fold (xs.take (k + 1)) = step (fold (xs.take k)) xs[k]
    rw [List.take_succ_eq_append_getElem hlt, fold_snoc]
   have hfl : (fold (xs.take k)).length ≤ 300 := Nat.le_trans (zfc _) (by simp; omega)
   have HSZ : Hid (w'.heap.size + 1 ≤ wr.heap.size) := by show _ ≤ _; have := hb.size; rw [HS.out] at this; exact this
   generalize xs[k] = x at *
   generalize fold (xs.take k) = ys at *
   by_cases hA : x.toList.isEmpty = true
   ·have HE : Hid (step ys x = ys) := step_empty hA
    go_wp2_with fail
    go_roundw
    case rel => exact ⟨k + 1, by omega, by go_num, by show wr.ownsRow _ _ _ _ _ _; rw [HT.out, HE.out]; exact hown.out, hb⟩
    case measure => simp [intOf]; omega
   ·have hA' : x.toList.isEmpty = false := by simpa using hA
    clear hA
    by_cases hB : (x.toList == [46]) = true
    ·have HE : Hid (step ys x = ys) := step_dot hA' hB
     go_wp2_with fail
     go_roundw
     case rel => exact ⟨k + 1, by omega, by go_num, by show wr.ownsRow _ _ _ _ _ _; rw [HT.out, HE.out]; exact hown.out, hb⟩
     case measure => simp [intOf]; omega
    ·have hB' : (x.toList == [46]) = false := by simpa using hB
     clear hB
     by_cases hC : (x.toList == [46, 46]) = true
     ·have HE : Hid (step ys x = ys.dropLast) := step_dots hA' hB' hC
      rcases hown.out.2 with ⟨rfl, hn0⟩ | ⟨g, cap, cur, rfl, q1, q2, q3, q4, q5, q6⟩
      ·have HY : Hid (ys = []) := List.eq_nil_of_length_eq_zero hn0
       clear hn0
       go_wp2_with fail
       go_roundw
       case rel => exact ⟨k + 1, by omega, by go_num, by show wr.ownsRow _ _ _ _ _ _; rw [HT.out, HE.out, HY.out]; exact World.ownsRow_nil _ _ _ _, hb⟩
       case measure => simp [intOf]; omega
      ·have HO : Hid (∀ m, m ≤ ys.length → wr.ownsRow (w'.heap.size + 1) 9 1 (.slice (some ⟨g, 0, none⟩) m cap) m ((ys.map Value.string).take m)) := fun m hm => zeg hown.out m hm
       clear q1 q2 q5 q6
       go_wp2_with fail
       go_roundw
       case rel =>
        refine ⟨k + 1, by omega, by go_num, ?_, hb⟩
        show wr.ownsRow _ _ _ _ _ _
        have hm : (max 0 ((ys.length : Int) - 1)).toNat = ys.length - 1 := by omega
        rw [HT.out, HE.out, hm, List.map_dropLast, List.length_dropLast, List.dropLast_eq_take, List.length_map]
        exact HO.out _ (by omega)
       case measure => simp [intOf]; omega
     ·have hC' : (x.toList == [46, 46]) = false := by simpa using hC
      clear hC
      have HE : Hid (step ys x = ys ++ [x]) := step_more hA' hB' hC'
      go_wp2_with (at_builtin; refine wpList_append_own _ rfl _ _ 109 rfl (w'.heap.size + 1) 9 i0 (.string ByteArray.empty) 1 16 Tryz.underlying109 hi9 hz0 hz1 hz2 rfl (by decide) _ _ _ rfl (hown.out.alloc _) ⟨wr.heap.size, 0, none⟩ 1 1 [.string x] rfl rfl ?c1 ?c2 ?c3 ?c4 ?c5 ?_)
      case c1 =>
       intro j u hu
       cases j with
       | zero => simp at hu; subst hu; simp [Addr.add]
       | succ j => simp at hu
      case c2 => intro u hu; simp at hu; subst hu; rfl
      case c3 => unfold maxLen; omega
      case c4 => omega
      case c5 => have := HSZ.out; simp; omega
      intro v' w2 hown2 hgrow _
      have HO : Hid (w2.ownsRow (w'.heap.size + 1) 9 1 v' (ys.length + 1) (List.map Value.string ys ++ [Value.string x])) := hown2
      have HN : Hid (Below (w'.heap.size + 1) ws w2) := by
       have h1 : Below (w'.heap.size + 1) ws (wr.alloc (.cells #[.string x] 9)) := hb.alloc HSZ.out _
       refine h1.grown hgrow (by have := HSZ.out; simp; omega) (fun q hq => (hown.out.lt q hq).1)
      clear hown2 hgrow
      go_wp2_with fail
      go_roundw
      case rel =>
       refine ⟨k + 1, by omega, by go_num, ?_, HN.out⟩
       show w2.ownsRow _ _ _ _ _ _
       rw [HT.out, HE.out, List.length_append, List.map_append]
       exact HO.out
      case measure => simp [intOf]; omega
  ·have hkx : k = xs.length := by omega
   subst hkx
   have HT : Hid (fold (xs.take xs.length) = fold xs) := by show fold _ = _; rw [List.take_length]
   have HO : Hid (zcg wr w'.heap.size u4 (fold xs)) := by
    have h := hown.out
    rw [HT.out] at h
    exact zcg.of_owns h (by omega)
   have HBW : Hid (Below w'.heap.size w' wr) := HK.out.trans (hb.mono (by omega))
   have hfl : (fold xs).length ≤ 300 := Nat.le_trans (zfc _) hxl
   clear hown hb HT HW HB HS HK
   generalize hys : fold xs = ys at *
   have HYS : Hid (fold xs = ys) := hys
   clear hys
   obtain ⟨av, cv, hv, hlc, hcells⟩ := HO.out.form
   subst hv
   have HC : Hid (∀ j (hj : j < ys.length), ∃ g, av = some ⟨g, 0, none⟩ ∧ w'.heap.size ≤ g ∧ wr.cell? ⟨g, j, none⟩ = some (.string ys[j])) := hcells
   clear hcells
   go_wp2_with fail
   go_loop [48] (fun idx => ∃ k : Nat, k ≤ ys.length ∧ idx = .int .i64 k ∧ Hid (∀ j (hj : j < ys.length), j < k → ys[j].size ≤ 64)) (fun idx => ys.length - (intOf idx).toNat)
   case atStart => exact ⟨0, Nat.zero_le _, rfl, fun j _ h => by omega⟩
   case round =>
    obtain ⟨k2, hk2, rfl, hsm⟩ := hrel
    by_cases hlt2 : k2 < ys.length
    ·obtain ⟨g, hg, _, hcell⟩ := HC.out k2 hlt2
     subst hg
     have HX : Hid (∀ j (hj : j < ys.length), j < k2 + 1 → ys[k2].size ≤ 64 → ys[j].size ≤ 64) := by
      intro j hj h1 h2
      by_cases hjk : j < k2
      ·exact hsm.out j hj hjk
      ·obtain rfl : j = k2 := by omega
       exact h2
     have HL : Hid (64 < ys[k2].size → long ys = true) := fun h => long_true hlt2 h
     generalize ys[k2] = x at *
     by_cases hx : 64 < x.size
     ·have HLL : Hid (long ys = true) := HL.out hx
      go_wp2_with fail
      go_ret2
      rw [HYS.out]
      refine ⟨.slice (some ⟨g, 0, none⟩) ys.length cv, ?_, HO.out, HBW.out⟩
      rw [HLL.out]; rfl
     ·have hx' : x.size ≤ 64 := by omega
      go_wp2_with fail
      go_round
      case rel => exact ⟨k2 + 1, by omega, by go_num, fun j hj h1 => HX.out j hj h1 hx'⟩
      case measure => simp [intOf]; omega
    ·have HLL : Hid (long ys = false) := long_false fun j hj => hsm.out j hj (by omega)
     go_wp2
     go_ret2
     rw [HYS.out]
     refine ⟨.slice av ys.length ys.length, ?_, HO.out.cap (Nat.le_refl _), HBW.out⟩
     rw [HLL.out]; rfl
theorem pieces_len (s : ByteArray) : (zbe s).length = Lib.countB s zdm + 1 := by
 have h : ∀ (k : Nat) (s : ByteArray), Lib.countB s zdm = k → (Lib.splitB zdm 0 k s).length = k + 1 := by
  intro k
  induction k with
  | zero => intro s _; simp [Lib.splitB]
  | succ k ih =>
   intro s hs
   unfold Lib.splitB
   split
   ·rename_i hm
    rw [Lib.countB_miss s zdm (by simpa using hm)] at hs
    cases hs
   ·rename_i hm
    have hge : ∃ i : Nat, Lib.indexB s zdm = i := by
     have h1 := Lib.index_ge s.data.toList zdm.data.toList
     have h2 : Lib.indexB s zdm ≠ -1 := by simpa using hm
     have h3 : Lib.indexB s zdm = Lib.index s.data.toList zdm.data.toList := rfl
     exact ⟨(Lib.indexB s zdm).toNat, by omega⟩
    obtain ⟨i, hi⟩ := hge
    rw [Lib.countB_hit s zdm i (by decide) hi] at hs
    have e : (Lib.indexB s zdm).toNat = i := by omega
    rw [List.length_cons, e, ih _ (by omega)]
 exact h _ s rfl
theorem pieces_le (s : ByteArray) : (zbe s).length ≤ s.size + 1 := by
 rw [pieces_len]
 have := Lib.countB_mul_le zdm (by decide) s.size s (Nat.le_refl _)
 have e : zdm.size = 1 := rfl
 rw [e] at this
 omega
theorem clean_good {m : Int} (s : ByteArray) (w : World) (hm : w.cell? ⟨25, 0, none⟩ = some (.int .i64 m)) (hg : zbj s = false) :
  Calls Tryz.prog 85 #[.string s] w fun e w' => CleanPost w (fold (zbe s)) e w' := by
 unfold zbj at hg
 simp only [Bool.or_eq_false_iff, decide_eq_false_iff_not, bne_eq_false_iff_eq] at hg
 obtain ⟨⟨h0, h1⟩, h2⟩ := hg
 refine clean_all s w (by omega) (by omega) ?_ (zbe s) (by have := pieces_le s; omega) ?_
 ·refine (Tryz.strings_IndexByte s 0 w).mono ?_
  rintro e w' ⟨rfl, rfl⟩
  refine ⟨?_, rfl⟩
  have e : Int.toNat 0 = 0 := rfl
  rw [e]
  rw [show (Nat.toUInt8 0) = (0 : UInt8) from rfl, h2]
 ·refine (Tryz.strings_Split s zdm m w (by omega) hm (by decide)).mono ?_
  rintro e w' ⟨rfl, rfl⟩
  rw [pieces_len]
  exact ⟨rfl, rfl⟩
set_option maxHeartbeats 1000000 in
theorem clean_bad (s : ByteArray) (w : World) (hsz : s.size ≤ 9223372036854775807) (hg : zbj s = true) :
  Calls Tryz.prog 85 #[.string s] w fun e w' => e = .returned (.tuple #[.slice none 0 0, .bool false]) ∧ w' = w := by
 unfold zbj at hg
 simp only [Bool.or_eq_true, decide_eq_true_eq, bne_iff_ne] at hg
 by_cases h0 : s.size < 1
 ·have hz : s.size = 0 := by omega
  go_enter Tryz.func85, Tryz.ntmps85
  go_wp2_with fail
  go_ret2
  exact ⟨rfl, rfl⟩
 by_cases h1 : 256 < s.size
 ·clear hg
  go_enter Tryz.func85, Tryz.ntmps85
  go_wp2_with fail
  go_ret2
  exact ⟨rfl, rfl⟩
 have hne : Lib.indexByte s.data.toList 0 ≠ -1 := by
  rcases hg with (h | h) | h
  ·exact absurd h h0
  ·exact absurd h h1
  ·exact h
 have hge := Lib.indexByte_ge s.data.toList 0
 have hib : ∀ w, Calls Tryz.prog 106 #[.string s, .int .u8 0] w fun e w' => e = .returned (.int .i64 (Lib.indexByte s.data.toList 0)) ∧ w' = w := fun w => Tryz.strings_IndexByte s 0 w
 generalize Lib.indexByte s.data.toList 0 = i at *
 have hi0 : 0 ≤ i := by omega
 have h0' : 1 ≤ s.size := by omega
 clear hg hne hge h0
 go_enter Tryz.func85, Tryz.ntmps85
 go_wp2_with fail
 refine (hib _).mono ?_
 rintro e w' ⟨rfl, rfl⟩
 clear hib
 go_wp2_with fail
 go_ret2
 exact ⟨rfl, rfl⟩
end
section
def ptrV (o : Option Nat) : Value := .pointer (o.map fun b => ⟨b, 0, none⟩)
theorem zau (b : Nat) : ptrV (some b) = .pointer (some ⟨b, 0, none⟩) := rfl
theorem za0 : ptrV none = .pointer none := rfl
def u8s (l : List UInt8) : List Value := l.map fun x => .int .u8 x.toNat
theorem zb1 (l : List UInt8) : (u8s l).length = l.length := by simp [u8s]
theorem zbw (l m : List UInt8) : u8s (l ++ m) = u8s l ++ u8s m := by simp [u8s]
structure Nd where
 dir : Bool
 bv : Value
 data : List UInt8
 names : List (ByteArray × Nat)
 mb : Nat
 links : Int
 tick : Int
structure Tr where
 tb : Nat
 root : Nat
 clock : Int
 count : Int
 nd : Nat → Option Nd
def zcl (w : World) (mb : Nat) (names : List (ByteArray × Nat)) : Prop :=
 ∃ es clock, w.heap[mb]? = some (.map es clock) ∧ es.toList.map (fun e => (e.key, e.val)) = names.map (fun p => (Value.string p.1, Value.pointer (some ⟨p.2, 0, none⟩))) ∧ MapKept.Stamped es clock
def mapV (d : Nd) : Value := if d.dir then .map (some d.mb) else .map none
structure NodeAt (B : Nat) (w : World) (n : Nat) (d : Nd) : Prop where
 cells : w.heap[n]? = some (.cells #[.bool d.dir, d.bv, mapV d, .int .i64 d.links, .int .i64 d.tick] 107 (0, 0))
 row : w.ownsRow B 5 1 d.bv d.data.length (u8s d.data)
 map : d.dir = true → zcl w d.mb d.names
 file : d.dir = false → d.names = []
def Tr.foot (T : Tr) (b : Nat) : Prop :=
 b = T.tb ∨ (∃ d, T.nd b = some d) ∨ ∃ n d, T.nd n = some d ∧ ((d.dir = true ∧ d.mb = b) ∨ d.bv.ownBlock = some b)
structure Rep (B : Nat) (w : World) (T : Tr) : Prop where
 low : ∀ b, T.foot b → B ≤ b
 tree : w.heap[T.tb]? = some (.cells #[ptrV (some T.root), .int .i64 T.clock, .int .i64 T.count] 115 (0, 0))
 node : ∀ n d, T.nd n = some d → NodeAt B w n d
 maps : ∀ n d n' d', T.nd n = some d → T.nd n' = some d' → d.dir = true → d'.dir = true → d.mb = d'.mb → n = n'
 rows : ∀ n d n' d' b, T.nd n = some d → T.nd n' = some d' → d.bv.ownBlock = some b → d'.bv.ownBlock = some b → n = n'
 root : ∃ d, T.nd T.root = some d ∧ d.dir = true
 kids : ∀ n d s k, T.nd n = some d → (s, k) ∈ d.names → ∃ d', T.nd k = some d'
theorem zcl.kept {w w' : World} {mb : Nat} {names : List (ByteArray × Nat)} {F : Nat → Prop} (h : zcl w mb names) (k : Kept F w w') (hF : ¬ F mb) : zcl w' mb names := by
 obtain ⟨es, c, h1, h2⟩ := h
 exact ⟨es, c, (k.block mb (zab h1) hF).trans h1, h2⟩
theorem zai {w w' : World} {base n : Nat} {e : TypeId} {size : Nat} {v : Value} {xs : List Value} {F : Nat → Prop} (h : w.ownsRow base e size v n xs) (k : Kept F w w') (hF : ∀ b, v.ownBlock = some b → ¬ F b) : w'.ownsRow base e size v n xs := by
 refine ⟨h.1, ?_⟩
 rcases h.2 with hn | ⟨g, cap, cur, rfl, r1, r2, r3⟩
 ·exact .inl hn
 ·exact .inr ⟨g, cap, cur, rfl, r1, (k.block g (zab r2) (hF g rfl)).trans r2, r3⟩
theorem NodeAt.kept {B n : Nat} {w w' : World} {d : Nd} {F : Nat → Prop} (h : NodeAt B w n d) (k : Kept F w w') (h1 : ¬ F n) (h2 : d.dir = true → ¬ F d.mb) (h3 : ∀ b, d.bv.ownBlock = some b → ¬ F b) : NodeAt B w' n d :=
 ⟨(k.block n (zab h.cells) h1).trans h.cells, zai h.row k h3, fun hd => (h.map hd).kept k (h2 hd), h.file⟩
theorem Rep.kept {B : Nat} {w w' : World} {T : Tr} {F : Nat → Prop} (h : Rep B w T) (k : Kept F w w') (hF : ∀ b, T.foot b → ¬ F b) : Rep B w' T where
 low := h.low
 tree := (k.block T.tb (zab h.tree) (hF _ (.inl rfl))).trans h.tree
 node n d hn := (h.node n d hn).kept k (hF _ (.inr (.inl ⟨d, hn⟩))) (fun hd => hF _ (.inr (.inr ⟨n, d, hn, .inl ⟨hd, rfl⟩⟩))) (fun _ hb => hF _ (.inr (.inr ⟨n, d, hn, .inr hb⟩)))
 maps := h.maps
 rows := h.rows
 root := h.root
 kids := h.kids
theorem Rep.below {B : Nat} {w w' : World} {T : Tr} (h : Rep B w T) (k : Below w.heap.size w w') : Rep B w' T :=
 h.kept (Kept.of_below k (fun _ => False)) (fun _ _ hf => hf)
theorem Rep.lt {B : Nat} {w : World} {T : Tr} (h : Rep B w T) {b : Nat} (hb : T.foot b) : b < w.heap.size := by
 rcases hb with rfl | ⟨d, hd⟩ | ⟨n, d, hn, ⟨hd, rfl⟩ | hv⟩
 ·exact zab h.tree
 ·exact zab (h.node _ _ hd).cells
 ·obtain ⟨es, c, h1, _⟩ := (h.node _ _ hn).map hd
  exact zab h1
 ·exact ((h.node _ _ hn).row.lt b hv).2
def look (names : List (ByteArray × Nat)) (s : ByteArray) : Option Nat := (names.find? fun p => s == p.1).map (·.2)
theorem zdp {names : List (ByteArray × Nat)} {s : ByteArray} {k : Nat} (h : look names s = some k) : (s, k) ∈ names := by
 unfold look at h
 cases hf : names.find? (fun p => s == p.1) with
 | none => rw [hf] at h; cases h
 | some p =>
  rw [hf] at h
  simp only [Option.map_some, Option.some.injEq] at h
  have h1 := List.mem_of_find?_eq_some hf
  have h2 := List.find?_some hf
  have e : s = p.1 := (MapKept.bytes_beq s p.1).1 h2
  subst h; subst e
  exact h1
theorem zc8 (s : ByteArray) : ∀ (es : List MapEntry) (names : List (ByteArray × Nat)) (i : Nat),
  es.map (fun e => (e.key, e.val)) = names.map (fun p => (Value.string p.1, Value.pointer (some ⟨p.2, 0, none⟩))) →
  Instr.findNow .string (.string s) es i = some ((names.findIdx? (fun p => s == p.1)).map fun j => (i + j, Value.pointer (some ⟨((names[j]?).map (·.2)).getD 0, 0, none⟩)))
 | [], names, i, h => by
  cases names with
  | nil => rfl
  | cons a l => cases h
 | e :: es, names, i, h => by
  cases names with
  | nil => cases h
  | cons p l =>
   simp only [List.map_cons, List.cons.injEq, Prod.mk.injEq] at h
   obtain ⟨⟨hk, hv⟩, hr⟩ := h
   unfold Instr.findNow
   rw [hk]
   simp only [Instr.sameNow, List.findIdx?_cons]
   by_cases hs : (s == p.1) = true
   ·rw [hs]; simp [hv]
   ·have hs' : (s == p.1) = false := by simpa using hs
    rw [hs', zc8 s es l (i + 1) hr]
    simp only [Bool.false_eq_true, if_false, Option.map_map]
    congr 1
    congr 1
    funext j
    simp [Nat.add_comm, Nat.add_left_comm]
theorem look_idx (names : List (ByteArray × Nat)) (s : ByteArray) : look names s = (names.findIdx? (fun p => s == p.1)).map fun j => ((names[j]?).map (·.2)).getD 0 := by
 unfold look
 induction names with
 | nil => rfl
 | cons p l ih =>
  simp only [List.find?_cons, List.findIdx?_cons]
  by_cases hs : (s == p.1) = true
  ·rw [hs]; simp
  ·have hs' : (s == p.1) = false := by simpa using hs
   rw [hs', ih]
   simp [Option.map_map, Function.comp_def]
theorem zeo {P : Program} {t : TypeId} (ht : P.underlying t = some .string) (e : Bool) (n : Nat) (s : ByteArray) (w : World) : (Instr.checkKey e (n + 1) t (.string s)).run P w = .ok () w := by
 unfold Instr.checkKey
 simp [run_underlying ht]
theorem zec {w : World} {mb : Nat} {names : List (ByteArray × Nat)} (h : zcl w mb names) (s : ByteArray) :
  (Instr.lookup 105 (.map (some mb)) (.string s) false).run Tryz.prog w = .ok (ptrV (look names s)) w := by
 obtain ⟨es, clock, hb, he, _⟩ := h
 have hm : Tryz.prog.underlying 105 = some (.map 9 103) := Tryz.underlying105
 have hs : Tryz.prog.underlying 9 = some .string := Tryz.underlying9
 have hz : (zeroValue 103).run Tryz.prog w = .ok (.pointer none) w := by kernel_rfl
 have hf := zc8 s es.toList names 0 he
 have hg : (getObj mb).run Tryz.prog w = .ok (.map es clock) w := MapKept.run_getObj_map hb
 have hc := zeo hs es.isEmpty 9999 s w
 rw [look_idx]
 cases hj : names.findIdx? (fun p => s == p.1) with
 | none =>
  rw [hj] at hf
  simp [Instr.lookup, run_underlying hm, hg, hc, Instr.findKey, run_underlying hs, hf, hz, ptrV, Result.andThen]
 | some j =>
  rw [hj] at hf
  simp [Instr.lookup, run_underlying hm, hg, hc, Instr.findKey, run_underlying hs, hf, ptrV, Result.andThen]
end
section
structure Spot where
 inn : Option Nat
 name : ByteArray
 n : Option Nat
def zct (s : Spot) : Value := .agg #[ptrV s.inn, .string s.name, ptrV s.n]
def spot0 : Spot := ⟨none, ByteArray.empty, none⟩
def Tr.goTo (T : Tr) : Spot → List ByteArray → Option Spot
 | s, [] => some s
 | s, x :: l => match s.n with
  | none => none
  | some n => match T.nd n with
   | none => none
   | some d => if d.dir then T.goTo ⟨some n, x, look d.names x⟩ l else none
def Tr.start (T : Tr) : Spot := ⟨none, ByteArray.empty, some T.root⟩
def Tr.parts (T : Tr) (l : List ByteArray) : Except Nat Spot :=
 match T.goTo T.start l with
 | none => .error 16
 | some s => .ok s
def Tr.find (T : Tr) (p : ByteArray) : Except Nat Spot :=
 match zbh p with
 | none => .error 15
 | some l => T.parts l
theorem Tr.parts_none {T : Tr} {l : List ByteArray} (h : T.goTo T.start l = none) : T.parts l = .error 16 := by unfold Tr.parts; rw [h]
theorem Tr.parts_some {T : Tr} {l : List ByteArray} {s : Spot} (h : T.goTo T.start l = some s) : T.parts l = .ok s := by unfold Tr.parts; rw [h]
theorem Tr.goTo_cons_none (T : Tr) (a : Option Nat) (nm : ByteArray) (x : ByteArray) (l : List ByteArray) : T.goTo ⟨a, nm, none⟩ (x :: l) = none := rfl
theorem Tr.goTo_cons_file {T : Tr} {n : Nat} {d : Nd} (h : T.nd n = some d) (hd : d.dir = false) (a : Option Nat) (nm : ByteArray) (x : ByteArray) (l : List ByteArray) : T.goTo ⟨a, nm, some n⟩ (x :: l) = none := by
 simp [Tr.goTo, h, hd]
theorem Tr.goTo_cons_dir {T : Tr} {n : Nat} {d : Nd} (h : T.nd n = some d) (hd : d.dir = true) (a : Option Nat) (nm : ByteArray) (x : ByteArray) (l : List ByteArray) : T.goTo ⟨a, nm, some n⟩ (x :: l) = T.goTo ⟨some n, x, look d.names x⟩ l := by
 simp [Tr.goTo, h, hd]
def zbn (E : Nat → Addr) (w : World) (r : Except Nat Spot) (e : Ending) (w' : World) : Prop :=
 Below w.heap.size w w' ∧
 match r with
 | .ok s => e = .returned (.tuple #[zct s, .nilIface])
 | .error c => ∃ a, e = .returned (.tuple #[zct spot0, zcb a]) ∧ zbu E w.heap.size w' a c
theorem zao (w : World) (b : Nat) (x y z : Value) : Kept (fun k => k = b) w (((w.setCell ⟨b, 0, none⟩ x).setCell ⟨b, 1, none⟩ y).setCell ⟨b, 2, none⟩ z) :=
 (((Kept.refl (fun k => k = b) w).setCell (p := ⟨b, 0, none⟩) (.inl rfl) x).setCell (p := ⟨b, 1, none⟩) (.inl rfl) y).setCell (p := ⟨b, 2, none⟩) (.inl rfl) z
theorem zap {w : World} {b : Nat} {x0 y0 z0 : Value} {t : TypeId} (h : w.heap[b]? = some (.cells #[x0, y0, z0] t (0, 0))) (x y z : Value) :
  (((w.setCell ⟨b, 0, none⟩ x).setCell ⟨b, 1, none⟩ y).setCell ⟨b, 2, none⟩ z).heap[b]? = some (.cells #[x, y, z] t (0, 0)) :=
 zaj (zaj (zaj h 0 x) 1 y) 2 z
structure Ctx (E : Nat → Addr) (B : Nat) (w : World) : Prop where
 env : Env E B w
 max : ∃ m, w.cell? ⟨25, 0, none⟩ = some (.int .i64 m)
 maxB : 25 < B
theorem Ctx.kept {E : Nat → Addr} {B : Nat} {w w' : World} {F : Nat → Prop} (h : Ctx E B w) (k : Kept F w w') (hF : ∀ b, F b → B ≤ b) : Ctx E B w' :=
 ⟨h.env.kept k hF, by
  obtain ⟨m, hm⟩ := h.max
  exact ⟨m, (k.cell (p := ⟨25, 0, none⟩) (Nat.lt_of_lt_of_le h.maxB h.env.size) (fun hf => by have h1 := hF _ hf; have h2 := h.maxB; exact absurd h1 (by show ¬ B ≤ 25; omega))).trans hm⟩, h.maxB⟩
theorem Ctx.below {E : Nat → Addr} {B : Nat} {w w' : World} (h : Ctx E B w) (k : Below w.heap.size w w') : Ctx E B w' := h.kept (Kept.of_below k (fun _ => False)) (fun _ hf => hf.elim)
set_option maxRecDepth 100000 in
set_option maxHeartbeats 2000000 in
theorem find_parts {E : Nat → Addr} {B : Nat} {T : Tr} (p : ByteArray) (w : World) (hE : Ctx E B w) (hR : Rep B w T) (hg : zbj p = false) (hl : long (fold (zbe p)) = false) :
  Calls Tryz.prog 55 #[ptrV (some T.tb), .string p] w fun e w' => zbn E w (T.parts (fold (zbe p))) e w' := by
 have hroot : w.cell? ⟨T.tb, 0, none⟩ = some (.pointer (some ⟨T.root, 0, none⟩)) := zaa hR.tree (o := 0) rfl
 have hlen : (fold (zbe p)).length ≤ 300 := by
  unfold zbj at hg
  simp only [Bool.or_eq_false_iff, decide_eq_false_iff_not] at hg
  have h1 := zfc (zbe p)
  have h2 := pieces_le p
  omega
 obtain ⟨m, hm⟩ := hE.max
 have HM : Hid (w.cell? ⟨25, 0, none⟩ = some (.int .i64 m)) := hm
 clear hm
 have HG : Hid (zbj p = false) := hg
 clear hg
 have HL : Hid (long (fold (zbe p)) = false) := hl
 clear hl
 have HE : Hid (Ctx E B w) := hE
 clear hE
 have HR : Hid (Rep B w T) := hR
 clear hR
 have HT : Hid (T.tb < w.heap.size) := HR.out.lt (.inl rfl)
 have HRT : Hid (w.cell? ⟨T.tb, 0, none⟩ = some (.pointer (some ⟨T.root, 0, none⟩))) := hroot
 clear hroot
 rw [zau]
 generalize hys : fold (zbe p) = ys at *
 have HYS : Hid (fold (zbe p) = ys) := hys
 clear hys
 go_enter Tryz.func55, Tryz.ntmps55
 go_wp2_with fail
 refine (clean_good (m := m) p _ ?_ HG.out).mono ?_
 ·rw [World.cell?_alloc_lt _ _ _ (Nat.lt_of_lt_of_le HE.out.maxB HE.out.env.size)]
  exact HM.out
 intro e w1 hpost
 obtain ⟨v, he, hv, hb1⟩ := hpost
 rw [HYS.out] at he hv
 rw [HL.out] at he
 simp only [Bool.false_eq_true, if_false] at he
 subst he
 have HB1 : Hid (Below w.heap.size w w1) := ((Below.refl _ w).alloc (Nat.le_refl _) _).trans (hb1.mono (by simp))
 have HR1 : Hid (w1.heap[w.heap.size]? = some (.cells #[.pointer none, .string ByteArray.empty, .pointer none] 142 (0, 0))) :=
  (hb1.block _ (by simp)).trans (heap_alloc_new w _)
 have HSZ1 : Hid (w.heap.size < w1.heap.size) := by have := hb1.size; simp at this; exact (by omega : w.heap.size < w1.heap.size)
 obtain ⟨av, cv, hvv, _, hcells⟩ := hv.form
 subst hvv
 have HC : Hid (∀ j (hj : j < ys.length), ∃ g, av = some ⟨g, 0, none⟩ ∧ g ≠ w.heap.size ∧ g < w1.heap.size ∧ w1.cell? ⟨g, j, none⟩ = some (.string ys[j])) := by
  intro j hj
  obtain ⟨g, h1, h2, h3⟩ := hcells j hj
  simp at h2
  exact ⟨g, h1, by omega, World.block_lt_of_cell? _ _ h3, h3⟩
 clear hcells hv hb1
 have hroot : w1.cell? ⟨T.tb, 0, none⟩ = some (.pointer (some ⟨T.root, 0, none⟩)) := (HB1.out.cell (p := ⟨T.tb, 0, none⟩) HT.out).trans HRT.out
 have hfree : (w1.alloc (.cells #[.pointer none, .string ByteArray.empty, .pointer none] 142)).frozen? ⟨w1.heap.size, 0, none⟩ = false := by simp
 have HA : Hid ((w1.alloc (.cells #[.pointer none, .string ByteArray.empty, .pointer (some ⟨T.root, 0, none⟩)] 142)).heap[w1.heap.size]? = some (.cells #[.pointer none, .string ByteArray.empty, .pointer (some ⟨T.root, 0, none⟩)] 142 (0, 0))) := heap_alloc_new w1 _
 have HBA : Hid (Below w1.heap.size w1 (w1.alloc (.cells #[.pointer none, .string ByteArray.empty, .pointer (some ⟨T.root, 0, none⟩)] 142))) := (Below.refl _ w1).alloc (Nat.le_refl _) _
 have HSZA : Hid (w1.heap.size < (w1.alloc (.cells #[.pointer none, .string ByteArray.empty, .pointer (some ⟨T.root, 0, none⟩)] 142)).heap.size) := by show _ < _; simp
 go_wp2_with fail
 go_loopw [31] (fun idx wr => ∃ k : Nat, k ≤ ys.length ∧ idx = .int .i64 k ∧ ∃ sp : Spot, Hid (T.goTo sp (ys.drop k) = T.goTo T.start ys) ∧ Hid (wr.heap[w1.heap.size]? = some (.cells #[ptrV sp.inn, .string sp.name, ptrV sp.n] 142 (0, 0))) ∧ Hid (Below w1.heap.size w1 wr) ∧ Hid (sp.n = none ∨ ∃ n d, sp.n = some n ∧ T.nd n = some d)) (fun idx _ => ys.length - (intOf idx).toNat)
 case atStart => exact ⟨0, Nat.zero_le _, rfl, ⟨none, ByteArray.empty, some T.root⟩, rfl, HA.out, HBA.out, .inr (let ⟨d, h1, _⟩ := HR.out.root; ⟨_, d, rfl, h1⟩)⟩
 case round =>
  obtain ⟨k, hk, rfl, sp, hgo, hat, hbw, hsn⟩ := hrel
  by_cases hlt : k < ys.length
  ·obtain ⟨g, hg, hgne, hglt, hcell0⟩ := HC.out k hlt
   subst hg
   have hcell : wr.cell? ⟨g, k, none⟩ = some (.string ys[k]) := (hbw.out.cell (p := ⟨g, k, none⟩) hglt).trans hcell0
   have HGO : Hid (T.goTo sp (ys[k] :: ys.drop (k + 1)) = T.goTo T.start ys) := by
    have h1 := hgo.out
    rw [List.drop_eq_getElem_cons hlt] at h1
    exact h1
   clear hcell0 hgo
   generalize ys[k] = x at *
   obtain ⟨inn, nm, nn⟩ := sp
   have hc0 : wr.cell? ⟨w1.heap.size, 0, none⟩ = some (ptrV inn) := zaa hat.out rfl
   have hc1 : wr.cell? ⟨w1.heap.size, 1, none⟩ = some (.string nm) := zaa hat.out rfl
   have hc2 : wr.cell? ⟨w1.heap.size, 2, none⟩ = some (ptrV nn) := zaa hat.out rfl
   cases nn with
   | none =>
    simp only [za0] at hc2
    have HGN : Hid (T.goTo T.start ys = none) := HGO.out.symm.trans (Tr.goTo_cons_none T inn nm x _)
    clear hc0 hc1 HGO
    go_wp2_with fail
    refine (zbl wr (HE.out.env.below (HB1.out.trans (hbw.out.mono (Nat.le_of_lt HSZ1.out)))) 16 (by unfold Used; omega)).mono ?_
    rintro e w2 ⟨a, rfl, hfail, hb2⟩
    have HF : Hid (zbu E wr.heap.size w2 a 16) := hfail
    have HB2 : Hid (Below w.heap.size w w2) := (HB1.out.trans (hbw.out.mono (Nat.le_of_lt HSZ1.out))).trans (hb2.mono (Nat.le_trans HB1.out.size hbw.out.size))
    have HR2 : Hid (w2.heap[w.heap.size]? = some (.cells #[.pointer none, .string ByteArray.empty, .pointer none] 142 (0, 0))) :=
     (hb2.block _ (Nat.lt_of_lt_of_le HSZ1.out hbw.out.size)).trans ((hbw.out.block _ HSZ1.out).trans HR1.out)
    clear hfail hb2
    have g0 : w2.cell? ⟨w.heap.size, 0, none⟩ = some (.pointer none) := zaa HR2.out rfl
    have g1 : w2.cell? ⟨w.heap.size, 1, none⟩ = some (.string ByteArray.empty) := zaa HR2.out rfl
    have g2 : w2.cell? ⟨w.heap.size, 2, none⟩ = some (.pointer none) := zaa HR2.out rfl
    have f0 : ∀ o, w2.frozen? ⟨w.heap.size, o, none⟩ = false := fun o => zah HR2.out o
    go_wp2_with fail
    have HW : Hid (Kept (fun b => b = w.heap.size) w2 (((w2.setCell ⟨w.heap.size, 0, none⟩ (.pointer none)).setCell ⟨w.heap.size, 1, none⟩ (.string ⟨#[]⟩)).setCell ⟨w.heap.size, 2, none⟩ (.pointer none))) :=
     zao w2 w.heap.size _ _ _
    refine bodyPost_ret (v := .tuple #[zct spot0, zcb a]) ?_ rfl ?_
    ·simp [results, Tryz.results55, go_sem, g0, g1, g2, zct, spot0, ptrV]
     rfl
    ·rw [Tr.parts_none HGN.out]
     refine ⟨HB2.out.trans (HW.out.below (fun b hb => by omega) HB2.out.size), a, rfl, (HF.out.kept HW.out (fun b hb => ?_)).mono (Nat.le_trans HB1.out.size hbw.out.size)⟩
     have := Nat.lt_of_lt_of_le HSZ1.out hbw.out.size
     omega
   | some n =>
    simp only [zau] at hc2
    obtain ⟨d, hnd⟩ : ∃ d, T.nd n = some d := by
     rcases hsn.out with h | ⟨n', d, h1, h2⟩
     ·cases h
     ·obtain rfl := Option.some.inj h1
      exact ⟨d, h2⟩
    have HRW : Hid (Rep B wr T) := HR.out.below (HB1.out.trans (hbw.out.mono (Nat.le_of_lt HSZ1.out)))
    have HN : Hid (NodeAt B wr n d) := HRW.out.node n d hnd
    by_cases hdir : d.dir = true
    ·have hdc : wr.cell? ⟨n, 0, none⟩ = some (.bool true) := by rw [← hdir]; exact zaa HN.out.cells rfl
     have hmc : wr.cell? ⟨n, 2, none⟩ = some (.map (some d.mb)) := by
      have h1 : wr.cell? ⟨n, 2, none⟩ = some (mapV d) := zaa HN.out.cells rfl
      rw [h1]; simp [mapV, hdir]
     have hlk : (Instr.lookup 105 (.map (some d.mb)) (.string x) false).run Tryz.prog wr.drew = .ok (ptrV (look d.names x)) wr.drew := zec (w := wr.drew) (HN.out.map hdir) x
     have HGN : Hid (T.goTo ⟨some n, x, look d.names x⟩ (ys.drop (k + 1)) = T.goTo T.start ys) := (Tr.goTo_cons_dir hnd hdir inn nm x _).symm.trans HGO.out
     have HNE : Hid (n ≠ w1.heap.size) := by
      have h1 : n < w.heap.size := HR.out.lt (.inr (.inl ⟨d, hnd⟩))
      have h2 := HSZ1.out
      show n ≠ w1.heap.size
      omega
     have HSN : Hid (look d.names x = none ∨ ∃ n' d', look d.names x = some n' ∧ T.nd n' = some d') := by
      cases hl : look d.names x with
      | none => exact .inl rfl
      | some n' =>
       obtain ⟨d', hd'⟩ := HR.out.kids n d x n' hnd (zdp hl)
       exact .inr ⟨n', d', rfl, hd'⟩
     have hf : ∀ o, wr.frozen? ⟨w1.heap.size, o, none⟩ = false := fun o => zah hat.out o
     have HDN : Hid (T.nd n = some d) := hnd
     clear hnd HGO
     generalize look d.names x = lk at *
     unfold ptrV at hlk
     generalize hlka : lk.map (fun b => (⟨b, 0, none⟩ : Addr)) = lka at hlk
     have HLK : Hid (Value.pointer lka = ptrV lk) := by show Value.pointer lka = _; rw [← hlka]; rfl
     clear hlka
     go_wp2_with fail
     go_region
     go_wp2_with fail
     go_roundw
     case rel =>
      refine ⟨k + 1, by omega, by go_num, ⟨some n, x, lk⟩, HGN.out, ?_, ?_, HSN.out⟩
      ·show (((wr.setCell ⟨w1.heap.size, 0, none⟩ _).setCell ⟨w1.heap.size, 1, none⟩ _).setCell ⟨w1.heap.size, 2, none⟩ _).heap[w1.heap.size]? = _
       rw [HLK.out]
       exact zap hat.out _ _ _
      ·exact hbw.out.trans (((zao wr w1.heap.size _ _ _).below (fun b hb => Nat.le_of_eq hb.symm) hbw.out.size).drew)
     case measure => simp [intOf]; omega
    ·have hdir : d.dir = false := by simpa using hdir
     have hdc : wr.cell? ⟨n, 0, none⟩ = some (.bool false) := by rw [← hdir]; exact zaa HN.out.cells rfl
     have HGN : Hid (T.goTo T.start ys = none) := HGO.out.symm.trans (Tr.goTo_cons_file hnd hdir inn nm x _)
     clear hc0 hc1 HGO
     go_wp2_with fail
     refine (zbl wr (HE.out.env.below (HB1.out.trans (hbw.out.mono (Nat.le_of_lt HSZ1.out)))) 16 (by unfold Used; omega)).mono ?_
     rintro e w2 ⟨a, rfl, hfail, hb2⟩
     have HF : Hid (zbu E wr.heap.size w2 a 16) := hfail
     have HB2 : Hid (Below w.heap.size w w2) := (HB1.out.trans (hbw.out.mono (Nat.le_of_lt HSZ1.out))).trans (hb2.mono (Nat.le_trans HB1.out.size hbw.out.size))
     have HR2 : Hid (w2.heap[w.heap.size]? = some (.cells #[.pointer none, .string ByteArray.empty, .pointer none] 142 (0, 0))) :=
      (hb2.block _ (Nat.lt_of_lt_of_le HSZ1.out hbw.out.size)).trans ((hbw.out.block _ HSZ1.out).trans HR1.out)
     clear hfail hb2
     have g0 : w2.cell? ⟨w.heap.size, 0, none⟩ = some (.pointer none) := zaa HR2.out rfl
     have g1 : w2.cell? ⟨w.heap.size, 1, none⟩ = some (.string ByteArray.empty) := zaa HR2.out rfl
     have g2 : w2.cell? ⟨w.heap.size, 2, none⟩ = some (.pointer none) := zaa HR2.out rfl
     have f0 : ∀ o, w2.frozen? ⟨w.heap.size, o, none⟩ = false := fun o => zah HR2.out o
     go_wp2_with fail
     have HW : Hid (Kept (fun b => b = w.heap.size) w2 (((w2.setCell ⟨w.heap.size, 0, none⟩ (.pointer none)).setCell ⟨w.heap.size, 1, none⟩ (.string ⟨#[]⟩)).setCell ⟨w.heap.size, 2, none⟩ (.pointer none))) :=
      zao w2 w.heap.size _ _ _
     refine bodyPost_ret (v := .tuple #[zct spot0, zcb a]) ?_ rfl ?_
     ·simp [results, Tryz.results55, go_sem, g0, g1, g2, zct, spot0, ptrV]
      rfl
     ·rw [Tr.parts_none HGN.out]
      refine ⟨HB2.out.trans (HW.out.below (fun b hb => by omega) HB2.out.size), a, rfl, (HF.out.kept HW.out (fun b hb => ?_)).mono (Nat.le_trans HB1.out.size hbw.out.size)⟩
      have := Nat.lt_of_lt_of_le HSZ1.out hbw.out.size
      omega
  ·obtain rfl : k = ys.length := by omega
   have HGN : Hid (T.goTo T.start ys = some sp) := by
    have h1 := hgo.out
    rw [List.drop_length] at h1
    exact h1.symm
   clear hgo
   obtain ⟨inn, nm, nn⟩ := sp
   have hc0 : wr.cell? ⟨w1.heap.size, 0, none⟩ = some (ptrV inn) := zaa hat.out rfl
   have hc1 : wr.cell? ⟨w1.heap.size, 1, none⟩ = some (.string nm) := zaa hat.out rfl
   have hc2 : wr.cell? ⟨w1.heap.size, 2, none⟩ = some (ptrV nn) := zaa hat.out rfl
   have HR2 : Hid (wr.heap[w.heap.size]? = some (.cells #[.pointer none, .string ByteArray.empty, .pointer none] 142 (0, 0))) :=
    (hbw.out.block _ HSZ1.out).trans HR1.out
   have g0 : wr.cell? ⟨w.heap.size, 0, none⟩ = some (.pointer none) := zaa HR2.out rfl
   have g1 : wr.cell? ⟨w.heap.size, 1, none⟩ = some (.string ByteArray.empty) := zaa HR2.out rfl
   have g2 : wr.cell? ⟨w.heap.size, 2, none⟩ = some (.pointer none) := zaa HR2.out rfl
   have f0 : ∀ o, wr.frozen? ⟨w.heap.size, o, none⟩ = false := fun o => zah HR2.out o
   have HW : Hid (∀ x y z, Below w.heap.size w (((wr.setCell ⟨w.heap.size, 0, none⟩ x).setCell ⟨w.heap.size, 1, none⟩ y).setCell ⟨w.heap.size, 2, none⟩ z)) := fun x y z =>
    (HB1.out.trans (hbw.out.mono (Nat.le_of_lt HSZ1.out))).trans ((zao wr w.heap.size x y z).below (fun b hb => Nat.le_of_eq hb.symm) (Nat.le_trans (Nat.le_of_lt HSZ1.out) hbw.out.size))
   unfold ptrV at hc0 hc2
   generalize hia : inn.map (fun b => (⟨b, 0, none⟩ : Addr)) = ia at hc0
   generalize hna : nn.map (fun b => (⟨b, 0, none⟩ : Addr)) = na at hc2
   have HIA : Hid (Value.pointer ia = ptrV inn) := by show Value.pointer ia = _; rw [← hia]; rfl
   have HNA : Hid (Value.pointer na = ptrV nn) := by show Value.pointer na = _; rw [← hna]; rfl
   clear hia hna
   go_wp2_with fail
   refine bodyPost_ret (v := .tuple #[.agg #[.pointer ia, .string nm, .pointer na], .nilIface]) ?_ rfl ?_
   ·simp [results, Tryz.results55, go_sem, g0, g1, g2]
   ·rw [Tr.parts_some HGN.out]
    refine ⟨HW.out _ _ _, ?_⟩
    show _ = Ending.returned (.tuple #[zct ⟨inn, nm, nn⟩, .nilIface])
    rw [HIA.out, HNA.out]
    rfl
set_option maxRecDepth 100000 in
set_option maxHeartbeats 2000000 in
theorem find_no {E : Nat → Addr} {B : Nat} (tb : Nat) (p : ByteArray) (w : World) (hE : Ctx E B w)
  (hc : ∀ w0, Ctx E B w0 → Calls Tryz.prog 85 #[.string p] w0 fun e w' => e = .returned (.tuple #[.slice none 0 0, .bool false]) ∧ Below w0.heap.size w0 w') :
  Calls Tryz.prog 55 #[.pointer (some ⟨tb, 0, none⟩), .string p] w fun e w' => zbn E w (.error 15) e w' := by
 have HE : Hid (Ctx E B w) := hE
 clear hE
 have HC : Hid (∀ w0, Ctx E B w0 → Calls Tryz.prog 85 #[.string p] w0 fun e w' => e = .returned (.tuple #[.slice none 0 0, .bool false]) ∧ Below w0.heap.size w0 w') := hc
 clear hc
 go_enter Tryz.func55, Tryz.ntmps55
 go_wp2_with fail
 refine (HC.out _ (HE.out.below ((Below.refl _ w).alloc (Nat.le_refl _) _))).mono ?_
 rintro e w1 ⟨rfl, hb1⟩
 have HB1 : Hid (Below w.heap.size w w1) := ((Below.refl _ w).alloc (Nat.le_refl _) _).trans (hb1.mono (by simp))
 have HR1 : Hid (w1.heap[w.heap.size]? = some (.cells #[.pointer none, .string ByteArray.empty, .pointer none] 142 (0, 0))) :=
  (hb1.block _ (by simp)).trans (heap_alloc_new w _)
 have HSZ1 : Hid (w.heap.size < w1.heap.size) := by have := hb1.size; simp at this; exact (by omega : w.heap.size < w1.heap.size)
 clear hb1
 go_wp2_with fail
 refine (zbl w1 (HE.out.env.below HB1.out) 15 (by unfold Used; omega)).mono ?_
 rintro e w2 ⟨a, rfl, hfail, hb2⟩
 have HF : Hid (zbu E w1.heap.size w2 a 15) := hfail
 have HB2 : Hid (Below w.heap.size w w2) := HB1.out.trans (hb2.mono (Nat.le_of_lt HSZ1.out))
 have HR2 : Hid (w2.heap[w.heap.size]? = some (.cells #[.pointer none, .string ByteArray.empty, .pointer none] 142 (0, 0))) := (hb2.block _ HSZ1.out).trans HR1.out
 clear hfail hb2
 have g0 : w2.cell? ⟨w.heap.size, 0, none⟩ = some (.pointer none) := zaa HR2.out rfl
 have g1 : w2.cell? ⟨w.heap.size, 1, none⟩ = some (.string ByteArray.empty) := zaa HR2.out rfl
 have g2 : w2.cell? ⟨w.heap.size, 2, none⟩ = some (.pointer none) := zaa HR2.out rfl
 have f0 : ∀ o, w2.frozen? ⟨w.heap.size, o, none⟩ = false := fun o => zah HR2.out o
 go_wp2_with fail
 have HW : Hid (Kept (fun b => b = w.heap.size) w2 (((w2.setCell ⟨w.heap.size, 0, none⟩ (.pointer none)).setCell ⟨w.heap.size, 1, none⟩ (.string ⟨#[]⟩)).setCell ⟨w.heap.size, 2, none⟩ (.pointer none))) :=
  zao w2 w.heap.size _ _ _
 refine bodyPost_ret (v := .tuple #[zct spot0, zcb a]) ?_ rfl ?_
 ·simp [results, Tryz.results55, go_sem, g0, g1, g2, zct, spot0, ptrV]
  rfl
 ·refine ⟨HB2.out.trans (HW.out.below (fun b hb => by omega) HB2.out.size), a, rfl, (HF.out.kept HW.out (fun b hb => ?_)).mono (Nat.le_of_lt HSZ1.out)⟩
  have := HSZ1.out
  omega
theorem zbz {E : Nat → Addr} {B : Nat} {T : Tr} (p : ByteArray) (w : World) (hE : Ctx E B w) (hR : Rep B w T) (hsz : p.size ≤ 9223372036854775807) :
  Calls Tryz.prog 55 #[.pointer (some ⟨T.tb, 0, none⟩), .string p] w fun e w' => zbn E w (T.find p) e w' := by
 unfold Tr.find zbh
 by_cases hg : zbj p = true
 ·rw [if_pos hg]
  exact find_no T.tb p w hE fun w0 _ => (clean_bad p w0 hsz hg).mono fun e w' ⟨h1, h2⟩ => ⟨h1, h2 ▸ Below.refl _ _⟩
 ·rw [if_neg hg]
  have hg' : zbj p = false := by simpa using hg
  by_cases hl : long (fold (zbe p)) = true
  ·rw [if_pos hl]
   refine find_no T.tb p w hE fun w0 h0 => ?_
   obtain ⟨m, hm⟩ := h0.max
   refine (clean_good p w0 hm hg').mono fun e w' ⟨v, h1, _, h3⟩ => ⟨?_, h3⟩
   rw [h1, if_pos hl]
  ·rw [if_neg hl]
   exact find_parts p w hE hR hg' (by simpa using hl)
end
section
set_option maxRecDepth 100000 in
set_option maxHeartbeats 1000000 in
theorem tick_one (tb n sb : Nat) (clock : Int) (w : World) (h0 : 0 ≤ clock) (h1 : clock ≤ 1152921504606846976) (v4 : Value)
  (hc : w.cell? ⟨tb, 1, none⟩ = some (.int .i64 clock)) (hf : w.frozen? ⟨tb, 1, none⟩ = false)
  (hs : w.cell? ⟨sb, 0, none⟩ = some (.pointer (some ⟨n, 0, none⟩))) (hn : w.cell? ⟨n, 4, none⟩ = some v4) (hfn : w.frozen? ⟨n, 4, none⟩ = false) (h3 : n ≠ tb) :
  Calls Tryz.prog 57 #[.pointer (some ⟨tb, 0, none⟩), .slice (some ⟨sb, 0, none⟩) 1 1] w fun e w' => e = .returned (.tuple #[]) ∧
   w' = (w.setCell ⟨tb, 1, none⟩ (.int .i64 (clock + 1))).setCell ⟨n, 4, none⟩ (.int .i64 (clock + 1)) := by
 have h5 : tb ≠ n := fun h => h3 h.symm
 go_enter Tryz.func57, Tryz.ntmps57
 go_wp2_with fail
 refine wp_loop_rounds 2 ?_
 rw [rounds_succ]
 go_wp2_with fail
 rw [rounds_succ]
 go_wp2_with fail
 go_end0
 exact ⟨rfl, rfl⟩
set_option maxRecDepth 100000 in
set_option maxHeartbeats 1000000 in
theorem tick_two (tb n m sb : Nat) (clock : Int) (w : World) (h0 : 0 ≤ clock) (h1 : clock ≤ 1152921504606846976) (v4 u4 : Value)
  (hc : w.cell? ⟨tb, 1, none⟩ = some (.int .i64 clock)) (hf : w.frozen? ⟨tb, 1, none⟩ = false)
  (hs : w.cell? ⟨sb, 0, none⟩ = some (.pointer (some ⟨n, 0, none⟩))) (hs1 : w.cell? ⟨sb, 1, none⟩ = some (.pointer (some ⟨m, 0, none⟩)))
  (hn : w.cell? ⟨n, 4, none⟩ = some v4) (hfn : w.frozen? ⟨n, 4, none⟩ = false) (hm : w.cell? ⟨m, 4, none⟩ = some u4) (hfm : w.frozen? ⟨m, 4, none⟩ = false)
  (h3 : n ≠ tb) (h4 : sb ≠ tb) (h6 : m ≠ tb) (h7 : n ≠ m) (h8 : sb ≠ n) :
  Calls Tryz.prog 57 #[.pointer (some ⟨tb, 0, none⟩), .slice (some ⟨sb, 0, none⟩) 2 2] w fun e w' => e = .returned (.tuple #[]) ∧
   w' = ((w.setCell ⟨tb, 1, none⟩ (.int .i64 (clock + 1))).setCell ⟨n, 4, none⟩ (.int .i64 (clock + 1))).setCell ⟨m, 4, none⟩ (.int .i64 (clock + 1)) := by
 have h5 : tb ≠ n := fun h => h3 h.symm
 have h9 : tb ≠ m := fun h => h6 h.symm
 have h10 : m ≠ n := fun h => h7 h.symm
 go_enter Tryz.func57, Tryz.ntmps57
 go_wp2_with fail
 refine wp_loop_rounds 3 ?_
 rw [rounds_succ]
 go_wp2_with fail
 rw [rounds_succ]
 go_wp2_with fail
 rw [rounds_succ]
 go_wp2_with fail
 go_end0
 exact ⟨rfl, rfl⟩
structure TickPost1 (w : World) (tb n : Nat) (r c a0 a1 a2 a3 : Value) (clock : Int) (e : Ending) (w' : World) : Prop where
 ret : e = .returned (.tuple #[])
 tree : w'.heap[tb]? = some (.cells #[r, .int .i64 (clock + 1), c] 115 (0, 0))
 node : w'.heap[n]? = some (.cells #[a0, a1, a2, a3, .int .i64 (clock + 1)] 107 (0, 0))
 kept : Kept (fun b => b = tb ∨ b = n) w w'
structure TickPost2 (w : World) (tb n m : Nat) (r c a0 a1 a2 a3 b0 b1 b2 b3 : Value) (clock : Int) (e : Ending) (w' : World) : Prop where
 ret : e = .returned (.tuple #[])
 tree : w'.heap[tb]? = some (.cells #[r, .int .i64 (clock + 1), c] 115 (0, 0))
 node : w'.heap[n]? = some (.cells #[a0, a1, a2, a3, .int .i64 (clock + 1)] 107 (0, 0))
 node2 : w'.heap[m]? = some (.cells #[b0, b1, b2, b3, .int .i64 (clock + 1)] 107 (0, 0))
 kept : Kept (fun b => b = tb ∨ b = n ∨ b = m) w w'
theorem tick1 {w : World} {tb n sb : Nat} {r c a0 a1 a2 a3 a4 : Value} {clock : Int} (h0 : 0 ≤ clock) (h1 : clock ≤ 1152921504606846976)
  (hT : w.heap[tb]? = some (.cells #[r, .int .i64 clock, c] 115 (0, 0))) (hN : w.heap[n]? = some (.cells #[a0, a1, a2, a3, a4] 107 (0, 0)))
  (hS : w.heap[sb]? = some (.cells #[.pointer (some ⟨n, 0, none⟩)] 103 (0, 0))) :
  Calls Tryz.prog 57 #[.pointer (some ⟨tb, 0, none⟩), .slice (some ⟨sb, 0, none⟩) 1 1] w fun e w' => TickPost1 w tb n r c a0 a1 a2 a3 clock e w' := by
 have n1 : tb ≠ n := zac hT hN (by decide)
 refine (tick_one tb n sb clock w h0 h1 a4 (zaa hT rfl) (zah hT 1) (zaa hS rfl) (zaa hN rfl) (zah hN 4) (Ne.symm n1)).mono ?_
 rintro e w' ⟨rfl, rfl⟩
 refine ⟨rfl, ?_, ?_, ?_⟩
 ·rw [zag _ _ _ n1]
  exact zaj hT 1 _
 ·exact zaj ((zag _ _ _ (Ne.symm n1)).trans hN) 4 _
 ·exact ((Kept.refl (fun b => b = tb ∨ b = n) w).setCell (p := ⟨tb, 1, none⟩) (.inl (.inl rfl)) _).setCell (p := ⟨n, 4, none⟩) (.inl (.inr rfl)) _
theorem tick2 {w : World} {tb n m sb : Nat} {r c a0 a1 a2 a3 a4 b0 b1 b2 b3 b4 : Value} {clock : Int} (h0 : 0 ≤ clock) (h1 : clock ≤ 1152921504606846976)
  (hT : w.heap[tb]? = some (.cells #[r, .int .i64 clock, c] 115 (0, 0))) (hN : w.heap[n]? = some (.cells #[a0, a1, a2, a3, a4] 107 (0, 0)))
  (hM : w.heap[m]? = some (.cells #[b0, b1, b2, b3, b4] 107 (0, 0))) (hS : w.heap[sb]? = some (.cells #[.pointer (some ⟨n, 0, none⟩), .pointer (some ⟨m, 0, none⟩)] 103 (0, 0))) (hnm : n ≠ m) :
  Calls Tryz.prog 57 #[.pointer (some ⟨tb, 0, none⟩), .slice (some ⟨sb, 0, none⟩) 2 2] w fun e w' => TickPost2 w tb n m r c a0 a1 a2 a3 b0 b1 b2 b3 clock e w' := by
 have n1 : tb ≠ n := zac hT hN (by decide)
 have n2 : tb ≠ m := zac hT hM (by decide)
 refine (tick_two tb n m sb clock w h0 h1 a4 b4 (zaa hT rfl) (zah hT 1) (zaa hS rfl) (zaa hS rfl) (zaa hN rfl) (zah hN 4) (zaa hM rfl) (zah hM 4) (Ne.symm n1) (zac hS hT (by decide)) (Ne.symm n2) hnm (zac hS hN (by decide))).mono ?_
 rintro e w' ⟨rfl, rfl⟩
 refine ⟨rfl, ?_, ?_, ?_, ?_⟩
 ·rw [zag _ _ _ n2, zag _ _ _ n1]
  exact zaj hT 1 _
 ·rw [zag _ _ _ hnm]
  exact zaj ((zag _ _ _ (Ne.symm n1)).trans hN) 4 _
 ·refine zaj ((zag _ _ _ (Ne.symm hnm)).trans ((zag _ _ _ (Ne.symm n2)).trans hM)) 4 _
 ·exact (((Kept.refl (fun b => b = tb ∨ b = n ∨ b = m) w).setCell (p := ⟨tb, 1, none⟩) (.inl (.inl rfl)) _).setCell (p := ⟨n, 4, none⟩) (.inl (.inr (.inl rfl))) _).setCell (p := ⟨m, 4, none⟩) (.inl (.inr (.inr rfl))) _
end
end Go.Proofs.YteeeaeiafdgpkaaGreatDoor
