/-
 pidginref16.Clean's walk.
 THE DOCUMENT'S TREE IN MEMORY; its smallest calls: F, fault, Join, before, At.
 The document's place: the errors of all calls, a path's row and its directory's.
 The document's tree: stamp, links, nodes; what a turned cell leaves of it.
 The document's tree: what a call that turns it leaves; add.
 The document's tree: Mkdir.
-/
import Derived.Test.YteeeaeiafdgpkaaGreatDoorSimB
import Derived.Lib.Hide
import Derived.Test.YteeeaeiafdgpkaaGreatDoorAppA
import Derived.RegionTactic
import Derived.BigRegion
import Derived.Test.YteeeaeiafdgpkaaGreatDoorTreeA
import Derived.LaidEqlPtr
import Derived.ArgAppend
namespace Go.Proofs.YteeeaeiafdgpkaaGreatDoor
open Go Go.RowKit
open Go.Lib (hid)
section
def RCPost (w : World) (s : ByteArray) (e : Ending) (w' : World) : Prop :=
 Below w.heap.size w w' ∧ ((zbh s = none ∧ e = .returned (.tuple #[.slice none 0 0, .bool false])) ∨ ∃ v l, zbh s = some l ∧ e = .returned (.tuple #[v, .bool true]) ∧ zcg w' w.heap.size v l)
theorem clean_none {s : ByteArray} (h : zbj s = true) : zbh s = none := by unfold zbh; rw [if_pos h]
set_option maxRecDepth 100000 in
set_option maxHeartbeats 2000000 in
theorem rclean_any (s : ByteArray) (w : World) (hsz : s.size ≤ 9223372036854775807) :
  Calls Tryz.prog 90 #[.string s] w fun e w' => RCPost w s e w' := by
 obtain ⟨i0, hi9, hz0, hz1, hz2⟩ := info_parts infoStr
 by_cases h0 : s.toList.isEmpty = true
 ·have HB : Hid (zbj s = true) := by
   have h1 : s.size = 0 := by
    rw [ByteArray.toList_eq] at h0
    have := Lib.size_eq s
    have h2 : s.data.toList = [] := by simpa using h0
    rw [h2] at this
    exact this
   unfold zbj
   rw [h1]
   rfl
  go_enter Tryz.func90, Tryz.ntmps90
  go_wp2_with fail
  go_ret2
  exact ⟨Below.refl _ _, .inl ⟨clean_none HB.out, rfl⟩⟩
 ·have h0' : s.toList.isEmpty = false := by simpa using h0
  have HNE : Hid (1 ≤ s.size) := by
   show 1 ≤ s.size
   have := Lib.size_eq s
   rw [ByteArray.toList_eq] at h0'
   cases h : s.data.toList with
   | nil => rw [h] at h0'; cases h0'
   | cons b l => rw [h] at this; simp at this; omega
  by_cases h1 : s.size ≤ 256
  ·have h1i : (s.size : Int) ≤ 256 := by omega
   have HS : Hid (RC s 0 0 []) := RC.start s
   have HSE : Hid (s.size = s.data.toList.length) := Lib.size_eq s
   go_enter Tryz.func90, Tryz.ntmps90
   go_wp2_with fail
   go_loopw [4, 5, 6] (fun ov fv iv wr => ∃ (i frm : Nat) (out : List ByteArray), i ≤ s.size + 1 ∧ frm ≤ i ∧ fv = .int .i64 frm ∧ iv = .int .i64 i ∧ Hid (RC s i frm out) ∧ Hid (out.length ≤ i) ∧ Hid (wr.ownsRow w.heap.size 9 1 ov out.length (out.map .string)) ∧ Hid (Below w.heap.size w wr)) (fun _ _ iv _ => s.size + 2 - (intOf iv).toNat)
   case atStart => exact ⟨0, 0, [], by omega, Nat.le_refl _, rfl, rfl, HS.out, Nat.le_refl _, World.ownsRow_nil _ _ _ _, Below.refl _ _⟩
   case round =>
    clear HS
    obtain ⟨i, frm, out, hi, hfi, rfl, rfl, hrc, HLEN, hown, hbel⟩ := hrel
    by_cases hlt : i < s.size
    ·have hii : (i : Int) < s.size := by omega
     have hil : (i : Int) ≤ s.size := by omega
     have HGE : Hid (∀ (h : i < s.data.toList.length), s.data.toList[i] = s[i]) := fun h => by rw [Array.getElem_toList]; rfl
     by_cases hc0 : s[i] = 0
     ·have f0 : (((s[i]).toNat : Int) == 0) = true := by rw [hc0]; rfl
      have HBD : Hid (zbj s = true) := bad_zero (i := i) (by rw [← HSE.out]; exact hlt) ((HGE.out (by rw [← HSE.out]; exact hlt)).trans hc0)
      clear hc0
      go_wp2_with fail
      go_ret2
      exact ⟨hbel.out, .inl ⟨clean_none HBD.out, rfl⟩⟩
     ·have f0 : (((s[i]).toNat : Int) == 0) = false := by
       have : ¬ (s[i]).toNat = 0 := fun h => hc0 (UInt8.toNat_inj.1 h)
       simpa using this
      by_cases hc47 : s[i] = 47
      ·have f47 : (((s[i]).toNat : Int) != 47) = false := by rw [hc47]; rfl
       have HCUT : Hid (RC s (i + 1) (i + 1) (step out (s.extract frm i))) := hrc.out.cut (by omega) (fun h => (HGE.out h).trans hc47)
       clear hc0 hc47 HGE
       have HE0 : Hid (RC s (i + 1) (i + 1) (step out (s.extract frm i))) := HCUT
       have hol : out.length ≤ 300 := by have := HLEN.out; omega
       have HLEN1 : Hid ((step out (s.extract frm i)).length ≤ i + 1) := by show _ ≤ _; have := ze6 out (s.extract frm i); have := HLEN.out; omega
       have HSZ : Hid (w.heap.size ≤ wr.heap.size) := hbel.out.size
       clear HCUT hrc
       obtain ⟨x, hx⟩ : ∃ x, s.extract frm i = x := ⟨_, rfl⟩
       rw [hx] at HE0 HLEN1
       by_cases hA : x.toList.isEmpty = true
       ·have HE : Hid (step out x = out) := step_empty hA
        go_wp2_with fail
        go_roundw
        case rel => exact ⟨i + 1, i + 1, out, by omega, Nat.le_refl _, by go_num, by go_num, HE.out ▸ HE0.out, HE.out ▸ HLEN1.out, hown.out, hbel.out⟩
        case measure => simp [intOf]; omega
       ·have hA' : x.toList.isEmpty = false := by simpa using hA
        clear hA
        by_cases hB : (x.toList == [46]) = true
        ·have HE : Hid (step out x = out) := step_dot hA' hB
         go_wp2_with fail
         go_roundw
         case rel => exact ⟨i + 1, i + 1, out, by omega, Nat.le_refl _, by go_num, by go_num, HE.out ▸ HE0.out, HE.out ▸ HLEN1.out, hown.out, hbel.out⟩
         case measure => simp [intOf]; omega
        ·have hB' : (x.toList == [46]) = false := by simpa using hB
         clear hB
         by_cases hC : (x.toList == [46, 46]) = true
         ·have HE : Hid (step out x = out.dropLast) := step_dots hA' hB' hC
          rcases hown.out.2 with ⟨rfl, hn0⟩ | ⟨g, cap, cur, rfl, q1, q2, q3, q4, q5, q6⟩
          ·have HY : Hid (out = []) := List.eq_nil_of_length_eq_zero hn0
           clear hn0
           go_wp2_with fail
           go_roundw
           case rel =>
            refine ⟨i + 1, i + 1, [], by omega, Nat.le_refl _, by go_num, by go_num, ?_, Nat.zero_le _, World.ownsRow_nil _ _ _ _, hbel.out⟩
            have h := HE0.out
            rw [HE.out, HY.out] at h
            exact h
           case measure => simp [intOf]; omega
          ·have HO : Hid (∀ m, m ≤ out.length → wr.ownsRow w.heap.size 9 1 (.slice (some ⟨g, 0, none⟩) m cap) m ((out.map Value.string).take m)) := fun m hm => zeg hown.out m hm
           clear q1 q2 q5 q6
           go_wp2_with fail
           go_roundw
           case rel =>
            refine ⟨i + 1, i + 1, out.dropLast, by omega, Nat.le_refl _, by go_num, by go_num, HE.out ▸ HE0.out, HE.out ▸ HLEN1.out, ?_, hbel.out⟩
            show wr.ownsRow _ _ _ _ _ _
            have hm : (max 0 ((out.length : Int) - 1)).toNat = out.length - 1 := by omega
            rw [hm, List.map_dropLast, List.length_dropLast, List.dropLast_eq_take, List.length_map]
            exact HO.out _ (by omega)
           case measure => simp [intOf]; omega
         ·have hC' : (x.toList == [46, 46]) = false := by simpa using hC
          clear hC
          have HE : Hid (step out x = out ++ [x]) := step_more hA' hB' hC'
          go_wp2_with (at_builtin; refine wpList_append_own _ rfl _ _ 109 rfl w.heap.size 9 i0 (.string ByteArray.empty) 1 16 Tryz.underlying109 hi9 hz0 hz1 hz2 rfl (by decide) _ _ _ rfl (hown.out.alloc _) ⟨wr.heap.size, 0, none⟩ 1 1 [.string x] rfl rfl ?c1 ?c2 ?c3 ?c4 ?c5 ?_)
          first
           | case c1 =>
             intro j u hu
             cases j with
             | zero => simp at hu; subst hu; simp [Addr.add]
             | succ j => simp at hu
           | skip
          case c2 => first | (intro u hu; simp at hu; subst hu; rfl) | rfl
          case c3 => unfold maxLen; omega
          case c4 => omega
          case c5 => have := HSZ.out; simp; omega
          intro v' w2 hown2 hgrow _
          have HO : Hid (w2.ownsRow w.heap.size 9 1 v' (out.length + 1) (List.map Value.string out ++ [Value.string x])) := hown2
          have HN : Hid (Below w.heap.size w w2) := by
           have h1 : Below w.heap.size w (wr.alloc (.cells #[.string x] 9)) := hbel.out.alloc HSZ.out _
           refine h1.grown hgrow (by have := HSZ.out; simp; omega) (fun q hq => (hown.out.lt q hq).1)
          clear hown2 hgrow
          go_wp2_with fail
          go_roundw
          case rel =>
           refine ⟨i + 1, i + 1, out ++ [x], by omega, Nat.le_refl _, by go_num, by go_num, HE.out ▸ HE0.out, HE.out ▸ HLEN1.out, ?_, HN.out⟩
           show w2.ownsRow _ _ _ _ _ _
           rw [List.length_append, List.map_append]
           exact HO.out
          case measure => simp [intOf]; omega
      ·have f47 : (((s[i]).toNat : Int) != 47) = true := by
        have : ¬ (s[i]).toNat = 47 := fun h => hc47 (UInt8.toNat_inj.1 h)
        have h2 : ¬ ((s[i]).toNat : Int) = 47 := by omega
        simpa using h2
       have HL : Hid (RC s (i + 1) frm out) := hrc.out.letter (by rw [← HSE.out]; exact hlt) (by rw [HGE.out]; exact hc0) (by rw [HGE.out]; exact hc47)
       have HLEN1 : Hid (out.length ≤ i + 1) := Nat.le_succ_of_le HLEN.out
       clear hc0 hc47 HGE
       go_wp2_with fail
       go_roundw
       case rel => exact ⟨i + 1, frm, out, by omega, by omega, rfl, by go_num, HL.out, HLEN1.out, hown.out, hbel.out⟩
       case measure => simp [intOf]; omega
    ·by_cases hle : i ≤ s.size
     ·have hin : (i : Int) = s.size := by omega
      have hil : (i : Int) ≤ s.size := by omega
      have hii : ¬ (i : Int) < s.size := by omega
      have HCUT : Hid (RC s (i + 1) (i + 1) (step out (s.extract frm i))) := hrc.out.cut (by omega) (fun h => absurd h (by rw [← HSE.out]; omega))
      have HE0 : Hid (RC s (i + 1) (i + 1) (step out (s.extract frm i))) := HCUT
      have hol : out.length ≤ 300 := by have := HLEN.out; omega
      have HLEN1 : Hid ((step out (s.extract frm i)).length ≤ i + 1) := by show _ ≤ _; have := ze6 out (s.extract frm i); have := HLEN.out; omega
      have HSZ : Hid (w.heap.size ≤ wr.heap.size) := hbel.out.size
      clear HCUT hrc hin
      obtain ⟨x, hx⟩ : ∃ x, s.extract frm i = x := ⟨_, rfl⟩
      rw [hx] at HE0 HLEN1
      by_cases hA : x.toList.isEmpty = true
      ·have HE : Hid (step out x = out) := step_empty hA
       go_wp2_with fail
       go_roundw
       case rel => exact ⟨i + 1, i + 1, out, by omega, Nat.le_refl _, by go_num, by go_num, HE.out ▸ HE0.out, HE.out ▸ HLEN1.out, hown.out, hbel.out⟩
       case measure => simp [intOf]; omega
      ·have hA' : x.toList.isEmpty = false := by simpa using hA
       clear hA
       by_cases hB : (x.toList == [46]) = true
       ·have HE : Hid (step out x = out) := step_dot hA' hB
        go_wp2_with fail
        go_roundw
        case rel => exact ⟨i + 1, i + 1, out, by omega, Nat.le_refl _, by go_num, by go_num, HE.out ▸ HE0.out, HE.out ▸ HLEN1.out, hown.out, hbel.out⟩
        case measure => simp [intOf]; omega
       ·have hB' : (x.toList == [46]) = false := by simpa using hB
        clear hB
        by_cases hC : (x.toList == [46, 46]) = true
        ·have HE : Hid (step out x = out.dropLast) := step_dots hA' hB' hC
         rcases hown.out.2 with ⟨rfl, hn0⟩ | ⟨g, cap, cur, rfl, q1, q2, q3, q4, q5, q6⟩
         ·have HY : Hid (out = []) := List.eq_nil_of_length_eq_zero hn0
          clear hn0
          go_wp2_with fail
          go_roundw
          case rel =>
           refine ⟨i + 1, i + 1, [], by omega, Nat.le_refl _, by go_num, by go_num, ?_, Nat.zero_le _, World.ownsRow_nil _ _ _ _, hbel.out⟩
           have h := HE0.out
           rw [HE.out, HY.out] at h
           exact h
          case measure => simp [intOf]; omega
         ·have HO : Hid (∀ m, m ≤ out.length → wr.ownsRow w.heap.size 9 1 (.slice (some ⟨g, 0, none⟩) m cap) m ((out.map Value.string).take m)) := fun m hm => zeg hown.out m hm
          clear q1 q2 q5 q6
          go_wp2_with fail
          go_roundw
          case rel =>
           refine ⟨i + 1, i + 1, out.dropLast, by omega, Nat.le_refl _, by go_num, by go_num, HE.out ▸ HE0.out, HE.out ▸ HLEN1.out, ?_, hbel.out⟩
           show wr.ownsRow _ _ _ _ _ _
           have hm : (max 0 ((out.length : Int) - 1)).toNat = out.length - 1 := by omega
           rw [hm, List.map_dropLast, List.length_dropLast, List.dropLast_eq_take, List.length_map]
           exact HO.out _ (by omega)
          case measure => simp [intOf]; omega
        ·have hC' : (x.toList == [46, 46]) = false := by simpa using hC
         clear hC
         have HE : Hid (step out x = out ++ [x]) := step_more hA' hB' hC'
         go_wp2_with (at_builtin; refine wpList_append_own _ rfl _ _ 109 rfl w.heap.size 9 i0 (.string ByteArray.empty) 1 16 Tryz.underlying109 hi9 hz0 hz1 hz2 rfl (by decide) _ _ _ rfl (hown.out.alloc _) ⟨wr.heap.size, 0, none⟩ 1 1 [.string x] rfl rfl ?c1 ?c2 ?c3 ?c4 ?c5 ?_)
         first
          | case c1 =>
            intro j u hu
            cases j with
            | zero => simp at hu; subst hu; simp [Addr.add]
            | succ j => simp at hu
          | skip
         case c2 => first | (intro u hu; simp at hu; subst hu; rfl) | rfl
         case c3 => unfold maxLen; omega
         case c4 => omega
         case c5 => have := HSZ.out; simp; omega
         intro v' w2 hown2 hgrow _
         have HO : Hid (w2.ownsRow w.heap.size 9 1 v' (out.length + 1) (List.map Value.string out ++ [Value.string x])) := hown2
         have HN : Hid (Below w.heap.size w w2) := by
          have h1 : Below w.heap.size w (wr.alloc (.cells #[.string x] 9)) := hbel.out.alloc HSZ.out _
          refine h1.grown hgrow (by have := HSZ.out; simp; omega) (fun q hq => (hown.out.lt q hq).1)
         clear hown2 hgrow
         go_wp2_with fail
         go_roundw
         case rel =>
          refine ⟨i + 1, i + 1, out ++ [x], by omega, Nat.le_refl _, by go_num, by go_num, HE.out ▸ HE0.out, HE.out ▸ HLEN1.out, ?_, HN.out⟩
          show w2.ownsRow _ _ _ _ _ _
          rw [List.length_append, List.map_append]
          exact HO.out
         case measure => simp [intOf]; omega
     ·have hil : ¬ (i : Int) ≤ s.size := by omega
      have hil2 : (s.size : Int) < i := by omega
      obtain ⟨hd1, hd2⟩ := hrc.out.done (by omega)
      have HBP : Hid (zbj s = false) := by
       have e1 : decide (s.size < 1) = false := decide_eq_false (by have := HNE.out; omega)
       have e2 : decide (256 < s.size) = false := decide_eq_false (by omega)
       unfold zbj
       rw [hd2, e1, e2]
       rfl
      have HD : Hid (fold (zbe s) = out) := hd1
      have hol : out.length ≤ 300 := by have := HLEN.out; omega
      have HO : Hid (zcg wr w.heap.size u4 out) := zcg.of_owns hown.out (Nat.le_refl _)
      clear hd1 hd2 hrc hown HLEN
      obtain ⟨av, cv, hv, hlc, hcells⟩ := HO.out.form
      subst hv
      have HC := hid hcells
      clear hcells
      go_wp2_with fail
      go_loop [67] (fun idx => ∃ k : Nat, k ≤ out.length ∧ idx = .int .i64 k ∧ Hid (∀ j (hj : j < out.length), j < k → out[j].size ≤ 64)) (fun idx => out.length - (intOf idx).toNat)
      case atStart => exact ⟨0, Nat.zero_le _, rfl, fun j _ h => by omega⟩
      case round =>
       obtain ⟨k2, hk2, rfl, hsm⟩ := hrel
       by_cases hlt2 : k2 < out.length
       ·obtain ⟨g, hg, _, hcell⟩ := HC.out k2 hlt2
        subst hg
        have HX : Hid (∀ j (hj : j < out.length), j < k2 + 1 → out[k2].size ≤ 64 → out[j].size ≤ 64) := by
         intro j hj h1 h2
         by_cases hjk : j < k2
         ·exact hsm.out j hj hjk
         ·obtain rfl : j = k2 := by omega
          exact h2
        have HL : Hid (64 < out[k2].size → long out = true) := fun h => long_true hlt2 h
        generalize out[k2] = x at *
        by_cases hx : 64 < x.size
        ·have HLL : Hid (long out = true) := HL.out hx
         go_wp2_with fail
         go_ret2
         refine ⟨hbel.out, .inl ⟨?_, rfl⟩⟩
         unfold zbh
         rw [HBP.out, HD.out, HLL.out]
         rfl
        ·have hx' : x.size ≤ 64 := by omega
         go_wp2_with fail
         go_round
         case rel => exact ⟨k2 + 1, by omega, by go_num, fun j hj h1 => HX.out j hj h1 hx'⟩
         case measure => simp [intOf]; omega
       ·have HLL : Hid (long out = false) := long_false fun j hj => hsm.out j hj (by omega)
        go_wp2
        go_ret2
        refine ⟨hbel.out, .inr ⟨_, out, ?_, rfl, HO.out⟩⟩
        unfold zbh
        rw [HBP.out, HD.out, HLL.out]
        rfl
  ·have h1i : (256 : Int) < s.size := by omega
   have HB : Hid (zbj s = true) := by
    show zbj s = true
    unfold zbj
    have : decide (256 < s.size) = true := by simpa using h1
    rw [this, Bool.or_true, Bool.true_or]
   go_enter Tryz.func90, Tryz.ntmps90
   go_wp2_with fail
   go_ret2
   exact ⟨Below.refl _ _, .inl ⟨clean_none HB.out, rfl⟩⟩
end
section
def zb2 (p : List UInt8) : Value := .string ⟨p.toArray⟩
def zav (L : List Ent) : List Value := L.flatMap fun e => [zb2 e.1, ptrV (some e.2)]
theorem mk_bl' (x : ByteArray) : (⟨(bl x).toArray⟩ : ByteArray) = x := by unfold bl; simp
theorem zcc (e : Ent) (L : List Ent) : zav (e :: L) = zb2 e.1 :: ptrV (some e.2) :: zav L := rfl
theorem zdk (L M : List Ent) : zav (L ++ M) = zav L ++ zav M := by simp [zav]
theorem zen (L : List Ent) : (zav L).length = L.length * 2 := by
 induction L with
 | nil => rfl
 | cons e L ih => rw [zcc, List.length_cons, List.length_cons, ih, List.length_cons]; omega
theorem entCells_take (L : List Ent) (k : Nat) : zav (L.take k) = (zav L).take (k * 2) := by
 induction L generalizing k with
 | nil => simp [zav]
 | cons e L ih =>
  cases k with
  | zero => rfl
  | succ k =>
   rw [List.take_succ_cons, zcc, zcc, ih, show (k + 1) * 2 = k * 2 + 1 + 1 by omega, List.take_succ_cons, List.take_succ_cons]
theorem entCells_drop (L : List Ent) (k : Nat) : zav (L.drop k) = (zav L).drop (k * 2) := by
 induction L generalizing k with
 | nil => simp [zav]
 | cons e L ih =>
  cases k with
  | zero => rfl
  | succ k =>
   rw [List.drop_succ_cons, zcc, ih, show (k + 1) * 2 = k * 2 + 1 + 1 by omega, List.drop_succ_cons, List.drop_succ_cons]
theorem entCells_get (L : List Ent) (k : Nat) (h : k < L.length) : (zav L)[k * 2]? = some (zb2 L[k].1) ∧ (zav L)[k * 2 + 1]? = some (ptrV (some L[k].2)) := by
 induction L generalizing k with
 | nil => simp at h
 | cons e L ih =>
  cases k with
  | zero => exact ⟨rfl, rfl⟩
  | succ k =>
   have h' := ih k (by simpa using h)
   rw [zcc, show (k + 1) * 2 = k * 2 + 1 + 1 by omega, List.getElem?_cons_succ, List.getElem?_cons_succ, show k * 2 + 1 + 1 + 1 = (k * 2 + 1) + 1 + 1 by omega, List.getElem?_cons_succ, List.getElem?_cons_succ, List.getElem_cons_succ]
   exact h'
def RT.foot (R : RT) (b : Nat) : Prop := b = R.tb ∨ R.lv.ownBlock = some b ∨ (∃ d, R.nd b = some d) ∨ ∃ n d, R.nd n = some d ∧ d.dv.ownBlock = some b
structure RRep (B : Nat) (w : World) (R : RT) : Prop where
 low : ∀ b, R.foot b → B ≤ b
 tree : w.heap[R.tb]? = some (.cells #[R.lv, .int .i64 R.now, .bool false] 73 (0, 0))
 rows : w.ownsRow B 70 2 R.lv R.L.length (zav R.L)
 node : ∀ n d, R.nd n = some d → w.heap[n]? = some (.cells #[.bool d.dir, d.dv, .int .i64 d.tick] 41 (0, 0)) ∧ w.ownsRow B 5 1 d.dv d.data.length (u8s d.data)
 ents : ∀ e ∈ R.L, ∃ d, R.nd e.2 = some d
 apart : ∀ n d n' d' b, R.nd n = some d → R.nd n' = some d' → d.dv.ownBlock = some b → d'.dv.ownBlock = some b → n = n'
theorem RRep.kept {B : Nat} {w w' : World} {R : RT} {F : Nat → Prop} (h : RRep B w R) (k : Kept F w w') (hF : ∀ b, R.foot b → ¬ F b) : RRep B w' R where
 low := h.low
 tree := (k.block _ (zab h.tree) (hF _ (.inl rfl))).trans h.tree
 rows := zai h.rows k (fun b hb => hF b (.inr (.inl hb)))
 node n d hn := ⟨(k.block _ (zab (h.node n d hn).1) (hF _ (.inr (.inr (.inl ⟨d, hn⟩))))).trans (h.node n d hn).1, zai (h.node n d hn).2 k (fun b hb => hF b (.inr (.inr (.inr ⟨n, d, hn, hb⟩))))⟩
 ents := h.ents
 apart := h.apart
theorem RRep.below {B : Nat} {w w' : World} {R : RT} (h : RRep B w R) (k : Below w.heap.size w w') : RRep B w' R := h.kept (Kept.of_below k (fun _ => False)) (fun _ _ hf => hf)
theorem RRep.lt {B : Nat} {w : World} {R : RT} (h : RRep B w R) {b : Nat} (hb : R.foot b) : b < w.heap.size := by
 rcases hb with rfl | hb | ⟨d, hd⟩ | ⟨n, d, hn, hv⟩
 ·exact zab h.tree
 ·exact (h.rows.lt b hb).2
 ·exact zab (h.node _ _ hd).1
 ·exact ((h.node _ _ hn).2.lt b hv).2
theorem RRep.ent {B : Nat} {w : World} {R : RT} (h : RRep B w R) : ∃ a c, R.lv = .slice a R.L.length c ∧ ∀ k (hk : k < R.L.length), ∃ g, a = some ⟨g, 0, none⟩ ∧ w.cell? ⟨g, k * 2, none⟩ = some (zb2 R.L[k].1) ∧ w.cell? ⟨g, k * 2 + 1, none⟩ = some (ptrV (some R.L[k].2)) := by
 rcases h.rows.2 with ⟨h1, h0⟩ | ⟨g, cap, cur, h1, _, h2, _, _, h5, h6⟩
 ·exact ⟨_, _, by rw [h1, h0], fun k hk => by rw [h0] at hk; exact absurd hk (by simp)⟩
 ·refine ⟨_, cap, h1, fun k hk => ⟨g, rfl, ?_, ?_⟩⟩
  ·have h7 := (entCells_get R.L k hk).1
   rw [← h6, List.getElem?_take, if_pos (by omega), Array.getElem?_toList] at h7
   exact zaa h2 h7
  ·have h7 := (entCells_get R.L k hk).2
   rw [← h6, List.getElem?_take, if_pos (by omega), Array.getElem?_toList] at h7
   exact zaa h2 h7
def fltV (c : Nat) : Value := .agg #[.int .i64 c, .int .i64 0, .int .i64 11]
def flt0 : Value := .agg #[.int .i64 0, .int .i64 0, .int .i64 0]
def VPost (w : World) (v : Value) (e : Ending) (w' : World) : Prop := e = .returned v ∧ Below w.heap.size w w'
set_option maxRecDepth 100000 in
theorem ref_F (c p l : Int) (w : World) : Calls Tryz.prog 86 #[.int .i64 c, .int .i64 p, .int .i64 l] w fun e w' => VPost w (.agg #[.int .i64 c, .int .i64 p, .int .i64 l]) e w' := by
 have HB := hid (zad w (.cells #[.int .i64 c, .int .i64 p, .int .i64 l] 32))
 have HH := hid (heap_alloc_new w (.cells #[.int .i64 c, .int .i64 p, .int .i64 l] 32))
 go_enter Tryz.func86, Tryz.ntmps86
 go_wp2_with fail
 generalize w.alloc (.cells #[.int .i64 c, .int .i64 p, .int .i64 l] 32) = W at *
 obtain ⟨r0, r1, r2⟩ := zz3 HH.out
 refine bodyPost_ret (v := .agg #[.int .i64 c, .int .i64 p, .int .i64 l]) ?_ rfl ⟨rfl, HB.out⟩
 simp [results, Tryz.results86, go_sem, r0, r1, r2]
set_option maxRecDepth 100000 in
theorem zax (c : Nat) (w : World) : Calls Tryz.prog 59 #[.int .i64 c] w fun e w' => VPost w (fltV c) e w' := by
 have HB := hid (zad w (.cells #[.int .i64 0, .int .i64 0, .int .i64 0] 32))
 have HH := hid (heap_alloc_new w (.cells #[.int .i64 0, .int .i64 0, .int .i64 0] 32))
 go_enter Tryz.func59, Tryz.ntmps59
 go_wp2_with fail
 generalize w.alloc (.cells #[.int .i64 0, .int .i64 0, .int .i64 0] 32) = W at *
 refine (ref_F c 0 11 W).mono ?_
 rintro e w1 ⟨rfl, hb1⟩
 have HB1 := hid (zaf HB.out hb1)
 have HH1 : Hid (w1.heap[w.heap.size]? = _) := zae hb1 (zab HH.out) HH.out
 clear hb1
 obtain ⟨g0, g1, g2⟩ := zz3 HH1.out
 have gf := fun o => zah HH1.out o
 go_wp2_with fail
 have HX : Hid ((((w1.setCell ⟨w.heap.size, 0, none⟩ (.int .i64 c)).setCell ⟨w.heap.size, 1, none⟩ (.int .i64 0)).setCell ⟨w.heap.size, 2, none⟩ (.int .i64 11)).heap[w.heap.size]? = some (.cells #[.int .i64 c, .int .i64 0, .int .i64 11] 32 (0, 0))) := zap HH1.out _ _ _
 have HY : Hid (Below w.heap.size w (((w1.setCell ⟨w.heap.size, 0, none⟩ (.int .i64 c)).setCell ⟨w.heap.size, 1, none⟩ (.int .i64 0)).setCell ⟨w.heap.size, 2, none⟩ (.int .i64 11))) :=
  HB1.out.trans ((zao w1 w.heap.size _ _ _).below (fun b hb => by omega) HB1.out.size)
 clear g0 g1 g2 gf
 generalize ((w1.setCell ⟨w.heap.size, 0, none⟩ (.int .i64 c)).setCell ⟨w.heap.size, 1, none⟩ (.int .i64 0)).setCell ⟨w.heap.size, 2, none⟩ (.int .i64 11) = W2 at *
 obtain ⟨r0, r1, r2⟩ := zz3 HX.out
 refine bodyPost_ret (v := fltV c) ?_ rfl ⟨rfl, HY.out⟩
 simp [results, Tryz.results59, go_sem, r0, r1, r2, fltV]
theorem pathV_bl (s : ByteArray) : zb2 (bl s) = .string s := by unfold zb2; rw [mk_bl']
set_option maxRecDepth 100000 in
set_option maxHeartbeats 1000000 in
theorem ref_join {p : Nat} (v : Value) (l : List ByteArray) (w : World) (hv : zcg w p v l) (hl : l.length ≤ 1000) (hj : (zal l).length ≤ 100000) :
  Calls Tryz.prog 91 #[v] w fun e w' => e = .returned (zb2 (zal l)) ∧ w' = w := by
 obtain ⟨a, c, rfl, _, hc⟩ := hv.form
 have HC := hid hc
 clear hv hc
 go_enter Tryz.func91, Tryz.ntmps91
 go_wp2_with fail
 go_loop [3, 8] (fun sv idx => ∃ (k : Nat) (s : ByteArray), k ≤ l.length ∧ idx = .int .i64 k ∧ sv = .string s ∧ Hid (bl s = zal (l.take k))) (fun _ idx => l.length - (intOf idx).toNat)
 case atStart => exact ⟨0, ⟨#[]⟩, Nat.zero_le _, rfl, rfl, rfl⟩
 case round =>
  obtain ⟨k, s, hk, rfl, rfl, hs⟩ := hrel
  by_cases hlt : k < l.length
  ·obtain ⟨g, rfl, _, hcell⟩ := HC.out k hlt
   have HJ : Hid (zal (l.take (k + 1)) = zal (l.take k) ++ 47 :: bl l[k]) := by
    show _ = _
    rw [List.take_succ_eq_append_getElem hlt, zcv]
   have hle := zfq l (k + 1)
   rw [HJ.out, ← hs.out, List.length_append, List.length_cons] at hle
   generalize l[k] = x at *
   have hsz : s.size + (1 + x.size) ≤ 100000 := by
    have h1 : s.size = (bl s).length := Lib.size_eq s
    have h2 : x.size = (bl x).length := Lib.size_eq x
    omega
   have hsz1 : ¬ 9223372036854775807 < 1 + x.size := by omega
   have hsz2 : ¬ 9223372036854775807 < s.size + (1 + x.size) := by omega
   clear hle hsz
   have hki : (k : Int) < l.length := by omega
   go_wp2_with fail
   go_round
   case rel => exact ⟨k + 1, _, by omega, by go_num, rfl, by
    show _ = _
    rw [HJ.out, ← hs.out, zeq, zeq]
    rfl⟩
   case measure => simp [intOf]; omega
  ·have hkl : k = l.length := by omega
   subst hkl
   have HS : Hid (zb2 (zal l) = .string s) := by
    have h := hs.out
    rw [List.take_length] at h
    rw [← h]
    exact pathV_bl s
   go_wp2_with fail
   go_ret
   exact ⟨by rw [HS.out]; rfl, rfl⟩
theorem zcd (p : ByteArray) : (bl p).length = p.size := (Lib.size_eq p).symm
theorem bl_drop {p : ByteArray} {k : Nat} (h : k < p.size) : (bl p).drop k = p[k] :: (bl p).drop (k + 1) := by
 have h' : k < p.data.toList.length := by rw [← Lib.size_eq]; exact h
 show p.data.toList.drop k = _
 rw [List.drop_eq_getElem_cons h', Array.getElem_toList]
 rfl
set_option maxRecDepth 100000 in
set_option maxHeartbeats 1000000 in
theorem ref_before (p q : ByteArray) (w : World) (hp : p.size ≤ 100000) :
  Calls Tryz.prog 142 #[.string p, .string q] w fun e w' => VPost w (.bool (bef (bl p) (bl q))) e w' := by
 go_enter Tryz.func142, Tryz.ntmps142
 go_wp2_with fail
 go_loopw [5] (fun idx wr => ∃ k : Nat, k ≤ p.size ∧ k ≤ q.size ∧ idx = .int .i64 k ∧ Hid (bef (bl p) (bl q) = bef ((bl p).drop k) ((bl q).drop k)) ∧ Hid (Below w.heap.size w wr)) (fun idx _ => p.size - (intOf idx).toNat)
 case atStart => exact ⟨0, Nat.zero_le _, Nat.zero_le _, rfl, rfl, Below.refl _ _⟩
 case round =>
  obtain ⟨k, hk1, hk2, rfl, hbf, hb⟩ := hrel
  by_cases h1 : k < p.size
  ·by_cases h2 : k < q.size
   ·have h1i : (k : Int) < p.size := by omega
    have h2i : (k : Int) < q.size := by omega
    have HD : Hid (bef (bl p) (bl q) = bef (p[k] :: (bl p).drop (k + 1)) (q[k] :: (bl q).drop (k + 1))) := by
     show _ = _
     rw [hbf.out, bl_drop h1, bl_drop h2]
    obtain ⟨x, hx⟩ : ∃ x, p[k] = x := ⟨_, rfl⟩
    obtain ⟨y, hy⟩ : ∃ y, q[k] = y := ⟨_, rfl⟩
    rw [hx, hy] at HD
    clear hbf
    by_cases hxy : x = y
    ·subst hxy
     have HE : Hid (bef (bl p) (bl q) = bef ((bl p).drop (k + 1)) ((bl q).drop (k + 1))) := by
      show _ = _
      rw [HD.out, bef, if_pos rfl]
     go_wp2_with fail
     go_region
     all_goals
      go_wp2_with fail
      go_roundw
      case rel => exact ⟨k + 1, by omega, by omega, by go_num, HE.out, hb.out.drew⟩
      case measure => simp [intOf]; omega
    ·have hne : ((x.toNat : Int) != (y.toNat : Int)) = true := by
      have : ¬ x.toNat = y.toNat := fun h => hxy (UInt8.toNat_inj.1 h)
      have h2 : ¬ (x.toNat : Int) = (y.toNat : Int) := by omega
      simpa using h2
     have HXY := hid hxy
     clear hxy
     by_cases hx47 : x = 47
     ·have f47 : ((x.toNat : Int) == 47) = true := by rw [hx47]; rfl
      have HE : Hid (bef (bl p) (bl q) = true) := by
       show _ = _
       rw [HD.out, bef, if_neg HXY.out, if_pos hx47]
      clear hx47
      go_wp2_with fail
      go_region
      all_goals
       go_wp2_with fail
       go_ret
       exact ⟨by rw [HE.out]; rfl, hb.out.drew⟩
     ·have f47 : ((x.toNat : Int) == 47) = false := by
       have : ¬ x.toNat = 47 := fun h => hx47 (UInt8.toNat_inj.1 h)
       have h2 : ¬ (x.toNat : Int) = 47 := by omega
       simpa using h2
      by_cases hy47 : y = 47
      ·have g47 : ((y.toNat : Int) == 47) = true := by rw [hy47]; rfl
       have HE : Hid (bef (bl p) (bl q) = false) := by
        show _ = _
        rw [HD.out, bef, if_neg HXY.out, if_neg hx47, if_pos hy47]
       clear hx47 hy47
       go_wp2_with fail
       go_region
       all_goals
        go_wp2_with fail
        go_ret
        exact ⟨by rw [HE.out]; rfl, hb.out.drew⟩
      ·have g47 : ((y.toNat : Int) == 47) = false := by
        have : ¬ y.toNat = 47 := fun h => hy47 (UInt8.toNat_inj.1 h)
        have h2 : ¬ (y.toNat : Int) = 47 := by omega
        simpa using h2
       have HE : Hid (bef (bl p) (bl q) = decide (x.toNat < y.toNat)) := by
        show _ = _
        rw [HD.out, bef, if_neg HXY.out, if_neg hx47, if_neg hy47]
        rw [decide_eq_decide, UInt8.lt_iff_toNat_lt]
       clear hx47 hy47
       go_wp2_with fail
       go_region
       all_goals
        go_wp2_with fail
        go_ret
        exact ⟨by rw [HE.out]; rfl, hb.out.drew⟩
   ·have h1i : (k : Int) < p.size := by omega
    have h2i : ¬ (k : Int) < q.size := by omega
    have HE : Hid (bef (bl p) (bl q) = decide (p.size < q.size)) := by
     show _ = _
     rw [hbf.out, List.drop_of_length_le (l := bl q) (by rw [zcd]; omega), bef_nil]
     exact (decide_eq_false (by omega)).symm
    go_wp2_with fail
    go_ret
    exact ⟨by rw [HE.out]; rfl, hb.out⟩
  ·have h1i : ¬ (k : Int) < p.size := by omega
   have HE : Hid (bef (bl p) (bl q) = decide (p.size < q.size)) := by
    show _ = _
    rw [hbf.out, List.drop_of_length_le (l := bl p) (by rw [zcd]; omega)]
    by_cases hlt : p.size < q.size
    ·rw [bl_drop (p := q) (k := k) (by omega), bef_nil_cons]
     exact (decide_eq_true (by omega)).symm
    ·rw [List.drop_of_length_le (l := bl q) (by rw [zcd]; omega), bef_nil]
     exact (decide_eq_false (by omega)).symm
   go_wp2_with fail
   go_ret
   exact ⟨by rw [HE.out]; rfl, hb.out⟩
theorem entAt_cons (e : Ent) (L : List Ent) (p : List UInt8) : zaw (e :: L) p = if e.1 = p then some e.2 else zaw L p := rfl
theorem path_same {e : List UInt8} {p : ByteArray} (h : e = bl p) : (e == p.toList) = true := by
 rw [ByteArray.toList_eq, h]
 unfold bl
 simp
theorem path_other {e : List UInt8} {p : ByteArray} (h : ¬ e = bl p) : (e == p.toList) = false := by
 rw [ByteArray.toList_eq]
 unfold bl at h
 simpa using h
set_option maxRecDepth 100000 in
set_option maxHeartbeats 1000000 in
theorem ref_at {B : Nat} {R : RT} (p : ByteArray) (w : World) (hR : RRep B w R) (hl : R.L.length ≤ 100000) :
  Calls Tryz.prog 65 #[.pointer (some ⟨R.tb, 0, none⟩), .string p] w fun e w' => VPost w (ptrV (zaw R.L (bl p))) e w' := by
 obtain ⟨a, c, hlv, hent⟩ := hR.ent
 have hc0 : w.cell? ⟨R.tb, 0, none⟩ = some (.slice a R.L.length c) := by
  have h := zaa (o := 0) hR.tree rfl
  rw [hlv] at h
  exact h
 have HE := hid hent
 clear hR hlv hent
 go_enter Tryz.func65, Tryz.ntmps65
 go_wp2_with fail
 go_loopw [12] (fun idx wr => ∃ k : Nat, k ≤ R.L.length ∧ idx = .int .i64 k ∧ Hid (zaw R.L (bl p) = zaw (R.L.drop k) (bl p)) ∧ Hid (Below w.heap.size w wr)) (fun idx _ => R.L.length - (intOf idx).toNat)
 case atStart => exact ⟨0, Nat.zero_le _, rfl, rfl, Below.refl _ _⟩
 case round =>
  obtain ⟨k, hk, rfl, hat, hb⟩ := hrel
  by_cases hlt : k < R.L.length
  ·obtain ⟨g, rfl, q1, q2⟩ := HE.out k hlt
   have c1 := (hb.out.cell (World.block_lt_of_cell? _ _ q1)).trans q1
   have c2 := (hb.out.cell (World.block_lt_of_cell? _ _ q2)).trans q2
   have hki : (k : Int) < R.L.length := by omega
   have HA : Hid (zaw R.L (bl p) = if R.L[k].1 = bl p then some R.L[k].2 else zaw (R.L.drop (k + 1)) (bl p)) := by
    show _ = _
    rw [hat.out, List.drop_eq_getElem_cons hlt, entAt_cons]
   clear hat q1 q2
   generalize R.L[k] = x at *
   obtain ⟨xp, xn⟩ := x
   simp only [zb2, zau] at c1 c2
   by_cases hxp : xp = bl p
   ·have he := path_same hxp
    have HF : Hid (zaw R.L (bl p) = some xn) := by
     show _ = _
     rw [HA.out, if_pos hxp]
    have HB := hid (fun o => hb.out.trans ((Below.refl _ wr).alloc hb.out.size o))
    clear hxp
    go_wp2_with fail
    go_ret
    exact ⟨by rw [HF.out]; rfl, HB.out _⟩
   ·have he := path_other hxp
    have HF : Hid (zaw R.L (bl p) = zaw (R.L.drop (k + 1)) (bl p)) := by
     show _ = _
     rw [HA.out, if_neg hxp]
    have HB := hid (fun o => hb.out.trans ((Below.refl _ wr).alloc hb.out.size o))
    clear hxp
    go_wp2_with fail
    go_roundw
    case rel => exact ⟨k + 1, by omega, by go_num, HF.out, HB.out _⟩
    case measure => simp [intOf]; omega
  ·have hki : ¬ (k : Int) < R.L.length := by omega
   have HF : Hid (zaw R.L (bl p) = none) := by
    show _ = _
    rw [hat.out, List.drop_of_length_le (by omega)]
    rfl
   go_wp2_with fail
   go_ret
   exact ⟨by rw [HF.out]; rfl, hb.out⟩
end
section
theorem zcg.take {w : World} {base : Nat} {a : Option Addr} {c : Nat} {l : List ByteArray} (h : zcg w base (.slice a l.length c) l) {k : Nat} (hk : k ≤ l.length) : zcg w base (.slice a k c) (l.take k) := by
 have e : (l.take k).length = k := by rw [List.length_take]; omega
 rcases h with ⟨rfl, a', c', h1⟩ | ⟨g, cap, cur, h1, h2, h3, h4, h5⟩
 ·have : k = 0 := by simpa using hk
  subst this
  exact .inl ⟨rfl, a, c, rfl⟩
 ·simp only [Value.slice.injEq] at h1
  obtain ⟨rfl, _, rfl⟩ := h1
  refine .inr ⟨g, c, cur, by rw [e], by omega, h3, h4, fun j hj => ?_⟩
  rw [List.getElem_take]
  exact h5 j (by omega)
theorem ze9 {B : Nat} {R : RT} (q : List UInt8) (w : World) (hR : RRep B w R) (hl : R.L.length ≤ 100000) :
  Calls Tryz.prog 65 #[.pointer (some ⟨R.tb, 0, none⟩), zb2 q] w fun e w' => VPost w (ptrV (zaw R.L q)) e w' := by
 have h := ref_at (mkB q) w hR hl
 rw [bl_mkB] at h
 exact h
def PlacePost (w : World) (R : RT) (s : ByteArray) (e : Ending) (w' : World) : Prop :=
 Below w.heap.size w w' ∧ ((zbh s = none ∧ e = .returned (.tuple #[.string ⟨#[]⟩, .string ⟨#[]⟩, fltV 15])) ∨
  (∃ l, zbh s = some l ∧ ¬ R.okDirs l ∧ e = .returned (.tuple #[.string ⟨#[]⟩, .string ⟨#[]⟩, fltV 16])) ∨
  (∃ l, zbh s = some l ∧ R.okDirs l ∧ e = .returned (.tuple #[zb2 (zal l), zb2 (zal l.dropLast), flt0])))
theorem zdc {w w2 : World} {b : Nat} (h : Below w.heap.size w w2) (hb : w.heap.size ≤ b) (x0 x1 x2 : Value) : Below w.heap.size w (((w2.setCell ⟨b, 0, none⟩ x0).setCell ⟨b, 1, none⟩ x1).setCell ⟨b, 2, none⟩ x2) :=
 h.trans ((zao w2 b x0 x1 x2).below (fun k hk => by omega) h.size)
set_option maxRecDepth 100000 in
set_option maxHeartbeats 16000000 in
theorem ref_place {B : Nat} {R : RT} (s : ByteArray) (w : World) (hR : RRep B w R) (hl : R.L.length ≤ 100000) (hsz : s.size ≤ 9223372036854775807) :
  Calls Tryz.prog 64 #[.pointer (some ⟨R.tb, 0, none⟩), .string s] w fun e w' => PlacePost w R s e w' := by
 have HR := hid hR
 have HB0 := hid (zad w (.cells #[.int .i64 0, .int .i64 0, .int .i64 0] 32))
 have HH0 := hid (heap_alloc_new w (.cells #[.int .i64 0, .int .i64 0, .int .i64 0] 32))
 clear hR
 go_enter Tryz.func64, Tryz.ntmps64
 go_wp2_with fail
 generalize w.alloc (.cells #[.int .i64 0, .int .i64 0, .int .i64 0] 32) = w0 at *
 refine (rclean_any s w0 hsz).mono ?_
 rintro e w1 ⟨hb1, hr⟩
 have HB1 := hid (zaf HB0.out hb1)
 have HH1 : Hid (w1.heap[w.heap.size]? = some (.cells #[.int .i64 0, .int .i64 0, .int .i64 0] 32 (0, 0))) := zae hb1 (zab HH0.out) HH0.out
 cases hcs : zbh s with
 | none =>
  have HCS := hid hcs
  obtain rfl : e = .returned (.tuple #[.slice none 0 0, .bool false]) := by
   rcases hr with ⟨_, h⟩ | ⟨v, l, h, _⟩
   ·exact h
   ·rw [hcs] at h; cases h
  clear hcs hr hb1 HB0 HH0
  go_wp2_with fail
  refine (zax 15 w1).mono ?_
  rintro e w2 ⟨rfl, hb2⟩
  have HB2 := hid (zaf HB1.out hb2)
  have HH2 : Hid (w2.heap[w.heap.size]? = some (.cells #[.int .i64 0, .int .i64 0, .int .i64 0] 32 (0, 0))) := zae hb2 (zab HH1.out) HH1.out
  clear hb2
  obtain ⟨g0, g1, g2⟩ := zz3 HH2.out
  have gf := fun o => zah HH2.out o
  simp only [fltV]
  go_wp2_with fail
  have HX := hid (zap HH2.out (.int .i64 15) (.int .i64 0) (.int .i64 11))
  have HY := hid (zdc HB2.out (Nat.le_refl w.heap.size) (.int .i64 15) (.int .i64 0) (.int .i64 11))
  clear g0 g1 g2 gf
  generalize ((w2.setCell ⟨w.heap.size, 0, none⟩ (.int .i64 15)).setCell ⟨w.heap.size, 1, none⟩ (.int .i64 0)).setCell ⟨w.heap.size, 2, none⟩ (.int .i64 11) = W at *
  obtain ⟨r0, r1, r2⟩ := zz3 HX.out
  refine bodyPost_ret (v := .tuple #[.string ⟨#[]⟩, .string ⟨#[]⟩, fltV 15]) ?_ rfl ⟨HY.out, .inl ⟨HCS.out, rfl⟩⟩
  simp [results, Tryz.results64, go_sem, r0, r1, r2, fltV]
 | some l =>
  have HCS := hid hcs
  obtain ⟨v, rfl, hv⟩ : ∃ v, e = .returned (.tuple #[v, .bool true]) ∧ zcg w1 w0.heap.size v l := by
   rcases hr with ⟨h, _⟩ | ⟨v, l', h, h1, h2⟩
   ·rw [hcs] at h; cases h
   ·rw [hcs] at h
    obtain rfl := Option.some.inj h
    exact ⟨v, h1, h2⟩
  have hjl : (zal l).length ≤ 257 := by have := zay hcs; omega
  have h300 : l.length ≤ 300 := by have := zay hcs; have := joinB_parts l (zay hcs).1; omega
  obtain ⟨va, vc, rfl, hlc, _⟩ := hv.form
  have HV := hid hv
  have HJ : Hid (∀ W k, Below w1.heap.size w1 W → k ≤ l.length → Calls Tryz.prog 91 #[.slice va k vc] W fun e w' => e = .returned (zb2 (zal (l.take k))) ∧ w' = W) := fun W k hW hk =>
   ref_join _ _ W ((hv.kept (Kept.of_below hW (fun _ => False)) (fun _ h => h.elim)).take hk) (by rw [List.length_take]; omega) (Nat.le_trans (zfq l k) (by omega))
  have HR1 := hid (HR.out.below HB1.out)
  clear hcs hr hb1 hv HB0 HH0 HR
  go_wp2_with fail
  go_loopw [21] (fun idx wr => ∃ k : Nat, k ≤ l.length ∧ idx = .int .i64 k ∧ Hid (∀ j, j < k → R.dirAt (zal (l.take j)) = true) ∧ Hid (Below w1.heap.size w1 wr)) (fun idx _ => l.length - (intOf idx).toNat)
  case atStart => exact ⟨0, Nat.zero_le _, rfl, fun j h => absurd h (by omega), Below.refl _ _⟩
  case round =>
   obtain ⟨k, hk, rfl, hdirs, hb⟩ := hrel
   have HBw := hid (zaf HB1.out hb.out)
   have HHr : Hid (wr.heap[w.heap.size]? = some (.cells #[.int .i64 0, .int .i64 0, .int .i64 0] 32 (0, 0))) := zae hb.out (zab HH1.out) HH1.out
   by_cases hlt : k < l.length
   ·have hki : (k : Int) < l.length := by omega
    have hkc : (k : Int) ≤ vc := by omega
    have hk0 : (0 : Int) ≤ k := by omega
    have HJk := hid (HJ.out wr k hb.out (by omega))
    have HAt := hid (ze9 (zal (l.take k)) wr (HR1.out.below hb.out) hl)
    have HRw := hid (HR1.out.below hb.out)
    have hDA : R.dirAt (zal (l.take k)) = match zaw R.L (zal (l.take k)) with | none => false | some n => match R.nd n with | none => false | some d => d.dir := rfl
    have HDA := hid hDA
    clear hDA
    obtain ⟨q, hq⟩ : ∃ q, q = zal (l.take k) := ⟨_, rfl⟩
    rw [← hq] at HJk HAt HDA
    have HQ := hid hq
    clear hq
    have hbad : R.dirAt q = false → ¬ R.okDirs l := fun h hok => by
     have h1 := hok k hlt
     rw [← HQ.out, h] at h1
     cases h1
    have HBAD := hid hbad
    clear hbad
    go_wp2_with fail
    refine HJk.out.mono ?_
    rintro e w2 ⟨rfl, rfl⟩
    go_wp2_with fail
    refine HAt.out.mono ?_
    rintro e w3 ⟨rfl, hb3⟩
    have HB3 := hid (zaf HBw.out hb3)
    have HB13 := hid (zaf hb.out hb3)
    have HH3 : Hid (w3.heap[w.heap.size]? = some (.cells #[.int .i64 0, .int .i64 0, .int .i64 0] 32 (0, 0))) := zae hb3 (zab HHr.out) HHr.out
    have HR3 := hid (HRw.out.below hb3)
    clear hb3 HJk HAt
    cases hen : zaw R.L q with
    | none =>
     have HD : Hid (R.dirAt q = false) := by show _ = _; rw [HDA.out, hen]
     simp only [za0]
     clear hen
     go_wp2_with fail
     refine (zax 16 w3).mono ?_
     rintro e w4 ⟨rfl, hb4⟩
     have HB4 := hid (zaf HB3.out hb4)
     have HH4 : Hid (w4.heap[w.heap.size]? = some (.cells #[.int .i64 0, .int .i64 0, .int .i64 0] 32 (0, 0))) := zae hb4 (zab HH3.out) HH3.out
     clear hb4
     obtain ⟨g0, g1, g2⟩ := zz3 HH4.out
     have gf := fun o => zah HH4.out o
     simp only [fltV]
     go_wp2_with fail
     have HX := hid (zap HH4.out (.int .i64 16) (.int .i64 0) (.int .i64 11))
     have HY := hid (zdc HB4.out (Nat.le_refl w.heap.size) (.int .i64 16) (.int .i64 0) (.int .i64 11))
     clear g0 g1 g2 gf
     generalize ((w4.setCell ⟨w.heap.size, 0, none⟩ (.int .i64 16)).setCell ⟨w.heap.size, 1, none⟩ (.int .i64 0)).setCell ⟨w.heap.size, 2, none⟩ (.int .i64 11) = W at *
     obtain ⟨r0, r1, r2⟩ := zz3 HX.out
     refine bodyPost_ret (v := .tuple #[.string ⟨#[]⟩, .string ⟨#[]⟩, fltV 16]) ?_ rfl ⟨HY.out, .inr (.inl ⟨l, HCS.out, HBAD.out HD.out, rfl⟩)⟩
     simp [results, Tryz.results64, go_sem, r0, r1, r2, fltV]
    | some n =>
     obtain ⟨d, hd⟩ := HR3.out.ents _ (zcf hen)
     have hc := zaa (o := 0) (HR3.out.node n d hd).1 rfl
     have HDD : Hid (R.dirAt q = d.dir) := by show _ = _; rw [HDA.out, hen]; show (match R.nd n with | none => false | some d => d.dir) = _; rw [hd]
     clear hen hd
     simp only [zau]
     cases hdir : d.dir with
     | false =>
      rw [hdir] at hc HDD
      clear hdir
      go_wp2_with fail
      refine (zax 16 w3).mono ?_
      rintro e w4 ⟨rfl, hb4⟩
      have HB4 := hid (zaf HB3.out hb4)
      have HH4 : Hid (w4.heap[w.heap.size]? = some (.cells #[.int .i64 0, .int .i64 0, .int .i64 0] 32 (0, 0))) := zae hb4 (zab HH3.out) HH3.out
      clear hb4 hc
      obtain ⟨g0, g1, g2⟩ := zz3 HH4.out
      have gf := fun o => zah HH4.out o
      simp only [fltV]
      go_wp2_with fail
      have HX := hid (zap HH4.out (.int .i64 16) (.int .i64 0) (.int .i64 11))
      have HY := hid (zdc HB4.out (Nat.le_refl w.heap.size) (.int .i64 16) (.int .i64 0) (.int .i64 11))
      clear g0 g1 g2 gf
      generalize ((w4.setCell ⟨w.heap.size, 0, none⟩ (.int .i64 16)).setCell ⟨w.heap.size, 1, none⟩ (.int .i64 0)).setCell ⟨w.heap.size, 2, none⟩ (.int .i64 11) = W at *
      obtain ⟨r0, r1, r2⟩ := zz3 HX.out
      refine bodyPost_ret (v := .tuple #[.string ⟨#[]⟩, .string ⟨#[]⟩, fltV 16]) ?_ rfl ⟨HY.out, .inr (.inl ⟨l, HCS.out, HBAD.out HDD.out, rfl⟩)⟩
      simp [results, Tryz.results64, go_sem, r0, r1, r2, fltV]
     | true =>
      rw [hdir] at hc HDD
      clear hdir
      have HDN : Hid (∀ j, j < k + 1 → R.dirAt (zal (l.take j)) = true) := fun j hj => by
       by_cases hjk : j < k
       ·exact hdirs.out j hjk
       ·obtain rfl : j = k := by omega
        rw [← HQ.out]
        exact HDD.out
      clear hdirs
      go_wp2_with fail
      go_roundw
      case rel => exact ⟨k + 1, by omega, by go_num, HDN.out, HB13.out⟩
      case measure => simp [intOf]; omega
   ·obtain rfl : k = l.length := by omega
    have HOK : Hid (R.okDirs l) := hdirs.out
    have HJ2 : Hid (∀ W k', Below w1.heap.size w1 W → k' ≤ l.length → Calls Tryz.prog 91 #[.slice va k' vc] W fun e w' => e = .returned (zb2 (zal (l.take k'))) ∧ w' = W) := HJ.out
    have hvc : (l.length : Int) ≤ vc := by omega
    obtain ⟨g0, g1, g2⟩ := zz3 HHr.out
    have gf := fun o => zah HHr.out o
    obtain ⟨m, hm⟩ : ∃ m, m = l.length - 1 := ⟨_, rfl⟩
    have hsub : IntKind.i64.wrap ((l.length : Int) - 1) = (l.length : Int) - 1 := by
     exact IntWalk.i64_in _ (by omega)
    have hmx : max (0 : Int) ((l.length : Int) - 1) = (m : Int) := by omega
    have hmc : (m : Int) ≤ vc := by omega
    have hmc2 : m ≤ vc := by omega
    have hm0 : (0 : Int) ≤ m := by omega
    have HM := hid hm
    have HJW : Hid (∀ k', k' ≤ l.length → Calls Tryz.prog 91 #[.slice va k' vc] wr.drew fun e w' => e = .returned (zb2 (zal (l.take k'))) ∧ w' = wr.drew) := hid fun k' hk' => HJ.out _ _ hb.out.drew hk'
    have HMl : Hid (m ≤ l.length) := hid (by omega)
    have HLl : Hid (l.length ≤ l.length) := hid (Nat.le_refl _)
    have HX := hid (zap (w := wr) HHr.out (.int .i64 0) (.int .i64 0) (.int .i64 0))
    have HY := hid (zdc HBw.out (Nat.le_refl w.heap.size) (.int .i64 0) (.int .i64 0) (.int .i64 0))
    clear HJ HJ2 hm
    go_wp2_with fail
    go_region_with (go_at_call 91; refine (HJW.out _ ?_).mono ?_; (first | exact HMl.out | exact HLl.out); rintro e w' ⟨rfl, rfl⟩)
    all_goals
     have HX' : Hid (((((wr.setCell ⟨w.heap.size, 0, none⟩ (.int .i64 0)).setCell ⟨w.heap.size, 1, none⟩ (.int .i64 0)).setCell ⟨w.heap.size, 2, none⟩ (.int .i64 0)).drew).heap[w.heap.size]? = some (.cells #[.int .i64 0, .int .i64 0, .int .i64 0] 32 (0, 0))) := HX
     have HY' := hid HY.out.drew
     clear HX HY g0 g1 g2 gf
     generalize (((wr.setCell ⟨w.heap.size, 0, none⟩ (.int .i64 0)).setCell ⟨w.heap.size, 1, none⟩ (.int .i64 0)).setCell ⟨w.heap.size, 2, none⟩ (.int .i64 0)).drew = W at *
     obtain ⟨r0, r1, r2⟩ := zz3 HX'.out
     go_wp2_with fail
     refine bodyPost_ret (v := .tuple #[zb2 (zal l), zb2 (zal (l.take m)), flt0]) ?_ rfl ⟨HY'.out, .inr (.inr ⟨l, HCS.out, HOK.out, ?_⟩)⟩
     ·simp [results, Tryz.results64, go_sem, r0, r1, r2, flt0]
     ·rw [HM.out, ← List.dropLast_eq_take]
end
section
set_option maxRecDepth 100000 in
set_option maxHeartbeats 1000000 in
theorem stamp_one (tb n sb : Nat) (now : Int) (w : World) (h0 : 0 ≤ now) (h1 : now ≤ 1152921504606846976) (v4 : Value)
  (hc : w.cell? ⟨tb, 1, none⟩ = some (.int .i64 now)) (hf : w.frozen? ⟨tb, 1, none⟩ = false)
  (hs : w.cell? ⟨sb, 0, none⟩ = some (.pointer (some ⟨n, 0, none⟩))) (hn : w.cell? ⟨n, 2, none⟩ = some v4) (hfn : w.frozen? ⟨n, 2, none⟩ = false) (h3 : n ≠ tb) :
  Calls Tryz.prog 67 #[.pointer (some ⟨tb, 0, none⟩), .slice (some ⟨sb, 0, none⟩) 1 1] w fun e w' => e = .returned (.tuple #[]) ∧
   w' = (w.setCell ⟨tb, 1, none⟩ (.int .i64 (now + 1))).setCell ⟨n, 2, none⟩ (.int .i64 (now + 1)) := by
 have h5 : tb ≠ n := fun h => h3 h.symm
 go_enter Tryz.func67, Tryz.ntmps67
 go_wp2_with fail
 refine wp_loop_rounds 2 ?_
 rw [rounds_succ]
 go_wp2_with fail
 rw [rounds_succ]
 go_wp2_with fail
 go_end0
 exact ⟨rfl, rfl⟩
set_option maxRecDepth 100000 in
set_option maxHeartbeats 1000000 in
theorem stamp_two (tb n m sb : Nat) (now : Int) (w : World) (h0 : 0 ≤ now) (h1 : now ≤ 1152921504606846976) (v4 u4 : Value)
  (hc : w.cell? ⟨tb, 1, none⟩ = some (.int .i64 now)) (hf : w.frozen? ⟨tb, 1, none⟩ = false)
  (hs : w.cell? ⟨sb, 0, none⟩ = some (.pointer (some ⟨n, 0, none⟩))) (hs1 : w.cell? ⟨sb, 1, none⟩ = some (.pointer (some ⟨m, 0, none⟩)))
  (hn : w.cell? ⟨n, 2, none⟩ = some v4) (hfn : w.frozen? ⟨n, 2, none⟩ = false) (hm : w.cell? ⟨m, 2, none⟩ = some u4) (hfm : w.frozen? ⟨m, 2, none⟩ = false)
  (h3 : n ≠ tb) (h4 : sb ≠ tb) (h6 : m ≠ tb) (h7 : n ≠ m) (h8 : sb ≠ n) :
  Calls Tryz.prog 67 #[.pointer (some ⟨tb, 0, none⟩), .slice (some ⟨sb, 0, none⟩) 2 2] w fun e w' => e = .returned (.tuple #[]) ∧
   w' = ((w.setCell ⟨tb, 1, none⟩ (.int .i64 (now + 1))).setCell ⟨n, 2, none⟩ (.int .i64 (now + 1))).setCell ⟨m, 2, none⟩ (.int .i64 (now + 1)) := by
 have h5 : tb ≠ n := fun h => h3 h.symm
 have h9 : tb ≠ m := fun h => h6 h.symm
 have h10 : m ≠ n := fun h => h7 h.symm
 go_enter Tryz.func67, Tryz.ntmps67
 go_wp2_with fail
 refine wp_loop_rounds 3 ?_
 rw [rounds_succ]
 go_wp2_with fail
 rw [rounds_succ]
 go_wp2_with fail
 rw [rounds_succ]
 go_wp2_with fail
 go_end0
 exact ⟨rfl, rfl⟩
structure StampPost1 (w : World) (tb n : Nat) (r c a0 a1 : Value) (now : Int) (e : Ending) (w' : World) : Prop where
 ret : e = .returned (.tuple #[])
 tree : w'.heap[tb]? = some (.cells #[r, .int .i64 (now + 1), c] 73 (0, 0))
 node : w'.heap[n]? = some (.cells #[a0, a1, .int .i64 (now + 1)] 41 (0, 0))
 kept : Kept (fun b => b = tb ∨ b = n) w w'
structure StampPost2 (w : World) (tb n m : Nat) (r c a0 a1 b0 b1 : Value) (now : Int) (e : Ending) (w' : World) : Prop where
 ret : e = .returned (.tuple #[])
 tree : w'.heap[tb]? = some (.cells #[r, .int .i64 (now + 1), c] 73 (0, 0))
 node : w'.heap[n]? = some (.cells #[a0, a1, .int .i64 (now + 1)] 41 (0, 0))
 node2 : w'.heap[m]? = some (.cells #[b0, b1, .int .i64 (now + 1)] 41 (0, 0))
 kept : Kept (fun b => b = tb ∨ b = n ∨ b = m) w w'
theorem stamp1 {w : World} {tb n sb : Nat} {r c a0 a1 a2 : Value} {now : Int} (h0 : 0 ≤ now) (h1 : now ≤ 1152921504606846976)
  (hT : w.heap[tb]? = some (.cells #[r, .int .i64 now, c] 73 (0, 0))) (hN : w.heap[n]? = some (.cells #[a0, a1, a2] 41 (0, 0)))
  (hS : w.heap[sb]? = some (.cells #[.pointer (some ⟨n, 0, none⟩)] 42 (0, 0))) :
  Calls Tryz.prog 67 #[.pointer (some ⟨tb, 0, none⟩), .slice (some ⟨sb, 0, none⟩) 1 1] w fun e w' => StampPost1 w tb n r c a0 a1 now e w' := by
 have n1 : tb ≠ n := zac hT hN (by decide)
 refine (stamp_one tb n sb now w h0 h1 a2 (zaa hT rfl) (zah hT 1) (zaa hS rfl) (zaa hN rfl) (zah hN 2) (Ne.symm n1)).mono ?_
 rintro e w' ⟨rfl, rfl⟩
 refine ⟨rfl, ?_, ?_, ?_⟩
 ·rw [zag _ _ _ n1]
  exact zaj hT 1 _
 ·exact zaj ((zag _ _ _ (Ne.symm n1)).trans hN) 2 _
 ·exact ((Kept.refl (fun b => b = tb ∨ b = n) w).setCell (p := ⟨tb, 1, none⟩) (.inl (.inl rfl)) _).setCell (p := ⟨n, 2, none⟩) (.inl (.inr rfl)) _
theorem stamp2 {w : World} {tb n m sb : Nat} {r c a0 a1 a2 b0 b1 b2 : Value} {now : Int} (h0 : 0 ≤ now) (h1 : now ≤ 1152921504606846976)
  (hT : w.heap[tb]? = some (.cells #[r, .int .i64 now, c] 73 (0, 0))) (hN : w.heap[n]? = some (.cells #[a0, a1, a2] 41 (0, 0)))
  (hM : w.heap[m]? = some (.cells #[b0, b1, b2] 41 (0, 0))) (hS : w.heap[sb]? = some (.cells #[.pointer (some ⟨n, 0, none⟩), .pointer (some ⟨m, 0, none⟩)] 42 (0, 0))) (hnm : n ≠ m) :
  Calls Tryz.prog 67 #[.pointer (some ⟨tb, 0, none⟩), .slice (some ⟨sb, 0, none⟩) 2 2] w fun e w' => StampPost2 w tb n m r c a0 a1 b0 b1 now e w' := by
 have n1 : tb ≠ n := zac hT hN (by decide)
 have n2 : tb ≠ m := zac hT hM (by decide)
 refine (stamp_two tb n m sb now w h0 h1 a2 b2 (zaa hT rfl) (zah hT 1) (zaa hS rfl) (zaa hS rfl) (zaa hN rfl) (zah hN 2) (zaa hM rfl) (zah hM 2) (Ne.symm n1) (zac hS hT (by decide)) (Ne.symm n2) hnm (zac hS hN (by decide))).mono ?_
 rintro e w' ⟨rfl, rfl⟩
 refine ⟨rfl, ?_, ?_, ?_, ?_⟩
 ·rw [zag _ _ _ n2, zag _ _ _ n1]
  exact zaj hT 1 _
 ·rw [zag _ _ _ hnm]
  exact zaj ((zag _ _ _ (Ne.symm n1)).trans hN) 2 _
 ·refine zaj ((zag _ _ _ (Ne.symm hnm)).trans ((zag _ _ _ (Ne.symm n2)).trans hM)) 2 _
 ·exact (((Kept.refl (fun b => b = tb ∨ b = n ∨ b = m) w).setCell (p := ⟨tb, 1, none⟩) (.inl (.inl rfl)) _).setCell (p := ⟨n, 2, none⟩) (.inl (.inr (.inl rfl))) _).setCell (p := ⟨m, 2, none⟩) (.inl (.inr (.inr rfl))) _
theorem infoNode3 : (Tryz.prog.info? 41).map (fun i => i.size) = some 3 := by kernel_rfl
theorem infoNode : ∃ j, Tryz.prog.info? 41 = some j ∧ j.size ≠ 0 := by
 have h := infoNode3
 cases hi : Tryz.prog.info? 41 with
 | none => rw [hi] at h; cases h
 | some j =>
  rw [hi] at h
  have h2 : j.size = 3 := by simpa using h
  exact ⟨j, rfl, by omega⟩
theorem zfm (n : Nat) (w : World) : (binOp .eql 42 (.pointer (some ⟨n, 0, none⟩)) (.pointer (some ⟨n, 0, none⟩))).run Tryz.prog w = .ok (.bool true) w := by
 obtain ⟨j, hj, _⟩ := infoNode
 exact run_eql_ptr_same w _ (te := 41) (by kernel_rfl) hj
theorem ze1 {B : Nat} {R : RT} {w : World} (hR : RRep B w R) {n m : Nat} {d e : RNd} (hn : R.nd n = some d) (hm : R.nd m = some e) (h : n ≠ m) :
  (binOp .eql 42 (.pointer (some ⟨n, 0, none⟩)) (.pointer (some ⟨m, 0, none⟩))).run Tryz.prog w = .ok (.bool false) w := by
 obtain ⟨j, hj, hs⟩ := infoNode
 exact run_eql_ptr_other w (te := 41) (by kernel_rfl) hj hs (fun he => h (by cases he; rfl)) (hR.node n d hn).1 (hR.node m e hm).1
theorem neq_of_eql {P : Program} {tp : TypeId} {a b : Addr} {w : World} {r : Bool} (h : (binOp .eql tp (.pointer (some a)) (.pointer (some b))).run P w = .ok (.bool r) w) : (binOp .neq tp (.pointer (some a)) (.pointer (some b))).run P w = .ok (.bool !r) w := by
 simp only [binOp, Sem.run_bind] at h ⊢
 cases hr : (Op.equal tp (.pointer (some a)) (.pointer (some b))).run P w with
 | ok x w1 =>
  rw [hr] at h
  simp only [Result.andThen_ok, Sem.run_pure, Result.ok.injEq, Value.bool.injEq] at h ⊢
  exact ⟨by rw [h.1], h.2⟩
 | _ => rw [hr] at h; cases h
theorem linksIn_take_succ (L : List Ent) (n k : Nat) (h : k < L.length) : za4 (L.take (k + 1)) n = za4 (L.take k) n + if L[k].2 = n then 1 else 0 := by
 rw [List.take_succ_eq_append_getElem h]
 unfold za4
 rw [List.map_append, List.count_append]
 simp [List.count_cons]
set_option maxRecDepth 100000 in
set_option maxHeartbeats 1000000 in
theorem ref_links {B : Nat} {R : RT} (n : Nat) (w : World) (hR : RRep B w R) (hl : R.L.length ≤ 100000) {dn : RNd} (hn : R.nd n = some dn) :
  Calls Tryz.prog 45 #[.pointer (some ⟨R.tb, 0, none⟩), .pointer (some ⟨n, 0, none⟩)] w fun e w' => VPost w (.int .i64 (za4 R.L n)) e w' := by
 obtain ⟨a, c, hlv, hent⟩ := hR.ent
 have hc0 : w.cell? ⟨R.tb, 0, none⟩ = some (.slice a R.L.length c) := by
  have h := zaa (o := 0) hR.tree rfl
  rw [hlv] at h
  exact h
 have HE := hid hent
 have HR := hid hR
 have HN := hid hn
 clear hR hlv hent hn
 go_enter Tryz.func45, Tryz.ntmps45
 go_wp2_with fail
 go_loopw [5, 13] (fun kv idx wr => ∃ k : Nat, k ≤ R.L.length ∧ idx = .int .i64 k ∧ (∃ q : Nat, q ≤ k ∧ kv = .int .i64 q ∧ Hid (q = za4 (R.L.take k) n)) ∧ Hid (Below w.heap.size w wr)) (fun _ idx _ => R.L.length - (intOf idx).toNat)
 case atStart => exact ⟨0, Nat.zero_le _, rfl, ⟨0, Nat.zero_le _, rfl, rfl⟩, Below.refl _ _⟩
 case round =>
  obtain ⟨k, hk, rfl, ⟨q, hqk, rfl, hq⟩, hb⟩ := hrel
  by_cases hlt : k < R.L.length
  ·obtain ⟨g, rfl, q1, q2⟩ := HE.out k hlt
   have c1 := (hb.out.cell (World.block_lt_of_cell? _ _ q1)).trans q1
   have c2 := (hb.out.cell (World.block_lt_of_cell? _ _ q2)).trans q2
   have hki : (k : Int) < R.L.length := by omega
   have HA := hid (linksIn_take_succ R.L n k hlt)
   have HM : Hid (∃ d, R.nd R.L[k].2 = some d) := HR.out.ents _ (List.getElem_mem hlt)
   clear q1 q2
   generalize R.L[k] = x at *
   obtain ⟨xp, xn⟩ := x
   simp only [zb2, zau] at c1 c2
   have HB := hid (fun o => hb.out.trans ((Below.refl _ wr).alloc hb.out.size o))
   by_cases hx : xn = n
   ·subst hx
    have HF : Hid (q + 1 = za4 (R.L.take (k + 1)) xn) := by
     show _ = _
     rw [HA.out, if_pos rfl, ← hq.out]
    have heq := fun W => zfm xn W
    go_wp2_with fail
    go_roundw
    case rel => exact ⟨k + 1, by omega, by go_num, ⟨q + 1, by omega, by go_num, HF.out⟩, HB.out _⟩
    case measure => simp [intOf]; omega
   ·have HF : Hid (q = za4 (R.L.take (k + 1)) n) := by
     show _ = _
     rw [HA.out, if_neg hx, ← hq.out, Nat.add_zero]
    have heq : (binOp .eql 42 (.pointer (some ⟨xn, 0, none⟩)) (.pointer (some ⟨n, 0, none⟩))).run Tryz.prog (wr.alloc (.cells #[.string ⟨xp.toArray⟩, .pointer (some ⟨xn, 0, none⟩)] 70)) = .ok (.bool false) (wr.alloc (.cells #[.string ⟨xp.toArray⟩, .pointer (some ⟨xn, 0, none⟩)] 70)) := by
     obtain ⟨d, hd⟩ := HM.out
     exact ze1 (HR.out.below (HB.out _)) hd HN.out hx
    have HX := hid hx
    clear hx
    go_wp2_with fail
    go_roundw
    case rel => exact ⟨k + 1, by omega, by go_num, ⟨q, by omega, rfl, HF.out⟩, HB.out _⟩
    case measure => simp [intOf]; omega
  ·obtain rfl : k = R.L.length := by omega
   have HF : Hid (q = za4 R.L n) := by
    show _ = _
    rw [hq.out, List.take_length]
   go_wp2_with fail
   go_ret
   exact ⟨by rw [← HF.out]; rfl, hb.out⟩
theorem RRep.cap {B : Nat} {w : World} {R : RT} (h : RRep B w R) {a : Option Addr} {c : Nat} (hv : R.lv = .slice a R.L.length c) : R.L.length ≤ c := by
 rcases h.rows.2 with ⟨h1, h0⟩ | ⟨g, cap, cur, h1, _, h2, h3, _, h5, h6⟩
 ·omega
 ·rw [h1] at hv
  cases hv
  exact h3
def zd7 (L : List Ent) (k : Nat) : List Nat := (L.take k).map (·.2)
theorem ndsTo_succ {L : List Ent} {k : Nat} (h : k < L.length) : zd7 L (k + 1) = zd7 L k ++ [L[k].2] := by
 unfold zd7
 rw [List.take_succ_eq_append_getElem h, List.map_append]
 rfl
theorem ndsTo_all (L : List Ent) : cntD (zd7 L L.length) = zbq L := by unfold zd7 zbq; rw [List.take_length]
set_option maxRecDepth 100000 in
set_option maxHeartbeats 1000000 in
theorem ref_nodes {B : Nat} {R : RT} (w : World) (hR : RRep B w R) (hl : R.L.length ≤ 100000) :
  Calls Tryz.prog 128 #[.pointer (some ⟨R.tb, 0, none⟩)] w fun e w' => VPost w (.int .i64 (zbq R.L)) e w' := by
 obtain ⟨a, c, hlv, hent⟩ := hR.ent
 have hcap := hR.cap hlv
 have hc0 : w.cell? ⟨R.tb, 0, none⟩ = some (.slice a R.L.length c) := by
  have h := zaa (o := 0) hR.tree rfl
  rw [hlv] at h
  exact h
 have hlt0 := World.block_lt_of_cell? _ _ hc0
 have HC0 := hid hc0
 have HE := hid hent
 have HR := hid hR
 clear hR hlv hent
 go_enter Tryz.func128, Tryz.ntmps128
 go_wp2_with fail
 go_loopw [3, 14] (fun nv idx wr => ∃ k : Nat, k ≤ R.L.length ∧ idx = .int .i64 k ∧ (∃ q : Nat, q ≤ k ∧ nv = .int .i64 q ∧ Hid (q = cntD (zd7 R.L k))) ∧ Hid (Below w.heap.size w wr)) (fun _ idx _ => R.L.length - (intOf idx).toNat)
 case atStart => exact ⟨0, Nat.zero_le _, rfl, ⟨0, Nat.zero_le _, rfl, rfl⟩, Below.refl _ _⟩
 case round =>
  obtain ⟨k, hk, rfl, ⟨q, hqk, rfl, hq⟩, hb⟩ := hrel
  clear hc0
  by_cases hlt : k < R.L.length
  ·obtain ⟨g, rfl, q1, q2⟩ := HE.out k hlt
   have c1 := (hb.out.cell (World.block_lt_of_cell? _ _ q1)).trans q1
   have c2 := (hb.out.cell (World.block_lt_of_cell? _ _ q2)).trans q2
   have cr : wr.cell? ⟨R.tb, 0, none⟩ = some (.slice (some ⟨g, 0, none⟩) R.L.length c) := (hb.out.cell hlt0).trans HC0.out
   have hki : (k : Int) < R.L.length := by omega
   have hkc : (k : Int) ≤ c := by omega
   have HS := hid (ndsTo_succ hlt)
   have HM : Hid (∃ d, R.nd R.L[k].2 = some d) := HR.out.ents _ (List.getElem_mem hlt)
   clear q1 q2
   generalize R.L[k] = x at *
   obtain ⟨xp, xn⟩ := x
   simp only [zb2, zau] at c1 c2
   have HB := hid (fun o => hb.out.trans ((Below.refl _ wr).alloc hb.out.size o))
   obtain ⟨W, hW⟩ : ∃ W, W = wr.alloc (.cells #[.string ⟨xp.toArray⟩, .pointer (some ⟨xn, 0, none⟩)] 70) := ⟨_, rfl⟩
   have cr' : (wr.alloc (.cells #[.string ⟨xp.toArray⟩, .pointer (some ⟨xn, 0, none⟩)] 70)).cell? ⟨R.tb, 0, none⟩ = some (.slice (some ⟨g, 0, none⟩) R.L.length c) :=
    (Below.cell (zad wr _) (p := ⟨R.tb, 0, none⟩) (World.block_lt_of_cell? _ _ cr)).trans cr
   clear cr
   have HW := hid hW
   have HH : Hid (W.heap[wr.heap.size]? = some (.cells #[.string ⟨xp.toArray⟩, .pointer (some ⟨xn, 0, none⟩)] 70 (0, 0))) := by
    rw [hW]; exact heap_alloc_new wr _
   have HBW : Hid (Below w.heap.size w W) := by rw [hW]; exact HB.out _
   clear hW
   have HEK : Hid (∀ j (hj : j < k), ∃ yp yn d, R.nd yn = some d ∧ (R.L[j]'(Nat.lt_trans hj hlt)) = (yp, yn) ∧ w.cell? ⟨g, j * 2, none⟩ = some (.string ⟨yp.toArray⟩) ∧ w.cell? ⟨g, j * 2 + 1, none⟩ = some (.pointer (some ⟨yn, 0, none⟩))) := fun j hj => by
    obtain ⟨g', hg', e1, e2⟩ := HE.out j (Nat.lt_trans hj hlt)
    obtain ⟨d, hd⟩ := HR.out.ents _ (List.getElem_mem (Nat.lt_trans hj hlt))
    cases hg'
    exact ⟨_, _, d, hd, rfl, e1, e2⟩
   have hkk : k ≤ R.L.length := hk
   go_wp2_with fail
   rw [← HW.out]
   clear HW HB cr'
   have c5 := zaa (o := 1) HH.out rfl
   generalize wr.heap.size = sb at *
   go_loopw [6, 26] (fun fv jv wr => ∃ j : Nat, j ≤ k ∧ jv = .int .i64 j ∧ (∃ b : Bool, fv = .bool b ∧ Hid (b = decide (xn ∉ zd7 R.L j))) ∧ Hid (Below w.heap.size w wr) ∧ Hid (Below W.heap.size W wr)) (fun _ jv _ => k - (intOf jv).toNat)
   case atStart => exact ⟨0, Nat.zero_le _, rfl, ⟨true, rfl, by show true = _; simp [zd7]⟩, HBW.out, Below.refl _ _⟩
   case round =>
    obtain ⟨j, hj, rfl, ⟨b, rfl, hfb⟩, hb1, hb2⟩ := hrel
    have c6 := (hb2.out.cell (World.block_lt_of_cell? _ _ c5)).trans c5
    clear c5
    by_cases hjk : j < k
    ·obtain ⟨yp, yn, d, hd, hy, e1, e2⟩ := HEK.out j hjk
     have f1 := (hb1.out.cell (World.block_lt_of_cell? _ _ e1)).trans e1
     have f2 := (hb1.out.cell (World.block_lt_of_cell? _ _ e2)).trans e2
     have hji : (j : Int) < k := by omega
     have HD := hid hd
     have HS2 : Hid (zd7 R.L (j + 1) = zd7 R.L j ++ [yn]) := by
      have h := ndsTo_succ (L := R.L) (k := j) (by omega)
      rw [hy] at h
      exact h
     clear e1 e2 hd hy
     have HB2 := hid (fun o => hb2.out.trans ((Below.refl _ wr).alloc hb2.out.size o))
     have HB1 := hid (fun o => hb1.out.trans ((Below.refl _ wr).alloc hb1.out.size o))
     have g6 : (wr.alloc (.cells #[.string ⟨yp.toArray⟩, .pointer (some ⟨yn, 0, none⟩)] 70)).cell? ⟨sb, 1, none⟩ = some (.pointer (some ⟨xn, 0, none⟩)) :=
      (Below.cell (zad wr _) (p := ⟨sb, 1, none⟩) (World.block_lt_of_cell? _ _ c6)).trans c6
     cases b with
     | false =>
      have HF : Hid (false = decide (xn ∉ zd7 R.L (j + 1))) := by
       show _ = _
       have h : xn ∈ zd7 R.L j := by simpa using hfb.out
       rw [HS2.out]
       simp [h]
      go_wp2_with fail
      go_roundw
      case rel => exact ⟨j + 1, by omega, by go_num, ⟨false, rfl, HF.out⟩, HB1.out _, HB2.out _⟩
      case measure => simp [intOf]; omega
     | true =>
      have hnm : xn ∉ zd7 R.L j := by
       have h := hfb.out
       simpa using h
      by_cases hyx : yn = xn
      ·have HF : Hid (false = decide (xn ∉ zd7 R.L (j + 1))) := by
        show _ = _
        rw [HS2.out, hyx]
        simp
       have heq : ∀ W', (binOp .neq 42 (.pointer (some ⟨yn, 0, none⟩)) (.pointer (some ⟨xn, 0, none⟩))).run Tryz.prog W' = .ok (.bool false) W' := fun W' => by
        rw [hyx]
        exact neq_of_eql (zfm xn W')
       have HYX := hid hyx
       clear hyx hnm
       go_wp2_with fail
       go_roundw
       case rel => exact ⟨j + 1, by omega, by go_num, ⟨false, rfl, HF.out⟩, HB1.out _, HB2.out _⟩
       case measure => simp [intOf]; omega
      ·have HF : Hid (true = decide (xn ∉ zd7 R.L (j + 1))) := by
        show _ = _
        rw [HS2.out, eq_comm, decide_eq_true_iff, List.mem_append, List.mem_singleton]
        rintro (h | h)
        ·exact hnm h
        ·exact hyx h.symm
       have heq : (binOp .neq 42 (.pointer (some ⟨yn, 0, none⟩)) (.pointer (some ⟨xn, 0, none⟩))).run Tryz.prog (wr.alloc (.cells #[.string ⟨yp.toArray⟩, .pointer (some ⟨yn, 0, none⟩)] 70)) = .ok (.bool true) (wr.alloc (.cells #[.string ⟨yp.toArray⟩, .pointer (some ⟨yn, 0, none⟩)] 70)) := by
        obtain ⟨d2, hd2⟩ := HM.out
        exact neq_of_eql (ze1 (HR.out.below (HB1.out _)) HD.out hd2 hyx)
       have HYX := hid hyx
       clear hyx hnm
       go_wp2_with fail
       go_roundw
       case rel => exact ⟨j + 1, by omega, by go_num, ⟨true, rfl, HF.out⟩, HB1.out _, HB2.out _⟩
       case measure => simp [intOf]; omega
    ·obtain rfl : j = k := by omega
     cases b with
     | false =>
      have HF : Hid (q = cntD (zd7 R.L (j + 1))) := by
       show _ = _
       have h : xn ∈ zd7 R.L j := by simpa using hfb.out
       rw [HS.out, cntD_snoc, if_pos h, Nat.add_zero, ← hq.out]
      go_wp2_with fail
      go_roundw
      case rel => exact ⟨j + 1, by omega, by go_num, ⟨q, by omega, rfl, HF.out⟩, hb1.out⟩
      case measure => simp [intOf]; omega
     | true =>
      have HF : Hid (q + 1 = cntD (zd7 R.L (j + 1))) := by
       show _ = _
       have h : xn ∉ zd7 R.L j := by simpa using hfb.out
       rw [HS.out, cntD_snoc, if_neg h, ← hq.out]
      go_wp2_with fail
      go_roundw
      case rel => exact ⟨j + 1, by omega, by go_num, ⟨q + 1, by omega, by go_num, HF.out⟩, hb1.out⟩
      case measure => simp [intOf]; omega
  ·obtain rfl : k = R.L.length := by omega
   have HF : Hid (q = zbq R.L) := by
    show _ = _
    rw [hq.out, ndsTo_all]
   go_wp2_with fail
   go_ret
   exact ⟨by rw [← HF.out]; rfl, hb.out⟩
end
section
theorem zaq {w : World} {base n : Nat} {e : TypeId} {size : Nat} {v : Value} {xs : List Value} (h : w.ownsRow base e size v n xs) {b : Nat} (hb : v.ownBlock = some b) : ∃ cur, w.heap[b]? = some (.cells cur e (0, 0)) := by
 rcases h.2 with ⟨rfl, _⟩ | ⟨g, cap, cur, rfl, _, h2, _⟩
 ·cases hb
 ·cases hb; exact ⟨cur, h2⟩
theorem zb4 {w : World} {base base' n : Nat} {e : TypeId} {size : Nat} {v : Value} {xs : List Value} (h : w.ownsRow base e size v n xs) (hb : base' ≤ base) : w.ownsRow base' e size v n xs := by
 refine ⟨h.1, ?_⟩
 rcases h.2 with h1 | ⟨g, cap, cur, h1, h2, h3⟩
 ·exact .inl h1
 ·exact .inr ⟨g, cap, cur, h1, Nat.le_trans hb h2, h3⟩
theorem RRep.change {B : Nat} {w w' : World} {R R' : RT} {F : Nat → Prop} (h : RRep B w R) (hB : B ≤ w.heap.size) (k : Kept F w w') (hF : ∀ b, F b → b = R.tb ∨ ∃ d, R.nd b = some d) (u : Nat)
  (htb : R'.tb = R.tb) (htree : w'.heap[R.tb]? = some (.cells #[R'.lv, .int .i64 R'.now, .bool false] 73 (0, 0)))
  (hrows : (R'.lv = R.lv ∧ R'.L = R.L) ∨ w'.ownsRow w.heap.size 70 2 R'.lv R'.L.length (zav R'.L))
  (hnode : ∀ n d', R'.nd n = some d' → (R.nd n = some d' ∧ ¬ F n) ∨ (w'.heap[n]? = some (.cells #[.bool d'.dir, d'.dv, .int .i64 d'.tick] 41 (0, 0)) ∧
   ((∃ d, R.nd n = some d ∧ d.dv = d'.dv ∧ d.data = d'.data) ∨ (B ≤ n ∧ n = u ∧ w'.ownsRow w.heap.size 5 1 d'.dv d'.data.length (u8s d'.data)))))
  (hents : ∀ e ∈ R'.L, ∃ d, R'.nd e.2 = some d) : RRep B w' R' := by
 have data_free : ∀ n d b, R.nd n = some d → d.dv.ownBlock = some b → ¬ F b := fun n d b hn hb hf => by
  obtain ⟨cur, hc⟩ := zaq (h.node n d hn).2 hb
  rcases hF b hf with rfl | ⟨d2, hd2⟩
  ·exact zac hc h.tree (by decide) rfl
  ·exact zac hc (h.node _ _ hd2).1 (by decide) rfl
 have rows_free : ∀ b, R.lv.ownBlock = some b → ¬ F b := fun b hb hf => by
  obtain ⟨cur, hc⟩ := zaq h.rows hb
  rcases hF b hf with rfl | ⟨d2, hd2⟩
  ·exact zac hc h.tree (by decide) rfl
  ·exact zac hc (h.node _ _ hd2).1 (by decide) rfl
 have hrows' : w'.ownsRow B 70 2 R'.lv R'.L.length (zav R'.L) := by
  rcases hrows with ⟨e1, e2⟩ | hr
  ·rw [e1, e2]; exact zai h.rows k rows_free
  ·exact zb4 hr hB
 have hn' : ∀ n d', R'.nd n = some d' → w'.heap[n]? = some (.cells #[.bool d'.dir, d'.dv, .int .i64 d'.tick] 41 (0, 0)) ∧ B ≤ n ∧ w'.ownsRow B 5 1 d'.dv d'.data.length (u8s d'.data) ∧
   ((∃ d, R.nd n = some d ∧ d.dv = d'.dv) ∨ (n = u ∧ ∀ b, d'.dv.ownBlock = some b → w.heap.size ≤ b)) := by
  intro n d' hn
  rcases hnode n d' hn with ⟨h1, h2⟩ | ⟨h1, ⟨d, h2, h3, h4⟩ | ⟨h2, h3, h4⟩⟩
  ·exact ⟨(k.block n (zab (h.node n d' h1).1) h2).trans (h.node n d' h1).1, h.low n (.inr (.inr (.inl ⟨d', h1⟩))), zai (h.node n d' h1).2 k (data_free n d' · h1), .inl ⟨d', h1, rfl⟩⟩
  ·have h5 := zai (h.node n d h2).2 k (data_free n d · h2)
   rw [h3, h4] at h5
   exact ⟨h1, h.low n (.inr (.inr (.inl ⟨d, h2⟩))), h5, .inl ⟨d, h2, h3⟩⟩
  ·exact ⟨h1, h2, zb4 h4 hB, .inr ⟨h3, fun b hb => (h4.lt b hb).1⟩⟩
 refine ⟨?_, ?_, hrows', fun n d hn => ⟨(hn' n d hn).1, (hn' n d hn).2.2.1⟩, hents, ?_⟩
 ·rintro b (rfl | hb | ⟨d, hd⟩ | ⟨n, d, hd, hb⟩)
  ·rw [htb]; exact h.low _ (.inl rfl)
  ·exact (hrows'.lt b hb).1
  ·exact (hn' b d hd).2.1
  ·exact ((hn' n d hd).2.2.1.lt b hb).1
 ·rw [htb]; exact htree
 ·intro n d n' d' b hn hn2 hb hb2
  obtain ⟨_, _, _, h1⟩ := hn' n d hn
  obtain ⟨_, _, _, h2⟩ := hn' n' d' hn2
  rcases h1 with ⟨d1, h1, e1⟩ | ⟨h1, q1⟩
  ·rw [← e1] at hb
   rcases h2 with ⟨d2, h2, e2⟩ | ⟨h2, q2⟩
   ·rw [← e2] at hb2
    exact h.apart n d1 n' d2 b h1 h2 hb hb2
   ·have := q2 b hb2
    have := ((h.node n d1 h1).2.lt b hb).2
    omega
  ·rcases h2 with ⟨d2, h2, e2⟩ | ⟨h2, q2⟩
   ·rw [← e2] at hb2
    have := q1 b hb
    have := ((h.node n' d2 h2).2.lt b hb2).2
    omega
   ·rw [h1, h2]
theorem infoEnt3 : (Tryz.prog.info? 70).map (fun i => (i.zero, i.size, i.bytes)) = some (some (.agg #[.string ⟨#[]⟩, .pointer none]), 2, 24) := by kernel_rfl
noncomputable def eaRun (w : World) (v sv : Value) : Result Value := (Builtin.append_ #[71, 71] 71 #[v, sv]).run Tryz.prog w
noncomputable def eaA (w : World) (v sv : Value) : Option Addr := match eaRun w v sv with | .ok (.slice a _ _) _ => a | _ => none
noncomputable def eaN (w : World) (v sv : Value) : Nat := match eaRun w v sv with | .ok (.slice _ n _) _ => n | _ => 0
noncomputable def eaC (w : World) (v sv : Value) : Nat := match eaRun w v sv with | .ok (.slice _ _ c) _ => c | _ => 0
noncomputable def eaW (w : World) (v sv : Value) : World := match eaRun w v sv with | .ok _ w' => w' | _ => w
def EaOk (w : World) (v sv : Value) : Prop := ∃ a n c w', eaRun w v sv = .ok (.slice a n c) w'
theorem eaOk_run {w : World} {v sv : Value} (h : EaOk w v sv) : eaRun w v sv = .ok (.slice (eaA w v sv) (eaN w v sv) (eaC w v sv)) (eaW w v sv) := by
 obtain ⟨a, n, c, w', h⟩ := h
 unfold eaA eaN eaC eaW
 rw [h]
theorem ea_rule {w : World} {a : Act} {d : Option Tmp} {s t : Nat} {pos : String} {af : Array Edge} {g : Option (Nat × Bool)} (h : EaOk w (a.eval (.tmp s)) (a.eval (.tmp t))) :
  (execOp a.eval ⟨d, .call { callee := .builtin .append, args := #[.tmp s, .tmp t], argTypes := #[71, 71] }, 71, pos, af, g⟩).run Tryz.prog w =
   .ok (.value (.slice (eaA w (a.eval (.tmp s)) (a.eval (.tmp t))) (eaN w (a.eval (.tmp s)) (a.eval (.tmp t))) (eaC w (a.eval (.tmp s)) (a.eval (.tmp t))))) (eaW w (a.eval (.tmp s)) (a.eval (.tmp t))) := by
 have hr := eaOk_run h
 unfold eaRun at hr
 unfold execOp
 simp only [resolve, invoke, builtin, Sem.run_bind, Sem.run_pure, Result.andThen_ok, List.map_toArray, List.map_cons, List.map_nil, hr]
theorem zd1 {w : World} {v sv : Value} {a : Option Addr} {n c : Nat} {w' : World} (h : eaRun w v sv = .ok (.slice a n c) w') : EaOk w v sv ∧ eaA w v sv = a ∧ eaN w v sv = n ∧ eaC w v sv = c ∧ eaW w v sv = w' := by
 refine ⟨⟨_, _, _, _, h⟩, ?_, ?_, ?_, ?_⟩
 ·unfold eaA; rw [h]
 ·unfold eaN; rw [h]
 ·unfold eaC; rw [h]
 ·unfold eaW; rw [h]
structure AddPost (B : Nat) (w : World) (R : RT) (p : List UInt8) (n : Nat) (e : Ending) (w' : World) : Prop where
 ret : e = .returned (.tuple #[])
 rep : ∃ lv, RRep B w' { R with lv := lv, L := zci R.L p n }
 kept : Kept (fun b => b = R.tb) w w'
theorem entCells_one (L : List Ent) : ∀ u ∈ zav L, u.oneCell' = true := by
 intro u hu
 unfold zav at hu
 obtain ⟨e, _, h⟩ := List.mem_flatMap.1 hu
 simp only [List.mem_cons, List.not_mem_nil, or_false] at h
 rcases h with rfl | rfl <;> rfl
theorem add_runs {B : Nat} {R : RT} {w w1 : World} (hR : RRep B w R) (hl : R.L.length ≤ 100000) {g c : Nat} (hlv : R.lv = .slice (some ⟨g, 0, none⟩) R.L.length c) (hb : Below w.heap.size w w1) (p : List UInt8) (n k : Nat) (hk : k ≤ R.L.length) (off m cc : Nat) (hm : m = R.L.length - k) (hoff : 0 < m → off = k * 2) :
  ∃ a1 N1 c1 W2 a2 N2 c2 W3,
   eaRun (w1.alloc (.cells #[zb2 p, .pointer (some ⟨n, 0, none⟩)] 70)).drew (.slice (some ⟨w1.heap.size, 0, none⟩) 1 1) (.slice (some ⟨g, off, none⟩) m cc) = .ok (.slice a1 N1 c1) W2 ∧
   eaRun W2 (.slice (some ⟨g, 0, none⟩) k k) (.slice a1 N1 c1) = .ok (.slice a2 N2 c2) W3 ∧ Below w.heap.size w W2 ∧ Below w.heap.size w W3 ∧
   W3.ownsRow w.heap.size 70 2 (.slice a2 N2 c2) (R.L.length + 1) (zav (R.L.take k ++ (p, n) :: R.L.drop k)) := by
 obtain ⟨i, hi, hz0, hz1, hz2⟩ := info_parts infoEnt3
 obtain ⟨W1, hW1⟩ : ∃ W1, W1 = (w1.alloc (.cells #[zb2 p, .pointer (some ⟨n, 0, none⟩)] 70)).drew := ⟨_, rfl⟩
 rw [← hW1]
 have hB1 : Below w.heap.size w W1 := by rw [hW1]; exact (hb.alloc hb.size _).drew
 have hs1 : W1.heap.size = w1.heap.size + 1 := by rw [hW1]; simp [World.drew]
 have hhead : W1.heap[w1.heap.size]? = some (.cells #[zb2 p, .pointer (some ⟨n, 0, none⟩)] 70 (0, 0)) := by rw [hW1]; exact heap_alloc_new w1 _
 have hown1 : W1.ownsRow w1.heap.size 70 2 (.slice (some ⟨w1.heap.size, 0, none⟩) 1 1) 1 (zav [(p, n)]) := ⟨rfl, .inr ⟨w1.heap.size, 1, _, rfl, Nat.le_refl _, hhead, Nat.le_refl _, by decide, rfl, rfl⟩⟩
 have hcells : ∀ (W : World), Below w.heap.size w W → ∀ j u, (zav R.L)[j]? = some u → W.cell? ⟨g, j, none⟩ = some u := fun W hW j u hj => by
  have h1 := hR.rows.cells (g := g) (by rw [hlv]; rfl) j u hj
  have e : (⟨g, 0, none⟩ : Addr).add j = ⟨g, j, none⟩ := by rw [Addr.add_lit, Nat.zero_add]
  rw [e] at h1
  exact (hW.cell (World.block_lt_of_cell? _ _ h1)).trans h1
 have hdl : (zav (R.L.drop k)).length = (R.L.length - k) * 2 := by rw [zen, List.length_drop]
 obtain ⟨v1, W2, r1, o1, g1, _⟩ := run_append_own (P := Tryz.prog) W1 w1.heap.size 71 71 70 i _ 2 24 Tryz.underlying71 hi hz0 hz1 hz2 rfl (by decide) _ 1 _ hown1 ⟨g, off, none⟩ m cc (zav (R.L.drop k)) (by rw [hdl, hm])
  (fun j u hj => by
   have hj2 := (List.getElem?_eq_some_iff.1 hj).1
   rw [Addr.add_lit, hoff (by omega)]
   refine hcells W1 hB1 _ u ?_
   rw [entCells_drop, List.getElem?_drop] at hj
   exact hj) (entCells_one _) (by unfold maxLen; omega) (by omega) (by omega)
 have hB2 : Below w.heap.size w W2 := hB1.trans ⟨g1.os, g1.tape, g1.output, g1.size, fun x hx => g1.block x (Nat.lt_of_lt_of_le hx hB1.size) (fun e => by
  have h1 : some x = some w1.heap.size := e
  have h2 := hb.size
  injection h1 with h1
  omega)⟩
 rw [hm] at o1
 obtain ⟨a1, c1, rfl⟩ := zak o1
 obtain ⟨g2, ha1⟩ : ∃ g2, a1 = some ⟨g2, 0, none⟩ := by
  rcases o1.2 with ⟨_, h0⟩ | ⟨g2, cap, cur, h1, _⟩
  ·omega
  ·cases h1; exact ⟨g2, rfl⟩
 have htl : (zav (R.L.take k)).length = k * 2 := by rw [zen, List.length_take, Nat.min_eq_left hk]
 have hnl : (zav [(p, n)] ++ zav (R.L.drop k)).length = (1 + (R.L.length - k)) * 2 := by rw [List.length_append, hdl]; simp [zav]; omega
 obtain ⟨v2, W3, r2, o2, g3⟩ := run_append_arg_grows (P := Tryz.prog) W2 71 71 70 i _ 2 24 Tryz.underlying71 hi hz0 hz1 hz2 rfl (by decide) ⟨g, 0, none⟩ k k (zav (R.L.take k)) htl
  (fun j u hj => by
   rw [Addr.add_lit, Nat.zero_add]
   refine hcells W2 hB2 _ u ?_
   rw [entCells_take] at hj
   have hjk : j < k * 2 := by
    have h1 := (List.getElem?_eq_some_iff.1 hj).1
    simp only [List.length_take] at h1
    omega
   rw [List.getElem?_take, if_pos hjk] at hj
   exact hj) ⟨g2, 0, none⟩ (1 + (R.L.length - k)) c1 (zav [(p, n)] ++ zav (R.L.drop k)) hnl
  (fun j u hj => o1.cells (g := g2) (by rw [ha1]; rfl) j u hj) (by omega) (by unfold maxLen; omega) (by omega)
 have hB3 : Below w.heap.size w W3 := hB2.trans ⟨g3.os, g3.tape, g3.output, g3.size, fun x hx => g3.block x (Nat.lt_of_lt_of_le hx hB2.size) (by simp)⟩
 obtain ⟨a2, c2, rfl⟩ := zak o2
 refine ⟨a1, 1 + (R.L.length - k), c1, W2, a2, k + (1 + (R.L.length - k)), c2, W3, r1, ?_, hB2, hB3, ?_⟩
 ·unfold eaRun; rw [ha1]; exact r2
 ·have h1 := zb4 o2 hB2.size
  have e1 : k + (1 + (R.L.length - k)) = R.L.length + 1 := by omega
  have e2 : zav (R.L.take k) ++ (zav [(p, n)] ++ zav (R.L.drop k)) = zav (R.L.take k ++ (p, n) :: R.L.drop k) := by
   rw [zdk, zcc]; rfl
  rw [e2] at h1
  rw [e1] at h1 ⊢
  exact h1
theorem RRep.base {B : Nat} {w : World} {R : RT} (h : RRep B w R) : B ≤ w.heap.size := by
 have h1 := h.low R.tb (.inl rfl)
 have h2 := zab h.tree
 omega
theorem RRep.nd_ne {B : Nat} {w : World} {R : RT} (h : RRep B w R) {n : Nat} {d : RNd} (hn : R.nd n = some d) : n ≠ R.tb := zac (h.node n d hn).1 h.tree (by decide)
theorem add_done {B : Nat} {R : RT} {w W : World} (hR : RRep B w R) (hb : Below w.heap.size w W) (p : List UInt8) (n : Nat) {dn : RNd} (hn : R.nd n = some dn) {a : Option Addr} {N c : Nat} {L' : List Ent} (hI : zci R.L p n = L')
  (hown : W.ownsRow w.heap.size 70 2 (.slice a N c) (R.L.length + 1) (zav L')) (hL : L'.length = R.L.length + 1) :
  AddPost B w R p n (.returned (.tuple #[])) (W.setCell ⟨R.tb, 0, none⟩ (.slice a N c)) := by
 have k : Kept (fun b => b = R.tb) w (W.setCell ⟨R.tb, 0, none⟩ (.slice a N c)) := (Kept.of_below hb (fun b => b = R.tb)).setCell (p := ⟨R.tb, 0, none⟩) (.inl rfl) _
 have ht := (zae hb (zab hR.tree) hR.tree)
 refine ⟨rfl, ⟨.slice a N c, ?_⟩, k⟩
 refine hR.change hR.base k (fun b hb => .inl hb) 0 rfl (zaj ht 0 _) (.inr ?_) (fun m d hm => .inl ⟨hm, hR.nd_ne hm⟩) ?_
 ·show World.ownsRow _ _ _ _ _ (zci R.L p n).length (zav (zci R.L p n))
  rw [hI, hL]
  refine zai hown ((Kept.refl (fun b => b = R.tb) W).setCell (p := ⟨R.tb, 0, none⟩) (.inl rfl) _) (fun b hb2 => ?_)
  have h1 := (hown.lt b hb2).1
  have h2 := zab hR.tree
  show ¬ b = R.tb
  omega
 ·intro e he
  rcases zdf.1 he with rfl | he
  ·exact ⟨dn, hn⟩
  ·exact hR.ents e he
section
attribute [local go_sem ↓] ea_rule
set_option maxRecDepth 100000 in
set_option maxHeartbeats 1000000 in
theorem ref_add {B : Nat} {R : RT} (p : List UInt8) (n : Nat) (w : World) (hR : RRep B w R) (hl : R.L.length ≤ 100000) (hne : 0 < R.L.length) (hps : ∀ e ∈ R.L, e.1.length ≤ 100000) {dn : RNd} (hn : R.nd n = some dn) :
  Calls Tryz.prog 129 #[.pointer (some ⟨R.tb, 0, none⟩), zb2 p, .pointer (some ⟨n, 0, none⟩)] w fun e w' => AddPost B w R p n e w' := by
 obtain ⟨a, c, hlv, hent⟩ := hR.ent
 have hcap := hR.cap hlv
 obtain ⟨g, rfl, _⟩ := hent 0 hne
 have hent' : ∀ k (hk : k < R.L.length), w.cell? ⟨g, k * 2, none⟩ = some (zb2 R.L[k].1) ∧ w.cell? ⟨g, k * 2 + 1, none⟩ = some (ptrV (some R.L[k].2)) := fun k hk => by
  obtain ⟨g', hg, h⟩ := hent k hk
  cases hg
  exact h
 have hc0 : w.cell? ⟨R.tb, 0, none⟩ = some (.slice (some ⟨g, 0, none⟩) R.L.length c) := by
  have h := zaa (o := 0) hR.tree rfl
  rw [hlv] at h
  exact h
 have hf0 := zah hR.tree 0
 have hlt0 := World.block_lt_of_cell? _ _ hc0
 have HC0 := hid hc0
 have HF0 := hid hf0
 have HE := hid hent'
 have HR := hid hR
 have HLV := hid hlv
 clear hf0
 have HPS := hid hps
 have HN := hid hn
 clear hR hlv hent hent' hps hn hc0
 unfold zb2
 obtain ⟨P, hP⟩ : ∃ P : ByteArray, P = ⟨p.toArray⟩ := ⟨_, rfl⟩
 rw [← hP]
 have HP := hid hP
 have HPB : Hid (bl P = p) := by rw [hP]; show _ = _; unfold bl; simp
 clear hP
 go_enter Tryz.func129, Tryz.ntmps129
 go_wp2_with fail
 go_loopw [6] (fun idx wr => ∃ k : Nat, k ≤ R.L.length ∧ idx = .int .i64 k ∧ Hid (∀ j (h : j < R.L.length), j < k → bef R.L[j].1 p = true) ∧ Hid (Below w.heap.size w wr)) (fun idx _ => R.L.length - (intOf idx).toNat)
 case atStart => exact ⟨0, Nat.zero_le _, rfl, fun j _ h => absurd h (by omega), Below.refl _ _⟩
 case round =>
  obtain ⟨k, hk, rfl, hbf, hb⟩ := hrel
  have cr : wr.cell? ⟨R.tb, 0, none⟩ = some (.slice (some ⟨g, 0, none⟩) R.L.length c) := (hb.out.cell hlt0).trans HC0.out
  by_cases hlt : k < R.L.length
  ·obtain ⟨q1, q2⟩ := HE.out k hlt
   have c1 := (hb.out.cell (World.block_lt_of_cell? _ _ q1)).trans q1
   have hki : (k : Int) < R.L.length := by omega
   have hxs : (R.L[k].1).length ≤ 100000 := HPS.out _ (List.getElem_mem hlt)
   have HS : Hid (∀ b, b = bef R.L[k].1 p → b = true → ∀ j (h : j < R.L.length), j < k + 1 → bef R.L[j].1 p = true) := fun b hb1 hb2 j hj hjk => by
    by_cases hjk' : j < k
    ·exact hbf.out j hj hjk'
    ·obtain rfl : j = k := by omega
     rw [← hb1]; exact hb2
   have HT : Hid (∀ b, b = bef R.L[k].1 p → b = false → ∀ (h : k < R.L.length), bef R.L[k].1 p = false) := fun b hb1 hb2 _ => by rw [← hb1]; exact hb2
   clear q1 q2
   generalize R.L[k].1 = xp at *
   simp only [zb2] at c1
   go_wp2_with fail
   refine (ref_before ⟨xp.toArray⟩ P wr (by show xp.toArray.size ≤ 100000; simpa using hxs)).mono ?_
   rintro e w1 ⟨rfl, hb1⟩
   have HBW := hid (hb.out.trans (hb1.mono hb.out.size))
   rw [HPB.out, show bl (⟨xp.toArray⟩ : ByteArray) = xp by unfold bl; simp]
   obtain ⟨b, hbb⟩ : ∃ b, b = bef xp p := ⟨_, rfl⟩
   rw [← hbb]
   have HS2 := hid (HS.out b hbb)
   have HT2 := hid (HT.out b hbb)
   clear HS HT hbb cr c1 hb1 hb
   cases b with
   | true =>
    have HS3 := hid (HS2.out rfl)
    clear HS2 HT2
    go_wp2_with fail
    go_roundw
    case rel => exact ⟨k + 1, by omega, by go_num, HS3.out, HBW.out⟩
    case measure => simp [intOf]; omega
   | false =>
    have HT3 := hid (HT2.out rfl)
    have cr : w1.cell? ⟨R.tb, 0, none⟩ = some (.slice (some ⟨g, 0, none⟩) R.L.length c) := (HBW.out.cell hlt0).trans HC0.out
    clear HS2 HT2
    have HEND : Hid (∀ (h : k < R.L.length), bef R.L[k].1 p = false) := HT3
    clear HT3
    go_wp2_with fail
    have HRE := HEND.out
    have hkc : (k : Int) ≤ c := by omega
    obtain ⟨a1, N1, c1, W2, a2, N2, c2, W3, r1, r2, hB2, hB3, hown⟩ := add_runs HR.out hl HLV.out HBW.out p n k hk (k * 2) (R.L.length - k) (c - k) rfl (fun _ => rfl)
    have HR1 := hid r1
    have HR2 := hid r2
    rw [show zb2 p = .string P by rw [HP.out]; rfl] at HR1
    clear r1 r2
    obtain ⟨ok1, eA1, eN1, eC1, eW1⟩ := zd1 HR1.out
    obtain ⟨ok2, eA2, eN2, eC2, eW2⟩ := zd1 HR2.out
    have cr1 : (w1.alloc (.cells #[.string P, .pointer (some ⟨n, 0, none⟩)] 70)).cell? ⟨R.tb, 0, none⟩ = some (.slice (some ⟨g, 0, none⟩) R.L.length c) := ((HBW.out.alloc HBW.out.size _).cell hlt0).trans HC0.out
    have cr2 : W2.cell? ⟨R.tb, 0, none⟩ = some (.slice (some ⟨g, 0, none⟩) R.L.length c) := (hB2.cell hlt0).trans HC0.out
    have cr3 : W3.cell? ⟨R.tb, 0, none⟩ = some (.slice (some ⟨g, 0, none⟩) R.L.length c) := (hB3.cell hlt0).trans HC0.out
    have fr3 : W3.frozen? ⟨R.tb, 0, none⟩ = false := (hB3.frozen hlt0).trans HF0.out
    have HO := hid hown
    have HB3 := hid hB3
    have HI := hid (zet R.L p n k hk hbf.out HRE)
    clear hown hB2 hB3 HRE
    go_region
    go_end0
    exact add_done HR.out HB3.out p n HN.out HI.out HO.out (by rw [List.length_append, List.length_cons, List.length_take, List.length_drop]; omega)
  ·obtain rfl : k = R.L.length := by omega
   have hki : ¬ (R.L.length : Int) < R.L.length := by omega
   have HBW := hb
   obtain ⟨w1, hw1⟩ : ∃ w1, w1 = wr := ⟨_, rfl⟩
   rw [← hw1] at HBW cr ⊢
   have HEND : Hid (∀ (h : R.L.length < R.L.length), bef R.L[R.L.length].1 p = false) := fun h => absurd h (by omega)
   clear hb hw1
   by_cases hcl : c = R.L.length
   ·subst hcl
    go_wp2_with fail
    have HRE := HEND.out
    have hkc : (R.L.length : Int) ≤ R.L.length := by omega
    obtain ⟨a1, N1, c1, W2, a2, N2, c2, W3, r1, r2, hB2, hB3, hown⟩ := add_runs HR.out hl HLV.out HBW.out p n R.L.length hk (0) 0 (0) (by omega) (fun h => absurd h (by omega))
    have HR1 := hid r1
    have HR2 := hid r2
    rw [show zb2 p = .string P by rw [HP.out]; rfl] at HR1
    clear r1 r2
    obtain ⟨ok1, eA1, eN1, eC1, eW1⟩ := zd1 HR1.out
    obtain ⟨ok2, eA2, eN2, eC2, eW2⟩ := zd1 HR2.out
    have cr1 : (w1.alloc (.cells #[.string P, .pointer (some ⟨n, 0, none⟩)] 70)).cell? ⟨R.tb, 0, none⟩ = some (.slice (some ⟨g, 0, none⟩) R.L.length R.L.length) := ((HBW.out.alloc HBW.out.size _).cell hlt0).trans HC0.out
    have cr2 : W2.cell? ⟨R.tb, 0, none⟩ = some (.slice (some ⟨g, 0, none⟩) R.L.length R.L.length) := (hB2.cell hlt0).trans HC0.out
    have cr3 : W3.cell? ⟨R.tb, 0, none⟩ = some (.slice (some ⟨g, 0, none⟩) R.L.length R.L.length) := (hB3.cell hlt0).trans HC0.out
    have fr3 : W3.frozen? ⟨R.tb, 0, none⟩ = false := (hB3.frozen hlt0).trans HF0.out
    have HO := hid hown
    have HB3 := hid hB3
    have HI := hid (zet R.L p n R.L.length hk hbf.out HRE)
    clear hown hB2 hB3 HRE
    go_region
    go_end0
    exact add_done HR.out HB3.out p n HN.out HI.out HO.out (by rw [List.length_append, List.length_cons, List.length_take, List.length_drop]; omega)
   ·have hcl2 : ¬ (c : Int) = R.L.length := by omega
    go_wp2_with fail
    have HRE := HEND.out
    have hkc : (R.L.length : Int) ≤ c := by omega
    obtain ⟨a1, N1, c1, W2, a2, N2, c2, W3, r1, r2, hB2, hB3, hown⟩ := add_runs HR.out hl HLV.out HBW.out p n R.L.length hk (R.L.length * 2) 0 (c - R.L.length) (by omega) (fun h => absurd h (by omega))
    have HR1 := hid r1
    have HR2 := hid r2
    rw [show zb2 p = .string P by rw [HP.out]; rfl] at HR1
    clear r1 r2
    obtain ⟨ok1, eA1, eN1, eC1, eW1⟩ := zd1 HR1.out
    obtain ⟨ok2, eA2, eN2, eC2, eW2⟩ := zd1 HR2.out
    have cr1 : (w1.alloc (.cells #[.string P, .pointer (some ⟨n, 0, none⟩)] 70)).cell? ⟨R.tb, 0, none⟩ = some (.slice (some ⟨g, 0, none⟩) R.L.length c) := ((HBW.out.alloc HBW.out.size _).cell hlt0).trans HC0.out
    have cr2 : W2.cell? ⟨R.tb, 0, none⟩ = some (.slice (some ⟨g, 0, none⟩) R.L.length c) := (hB2.cell hlt0).trans HC0.out
    have cr3 : W3.cell? ⟨R.tb, 0, none⟩ = some (.slice (some ⟨g, 0, none⟩) R.L.length c) := (hB3.cell hlt0).trans HC0.out
    have fr3 : W3.frozen? ⟨R.tb, 0, none⟩ = false := (hB3.frozen hlt0).trans HF0.out
    have HO := hid hown
    have HB3 := hid hB3
    have HI := hid (zet R.L p n R.L.length hk hbf.out HRE)
    clear hown hB2 hB3 HRE
    go_region
    go_end0
    exact add_done HR.out HB3.out p n HN.out HI.out HO.out (by rw [List.length_append, List.length_cons, List.length_take, List.length_drop]; omega)
end
end
section
structure RB (R : RT) : Prop where
 len : R.L.length ≤ 90000
 paths : ∀ e ∈ R.L, e.1.length ≤ 100000
 root : zaw R.L [] ≠ none
 now0 : 0 ≤ R.now
 now1 : R.now ≤ 1152921504606846976
theorem RB.pos {R : RT} (h : RB R) : 0 < R.L.length := by
 cases hL : R.L with
 | nil => exact absurd (by rw [hL]; rfl) h.root
 | cons e L => simp
theorem zat {w w1 : World} {b : Nat} (hb : Below w.heap.size w w1) (hw : w.heap.size ≤ b) (hh : w1.heap[b]? = some (.cells #[.int .i64 0, .int .i64 0, .int .i64 0] 32 (0, 0))) (x0 x1 x2 : Value) :
  Below w.heap.size w (((w1.setCell ⟨b, 0, none⟩ x0).setCell ⟨b, 1, none⟩ x1).setCell ⟨b, 2, none⟩ x2) ∧ (((w1.setCell ⟨b, 0, none⟩ x0).setCell ⟨b, 1, none⟩ x1).setCell ⟨b, 2, none⟩ x2).heap[b]? = some (.cells #[x0, x1, x2] 32 (0, 0)) :=
 ⟨zdc hb hw x0 x1 x2, zap hh x0 x1 x2⟩
def RT.setNd (R : RT) (n : Nat) (d : RNd) : RT := { R with nd := fun x => if x = n then some d else R.nd x }
def zbt (dir : Bool) : RNd := ⟨dir, .slice none 0 0, [], 0⟩
theorem RRep.no_nd {B : Nat} {w : World} {R : RT} (h : RRep B w R) : R.nd w.heap.size = none := by
 cases hn : R.nd w.heap.size with
 | none => rfl
 | some d => exact absurd (zab (h.node _ d hn).1) (Nat.lt_irrefl _)
theorem RRep.newNode {B : Nat} {w w' : World} {R : RT} (h : RRep B w R) (hb : Below w.heap.size w w') (dir : Bool) (hn : w'.heap[w.heap.size]? = some (.cells #[.bool dir, .slice none 0 0, .int .i64 0] 41 (0, 0))) :
  RRep B w' (R.setNd w.heap.size (zbt dir)) := by
 refine h.change h.base (Kept.of_below hb (fun _ => False)) (fun b hf => hf.elim) w.heap.size rfl (zae hb (zab h.tree) h.tree) (.inl ⟨rfl, rfl⟩) ?_ ?_
 ·intro x d hx
  have hx : (if x = w.heap.size then some (zbt dir) else R.nd x) = some d := hx
  by_cases e : x = w.heap.size
  ·rw [if_pos e] at hx
   cases hx
   subst e
   exact .inr ⟨hn, .inr ⟨h.base, rfl, World.ownsRow_nil _ _ _ _⟩⟩
  ·rw [if_neg e] at hx
   exact .inl ⟨hx, fun hf => hf⟩
 ·intro e he
  obtain ⟨d, hd⟩ := h.ents e he
  show ∃ d, (if e.2 = w.heap.size then some (zbt dir) else R.nd e.2) = some d
  by_cases e1 : e.2 = w.heap.size
  ·exact ⟨_, if_pos e1⟩
  ·exact ⟨d, by rw [if_neg e1]; exact hd⟩
def RT.stamp1 (R : RT) (n : Nat) (dn : RNd) : RT := { R with now := R.now + 1, nd := fun x => if x = n then some { dn with tick := R.now + 1 } else R.nd x }
def RT.stamp2 (R : RT) (n m : Nat) (dn dm : RNd) : RT := { R with now := R.now + 1, nd := fun x => if x = n then some { dn with tick := R.now + 1 } else if x = m then some { dm with tick := R.now + 1 } else R.nd x }
theorem RRep.stamped1 {B : Nat} {w w' : World} {R : RT} {n : Nat} {dn : RNd} {e : Ending} (h : RRep B w R) (hn : R.nd n = some dn)
  (hp : StampPost1 w R.tb n R.lv (.bool false) (.bool dn.dir) dn.dv R.now e w') : RRep B w' (R.stamp1 n dn) := by
 refine h.change h.base hp.kept (fun b hf => ?_) 0 rfl hp.tree (.inl ⟨rfl, rfl⟩) ?_ ?_
 ·rcases hf with rfl | rfl
  ·exact .inl rfl
  ·exact .inr ⟨dn, hn⟩
 ·intro x d hx
  have hx : (if x = n then some { dn with tick := R.now + 1 } else R.nd x) = some d := hx
  by_cases e1 : x = n
  ·rw [if_pos e1] at hx
   cases hx
   subst e1
   exact .inr ⟨hp.node, .inl ⟨dn, hn, rfl, rfl⟩⟩
  ·rw [if_neg e1] at hx
   exact .inl ⟨hx, fun hf => hf.elim (h.nd_ne hx) e1⟩
 ·intro e he
  obtain ⟨d, hd⟩ := h.ents e he
  show ∃ d, (if e.2 = n then some { dn with tick := R.now + 1 } else R.nd e.2) = some d
  by_cases e1 : e.2 = n
  ·exact ⟨_, if_pos e1⟩
  ·exact ⟨d, by rw [if_neg e1]; exact hd⟩
theorem RRep.stamped2 {B : Nat} {w w' : World} {R : RT} {n m : Nat} {dn dm : RNd} {e : Ending} (h : RRep B w R) (hn : R.nd n = some dn) (hm : R.nd m = some dm)
  (hp : StampPost2 w R.tb n m R.lv (.bool false) (.bool dn.dir) dn.dv (.bool dm.dir) dm.dv R.now e w') : RRep B w' (R.stamp2 n m dn dm) := by
 refine h.change h.base hp.kept (fun b hf => ?_) 0 rfl hp.tree (.inl ⟨rfl, rfl⟩) ?_ ?_
 ·rcases hf with rfl | rfl | rfl
  ·exact .inl rfl
  ·exact .inr ⟨dn, hn⟩
  ·exact .inr ⟨dm, hm⟩
 ·intro x d hx
  have hx : (if x = n then some { dn with tick := R.now + 1 } else if x = m then some { dm with tick := R.now + 1 } else R.nd x) = some d := hx
  by_cases e1 : x = n
  ·rw [if_pos e1] at hx
   cases hx
   subst e1
   exact .inr ⟨hp.node, .inl ⟨dn, hn, rfl, rfl⟩⟩
  ·rw [if_neg e1] at hx
   by_cases e2 : x = m
   ·rw [if_pos e2] at hx
    cases hx
    subst e2
    exact .inr ⟨hp.node2, .inl ⟨dm, hm, rfl, rfl⟩⟩
   ·rw [if_neg e2] at hx
    exact .inl ⟨hx, fun hf => by rcases hf with hf | hf | hf; exact h.nd_ne hx hf; exact e1 hf; exact e2 hf⟩
 ·intro e he
  obtain ⟨d, hd⟩ := h.ents e he
  show ∃ d, (if e.2 = n then some { dn with tick := R.now + 1 } else if e.2 = m then some { dm with tick := R.now + 1 } else R.nd e.2) = some d
  by_cases e1 : e.2 = n
  ·exact ⟨_, if_pos e1⟩
  ·by_cases e2 : e.2 = m
   ·exact ⟨_, by rw [if_neg e1, if_pos e2]⟩
   ·exact ⟨d, by rw [if_neg e1, if_neg e2]; exact hd⟩
theorem RRep.not_foot {B : Nat} {w : World} {R : RT} (h : RRep B w R) {b : Nat} {c : Array Value} {T : TypeId} {f : Nat × Nat} (hb : w.heap[b]? = some (.cells c T f)) (h1 : T ≠ 73) (h2 : T ≠ 70) (h3 : T ≠ 41) (h4 : T ≠ 5) : ¬ R.foot b := by
 rintro (rfl | hv | ⟨d, hd⟩ | ⟨n, d, hd, hv⟩)
 ·exact zac hb h.tree h1 rfl
 ·obtain ⟨cur, hc⟩ := zaq h.rows hv
  exact zac hb hc h2 rfl
 ·exact zac hb (h.node _ d hd).1 h3 rfl
 ·obtain ⟨cur, hc⟩ := zaq (h.node n d hd).2 hv
  exact zac hb hc h4 rfl
theorem dir_of {R : RT} {q : List UInt8} (h : R.dirAt q = true) : ∃ i ri, zaw R.L q = some i ∧ R.nd i = some ri ∧ ri.dir = true := by
 unfold RT.dirAt at h
 cases he : zaw R.L q with
 | none => rw [he] at h; cases h
 | some i =>
  rw [he] at h
  cases hn : R.nd i with
  | none => simp [hn] at h
  | some ri => exact ⟨i, ri, rfl, hn, by simpa [hn] using h⟩
theorem dir_there {R : RT} (hb : RB R) {l : List ByteArray} (hok : R.okDirs l) (hnone : zaw R.L (zal l) = none) :
  ∃ i ri, zaw R.L (zal l.dropLast) = some i ∧ R.nd i = some ri ∧ ri.dir = true ∧ zal l.dropLast ≠ zal l := by
 rcases zb3 l with rfl | ⟨m, x, rfl⟩
 ·exact absurd hnone hb.root
 ·have h := hok m.length (by simp)
  rw [List.take_left' rfl] at h
  rw [List.dropLast_concat]
  obtain ⟨i, ri, h1, h2, h3⟩ := dir_of h
  refine ⟨i, ri, h1, h2, h3, fun e => ?_⟩
  have h4 := congrArg List.length e
  rw [zcv] at h4
  simp at h4
end
end Go.Proofs.YteeeaeiafdgpkaaGreatDoor
