/-
  TreeFull's walk.
-/
import Derived.Test.YtjhojohjegkinaaGreatDoorLockB
import Derived.Test.YtjhojohjegkinaaGreatDoorAwake16
namespace Go.Proofs.YtjhojohjegkinaaGreatDoor
open Go Go.RowKit

theorem wrapT {x : Int} (h0 : 0 ≤ x) (h1 : x < 1000000) : wrap64 x = x := by
  unfold wrap64
  omega
theorem mod_full (a : Int) (b : Int) (hb : 0 < b) (hb2 : b ≤ 100000) : ∃ m : Nat, (m : Int) < b ∧ (wrap64 (a.tmod b + b)).tmod b = m := by
  have h1 : a.tmod b < b := Int.tmod_lt_of_pos _ hb
  have h2 : -b < a.tmod b := Int.lt_tmod_of_pos _ hb
  rw [wrapT (x := a.tmod b + b) (by omega) (by omega)]
  have h3 : 0 ≤ (a.tmod b + b).tmod b := Int.tmod_nonneg _ (by omega)
  have h4 : (a.tmod b + b).tmod b < b := Int.tmod_lt_of_pos _ hb
  exact ⟨((a.tmod b + b).tmod b).toNat, by omega, by omega⟩
/-- A row made behind both trees is neither's. -/
theorem Ql.row {w W W' : World} {tb rb k : Nat} (h : Ql w tb rb k (.slice none 0 0) [] W) {bv : Value} {b : List UInt8} (hown : W'.ownsRow W.heap.size 5 1 bv b.length (u8s b)) (hb : Below W.heap.size W W') : Ql w tb rb k bv b W' := by
  obtain ⟨T, R, f, h1, h2, h3, h4, h5⟩ := h
  refine ⟨T, R, f, h1.below hb, h2, h3, h4.trans (hb.mono h1.base), Src.of_owns hown, fun x hx => (hown.lt x hx).2, fun x hx hf => ?_, fun x n d hx hd hv => ?_, fun x hx => ?_⟩
  · have := (hown.lt x hx).1
    have := h1.rep.lt hf
    omega
  · have := (hown.lt x hx).1
    have := h1.rrep.lt (.inr (.inr (.inr ⟨n, d, hd, hv⟩)))
    omega
  · obtain ⟨cur, hc⟩ := owns_heap hown hx
    exact ⟨_, _, hc⟩
theorem Ql.low {w W : World} {tb rb k : Nat} {bv : Value} {b : List UInt8} (h : Ql w tb rb k bv b W) : Below w.heap.size w W := by
  obtain ⟨T, R, f, h⟩ := h
  exact h.low
theorem Ql.next {w W W' : World} {tb rb k : Nat} {bv : Value} {b : List UInt8} (h : Ql w tb rb k bv b W) (hb : Below W.heap.size W W') : Ql w tb rb k bv b W' := by
  obtain ⟨T, R, f, h⟩ := h
  exact ⟨T, R, f, h.next hb⟩
theorem zeros_u8s (n : Nat) : (madeCells #[.int .u8 0] n).toList = u8s (List.replicate n 0) := by
  unfold madeCells
  apply List.ext_getElem
  · simp [u8s]
  · intro i h1 h2
    simp [Nat.mod_one, u8s]

theorem byte_of (n : Nat) (h : n < 256) : ∃ x : UInt8, x.toNat = n := ⟨UInt8.ofNat n, by simp; omega⟩
set_option maxRecDepth 100000 in
set_option maxHeartbeats 4000000 in
theorem treeFull_any {E : Nat → Addr} {B0 : Nat} (w : World) (hE : Ctx E B0 w) (hY : Ety B0 w) (hT : TabB w.heap.size w) (n : Int) (_hn : -9223372036854775808 ≤ n ∧ n ≤ 9223372036854775807) (size : Int) (_hs : -9223372036854775808 ≤ size ∧ size ≤ 9223372036854775807) (add : Bool) :
    Calls Tryz.prog 8 #[.int .i64 n, .int .i64 size, .bool add] w fun e w' => AwPost w e w' := by
  have HE : Hid (∀ W, Below w.heap.size w W → Ctx E w.heap.size W) := fun W hb => hE.raise.below hb
  have HY : Hid (∀ W, Below w.heap.size w W → Ety w.heap.size W) := fun W hb => hY.raise.below hb
  have HTB : Hid (∀ W, Below w.heap.size w W → TabB w.heap.size W) := fun W hb => hT.on hb
  obtain ⟨m, hm, hwn⟩ := mod_full n 210 (by decide) (by decide)
  obtain ⟨sz, hsz, hws⟩ := mod_full size 70000 (by decide) (by decide)
  have HM : Hid (m < 210) := by show _ < _; omega
  have HSZ : Hid (sz < 70000) := by show _ < _; omega
  clear hE hY hT hm hsz
  go_enter Tryz.func8, Tryz.ntmps8
  go_wp2_with fail
  clear hwn hws
  refine (tree_new w).mono ?_
  intro e w1 hp
  obtain ⟨rfl, hrep1, hb1, hs1⟩ := hp
  have HR1 := Lib.hid (hrep1 w.heap.size (Nat.le_refl _))
  have HB1 := Lib.hid hb1
  clear hrep1 hb1 hs1
  go_wp2_with fail
  refine (ref_new w.heap.size w1 HB1.out.size).mono ?_
  intro e w2 hp
  obtain ⟨R, i, rfl, hr2, hL, hnow, hi, ho, hft⟩ := hp.tree
  obtain ⟨tb, htb⟩ : ∃ tb, tb = w.heap.size + 2 := ⟨_, rfl⟩
  have HQ : Hid (Ql w tb R.tb 0 (.slice none 0 0) [] w2) := ⟨_, R, _, both_new (HR1.out.below hp.below) hr2 hL hnow hi ho (Nat.le_trans HB1.out.size hp.below.size), htb.symm, rfl, below_trans HB1.out hp.below, Off.nil _ _ _⟩
  rw [← htb]
  clear hr2 hL hnow hi ho hft hp HR1 HB1 htb
  generalize R.tb = rb at *
  go_wp2_with fail
  go_loopw [23] (fun idx wr => ∃ k : Nat, k ≤ m ∧ idx = .int .i64 k ∧ Hid (Ql w tb rb k (.slice none 0 0) [] wr)) (fun idx _ => m - (intOf idx).toNat)
  case atStart => exact ⟨0, Nat.zero_le _, rfl, HQ⟩
  case round =>
    clear HQ
    obtain ⟨k, hk, rfl, hq⟩ := hrel
    by_cases hgo : k < m
    · have hki : (k : Int) < m := by omega
      have hk210 : k < 210 := by have := HM.out; omega
      have hk7 : k ≤ 70000 := by omega
      have HK7 := Lib.hid hk7
      clear hk7
      obtain ⟨x, hx⟩ := byte_of (97 + k / 26) (by omega)
      obtain ⟨y, hy⟩ := byte_of (97 + k % 26) (by omega)
      have q1 : (convert 44 9 (.slice (some ⟨wr.heap.size, 0, none⟩) 2 2)).run Tryz.prog (wr.alloc (.cells #[.int .u8 (97 + (k : Int) / 26), .int .u8 (97 + (k : Int) % 26)] 5)) = .ok (.string (strOf [x, y])) (wr.alloc (.cells #[.int .u8 (97 + (k : Int) / 26), .int .u8 (97 + (k : Int) % 26)] 5)) :=
        run_str_src (l := [x, y]) (.inr ⟨⟨wr.heap.size, 0, none⟩, 2, rfl, Nat.le_refl _, fun j hj => by
          match j, hj with
          | 0, _ => rw [show (.int .u8 (([x, y] : List UInt8)[0].toNat : Int) : Value) = .int .u8 (97 + (k : Int) / 26) by show Value.int .u8 (x.toNat : Int) = _; rw [hx]; congr 1]; exact cell_of (heap_alloc_new wr _) rfl
          | 1, _ => rw [show (.int .u8 (([x, y] : List UInt8)[1].toNat : Int) : Value) = .int .u8 (97 + (k : Int) % 26) by show Value.int .u8 (y.toNat : Int) = _; rw [hy]; congr 1]; exact cell_of (heap_alloc_new wr _) rfl⟩)
      have hps : (strOf [x, y]).size = 2 := strOf_size _
      generalize strOf [x, y] = P at *
      clear hx hy
      have hb1 : ¬ 9223372036854775807 < 1 + P.size := by omega
      have HPS : Hid (((⟨#[102]⟩ : ByteArray) ++ P).size ≤ 9223372036854775807) := by
        show _ ≤ _
        rw [ByteArray.size_append, hps]
        decide
      have HQA : Hid (Ql w tb rb k (.slice none 0 0) [] (wr.alloc (.cells #[.int .u8 (97 + (k : Int) / 26), .int .u8 (97 + (k : Int) % 26)] 5))) := hq.out.next (below_alloc _ _)
      clear hps hq
      go_wp2_with fail
      clear q1 hb1
      generalize wr.alloc (.cells #[.int .u8 (97 + (k : Int) / 26), .int .u8 (97 + (k : Int) % 26)] 5) = wq at *
      generalize hPP : (⟨#[102]⟩ : ByteArray) ++ P = PP at *
      clear hPP
      obtain ⟨T, R, f, hq0⟩ := HQA.out
      have HQ0 : Hid (Ql0 w tb rb k (.slice none 0 0) [] T R f _) := hq0
      clear hq0 HQA
      have hcode : ∀ W : World, (binOp .neq 56 (codeV (T.code (oWrite PP [] false))) (codeV (T.code (oWrite PP [] false)))).run Tryz.prog W = .ok (.bool false) W := fun W => codeV_neq _ W
      have hguard : ∀ (x y : Operand) (W : World), (eqGuard .neq 56 x y (codeV (T.code (oWrite PP [] false))) (codeV (T.code (oWrite PP [] false)))).run Tryz.prog W = .ok () W := fun x y W => codeV_guard_neq _ x y W
      have HTL : Hid (∀ y W, Ql1 E w tb rb k (.slice none 0 0) [] T R f (oWrite PP [] false) y W → Calls Tryz.prog 29 #[y] W fun e w' => e = .returned (codeV (T.code (oWrite PP [] false))) ∧ Ql1 E w tb rb k (.slice none 0 0) [] T R f (oWrite PP [] false) y w') := fun y W h => ql_tell HE.out HY.out h
      have HMO : Hid (∀ y W, Ql1 E w tb rb k (.slice none 0 0) [] T R f (oWrite PP [] false) y W → Calls Tryz.prog 36 #[.pointer (some ⟨rb, 0, none⟩), .string PP, .slice none 0 0, .bool false] W fun e w' => e = .returned (codeV (T.code (oWrite PP [] false))) ∧ Ql w tb rb (k + 1) (.slice none 0 0) [] w') := fun y W h => ql_rwrite PP HPS.out (.inl ⟨rfl, rfl⟩) (Nat.zero_le _) false HK7.out h
      generalize codeV (T.code (oWrite PP [] false)) = cvB at *
      refine (ql_write HE.out PP HPS.out (.inl ⟨rfl, rfl⟩) false HQ0.out).mono ?_
      rintro e w3 ⟨y, rfl, hx⟩
      have HX1 := Lib.hid hx
      clear hx HQ0
      go_wp2_with fail
      refine (HTL.out _ _ HX1.out).mono ?_
      rintro e w4 ⟨rfl, hx⟩
      have HX2 := Lib.hid hx
      clear hx HX1
      go_wp2_with fail
      refine (HMO.out _ _ HX2.out).mono ?_
      rintro e w5 ⟨rfl, hx⟩
      have HQB := Lib.hid hx
      clear hx HX2 HTL HMO
      go_wp2_with fail
      go_roundw
      case rel => exact ⟨k + 1, by omega, by go_num, HQB⟩
      case measure => simp [intOf]; omega
    · have hki : (m : Int) ≤ k := by omega
      have hkm : k = m := by omega
      have HK7 : Hid (k + 10 ≤ 70000) := by have := HM.out; show _ ≤ _; omega
      clear hk hgo hkm
      have HSD : Hid ((⟨#[100]⟩ : ByteArray).size ≤ 9223372036854775807) := by show _ ≤ _; decide
      have HSF : Hid ((⟨#[102, 97, 97]⟩ : ByteArray).size ≤ 9223372036854775807) := by show _ ≤ _; decide
      have HSE : Hid ((⟨#[101]⟩ : ByteArray).size ≤ 9223372036854775807) := by show _ ≤ _; decide
      go_wp2_with fail
      obtain ⟨T, R, f, hq0⟩ := hq.out
      have HQ0 : Hid (Ql0 w tb rb k (.slice none 0 0) [] T R f _) := hq0
      clear hq0 hq
      have hcode : ∀ W : World, (binOp .neq 56 (codeV (T.code (oMkdir ⟨#[100]⟩))) (codeV (T.code (oMkdir ⟨#[100]⟩)))).run Tryz.prog W = .ok (.bool false) W := fun W => codeV_neq _ W
      have hguard : ∀ (x y : Operand) (W : World), (eqGuard .neq 56 x y (codeV (T.code (oMkdir ⟨#[100]⟩))) (codeV (T.code (oMkdir ⟨#[100]⟩)))).run Tryz.prog W = .ok () W := fun x y W => codeV_guard_neq _ x y W
      have HTL : Hid (∀ y W, Ql1 E w tb rb k (.slice none 0 0) [] T R f (oMkdir ⟨#[100]⟩) y W → Calls Tryz.prog 29 #[y] W fun e w' => e = .returned (codeV (T.code (oMkdir ⟨#[100]⟩))) ∧ Ql1 E w tb rb k (.slice none 0 0) [] T R f (oMkdir ⟨#[100]⟩) y w') := fun y W h => ql_tell HE.out HY.out h
      have HMO : Hid (∀ y W, Ql1 E w tb rb k (.slice none 0 0) [] T R f (oMkdir ⟨#[100]⟩) y W → Calls Tryz.prog 37 #[.pointer (some ⟨rb, 0, none⟩), .string ⟨#[100]⟩] W fun e w' => e = .returned (codeV (T.code (oMkdir ⟨#[100]⟩))) ∧ Ql w tb rb (k + 1) (.slice none 0 0) [] w') := fun y W h => ql_rmkdir ⟨#[100]⟩ HSD.out (by have := HK7.out; omega) h
      generalize codeV (T.code (oMkdir ⟨#[100]⟩)) = cvC at *
      refine (ql_mkdir HE.out ⟨#[100]⟩ HSD.out HQ0.out).mono ?_
      rintro e w3 ⟨y, rfl, hx⟩
      have HX1 := Lib.hid hx
      clear hx HQ0
      go_wp2_with fail
      refine (HTL.out _ _ HX1.out).mono ?_
      rintro e w4 ⟨rfl, hx⟩
      have HX2 := Lib.hid hx
      clear hx HX1
      go_wp2_with fail
      refine (HMO.out _ _ HX2.out).mono ?_
      rintro e w5 ⟨rfl, hx⟩
      have HQC := Lib.hid hx
      clear hx HX2 HTL HMO
      go_wp2_with fail
      obtain ⟨T, R, f, hq0⟩ := HQC.out
      have HQ0 : Hid (Ql0 w tb rb (k + 1) (.slice none 0 0) [] T R f _) := hq0
      clear hq0 HQC
      have hcode : ∀ W : World, (binOp .neq 56 (codeV (T.code (oLink ⟨#[102, 97, 97]⟩ ⟨#[101]⟩))) (codeV (T.code (oLink ⟨#[102, 97, 97]⟩ ⟨#[101]⟩)))).run Tryz.prog W = .ok (.bool false) W := fun W => codeV_neq _ W
      have hguard : ∀ (x y : Operand) (W : World), (eqGuard .neq 56 x y (codeV (T.code (oLink ⟨#[102, 97, 97]⟩ ⟨#[101]⟩))) (codeV (T.code (oLink ⟨#[102, 97, 97]⟩ ⟨#[101]⟩)))).run Tryz.prog W = .ok () W := fun x y W => codeV_guard_neq _ x y W
      have HTL : Hid (∀ y W, Ql1 E w tb rb (k + 1) (.slice none 0 0) [] T R f (oLink ⟨#[102, 97, 97]⟩ ⟨#[101]⟩) y W → Calls Tryz.prog 29 #[y] W fun e w' => e = .returned (codeV (T.code (oLink ⟨#[102, 97, 97]⟩ ⟨#[101]⟩))) ∧ Ql1 E w tb rb (k + 1) (.slice none 0 0) [] T R f (oLink ⟨#[102, 97, 97]⟩ ⟨#[101]⟩) y w') := fun y W h => ql_tell HE.out HY.out h
      have HMO : Hid (∀ y W, Ql1 E w tb rb (k + 1) (.slice none 0 0) [] T R f (oLink ⟨#[102, 97, 97]⟩ ⟨#[101]⟩) y W → Calls Tryz.prog 38 #[.pointer (some ⟨rb, 0, none⟩), .string ⟨#[102, 97, 97]⟩, .string ⟨#[101]⟩] W fun e w' => e = .returned (codeV (T.code (oLink ⟨#[102, 97, 97]⟩ ⟨#[101]⟩))) ∧ Ql w tb rb ((k + 1) + 1) (.slice none 0 0) [] w') := fun y W h => ql_rlink ⟨#[102, 97, 97]⟩ ⟨#[101]⟩ HSF.out HSE.out (by have := HK7.out; omega) h
      generalize codeV (T.code (oLink ⟨#[102, 97, 97]⟩ ⟨#[101]⟩)) = cvD at *
      refine (ql_link HE.out ⟨#[102, 97, 97]⟩ ⟨#[101]⟩ HSF.out HSE.out HQ0.out).mono ?_
      rintro e w3 ⟨y, rfl, hx⟩
      have HX1 := Lib.hid hx
      clear hx HQ0
      go_wp2_with fail
      refine (HTL.out _ _ HX1.out).mono ?_
      rintro e w4 ⟨rfl, hx⟩
      have HX2 := Lib.hid hx
      clear hx HX1
      go_wp2_with fail
      refine (HMO.out _ _ HX2.out).mono ?_
      rintro e w5 ⟨rfl, hx⟩
      have HQD := Lib.hid hx
      clear hx HX2 HTL HMO
      obtain ⟨i, hi, hz0, hz1, hz2⟩ := info_parts infoU8
      have HZ2 := Lib.hid hz2
      go_wp2_with (at_make; refine wpList_make_full _ rfl _ _ _ rfl w5.heap.size _ i (.int .u8 0) 1 Tryz.underlying44 hi hz0 hz1 _ _ _ _ sz rfl rfl rfl rfl (by rw [HZ2.out]; have := HSZ.out; omega) (by unfold maxLen; have := HSZ.out; omega) (Nat.le_refl _) ?_)
      intro w6 hown hgrow
      clear hcode hguard
      obtain ⟨bl, hbl⟩ : ∃ bl : List UInt8, bl = List.replicate sz 0 := ⟨_, rfl⟩
      have hbz : bl.length = sz := by rw [hbl, List.length_replicate]
      have hown : w6.ownsRow w5.heap.size 5 1 (.slice (some ⟨w5.heap.size, 0, none⟩) sz sz) bl.length (u8s bl) := by
        rw [hbz, hbl, ← zeros_u8s]
        exact hown
      have HBZ := Lib.hid hbz
      have HQE : Hid (Ql w tb rb (k + 1 + 1) (.slice (some ⟨w5.heap.size, 0, none⟩) sz sz) bl w6) := HQD.out.row hown ⟨hgrow.os, hgrow.tape, hgrow.output, hgrow.size, fun x hx => hgrow.block x hx (by simp)⟩
      have HBL : Hid (bl.length ≤ 140737488355328) := by show _ ≤ _; rw [hbz]; have := HSZ.out; omega
      clear hown hgrow hbl hbz hi hz0 hz1 hz2 HZ2 HQD
      generalize Value.slice (some ⟨w5.heap.size, 0, none⟩) sz sz = bv at *
      go_wp2_with fail
      obtain ⟨T, R, f, hq0⟩ := HQE.out
      have HQ0 : Hid (Ql0 w tb rb (k + 1 + 1) bv bl T R f _) := hq0
      clear hq0 HQE
      have hcode : ∀ W : World, (binOp .eql 56 (codeV (T.code (oWrite ⟨#[102, 97, 97]⟩ bl add))) (codeV (T.code (oWrite ⟨#[102, 97, 97]⟩ bl add)))).run Tryz.prog W = .ok (.bool true) W := fun W => codeV_eql _ W
      have hguard : ∀ (x y : Operand) (W : World), (eqGuard .eql 56 x y (codeV (T.code (oWrite ⟨#[102, 97, 97]⟩ bl add))) (codeV (T.code (oWrite ⟨#[102, 97, 97]⟩ bl add)))).run Tryz.prog W = .ok () W := fun x y W => codeV_guard_eql _ x y W
      have HTL : Hid (∀ y W, Ql1 E w tb rb (k + 1 + 1) bv bl T R f (oWrite ⟨#[102, 97, 97]⟩ bl add) y W → Calls Tryz.prog 29 #[y] W fun e w' => e = .returned (codeV (T.code (oWrite ⟨#[102, 97, 97]⟩ bl add))) ∧ Ql1 E w tb rb (k + 1 + 1) bv bl T R f (oWrite ⟨#[102, 97, 97]⟩ bl add) y w') := fun y W h => ql_tell HE.out HY.out h
      have HMO : Hid (∀ y W, Ql1 E w tb rb (k + 1 + 1) bv bl T R f (oWrite ⟨#[102, 97, 97]⟩ bl add) y W → Calls Tryz.prog 36 #[.pointer (some ⟨rb, 0, none⟩), .string ⟨#[102, 97, 97]⟩, bv, .bool add] W fun e w' => e = .returned (codeV (T.code (oWrite ⟨#[102, 97, 97]⟩ bl add))) ∧ Ql w tb rb ((k + 1 + 1) + 1) bv bl w') := fun y W h => ql_rwrite ⟨#[102, 97, 97]⟩ HSF.out (.inr ⟨rfl, rfl⟩) HBL.out add (by have := HK7.out; omega) h
      generalize codeV (T.code (oWrite ⟨#[102, 97, 97]⟩ bl add)) = cvF at *
      refine (ql_write HE.out ⟨#[102, 97, 97]⟩ HSF.out (.inr ⟨rfl, rfl⟩) add HQ0.out).mono ?_
      rintro e w3 ⟨y, rfl, hx⟩
      have HX1 := Lib.hid hx
      clear hx HQ0
      go_wp2_with fail
      refine (HTL.out _ _ HX1.out).mono ?_
      rintro e w4 ⟨rfl, hx⟩
      have HX2 := Lib.hid hx
      clear hx HX1
      go_wp2_with fail
      refine (HMO.out _ _ HX2.out).mono ?_
      rintro e w5 ⟨rfl, hx⟩
      have HQF := Lib.hid hx
      clear hx HX2 HTL HMO
      go_wp2_with fail
      clear hcode
      obtain ⟨T, R, f, hq0⟩ := HQF.out
      have HQ0 : Hid (Ql0 w tb rb (k + 1 + 1 + 1) bv bl T R f _) := hq0
      clear hq0 HQF
      have hcode : ∀ W : World, (binOp .eql 56 (codeV (T.code (oWrite ⟨#[102, 97, 97]⟩ bl add))) (codeV (T.code (oWrite ⟨#[102, 97, 97]⟩ bl add)))).run Tryz.prog W = .ok (.bool true) W := fun W => codeV_eql _ W
      have hguard : ∀ (x y : Operand) (W : World), (eqGuard .eql 56 x y (codeV (T.code (oWrite ⟨#[102, 97, 97]⟩ bl add))) (codeV (T.code (oWrite ⟨#[102, 97, 97]⟩ bl add)))).run Tryz.prog W = .ok () W := fun x y W => codeV_guard_eql _ x y W
      have HTL : Hid (∀ y W, Ql1 E w tb rb (k + 1 + 1 + 1) bv bl T R f (oWrite ⟨#[102, 97, 97]⟩ bl add) y W → Calls Tryz.prog 29 #[y] W fun e w' => e = .returned (codeV (T.code (oWrite ⟨#[102, 97, 97]⟩ bl add))) ∧ Ql1 E w tb rb (k + 1 + 1 + 1) bv bl T R f (oWrite ⟨#[102, 97, 97]⟩ bl add) y w') := fun y W h => ql_tell HE.out HY.out h
      have HMO : Hid (∀ y W, Ql1 E w tb rb (k + 1 + 1 + 1) bv bl T R f (oWrite ⟨#[102, 97, 97]⟩ bl add) y W → Calls Tryz.prog 36 #[.pointer (some ⟨rb, 0, none⟩), .string ⟨#[102, 97, 97]⟩, bv, .bool add] W fun e w' => e = .returned (codeV (T.code (oWrite ⟨#[102, 97, 97]⟩ bl add))) ∧ Ql w tb rb ((k + 1 + 1 + 1) + 1) bv bl w') := fun y W h => ql_rwrite ⟨#[102, 97, 97]⟩ HSF.out (.inr ⟨rfl, rfl⟩) HBL.out add (by have := HK7.out; omega) h
      generalize codeV (T.code (oWrite ⟨#[102, 97, 97]⟩ bl add)) = cvG at *
      refine (ql_write HE.out ⟨#[102, 97, 97]⟩ HSF.out (.inr ⟨rfl, rfl⟩) add HQ0.out).mono ?_
      rintro e w3 ⟨y, rfl, hx⟩
      have HX1 := Lib.hid hx
      clear hx HQ0
      go_wp2_with fail
      refine (HTL.out _ _ HX1.out).mono ?_
      rintro e w4 ⟨rfl, hx⟩
      have HX2 := Lib.hid hx
      clear hx HX1
      go_wp2_with fail
      refine (HMO.out _ _ HX2.out).mono ?_
      rintro e w5 ⟨rfl, hx⟩
      have HQG := Lib.hid hx
      clear hx HX2 HTL HMO
      go_wp2_with fail
      clear hcode hguard
      obtain ⟨T, R, f, hq0⟩ := HQG.out
      have HP := Lib.hid hq0.text
      clear hq0 HQG
      refine (pl_text (by have := HK7.out; omega) HP.out).mono ?_
      rintro e w7 ⟨rfl, hx⟩
      have HP7 := Lib.hid hx
      clear hx HP
      go_wp2_with fail
      refine (pl_rtext (by have := HK7.out; omega) HTB.out (Nat.le_refl _) HP7.out).mono ?_
      rintro e w8 ⟨rfl, hx⟩
      have HP8 := Lib.hid hx
      clear hx HP7
      have HB8 : Hid (Below w.heap.size w w8) := by
        obtain ⟨_, _, _, _, _, _, h, _⟩ := HP8.out
        exact h
      clear HP8
      go_wp2_with fail
      refine (awake16_any w8 (HE.out w8 HB8.out)).mono ?_
      rintro e w9 ⟨rfl, hb9⟩
      have HB9 := Lib.hid (below_trans HB8.out hb9)
      clear hb9
      go_wp2_with fail
      go_ret
      exact ⟨rfl, HB9.out⟩
end Go.Proofs.YtjhojohjegkinaaGreatDoor
