/-
  pidginlaw17.KernMoves: the walk.
-/
import Derived.Test.YtiejfbkbjahcgaaDoorMv
namespace Go.Proofs.YtiejfbkbjahcgaaDoor
open Go Go.RowKit

theorem wrap_small {x : Int} (h0 : 0 ≤ x) (h1 : x < 1000000) : wrap64 x = x := by
  unfold wrap64
  omega
theorem onto_ok (onto : Int) : ∃ m : Nat, 4 ≤ m ∧ m < 16 ∧ wrap64 (4 + (wrap64 (onto.tmod 12 + 12)).tmod 12) = m := by
  have h1 : onto.tmod 12 < 12 := Int.tmod_lt_of_pos _ (by decide)
  have h2 : -12 < onto.tmod 12 := Int.lt_tmod_of_pos _ (by decide)
  rw [wrap_small (x := onto.tmod 12 + 12) (by omega) (by omega)]
  have h3 : 0 ≤ (onto.tmod 12 + 12).tmod 12 := Int.tmod_nonneg _ (by omega)
  have h4 : (onto.tmod 12 + 12).tmod 12 < 12 := Int.tmod_lt_of_pos _ (by decide)
  rw [wrap_small (by omega) (by omega)]
  exact ⟨(4 + (onto.tmod 12 + 12).tmod 12).toNat, by omega, by omega, by omega⟩

theorem kern_tree {w : World} {kb tb : Nat} {fds : Nat → Option End} {ob eb : Nat} (h : KAt w kb tb fds ob eb) :
    Calls Tryd.prog 20 #[.pointer (some ⟨kb, 0, none⟩)] w fun e w' => e = .returned (.pointer (some ⟨tb, 0, none⟩)) ∧ w' = w := by
  have g0 : w.cell? ⟨kb, 0, none⟩ = some (.pointer (some ⟨tb, 0, none⟩)) := by
    obtain ⟨c, h1, _, h3, _⟩ := h.cells
    exact cell_of h1 h3
  clear h
  go_enter Tryd.func20, Tryd.ntmps20
  go_wp2_with fail
  go_ret
  exact ⟨rfl, rfl⟩

set_option maxRecDepth 100000 in
set_option maxHeartbeats 4000000 in
theorem kernMoves_any {E : Nat → Addr} {B : Nat} (w : World) (hE : Ctx E B w) (da : Option Addr) (dc : Nat) (dl : List UInt8) (hd : Src w (.slice da dl.length dc) dl) (hdl : dl.length ≤ 9223372036854775807)
    (ma : Option Addr) (mc : Nat) (ml : List UInt8) (hm : Src w (.slice ma ml.length mc) ml) (hml : ml.length ≤ 9223372036854775807) (onto : Int) (_hon : -9223372036854775808 ≤ onto ∧ onto ≤ 9223372036854775807) :
    Calls Tryd.prog 4 #[.slice da dl.length dc, .slice ma ml.length mc, .int .i64 onto] w fun e w' => AwPost w e w' := by
  have HE := Lib.hid hE
  have HD := Lib.hid hd
  have HM := Lib.hid hm
  clear hE hd hm
  have HAW : Hid (Calls Tryd.prog 16 #[] w fun e w' => AwPost w e w') := awake_any w HE.out
  have HN : Hid (Calls Tryd.prog 12 #[.pointer none, .slice none 0 0] w fun e w' => KNewPost2 B w [] e w') := kern_new_nil w _ [] (.inl ⟨rfl, rfl⟩) (by simp) HE.out.env.size
  obtain ⟨m, hm4, hm16, hwm⟩ := onto_ok onto
  by_cases h1 : dl.length ≤ 1000
  · by_cases h2 : ml.length ≤ 1000
    · go_enter Tryd.func4, Tryd.ntmps4
      have hi1 : (dl.length : Int) ≤ 1000 := by omega
      have hi2 : (ml.length : Int) ≤ 1000 := by omega
      go_wp2_with fail
      refine HN.out.mono ?_
      intro e w2 hp
      obtain ⟨w1, ⟨K, rfl, hK, hT, hfds, hil, hol, hel, hfl, hb2, hown⟩, hb1⟩ := hp
      have HOX : Hid (Calls Tryd.prog 17 #[.pointer (some ⟨K.kb, 0, none⟩), .string fName, .int .i64 1] w2 fun e w' => KOpenNew B w2 K (w.heap.size + 1) { dir := true, bv := .slice none 0 0, data := [], names := [], mb := w.heap.size, links := 0, tick := 0 } fName 1 3 e w') := by
        refine kopen_new fName 1 (.inl rfl) w2 (HE.out.below (below_trans hb1 hb2)) hK (by decide) ⟨some (w.heap.size + 1), fName, none⟩ (by rw [hT]; exact find_f _ _ _) rfl (by rw [hT]; show (1 : Int) < 200; decide) (by rw [hT]; show (0 : Int) ≤ 1; decide) (by rw [hT]; exact Int.le_refl 0) (by rw [hT]; show (0 : Int) ≤ _; decide) 3 (by rw [hfds]; rfl) (w.heap.size + 1) _ rfl (by rw [hT]; exact newTr_root _ _ _) rfl rfl
      have HOP : Hid (∀ e w3, KOpenNew B w2 K (w.heap.size + 1) { dir := true, bv := .slice none 0 0, data := [], names := [], mb := w.heap.size, links := 0, tick := 0 } fName 1 3 e w3 → e = .returned (.tuple #[.int .i64 3, .nilIface]) ∧ ∃ K' b0 k fb, MV B w w3 K' b0 k fb 1 [] 0 1 ∧ K'.kb = K.kb ∧ K'.T.tb = K.T.tb ∧ K'.fds = setFd (fds3 K.ib K.ob K.eb) 3 (some (.file b0))) := by
        intro e w3 hp
        have h := mv_opened hK hT hown hb1.size (by omega) (below_trans hb1 hb2) hp
        rw [hfds] at h
        exact h
      clear hK hT hfds hil hol hel hfl hb2 hown hb1 HN
      go_wp2_with fail
      refine HOX.out.mono ?_
      intro e w3 hp
      obtain ⟨rfl, K', b0, k, fb, hmv, hkb, _, hfds⟩ := HOP.out e w3 hp
      clear hp HOX HOP
      generalize K.kb = kb at *
      subst hkb
      have HMV := Lib.hid hmv
      have HDU : Hid (Calls Tryd.prog 13 #[.pointer (some ⟨K'.kb, 0, none⟩), .int .i64 3] w3 fun e w' => DupOk w3 K'.kb K'.T.tb K'.fds K'.ob K'.eb 3 4 e w') :=
        dup_ok hmv.rep.kern 3 (by rw [hfds]; rfl) 4 (by rw [hfds]; rfl)
      have HF3 : Hid (K'.fds 3 = some (.file b0)) := by
        show _ = _
        rw [hfds]
        rfl
      clear hfds hmv
      go_wp2_with fail
      refine HDU.out.mono ?_
      rintro e w4 ⟨rfl, hk4, hkk4⟩
      have hg4 : ∀ j, K'.good (setFd K'.fds 4 (K'.fds 3) j) := fun j => by
        unfold setFd
        split
        · exact HMV.out.rep.goodFds 3
        · exact HMV.out.rep.goodFds j
      have HMV4 := Lib.hid (HMV.out.fds hk4 hkk4 hg4)
      have HMO : Hid (Calls Tryd.prog 18 #[.pointer (some ⟨K'.kb, 0, none⟩), .int .i64 4, .int .i64 m] w4 fun e w' => MoveOk w4 K'.kb K'.T.tb (setFd K'.fds 4 (K'.fds 3)) K'.ob K'.eb 4 m e w') :=
        move_ok hk4 4 m (by rw [HF3.out]; rfl) hm16
      clear hk4 hkk4 hg4 HMV HDU
      go_wp2_with fail
      refine HMO.out.mono ?_
      rintro e w5 ⟨rfl, hk5, hkk5⟩
      have hg5 : ∀ j, Ks.good { K' with fds := setFd K'.fds 4 (K'.fds 3) } (setFd (setFd (setFd K'.fds 4 (K'.fds 3)) 4 none) m ((setFd K'.fds 4 (K'.fds 3)) 4) j) := fun j => by
        unfold setFd
        split
        · exact HMV4.out.rep.goodFds 4
        · split
          · trivial
          · rename_i hj4
            have h := HMV4.out.rep.goodFds j
            change Ks.good _ (setFd K'.fds 4 (K'.fds 3) j) at h
            unfold setFd at h
            rw [if_neg hj4] at h
            exact h
      have HK2 : Hid (∃ K2 : Ks, MV B w w5 K2 b0 k fb 1 [] 0 1 ∧ K2.kb = K'.kb ∧ K2.fds m = some (.file b0) ∧ K2.fds 3 = some (.file b0)) := by
        refine ⟨_, HMV4.out.fds hk5 hkk5 hg5, rfl, ?_, ?_⟩
        · show setFd _ m _ m = _
          unfold setFd
          rw [if_pos rfl, if_pos rfl]
          exact HF3.out
        · show setFd _ m _ 3 = _
          unfold setFd
          rw [if_neg (by omega), if_neg (by omega), if_neg (by omega)]
          exact HF3.out
      clear hk5 hkk5 hg5 HMV4 HMO HF3
      generalize K'.kb = kb at *
      obtain ⟨K2, hmv, rfl, hfm, hf3⟩ := HK2.out
      have HW1 : Hid (Calls Tryd.prog 19 #[.pointer (some ⟨K2.kb, 0, none⟩), .int .i64 m, .slice da dl.length dc] w5 fun e w' => MWPost B w K2 b0 k fb 1 (writeD [] 0 dl) (0 + dl.length) (1 + 1) e w') :=
        mv_write hmv HE.out.env.size m hm16 hfm (.inl ⟨rfl, rfl⟩) (by decide) (by simp) (by omega) _ HD.out
      have HFM := Lib.hid hfm
      have HF3 := Lib.hid hf3
      clear hmv hfm hf3 HK2
      go_wp2_with fail
      refine HW1.out.mono ?_
      rintro e w6 ⟨rfl, K3, hmv3, hkb3, hfds3, htb3⟩
      clear htb3
      rw [← hkb3] at *
      have hf3 : K3.fds 3 = some (.file b0) := hfds3 ▸ HF3.out
      have hfm : K3.fds m = some (.file b0) := hfds3 ▸ HFM.out
      have HW2 : Hid (Calls Tryd.prog 19 #[.pointer (some ⟨K3.kb, 0, none⟩), .int .i64 3, .slice ma ml.length mc] w6 fun e w' => MWPost B w K3 b0 k fb 1 (writeD (writeD [] 0 dl) (0 + dl.length) ml) (0 + dl.length + ml.length) (1 + 1 + 1) e w') :=
        mv_write hmv3 HE.out.env.size 3 (by decide) hf3 (.inl ⟨rfl, rfl⟩) (by decide) (by rw [show writeD [] 0 dl = dl from writeD_end [] dl]; omega) (by omega) _ HM.out
      clear HF3 HFM HW1
      have HF3 := Lib.hid hf3
      have HFM := Lib.hid hfm
      clear hf3 hfm hmv3 hkb3 hfds3
      go_wp2_with fail
      refine HW2.out.mono ?_
      rintro e w7 ⟨rfl, K4, hmv4, hkb4, hfds4, htb4⟩
      clear htb4
      rw [← hkb4] at *
      have hfm : K4.fds m = some (.file b0) := hfds4 ▸ HFM.out
      have HLEN : Hid (writeD (writeD [] 0 dl) (0 + dl.length) ml = dl ++ ml) := by
        show _ = _
        rw [show writeD [] 0 dl = dl from writeD_end [] dl, Nat.zero_add]
        exact writeD_end dl ml
      have HW3 : Hid (Calls Tryd.prog 19 #[.pointer (some ⟨K4.kb, 0, none⟩), .int .i64 m, .slice da dl.length dc] w7 fun e w' => MWPost B w K4 b0 k fb 1 (writeD (writeD (writeD [] 0 dl) (0 + dl.length) ml) (0 + dl.length + ml.length) dl) (0 + dl.length + ml.length + dl.length) (1 + 1 + 1 + 1) e w') :=
        mv_write hmv4 HE.out.env.size m hm16 hfm (.inl ⟨rfl, rfl⟩) (by decide) (by rw [HLEN.out, List.length_append]; omega) (by omega) _ HD.out
      clear HF3 HFM HW2 hfm hmv4 hkb4 hfds4
      go_wp2_with fail
      refine HW3.out.mono ?_
      rintro e w8 ⟨rfl, K5, hmv5, hkb5, hfds5, htb5⟩
      clear hfds5 htb5
      rw [← hkb5] at *
      have HDATA : Hid (writeD (writeD (writeD [] 0 dl) (0 + dl.length) ml) (0 + dl.length + ml.length) dl = dl ++ ml ++ dl) := by
        show _ = _
        rw [HLEN.out, Nat.zero_add, ← List.length_append]
        exact writeD_end (dl ++ ml) dl
      rw [HDATA.out] at hmv5
      have HTR := Lib.hid (kern_tree hmv5.rep.kern)
      obtain ⟨L, hL⟩ : ∃ L, L = dl ++ ml ++ dl := ⟨_, rfl⟩
      have HLX := Lib.hid hL
      rw [← hL] at hmv5
      have hLl : L.length ≤ 140737488355328 := by rw [hL]; simp; omega
      clear hL
      have HRD : Hid (Calls Tryd.prog 21 #[.pointer (some ⟨K5.T.tb, 0, none⟩), .string fName] w8 fun e w' => ReadOk w8 L e w') := by
        obtain ⟨d, hd, hdir, hdl⟩ := hmv5.node
        obtain ⟨rd, h1, h2, h3⟩ := hmv5.path
        rw [← hdl]
        exact tree_read fName w8 (HE.out.kept (Kept.of_below hmv5.below (fun _ => False)) (fun _ h => h.elim)) hmv5.rep.tree (by decide) k d (fileOf_f h1 h2 h3 hd hdir) hd (by rw [hdl]; exact hLl)
      have HB8 := Lib.hid hmv5.below
      clear hmv5 hkb5 HW3 HDATA HLEN
      go_wp2_with fail
      refine HTR.out.mono ?_
      rintro e w9 ⟨rfl, rfl⟩
      go_wp2_with fail
      refine HRD.out.mono ?_
      intro e w10 hp
      obtain ⟨v, rfl, hown, hb10⟩ := hp
      obtain ⟨va, vc, rfl⟩ := owns_form hown
      have HBX := Lib.hid (below_trans HB8.out hb10)
      have HSX := Lib.hid (Src.of_owns hown)
      clear hown hb10 HRD HTR HB8
      have q1 := run_str_src HSX.out
      have q2 := run_str_src (HD.out.kept (Kept.of_below HBX.out (fun _ => False)) (fun _ _ h => h))
      have q3 := run_str_src (HM.out.kept (Kept.of_below HBX.out (fun _ => False)) (fun _ _ h => h))
      have HAW2 := Lib.hid (awake_any w10 (HE.out.below HBX.out))
      have hq : strOf L = strOf dl ++ strOf ml ++ strOf dl := by rw [HLX.out, strOf_append, strOf_append]
      rw [hq] at q1
      clear hq
      have hs1 : (strOf dl).size ≤ 1000 := by rw [strOf_size]; exact h1
      have hs2 : (strOf ml).size ≤ 1000 := by rw [strOf_size]; exact h2
      clear HAW hLl
      go_wp2_with fail
      refine HAW2.out.mono ?_
      rintro e w11 ⟨rfl, hb11⟩
      have HB11 := Lib.hid (below_trans HBX.out hb11)
      clear hb11
      go_wp2_with fail
      go_ret
      exact ⟨rfl, HB11.out⟩
    · go_enter Tryd.func4, Tryd.ntmps4
      have hi1 : (dl.length : Int) ≤ 1000 := by omega
      have hi2 : (1000 : Int) < ml.length := by omega
      go_wp2_with fail
      refine HAW.out.mono ?_
      rintro e w11 ⟨rfl, hb11⟩
      have HB11 := Lib.hid hb11
      clear hb11
      go_wp2_with fail
      go_ret
      exact ⟨rfl, HB11.out⟩
  · go_enter Tryd.func4, Tryd.ntmps4
    have hi1 : (1000 : Int) < dl.length := by omega
    go_wp2_with fail
    refine HAW.out.mono ?_
    rintro e w11 ⟨rfl, hb11⟩
    have HB11 := Lib.hid hb11
    clear hb11
    go_wp2_with fail
    go_ret
    exact ⟨rfl, HB11.out⟩
end Go.Proofs.YtiejfbkbjahcgaaDoor
