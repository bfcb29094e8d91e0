/-
  KernAdds's walk.
-/
import Derived.Test.YtiejfbkbjahcgaaDoorKAddsW
namespace Go.Proofs.YtiejfbkbjahcgaaDoor
open Go Go.RowKit

set_option maxRecDepth 100000 in
set_option maxHeartbeats 4000000 in
theorem kernAdds_any {E : Nat → Addr} {B0 : Nat} (w : World) (hE : Ctx E B0 w) (xa : Option Addr) (xc : Nat) (xl : List UInt8) (hx : Src w (.slice xa xl.length xc) xl) (_hxl : xl.length ≤ 9223372036854775807)
    (ya : Option Addr) (yc : Nat) (yl : List UInt8) (hy : Src w (.slice ya yl.length yc) yl) (_hyl : yl.length ≤ 9223372036854775807)
    (ta : Option Addr) (tc : Nat) (tl : List Bool) (ht : BSrc w (.slice ta tl.length tc) tl) (_htl : tl.length ≤ 9223372036854775807) :
    Calls Tryd.prog 8 #[.slice xa xl.length xc, .slice ya yl.length yc, .slice ta tl.length tc] w fun e w' => AwPost w e w' := by
  have HE := Lib.hid hE.raise2
  have HX := Lib.hid hx
  have HY := Lib.hid hy
  have HT := Lib.hid ht
  clear hE hx hy ht
  have HAW := Lib.hid (awake_any w HE.out)
  by_cases hl1 : xl.length ≤ 500
  · by_cases hl2 : yl.length ≤ 500
    · have hi1 : (xl.length : Int) ≤ 500 := by omega
      have hi2 : (yl.length : Int) ≤ 500 := by omega
      clear HAW
      go_enter Tryd.func8, Tryd.ntmps8
      go_wp2_with fail
      refine (tree_new w).mono ?_
      intro e w1 hp
      obtain ⟨rfl, hrep1, hb1, hs1⟩ := hp
      have HR1 := Lib.hid (hrep1 w.heap.size (Nat.le_refl _))
      have HB1 := Lib.hid hb1
      clear hrep1 hb1 hs1
      have HN : Hid (Calls Tryd.prog 12 #[.pointer (some ⟨w.heap.size + 2, 0, none⟩), .slice none 0 0] w1 fun e w' => KNewPost w.heap.size w1 (newTr (w.heap.size + 2) (w.heap.size + 1) w.heap.size) [] e w') :=
        kern_new_given w1 _ [] (.inl ⟨rfl, rfl⟩) (by simp) HB1.out.size HR1.out
      clear HR1
      go_wp2_with fail
      obtain ⟨tb, htb⟩ : ∃ tb, tb = w.heap.size + 2 := ⟨_, rfl⟩
      rw [← htb] at HN ⊢
      refine HN.out.mono ?_
      intro e w2 hp
      obtain ⟨K, rfl, hK, hT, hfds, hil, hol, hel, hfl, hb2, hown⟩ := hp
      have HB2 := Lib.hid (below_trans HB1.out hb2)
      have HKR := Lib.hid hK
      have HTR := Lib.hid hT
      have HFD := Lib.hid hfds
      have HO : Hid (Calls Tryd.prog 17 #[.pointer (some ⟨K.kb, 0, none⟩), .string fName, .int .i64 2] w2 fun e w' => KOpenNew w.heap.size w2 K (w.heap.size + 1) { dir := true, bv := .slice none 0 0, data := [], names := [], mb := w.heap.size, links := 0, tick := 0 } fName 2 3 e w') := by
        refine kopen_new fName 2 (.inr rfl) w2 (HE.out.below HB2.out) HKR.out (by decide) ⟨some (w.heap.size + 1), fName, none⟩ (by rw [hT]; exact find_f _ _ _) rfl (by rw [hT]; show (1 : Int) < 200; decide) (by rw [hT]; show (0 : Int) ≤ 1; decide) (by rw [hT]; exact Int.le_refl 0) (by rw [hT]; show (0 : Int) ≤ _; decide) 3 (by rw [hfds]; rfl) (w.heap.size + 1) _ rfl (by rw [hT]; exact newTr_root _ _ _) rfl rfl
      clear hK hT hfds hil hol hel hfl hb2 hown HN htb HB1
      go_wp2_with fail
      refine HO.out.mono ?_
      intro e w3 hp
      obtain ⟨rfl, T3, b3, f3, kk, _, hkp3, ht3⟩ := kp_new HKR.out HTR.out HB2.out HB2.out.size hp
      have HK3 := Lib.hid hkp3
      have HT3 := Lib.hid ht3
      have HO2 : Hid (Calls Tryd.prog 17 #[.pointer (some ⟨K.kb, 0, none⟩), .string fName, .int .i64 2] w3 fun e w' => KPOpen w.heap.size w kk [] 1 (K.opened T3 3 b3 ⟨f3, 2, 0, kk⟩) 2 4 w3 e w') :=
        hkp3.openAdd (HE.out.below hkp3.below) (by decide) (by decide) 4 (by show freeFd (setFd K.fds 3 _) 0 = _; rw [HFD.out]; rfl)
      clear hp hkp3 ht3 HO HKR HTR HB2
      go_wp2_with fail
      refine HO2.out.mono ?_
      rintro e w4 ⟨rfl, T4, b4, f4, hb4, hkp4, ht4⟩
      have HK4 := Lib.hid hkp4
      have HT4 := Lib.hid ht4
      have HB4 := Lib.hid hb4
      have HO3 : Hid (Calls Tryd.prog 17 #[.pointer (some ⟨K.kb, 0, none⟩), .string fName, .int .i64 0] w4 fun e w' => KPOpen w.heap.size w kk [] 2 ((K.opened T3 3 b3 ⟨f3, 2, 0, kk⟩).opened T4 4 b4 ⟨f4, 2, 0, kk⟩) 0 5 w4 e w') :=
        hkp4.openRead (HE.out.below hkp4.below) 5 (by show freeFd (setFd (setFd K.fds 3 _) 4 _) 0 = _; rw [HFD.out]; rfl)
      clear hkp4 ht4 hb4 HO2
      go_wp2_with fail
      refine HO3.out.mono ?_
      rintro e w5 ⟨rfl, T5, b5, f5, hb5, hkp5, ht5⟩
      have HA0 : Hid (∃ K', KA w.heap.size w K.kb tb b3 b4 b5 kk 0 [] (3 + (0 : Nat)) K' w5 ∧ Row w.heap.size K' (.slice none 0 0) [] w5) :=
        ⟨_, ka_made HK3.out HB4.out HK4.out hb5 hkp5 HT3.out HT4.out ht5, World.ownsRow_nil _ _ _ _, fun r hr => by cases hr⟩
      clear hb5 hkp5 ht5 HO3 HK3 HK4 HT3 HT4 HB4 HFD
      generalize K.kb = kb at *
      go_wp2_with fail
      go_loopw [15, 62] (fun av idx wr => ∃ (k : Nat) (l : List UInt8), k ≤ tl.length ∧ k ≤ 30 ∧ l.length ≤ 500 * k ∧ idx = .int .i64 k ∧ Hid (∃ K', KA w.heap.size w kb tb b3 b4 b5 kk 0 l (3 + k) K' wr ∧ Row w.heap.size K' av l wr)) (fun _ idx _ => tl.length - (intOf idx).toNat)
      case atStart => exact ⟨0, [], Nat.zero_le _, by decide, by simp, rfl, HA0.out⟩
      case round =>
        clear HA0
        obtain ⟨k, l, hk, hk30, hlk, rfl, hai⟩ := hrel
        obtain ⟨K', hka, hrow⟩ := hai.out
        have HKA := Lib.hid hka
        have HRW := Lib.hid hrow
        obtain ⟨oa, oc, rfl⟩ := owns_form hrow.1
        clear hka hrow hai
        by_cases hgo : k < tl.length ∧ k < 30
        · obtain ⟨hlt, h30⟩ := hgo
          have hki : (k : Int) < tl.length := by omega
          have hk30i : (k : Int) < 30 := by omega
          obtain ⟨ad, rfl, hcell⟩ := bools_at HT.out HKA.out.kp.below hlt
          cases htk : tl[k] with
          | false =>
            rw [htk] at hcell
            have HW : Hid (Calls Tryd.prog 19 #[.pointer (some ⟨kb, 0, none⟩), .int .i64 3, .slice xa xl.length xc] wr fun e w' => KAW w.heap.size w kb tb b3 b4 b5 kk 0 (l ++ xl) (3 + k) K' wr e w') :=
              HKA.out.write3 (by omega) _ xl (src_up HX.out HKA.out.kp.below) (src_low2 HX.out) (by omega)
            go_wp2_with fail
            refine HW.out.mono ?_
            rintro e w6 ⟨rfl, K6, hka6, hk6, hf6⟩
            have HKA6 := Lib.hid hka6
            have HRW6 := Lib.hid (HRW.out.wrote hk6 hf6)
            have HS6 := Lib.hid (src_up HX.out hka6.kp.below)
            clear hka6 hk6 hf6 HW HKA HRW htk
            go_wp2_with (at_builtin; refine wpList_append_src_at rfl _ _ rfl w.heap.size (.slice oa l.length oc) l.length (u8s l) rfl HRW6.out.1 (.slice xa xl.length xc) xl rfl HS6.out (by omega) HKA6.out.kp.base ?_)
            intro v' w7 hown hg hat
            obtain ⟨hr7, hk7⟩ := HRW6.out.app HKA6.out hown hg hat
            have HR7 := Lib.hid hr7
            have HK7 : Hid (KA w.heap.size w kb tb b3 b4 b5 kk 0 (l ++ xl) (3 + ((k + 1 : Nat) : Int)) K6 w7) := by
              have e : 3 + ((k + 1 : Nat) : Int) = 3 + (k : Int) + 1 := by omega
              rw [e]
              exact hk7
            clear hown hg hat hr7 hk7 HKA6 HRW6 HS6
            go_wp2_with fail
            go_roundw
            case rel => exact ⟨k + 1, l ++ xl, by omega, by omega, by rw [List.length_append]; omega, by go_num, K6, HK7.out, HR7.out⟩
            case measure => simp [intOf]; omega
          | true =>
            rw [htk] at hcell
            have HW : Hid (Calls Tryd.prog 19 #[.pointer (some ⟨kb, 0, none⟩), .int .i64 4, .slice ya yl.length yc] wr fun e w' => KAW w.heap.size w kb tb b3 b4 b5 kk 0 (l ++ yl) (3 + k) K' wr e w') :=
              HKA.out.write4 (by omega) _ yl (src_up HY.out HKA.out.kp.below) (src_low2 HY.out) (by omega)
            go_wp2_with fail
            refine HW.out.mono ?_
            rintro e w6 ⟨rfl, K6, hka6, hk6, hf6⟩
            have HKA6 := Lib.hid hka6
            have HRW6 := Lib.hid (HRW.out.wrote hk6 hf6)
            have HS6 := Lib.hid (src_up HY.out hka6.kp.below)
            clear hka6 hk6 hf6 HW HKA HRW htk
            go_wp2_with (at_builtin; refine wpList_append_src_at rfl _ _ rfl w.heap.size (.slice oa l.length oc) l.length (u8s l) rfl HRW6.out.1 (.slice ya yl.length yc) yl rfl HS6.out (by omega) HKA6.out.kp.base ?_)
            intro v' w7 hown hg hat
            obtain ⟨hr7, hk7⟩ := HRW6.out.app HKA6.out hown hg hat
            have HR7 := Lib.hid hr7
            have HK7 : Hid (KA w.heap.size w kb tb b3 b4 b5 kk 0 (l ++ yl) (3 + ((k + 1 : Nat) : Int)) K6 w7) := by
              have e : 3 + ((k + 1 : Nat) : Int) = 3 + (k : Int) + 1 := by omega
              rw [e]
              exact hk7
            clear hown hg hat hr7 hk7 HKA6 HRW6 HS6
            go_wp2_with fail
            go_roundw
            case rel => exact ⟨k + 1, l ++ yl, by omega, by omega, by rw [List.length_append]; omega, by go_num, K6, HK7.out, HR7.out⟩
            case measure => simp [intOf]; omega
        · have hll : l.length ≤ 15000 := by omega
          have HR1 : Hid (Calls Tryd.prog 31 #[.pointer (some ⟨kb, 0, none⟩), .int .i64 5, .int .i64 1048576] wr fun e w' => KAD w.heap.size w kb tb b3 b4 b5 kk 0 l (3 + k) K' l wr e w') := by
            have h := HKA.out.read 1048576 (by decide) (by decide) (by omega)
            rw [readL_all l (by omega)] at h
            exact h
          by_cases hlt : k < tl.length
          · have hki : (k : Int) < tl.length := by omega
            have hk30i : (30 : Int) ≤ k := by omega
            obtain ⟨ad, rfl, hcell⟩ := bools_at HT.out HKA.out.kp.below hlt
            go_wp2_with fail
            refine HR1.out.mono ?_
            rintro e w6 ⟨v6, rfl, hown6, K6, hka6, hk6, hf6⟩
            obtain ⟨va6, vc6, rfl⟩ := owns_form hown6
            have HO6 := Lib.hid hown6
            have HKA6 := Lib.hid hka6
            have HF6 := Lib.hid hf6
            have HRW6 := Lib.hid (HRW.out.wrote hk6 (fun x hx => .inl (hf6 x hx)))
            have HTR := Lib.hid (hka6.tread (HE.out.below hka6.kp.below) (by omega))
            clear hown6 hka6 hk6 hf6 HR1 HRW
            go_wp2_with fail
            refine HTR.out.mono ?_
            rintro e w7 ⟨v7, rfl, hown7, hb7⟩
            obtain ⟨va7, vc7, rfl⟩ := owns_form hown7
            have HO7 := Lib.hid hown7
            have HB7 := Lib.hid hb7
            have HKA7 := Lib.hid (HKA6.out.next hb7)
            have HRW7 := Lib.hid (HRW6.out.next hb7)
            have HR3 : Hid (Calls Tryd.prog 31 #[.pointer (some ⟨kb, 0, none⟩), .int .i64 5, .int .i64 1] w7 fun e w' => KAD w.heap.size w kb tb b3 b4 b5 kk (0 + l.length) l (3 + k + 1) K6 [] w7 e w') := by
              have h := HKA7.out.read 1 (by omega) (by decide) (by omega)
              rw [readL_end l] at h
              exact h
            clear hown7 hb7 HTR HRW6
            go_wp2_with fail
            refine HR3.out.mono ?_
            rintro e w8 ⟨v8, rfl, hown8, K8, hka8, hk8, hf8⟩
            rw [List.length_nil] at hown8
            obtain ⟨va8, vc8, rfl⟩ := owns_form hown8
            have HRW8 := Lib.hid (HRW7.out.wrote hk8 (fun x hx => .inl (hf8 x hx)))
            have HSS := Lib.hid (rows_last HKA.out.kp.rep HKA6.out HF6.out HO6.out HB7.out HO7.out hk8)
            have HQ1 := Lib.hid (bytes_true va6 vc6 oa oc w8 HSS.out.1 (Src.of_owns HRW8.out.1))
            have HQ2 := Lib.hid (bytes_true va7 vc7 oa oc w8 HSS.out.2 (Src.of_owns HRW8.out.1))
            have HAW8 := Lib.hid (awake_any w8 (HE.out.below hka8.kp.below))
            have HB8 := Lib.hid hka8.kp.below
            clear hown8 hka8 hk8 hf8 HRW8 HSS HR3 HRW7 HKA7 HKA6 HKA HF6 HO6 HB7 HO7
            go_wp2_with fail
            refine HQ1.out.mono ?_
            rintro e w9 ⟨rfl, rfl⟩
            go_wp2_with fail
            refine HQ2.out.mono ?_
            rintro e w10 ⟨rfl, rfl⟩
            go_wp2_with fail
            refine HAW8.out.mono ?_
            rintro e w11 ⟨rfl, hb11⟩
            have HB11 := Lib.hid (below_trans HB8.out hb11)
            clear hb11
            go_wp2_with fail
            go_ret
            exact ⟨rfl, HB11.out⟩
          · have hki : (tl.length : Int) ≤ k := by omega
            go_wp2_with fail
            refine HR1.out.mono ?_
            rintro e w6 ⟨v6, rfl, hown6, K6, hka6, hk6, hf6⟩
            obtain ⟨va6, vc6, rfl⟩ := owns_form hown6
            have HO6 := Lib.hid hown6
            have HKA6 := Lib.hid hka6
            have HF6 := Lib.hid hf6
            have HRW6 := Lib.hid (HRW.out.wrote hk6 (fun x hx => .inl (hf6 x hx)))
            have HTR := Lib.hid (hka6.tread (HE.out.below hka6.kp.below) (by omega))
            clear hown6 hka6 hk6 hf6 HR1 HRW
            go_wp2_with fail
            refine HTR.out.mono ?_
            rintro e w7 ⟨v7, rfl, hown7, hb7⟩
            obtain ⟨va7, vc7, rfl⟩ := owns_form hown7
            have HO7 := Lib.hid hown7
            have HB7 := Lib.hid hb7
            have HKA7 := Lib.hid (HKA6.out.next hb7)
            have HRW7 := Lib.hid (HRW6.out.next hb7)
            have HR3 : Hid (Calls Tryd.prog 31 #[.pointer (some ⟨kb, 0, none⟩), .int .i64 5, .int .i64 1] w7 fun e w' => KAD w.heap.size w kb tb b3 b4 b5 kk (0 + l.length) l (3 + k + 1) K6 [] w7 e w') := by
              have h := HKA7.out.read 1 (by omega) (by decide) (by omega)
              rw [readL_end l] at h
              exact h
            clear hown7 hb7 HTR HRW6
            go_wp2_with fail
            refine HR3.out.mono ?_
            rintro e w8 ⟨v8, rfl, hown8, K8, hka8, hk8, hf8⟩
            rw [List.length_nil] at hown8
            obtain ⟨va8, vc8, rfl⟩ := owns_form hown8
            have HRW8 := Lib.hid (HRW7.out.wrote hk8 (fun x hx => .inl (hf8 x hx)))
            have HSS := Lib.hid (rows_last HKA.out.kp.rep HKA6.out HF6.out HO6.out HB7.out HO7.out hk8)
            have HQ1 := Lib.hid (bytes_true va6 vc6 oa oc w8 HSS.out.1 (Src.of_owns HRW8.out.1))
            have HQ2 := Lib.hid (bytes_true va7 vc7 oa oc w8 HSS.out.2 (Src.of_owns HRW8.out.1))
            have HAW8 := Lib.hid (awake_any w8 (HE.out.below hka8.kp.below))
            have HB8 := Lib.hid hka8.kp.below
            clear hown8 hka8 hk8 hf8 HRW8 HSS HR3 HRW7 HKA7 HKA6 HKA HF6 HO6 HB7 HO7
            go_wp2_with fail
            refine HQ1.out.mono ?_
            rintro e w9 ⟨rfl, rfl⟩
            go_wp2_with fail
            refine HQ2.out.mono ?_
            rintro e w10 ⟨rfl, rfl⟩
            go_wp2_with fail
            refine HAW8.out.mono ?_
            rintro e w11 ⟨rfl, hb11⟩
            have HB11 := Lib.hid (below_trans HB8.out hb11)
            clear hb11
            go_wp2_with fail
            go_ret
            exact ⟨rfl, HB11.out⟩
    · have hi1 : (xl.length : Int) ≤ 500 := by omega
      have hi2 : (500 : Int) < yl.length := by omega
      go_enter Tryd.func8, Tryd.ntmps8
      go_wp2_with fail
      refine HAW.out.mono ?_
      rintro e w3 ⟨rfl, hb3⟩
      have HB3 := Lib.hid hb3
      clear hb3
      go_wp2_with fail
      go_ret
      exact ⟨rfl, HB3.out⟩
  · have hi1 : (500 : Int) < xl.length := by omega
    go_enter Tryd.func8, Tryd.ntmps8
    go_wp2_with fail
    refine HAW.out.mono ?_
    rintro e w3 ⟨rfl, hb3⟩
    have HB3 := Lib.hid hb3
    clear hb3
    go_wp2_with fail
    go_ret
    exact ⟨rfl, HB3.out⟩
end Go.Proofs.YtiejfbkbjahcgaaDoor
