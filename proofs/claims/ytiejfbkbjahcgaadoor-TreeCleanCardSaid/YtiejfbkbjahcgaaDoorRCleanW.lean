/-
  pidginref16.Clean's walk.
-/
import Derived.Test.YtiejfbkbjahcgaaDoorRClean
import Derived.Lib.Hide
namespace Go.Proofs.YtiejfbkbjahcgaaDoor
open Go Go.RowKit

/-- What the reference's Clean leaves. -/
def RCPost (w : World) (s : ByteArray) (e : Ending) (w' : World) : Prop :=
  Below w.heap.size w w' ∧ ((clean s = none ∧ e = .returned (.tuple #[.slice none 0 0, .bool false])) ∨ ∃ v l, clean s = some l ∧ e = .returned (.tuple #[v, .bool true]) ∧ StrsAt w' w.heap.size v l)

theorem clean_none {s : ByteArray} (h : badPath s = true) : clean s = none := by unfold clean; rw [if_pos h]

set_option maxRecDepth 100000 in
set_option maxHeartbeats 2000000 in
theorem rclean_any (s : ByteArray) (w : World) (hsz : s.size ≤ 9223372036854775807) :
    Calls Tryd.prog 23 #[.string s] w fun e w' => RCPost w s e w' := by
  obtain ⟨i0, hi9, hz0, hz1, hz2⟩ := info_parts infoStr
  by_cases h0 : s.toList.isEmpty = true
  · have HB : Hid (badPath s = true) := by
      have h1 : s.size = 0 := by
        rw [ByteArray.toList_eq] at h0
        have := Lib.size_eq s
        have h2 : s.data.toList = [] := by simpa using h0
        rw [h2] at this
        exact this
      unfold badPath
      rw [h1]
      rfl
    go_enter Tryd.func23, Tryd.ntmps23
    go_wp2_with fail
    go_ret2
    exact ⟨Below.refl _ _, .inl ⟨clean_none HB.out, rfl⟩⟩
  · have h0' : s.toList.isEmpty = false := by simpa using h0
    have HNE : Hid (1 ≤ s.size) := by
      show 1 ≤ s.size
      have := Lib.size_eq s
      rw [ByteArray.toList_eq] at h0'
      cases h : s.data.toList with
      | nil => rw [h] at h0'; cases h0'
      | cons b l => rw [h] at this; simp at this; omega
    by_cases h1 : s.size ≤ 256
    · have h1i : (s.size : Int) ≤ 256 := by omega
      have HS : Hid (RC s 0 0 []) := RC.start s
      have HSE : Hid (s.size = s.data.toList.length) := Lib.size_eq s
      go_enter Tryd.func23, Tryd.ntmps23
      go_wp2_with fail
      go_loopw [4, 5, 6] (fun ov fv iv wr => ∃ (i frm : Nat) (out : List ByteArray), i ≤ s.size + 1 ∧ frm ≤ i ∧ fv = .int .i64 frm ∧ iv = .int .i64 i ∧ Hid (RC s i frm out) ∧ Hid (out.length ≤ i) ∧ Hid (wr.ownsRow w.heap.size 9 1 ov out.length (out.map .string)) ∧ Hid (Below w.heap.size w wr)) (fun _ _ iv _ => s.size + 2 - (intOf iv).toNat)
      case atStart => exact ⟨0, 0, [], by omega, Nat.le_refl _, rfl, rfl, HS.out, Nat.le_refl _, World.ownsRow_nil _ _ _ _, Below.refl _ _⟩
      case round =>
        clear HS
        obtain ⟨i, frm, out, hi, hfi, rfl, rfl, hrc, HLEN, hown, hbel⟩ := hrel
        by_cases hlt : i < s.size
        · have hii : (i : Int) < s.size := by omega
          have hil : (i : Int) ≤ s.size := by omega
          have HGE : Hid (∀ (h : i < s.data.toList.length), s.data.toList[i] = s[i]) := fun h => by rw [Array.getElem_toList]; rfl
          by_cases hc0 : s[i] = 0
          · have f0 : (((s[i]).toNat : Int) == 0) = true := by rw [hc0]; rfl
            have HBD : Hid (badPath s = true) := bad_zero (i := i) (by rw [← HSE.out]; exact hlt) ((HGE.out (by rw [← HSE.out]; exact hlt)).trans hc0)
            clear hc0
            go_wp2_with fail
            go_ret2
            exact ⟨hbel.out, .inl ⟨clean_none HBD.out, rfl⟩⟩
          · have f0 : (((s[i]).toNat : Int) == 0) = false := by
              have : ¬ (s[i]).toNat = 0 := fun h => hc0 (UInt8.toNat_inj.1 h)
              simpa using this
            by_cases hc47 : s[i] = 47
            · have f47 : (((s[i]).toNat : Int) != 47) = false := by rw [hc47]; rfl
              have HCUT : Hid (RC s (i + 1) (i + 1) (step out (s.extract frm i))) := hrc.out.cut (by omega) (fun h => (HGE.out h).trans hc47)
              clear hc0 hc47 HGE
              have HE0 : Hid (RC s (i + 1) (i + 1) (step out (s.extract frm i))) := HCUT
              have hol : out.length ≤ 300 := by have := HLEN.out; omega
              have HLEN1 : Hid ((step out (s.extract frm i)).length ≤ i + 1) := by show _ ≤ _; have := step_length out (s.extract frm i); have := HLEN.out; omega
              have HSZ : Hid (w.heap.size ≤ wr.heap.size) := hbel.out.size
              clear HCUT hrc
              obtain ⟨x, hx⟩ : ∃ x, s.extract frm i = x := ⟨_, rfl⟩
              rw [hx] at HE0 HLEN1
              by_cases hA : x.toList.isEmpty = true
              · have HE : Hid (step out x = out) := step_empty hA
                go_wp2_with fail
                go_roundw
                case rel => exact ⟨i + 1, i + 1, out, by omega, Nat.le_refl _, by go_num, by go_num, HE.out ▸ HE0.out, HE.out ▸ HLEN1.out, hown.out, hbel.out⟩
                case measure => simp [intOf]; omega
              · have hA' : x.toList.isEmpty = false := by simpa using hA
                clear hA
                by_cases hB : (x.toList == [46]) = true
                · have HE : Hid (step out x = out) := step_dot hA' hB
                  go_wp2_with fail
                  go_roundw
                  case rel => exact ⟨i + 1, i + 1, out, by omega, Nat.le_refl _, by go_num, by go_num, HE.out ▸ HE0.out, HE.out ▸ HLEN1.out, hown.out, hbel.out⟩
                  case measure => simp [intOf]; omega
                · have hB' : (x.toList == [46]) = false := by simpa using hB
                  clear hB
                  by_cases hC : (x.toList == [46, 46]) = true
                  · have HE : Hid (step out x = out.dropLast) := step_dots hA' hB' hC
                    rcases hown.out.2 with ⟨rfl, hn0⟩ | ⟨g, cap, cur, rfl, q1, q2, q3, q4, q5, q6⟩
                    · have HY : Hid (out = []) := List.eq_nil_of_length_eq_zero hn0
                      clear hn0
                      go_wp2_with fail
                      go_roundw
                      case rel =>
                        refine ⟨i + 1, i + 1, [], by omega, Nat.le_refl _, by go_num, by go_num, ?_, Nat.zero_le _, World.ownsRow_nil _ _ _ _, hbel.out⟩
                        have h := HE0.out
                        rw [HE.out, HY.out] at h
                        exact h
                      case measure => simp [intOf]; omega
                    · have HO : Hid (∀ m, m ≤ out.length → wr.ownsRow w.heap.size 9 1 (.slice (some ⟨g, 0, none⟩) m cap) m ((out.map Value.string).take m)) := fun m hm => ownsRow_less hown.out m hm
                      clear q1 q2 q5 q6
                      go_wp2_with fail
                      go_roundw
                      case rel =>
                        refine ⟨i + 1, i + 1, out.dropLast, by omega, Nat.le_refl _, by go_num, by go_num, HE.out ▸ HE0.out, HE.out ▸ HLEN1.out, ?_, hbel.out⟩
                        show wr.ownsRow _ _ _ _ _ _
                        have hm : (max 0 ((out.length : Int) - 1)).toNat = out.length - 1 := by omega
                        rw [hm, List.map_dropLast, List.length_dropLast, List.dropLast_eq_take, List.length_map]
                        exact HO.out _ (by omega)
                      case measure => simp [intOf]; omega
                  · have hC' : (x.toList == [46, 46]) = false := by simpa using hC
                    clear hC
                    have HE : Hid (step out x = out ++ [x]) := step_more hA' hB' hC'
                    go_wp2_with (at_builtin; refine wpList_append_own _ rfl _ _ 42 rfl w.heap.size 9 i0 (.string ByteArray.empty) 1 16 Tryd.underlying42 hi9 hz0 hz1 hz2 rfl (by decide) _ _ _ rfl (hown.out.alloc _) ⟨wr.heap.size, 0, none⟩ 1 1 [.string x] rfl rfl ?c1 ?c2 ?c3 ?c4 ?c5 ?_)
                    first
                      | case c1 =>
                          intro j u hu
                          cases j with
                          | zero => simp at hu; subst hu; simp [Addr.add]
                          | succ j => simp at hu
                      | skip
                    case c2 => first | (intro u hu; simp at hu; subst hu; rfl) | rfl
                    case c3 => unfold maxLen; omega
                    case c4 => omega
                    case c5 => have := HSZ.out; simp; omega
                    intro v' w2 hown2 hgrow _
                    have HO : Hid (w2.ownsRow w.heap.size 9 1 v' (out.length + 1) (List.map Value.string out ++ [Value.string x])) := hown2
                    have HN : Hid (Below w.heap.size w w2) := by
                      have h1 : Below w.heap.size w (wr.alloc (.cells #[.string x] 9)) := hbel.out.alloc HSZ.out _
                      refine h1.grown hgrow (by have := HSZ.out; simp; omega) (fun q hq => (hown.out.lt q hq).1)
                    clear hown2 hgrow
                    go_wp2_with fail
                    go_roundw
                    case rel =>
                      refine ⟨i + 1, i + 1, out ++ [x], by omega, Nat.le_refl _, by go_num, by go_num, HE.out ▸ HE0.out, HE.out ▸ HLEN1.out, ?_, HN.out⟩
                      show w2.ownsRow _ _ _ _ _ _
                      rw [List.length_append, List.map_append]
                      exact HO.out
                    case measure => simp [intOf]; omega
            · have f47 : (((s[i]).toNat : Int) != 47) = true := by
                have : ¬ (s[i]).toNat = 47 := fun h => hc47 (UInt8.toNat_inj.1 h)
                have h2 : ¬ ((s[i]).toNat : Int) = 47 := by omega
                simpa using h2
              have HL : Hid (RC s (i + 1) frm out) := hrc.out.letter (by rw [← HSE.out]; exact hlt) (by rw [HGE.out]; exact hc0) (by rw [HGE.out]; exact hc47)
              have HLEN1 : Hid (out.length ≤ i + 1) := Nat.le_succ_of_le HLEN.out
              clear hc0 hc47 HGE
              go_wp2_with fail
              go_roundw
              case rel => exact ⟨i + 1, frm, out, by omega, by omega, rfl, by go_num, HL.out, HLEN1.out, hown.out, hbel.out⟩
              case measure => simp [intOf]; omega
        · by_cases hle : i ≤ s.size
          · have hin : (i : Int) = s.size := by omega
            have hil : (i : Int) ≤ s.size := by omega
            have hii : ¬ (i : Int) < s.size := by omega
            have HCUT : Hid (RC s (i + 1) (i + 1) (step out (s.extract frm i))) := hrc.out.cut (by omega) (fun h => absurd h (by rw [← HSE.out]; omega))
            have HE0 : Hid (RC s (i + 1) (i + 1) (step out (s.extract frm i))) := HCUT
            have hol : out.length ≤ 300 := by have := HLEN.out; omega
            have HLEN1 : Hid ((step out (s.extract frm i)).length ≤ i + 1) := by show _ ≤ _; have := step_length out (s.extract frm i); have := HLEN.out; omega
            have HSZ : Hid (w.heap.size ≤ wr.heap.size) := hbel.out.size
            clear HCUT hrc hin
            obtain ⟨x, hx⟩ : ∃ x, s.extract frm i = x := ⟨_, rfl⟩
            rw [hx] at HE0 HLEN1
            by_cases hA : x.toList.isEmpty = true
            · have HE : Hid (step out x = out) := step_empty hA
              go_wp2_with fail
              go_roundw
              case rel => exact ⟨i + 1, i + 1, out, by omega, Nat.le_refl _, by go_num, by go_num, HE.out ▸ HE0.out, HE.out ▸ HLEN1.out, hown.out, hbel.out⟩
              case measure => simp [intOf]; omega
            · have hA' : x.toList.isEmpty = false := by simpa using hA
              clear hA
              by_cases hB : (x.toList == [46]) = true
              · have HE : Hid (step out x = out) := step_dot hA' hB
                go_wp2_with fail
                go_roundw
                case rel => exact ⟨i + 1, i + 1, out, by omega, Nat.le_refl _, by go_num, by go_num, HE.out ▸ HE0.out, HE.out ▸ HLEN1.out, hown.out, hbel.out⟩
                case measure => simp [intOf]; omega
              · have hB' : (x.toList == [46]) = false := by simpa using hB
                clear hB
                by_cases hC : (x.toList == [46, 46]) = true
                · have HE : Hid (step out x = out.dropLast) := step_dots hA' hB' hC
                  rcases hown.out.2 with ⟨rfl, hn0⟩ | ⟨g, cap, cur, rfl, q1, q2, q3, q4, q5, q6⟩
                  · have HY : Hid (out = []) := List.eq_nil_of_length_eq_zero hn0
                    clear hn0
                    go_wp2_with fail
                    go_roundw
                    case rel =>
                      refine ⟨i + 1, i + 1, [], by omega, Nat.le_refl _, by go_num, by go_num, ?_, Nat.zero_le _, World.ownsRow_nil _ _ _ _, hbel.out⟩
                      have h := HE0.out
                      rw [HE.out, HY.out] at h
                      exact h
                    case measure => simp [intOf]; omega
                  · have HO : Hid (∀ m, m ≤ out.length → wr.ownsRow w.heap.size 9 1 (.slice (some ⟨g, 0, none⟩) m cap) m ((out.map Value.string).take m)) := fun m hm => ownsRow_less hown.out m hm
                    clear q1 q2 q5 q6
                    go_wp2_with fail
                    go_roundw
                    case rel =>
                      refine ⟨i + 1, i + 1, out.dropLast, by omega, Nat.le_refl _, by go_num, by go_num, HE.out ▸ HE0.out, HE.out ▸ HLEN1.out, ?_, hbel.out⟩
                      show wr.ownsRow _ _ _ _ _ _
                      have hm : (max 0 ((out.length : Int) - 1)).toNat = out.length - 1 := by omega
                      rw [hm, List.map_dropLast, List.length_dropLast, List.dropLast_eq_take, List.length_map]
                      exact HO.out _ (by omega)
                    case measure => simp [intOf]; omega
                · have hC' : (x.toList == [46, 46]) = false := by simpa using hC
                  clear hC
                  have HE : Hid (step out x = out ++ [x]) := step_more hA' hB' hC'
                  go_wp2_with (at_builtin; refine wpList_append_own _ rfl _ _ 42 rfl w.heap.size 9 i0 (.string ByteArray.empty) 1 16 Tryd.underlying42 hi9 hz0 hz1 hz2 rfl (by decide) _ _ _ rfl (hown.out.alloc _) ⟨wr.heap.size, 0, none⟩ 1 1 [.string x] rfl rfl ?c1 ?c2 ?c3 ?c4 ?c5 ?_)
                  first
                    | case c1 =>
                        intro j u hu
                        cases j with
                        | zero => simp at hu; subst hu; simp [Addr.add]
                        | succ j => simp at hu
                    | skip
                  case c2 => first | (intro u hu; simp at hu; subst hu; rfl) | rfl
                  case c3 => unfold maxLen; omega
                  case c4 => omega
                  case c5 => have := HSZ.out; simp; omega
                  intro v' w2 hown2 hgrow _
                  have HO : Hid (w2.ownsRow w.heap.size 9 1 v' (out.length + 1) (List.map Value.string out ++ [Value.string x])) := hown2
                  have HN : Hid (Below w.heap.size w w2) := by
                    have h1 : Below w.heap.size w (wr.alloc (.cells #[.string x] 9)) := hbel.out.alloc HSZ.out _
                    refine h1.grown hgrow (by have := HSZ.out; simp; omega) (fun q hq => (hown.out.lt q hq).1)
                  clear hown2 hgrow
                  go_wp2_with fail
                  go_roundw
                  case rel =>
                    refine ⟨i + 1, i + 1, out ++ [x], by omega, Nat.le_refl _, by go_num, by go_num, HE.out ▸ HE0.out, HE.out ▸ HLEN1.out, ?_, HN.out⟩
                    show w2.ownsRow _ _ _ _ _ _
                    rw [List.length_append, List.map_append]
                    exact HO.out
                  case measure => simp [intOf]; omega
          · have hil : ¬ (i : Int) ≤ s.size := by omega
            have hil2 : (s.size : Int) < i := by omega
            obtain ⟨hd1, hd2⟩ := hrc.out.done (by omega)
            have HBP : Hid (badPath s = false) := by
              have e1 : decide (s.size < 1) = false := decide_eq_false (by have := HNE.out; omega)
              have e2 : decide (256 < s.size) = false := decide_eq_false (by omega)
              unfold badPath
              rw [hd2, e1, e2]
              rfl
            have HD : Hid (fold (pieces s) = out) := hd1
            have hol : out.length ≤ 300 := by have := HLEN.out; omega
            have HO : Hid (StrsAt wr w.heap.size u4 out) := StrsAt.of_owns hown.out (Nat.le_refl _)
            clear hd1 hd2 hrc hown HLEN
            obtain ⟨av, cv, hv, hlc, hcells⟩ := HO.out.form
            subst hv
            have HC := Lib.hid hcells
            clear hcells
            go_wp2_with fail
            go_loop [67] (fun idx => ∃ k : Nat, k ≤ out.length ∧ idx = .int .i64 k ∧ Hid (∀ j (hj : j < out.length), j < k → out[j].size ≤ 64)) (fun idx => out.length - (intOf idx).toNat)
            case atStart => exact ⟨0, Nat.zero_le _, rfl, fun j _ h => by omega⟩
            case round =>
              obtain ⟨k2, hk2, rfl, hsm⟩ := hrel
              by_cases hlt2 : k2 < out.length
              · obtain ⟨g, hg, _, hcell⟩ := HC.out k2 hlt2
                subst hg
                have HX : Hid (∀ j (hj : j < out.length), j < k2 + 1 → out[k2].size ≤ 64 → out[j].size ≤ 64) := by
                  intro j hj h1 h2
                  by_cases hjk : j < k2
                  · exact hsm.out j hj hjk
                  · obtain rfl : j = k2 := by omega
                    exact h2
                have HL : Hid (64 < out[k2].size → long out = true) := fun h => long_true hlt2 h
                generalize out[k2] = x at *
                by_cases hx : 64 < x.size
                · have HLL : Hid (long out = true) := HL.out hx
                  go_wp2_with fail
                  go_ret2
                  refine ⟨hbel.out, .inl ⟨?_, rfl⟩⟩
                  unfold clean
                  rw [HBP.out, HD.out, HLL.out]
                  rfl
                · have hx' : x.size ≤ 64 := by omega
                  go_wp2_with fail
                  go_round
                  case rel => exact ⟨k2 + 1, by omega, by go_num, fun j hj h1 => HX.out j hj h1 hx'⟩
                  case measure => simp [intOf]; omega
              · have HLL : Hid (long out = false) := long_false fun j hj => hsm.out j hj (by omega)
                go_wp2
                go_ret2
                refine ⟨hbel.out, .inr ⟨_, out, ?_, rfl, HO.out⟩⟩
                unfold clean
                rw [HBP.out, HD.out, HLL.out]
                rfl
    · have h1i : (256 : Int) < s.size := by omega
      have HB : Hid (badPath s = true) := by
        show badPath s = true
        unfold badPath
        have : decide (256 < s.size) = true := by simpa using h1
        rw [this, Bool.or_true, Bool.true_or]
      go_enter Tryd.func23, Tryd.ntmps23
      go_wp2_with fail
      go_ret2
      exact ⟨Below.refl _ _, .inl ⟨clean_none HB.out, rfl⟩⟩
end Go.Proofs.YtiejfbkbjahcgaaDoor
