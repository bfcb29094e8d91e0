/-
  pidginref1.Strings of one list twice; tree.Clean, any path; TreeClean's walk.
-/
import Derived.Test.YtiejfbkbjahcgaaDoorRCleanW
import Derived.Test.YtiejfbkbjahcgaaDoorInts
import Derived.Test.YtiejfbkbjahcgaaDoorAwake16
namespace Go.Proofs.YtiejfbkbjahcgaaDoor
open Go Go.RowKit

set_option maxRecDepth 100000 in
set_option maxHeartbeats 1000000 in
theorem strings_same {p q : Nat} (a b : Value) (l : List ByteArray) (w : World) (ha : StrsAt w p a l) (hb : StrsAt w q b l) (hll : l.length ≤ 4611686018427387904) :
    Calls Tryd.prog 24 #[a, b] w fun e w' => IPost w true e w' := by
  obtain ⟨aa, ac, rfl, _, hca⟩ := ha.form
  obtain ⟨ba, bc, rfl, _, hcb⟩ := hb.form
  have HA := Lib.hid hca
  have HB := Lib.hid hcb
  clear ha hb hca hcb
  go_enter Tryd.func24, Tryd.ntmps24
  go_wp2_with fail
  go_loopw [13] (fun idx wr => ∃ k : Nat, k ≤ l.length ∧ idx = .int .i64 k ∧ Hid (Below w.heap.size w wr)) (fun idx _ => l.length - (intOf idx).toNat)
  case atStart => exact ⟨0, by omega, rfl, Below.refl _ _⟩
  case round =>
    obtain ⟨k, hk, rfl, hb⟩ := hrel
    by_cases hlt : k < l.length
    · obtain ⟨g, rfl, _, hc1⟩ := HA.out k hlt
      obtain ⟨g', rfl, _, hc2⟩ := HB.out k hlt
      have hc1 := (hb.out.cell (World.block_lt_of_cell? _ _ hc1)).trans hc1
      have hc2 := (hb.out.cell (World.block_lt_of_cell? _ _ hc2)).trans hc2
      have hki : (k : Int) < l.length := by omega
      generalize l[k] = x at hc1 hc2
      go_wp2_with fail
      go_region
      all_goals
        go_wp2_with fail
        go_roundw
        case rel => exact ⟨k + 1, by omega, by go_num, hb.out.drew⟩
        case measure => simp [intOf]; omega
    · go_wp2_with fail
      go_ret
      exact ⟨rfl, hb.out⟩

theorem clean_any {m : Int} (s : ByteArray) (w : World) (hm : w.cell? ⟨22, 0, none⟩ = some (.int .i64 m)) (hsz : s.size ≤ 9223372036854775807) :
    Calls Tryd.prog 22 #[.string s] w fun e w' => RCPost w s e w' := by
  by_cases hg : badPath s = true
  · refine (clean_bad s w hsz hg).mono ?_
    rintro e w' ⟨rfl, rfl⟩
    exact ⟨Below.refl _ _, .inl ⟨clean_none hg, rfl⟩⟩
  · have hg' : badPath s = false := by simpa using hg
    refine (clean_good s w hm hg').mono ?_
    rintro e w' ⟨v, he, hv, hb⟩
    by_cases hl : long (fold (pieces s)) = true
    · rw [if_pos hl] at he
      exact ⟨hb, .inl ⟨by unfold clean; rw [if_neg hg, if_pos hl], he⟩⟩
    · rw [if_neg hl] at he
      exact ⟨hb, .inr ⟨v, _, by unfold clean; rw [if_neg hg, if_neg hl], he, hv⟩⟩

/-- Few parts. -/
theorem clean_len {s : ByteArray} {l : List ByteArray} (h : clean s = some l) : l.length ≤ 300 ∧ badPath s = false ∧ long l = false ∧ fold (pieces s) = l := by
  unfold clean at h
  by_cases hg : badPath s = true
  · rw [if_pos hg] at h; cases h
  · rw [if_neg hg] at h
    by_cases hl : long (fold (pieces s)) = true
    · rw [if_pos hl] at h; cases h
    · rw [if_neg hl] at h
      obtain rfl := Option.some.inj h
      have hg' : badPath s = false := by simpa using hg
      refine ⟨?_, hg', by simpa using hl, rfl⟩
      unfold badPath at hg'
      simp only [Bool.or_eq_false_iff, decide_eq_false_iff_not] at hg'
      have h1 := fold_length (pieces s)
      have h2 := pieces_le s
      omega

set_option maxRecDepth 100000 in
set_option maxHeartbeats 1000000 in
theorem treeClean_any {E : Nat → Addr} {B : Nat} (w : World) (hE : Ctx E B w) (s : ByteArray) (hsz : s.size ≤ 9223372036854775807) :
    Calls Tryd.prog 5 #[.string s] w fun e w' => AwPost w e w' := by
  obtain ⟨m, hm⟩ := hE.max
  have HE := Lib.hid hE
  have HC := Lib.hid (clean_any s w hm hsz)
  have HR := Lib.hid (fun w => rclean_any s w hsz)
  clear hE hm
  cases hcs : clean s with
  | none =>
    have HCS := Lib.hid hcs
    clear hcs
    go_enter Tryd.func5, Tryd.ntmps5
    go_wp2_with fail
    refine HC.out.mono ?_
    rintro e w1 ⟨hb1, hr⟩
    obtain rfl : e = .returned (.tuple #[.slice none 0 0, .bool false]) := by
      rcases hr with ⟨_, h⟩ | ⟨v, l, h, _⟩
      · exact h
      · rw [HCS.out] at h; cases h
    have HB1 := Lib.hid hb1
    clear hb1 hr
    go_wp2_with fail
    refine (HR.out w1).mono ?_
    rintro e w2 ⟨hb2, hr⟩
    obtain rfl : e = .returned (.tuple #[.slice none 0 0, .bool false]) := by
      rcases hr with ⟨_, h⟩ | ⟨v, l, h, _⟩
      · exact h
      · rw [HCS.out] at h; cases h
    have HB2 := Lib.hid (below_trans HB1.out hb2)
    have HS : Hid (Calls Tryd.prog 24 #[.slice none 0 0, .slice none 0 0] w2 fun e w' => IPost w2 true e w') := strings_same (p := 0) (q := 0) _ _ [] w2 (.inl ⟨rfl, _, _, rfl⟩) (.inl ⟨rfl, _, _, rfl⟩) (by decide)
    clear hb2 hr HC HR
    go_wp2_with fail
    refine HS.out.mono ?_
    rintro e w3 ⟨rfl, hb3⟩
    have HB3 := Lib.hid (below_trans HB2.out hb3)
    have HAW := Lib.hid (awake16_any w3 (HE.out.below HB3.out))
    clear hb3 HS
    go_wp2_with fail
    refine HAW.out.mono ?_
    rintro e w4 ⟨rfl, hb4⟩
    have HB4 := Lib.hid (below_trans HB3.out hb4)
    clear hb4
    go_wp2_with fail
    go_ret
    exact ⟨rfl, HB4.out⟩
  | some l =>
    have HCS := Lib.hid hcs
    have HLEN := Lib.hid (clean_len hcs).1
    clear hcs
    go_enter Tryd.func5, Tryd.ntmps5
    go_wp2_with fail
    refine HC.out.mono ?_
    rintro e w1 ⟨hb1, hr⟩
    obtain ⟨v, rfl, hv⟩ : ∃ v, e = .returned (.tuple #[v, .bool true]) ∧ StrsAt w1 w.heap.size v l := by
      rcases hr with ⟨h, _⟩ | ⟨v, l', h, h1, h2⟩
      · rw [HCS.out] at h; cases h
      · rw [HCS.out] at h
        obtain rfl := Option.some.inj h
        exact ⟨v, h1, h2⟩
    obtain ⟨va, vc, rfl, _, _⟩ := hv.form
    have HV := Lib.hid hv
    have HB1 := Lib.hid hb1
    clear hb1 hr hv
    go_wp2_with fail
    refine (HR.out w1).mono ?_
    rintro e w2 ⟨hb2, hr⟩
    obtain ⟨u, rfl, hu⟩ : ∃ v, e = .returned (.tuple #[v, .bool true]) ∧ StrsAt w2 w1.heap.size v l := by
      rcases hr with ⟨h, _⟩ | ⟨v, l', h, h1, h2⟩
      · rw [HCS.out] at h; cases h
      · rw [HCS.out] at h
        obtain rfl := Option.some.inj h
        exact ⟨v, h1, h2⟩
    obtain ⟨ua, uc, rfl, _, _⟩ := hu.form
    have HB2 := Lib.hid (below_trans HB1.out hb2)
    have HS : Hid (Calls Tryd.prog 24 #[.slice va l.length vc, .slice ua l.length uc] w2 fun e w' => IPost w2 true e w') := strings_same _ _ l w2 (HV.out.kept (Kept.of_below hb2 (fun _ => False)) (fun _ h => h.elim)) hu (by have := HLEN.out; omega)
    clear hb2 hr hu HC HR
    go_wp2_with fail
    refine HS.out.mono ?_
    rintro e w3 ⟨rfl, hb3⟩
    have HB3 := Lib.hid (below_trans HB2.out hb3)
    have HAW := Lib.hid (awake16_any w3 (HE.out.below HB3.out))
    clear hb3 HS
    go_wp2_with fail
    refine HAW.out.mono ?_
    rintro e w4 ⟨rfl, hb4⟩
    have HB4 := Lib.hid (below_trans HB3.out hb4)
    clear hb4
    go_wp2_with fail
    go_ret
    exact ⟨rfl, HB4.out⟩
end Go.Proofs.YtiejfbkbjahcgaaDoor
