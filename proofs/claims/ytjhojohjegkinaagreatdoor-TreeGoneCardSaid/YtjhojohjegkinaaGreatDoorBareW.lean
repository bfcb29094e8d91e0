/-
  The law's bare: a text without the stamps at the ends of its lines.
-/
import Derived.Test.YtjhojohjegkinaaGreatDoorStatX
import Derived.Test.YtjhojohjegkinaaGreatDoorTreeA
namespace Go.Proofs.YtjhojohjegkinaaGreatDoor
open Go Go.RowKit

theorem bFold_le : ∀ (l : List UInt8) (s : List UInt8 × Nat), s.2 ≤ s.1.length → (bFold s l).2 ≤ (bFold s l).1.length ∧ (bFold s l).1.length ≤ s.1.length + l.length
  | [], s, h => ⟨h, Nat.le_refl _⟩
  | b :: l, s, h => by
    have h1 : (bStep s b).2 ≤ (bStep s b).1.length ∧ (bStep s b).1.length ≤ s.1.length + 1 := by
      unfold bStep
      by_cases h32 : b = 32 <;> by_cases h10 : b = 10 <;> simp [h32, h10] <;> omega
    have h2 := bFold_le l (bStep s b) h1.1
    exact ⟨h2.1, by have := h2.2; show (bFold (bStep s b) l).1.length ≤ _; rw [List.length_cons]; omega⟩
theorem bFold_snoc (s : List UInt8 × Nat) (l : List UInt8) (b : UInt8) : bFold s (l ++ [b]) = bStep (bFold s l) b := by rw [bFold_append]; rfl

set_option maxRecDepth 100000 in
set_option maxHeartbeats 1000000 in
theorem bare_any (s : ByteArray) (w : World) (hsz : s.size ≤ 140737488355328) :
    Calls Tryz.prog 21 #[.string s] w fun e w' => VPost w (.string ⟨(bareL (bl s)).toArray⟩) e w' := by
  go_enter Tryz.func21, Tryz.ntmps21
  go_wp2_with fail
  go_loopw [3, 4, 8] (fun ov ev idx wr => ∃ (k n : Nat) (l : List UInt8), k ≤ s.size ∧ n ≤ l.length ∧ l.length ≤ k ∧ ev = .int .i64 n ∧ idx = .int .i64 k ∧ Hid (bFold ([], 0) ((bl s).take k) = (l, n)) ∧ Hid (wr.ownsRow w.heap.size 5 1 ov l.length (u8s l)) ∧ Hid (Below w.heap.size w wr)) (fun _ _ idx _ => s.size - (intOf idx).toNat)
  case atStart => exact ⟨0, 0, [], Nat.zero_le _, Nat.le_refl _, Nat.le_refl _, rfl, rfl, by show _ = _; simp [bFold], World.ownsRow_nil _ _ _ _, Below.refl _ _⟩
  case round =>
    obtain ⟨k, n, l, hk, hn, hlk, rfl, rfl, hf, hown, hb⟩ := hrel
    obtain ⟨oa, oc, rfl⟩ := owns_form hown.out
    by_cases hlt : k < s.size
    · have hki : (k : Int) < s.size := by omega
      have HF : Hid (bFold ([], 0) ((bl s).take (k + 1)) = bStep (l, n) s[k]) := by
        show _ = _
        rw [bl_take_succ hlt, bFold_snoc, hf.out]
      clear hf
      go_wp2_with (at_builtin; refine wpList_append_src rfl _ _ rfl w.heap.size (.slice oa l.length oc) l.length (u8s l) rfl (World.ownsRow.alloc hown.out _) (.slice (some ⟨wr.heap.size, 0, none⟩) 1 1) [s[k]] rfl (.inr ⟨⟨wr.heap.size, 0, none⟩, 1, rfl, Nat.le_refl _, fun j hj => ?c1⟩) (by show l.length + 1 ≤ _; omega) (by have := hb.out.size; simp; omega) ?_)
      case c1 =>
        match j, hj with
        | 0, _ => exact cell_of (heap_alloc_new wr _) rfl
      intro v' w5 hown5 hgrow
      have HB5 : Hid (Below w.heap.size w w5) := (hb.out.alloc hb.out.size _).grown hgrow (hb.out.alloc hb.out.size _).size (fun q hq => (hown.out.lt q hq).1)
      obtain ⟨g, cap, hv, hcap, hless⟩ : ∃ g cap, v' = .slice (some ⟨g, 0, none⟩) (l.length + 1) cap ∧ l.length + 1 ≤ cap ∧ ∀ m, m ≤ l.length + 1 → w5.ownsRow w.heap.size 5 1 (.slice (some ⟨g, 0, none⟩) m cap) m ((u8s l ++ u8s [s[k]]).take m) := by
        have h0 : w5.ownsRow w.heap.size 5 1 v' (l.length + 1) (u8s l ++ u8s [s[k]]) := hown5
        rcases h0.2 with ⟨_, h⟩ | ⟨g, cap, cur, rfl, _, _, h2, _⟩
        · omega
        · exact ⟨g, cap, rfl, h2, fun m hm => ownsRow_less h0 m hm⟩
      subst hv
      have HLS : Hid (∀ m, m ≤ l.length + 1 → w5.ownsRow w.heap.size 5 1 (.slice (some ⟨g, 0, none⟩) m cap) m ((u8s l ++ u8s [s[k]]).take m)) := hless
      have HAL : Hid (w5.ownsRow w.heap.size 5 1 (.slice (some ⟨g, 0, none⟩) (l.length + 1) cap) (l ++ [s[k]]).length (u8s (l ++ [s[k]]))) := by
        have h := hless (l.length + 1) (Nat.le_refl _)
        rw [List.take_of_length_le (by simp [u8s]), ← u8s_append] at h
        have e : (l ++ [s[k]]).length = l.length + 1 := by simp
        show w5.ownsRow _ _ _ _ _ _
        rw [e]
        exact h
      clear hown5 hgrow hown hb hless
      by_cases h32 : s[k] = 32
      · have HE : Hid (bStep (l, n) s[k] = (l ++ [s[k]], l.length + 1)) := by show _ = _; rw [h32]; simp [bStep]
        have hc1 : (s[k].toNat : Int) = 32 := by rw [h32]; rfl
        go_wp2_with fail
        go_roundw
        case rel => exact ⟨k + 1, l.length + 1, l ++ [s[k]], by omega, by simp, by simp; omega, by go_num, by go_num, HF.out.trans HE.out, HAL, HB5⟩
        case measure => simp [intOf]; omega
      · have hc1 : ¬ (s[k].toNat : Int) = 32 := fun e => h32 (UInt8.toNat_inj.1 (by show s[k].toNat = 32; omega))
        by_cases h10 : s[k] = 10
        · have HE : Hid (bStep (l, n) s[k] = (l.take n, n)) := by show _ = _; rw [h10]; simp [bStep, List.take_append_of_le_length hn]
          have hc2 : (s[k].toNat : Int) = 10 := by rw [h10]; rfl
          go_wp2_with fail
          go_roundw
          case rel => exact ⟨k + 1, n, l.take n, by omega, by simp; omega, by simp; omega, by go_num, by go_num, HF.out.trans HE.out, by
            have h := HLS.out n (by omega)
            rw [List.take_append_of_le_length (by rw [u8s_length]; exact hn)] at h
            have e : (l.take n).length = n := by simp; omega
            have e2 : u8s (l.take n) = (u8s l).take n := by unfold u8s; rw [List.map_take]
            show w5.ownsRow _ _ _ _ _ _
            rw [e, e2]
            exact h, HB5⟩
          case measure => simp [intOf]; omega
        · have hc2 : ¬ (s[k].toNat : Int) = 10 := fun e => h10 (UInt8.toNat_inj.1 (by show s[k].toNat = 10; omega))
          have HE : Hid (bStep (l, n) s[k] = (l ++ [s[k]], n)) := by show _ = _; simp [bStep, h32, h10]
          go_wp2_with fail
          go_roundw
          case rel => exact ⟨k + 1, n, l ++ [s[k]], by omega, by simp; omega, by simp; omega, by go_num, by go_num, HF.out.trans HE.out, HAL, HB5⟩
          case measure => simp [intOf]; omega
    · have hki : (s.size : Int) ≤ k := by omega
      have hke : k = s.size := by omega
      have q1 := run_str_src (Src.of_owns hown.out)
      have HE : Hid (bareL (bl s) = l) := by
        show _ = _
        unfold bareL
        have h := hf.out
        rw [List.take_of_length_le (by rw [bl_size]; omega)] at h
        rw [h]
      have HB : Hid (Below w.heap.size w wr) := hb
      clear hf hown hb
      go_wp2_with fail
      go_ret
      exact ⟨by rw [HE.out]; rfl, HB.out⟩
end Go.Proofs.YtjhojohjegkinaaGreatDoor
