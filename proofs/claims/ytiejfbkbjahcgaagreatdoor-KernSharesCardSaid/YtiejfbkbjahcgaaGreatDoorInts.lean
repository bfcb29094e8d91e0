/-
  The reference's Ints: the same numbers?
-/
import Derived.Test.YtiejfbkbjahcgaaGreatDoorFWrite
namespace Go.Proofs.YtiejfbkbjahcgaaGreatDoor
open Go Go.RowKit

/-- A slice of numbers that reads as l. -/
def ISrc (w : World) (s : Value) (l : List Int) : Prop :=
  (s = .slice none 0 0 ∧ l = []) ∨ ∃ ad c, s = .slice (some ad) l.length c ∧ ∀ j (h : j < l.length), w.cell? (ad.add j) = some (.int .i64 l[j])

theorem ISrc.form {w : World} {s : Value} {l : List Int} (h : ISrc w s l) : ∃ a c, s = .slice a l.length c ∧ ∀ j (h : j < l.length), ∃ ad, a = some ad ∧ w.cell? (ad.add j) = some (.int .i64 l[j]) := by
  rcases h with ⟨rfl, rfl⟩ | ⟨ad, c, rfl, h⟩
  · exact ⟨none, 0, rfl, fun j hj => absurd hj (by simp)⟩
  · exact ⟨some ad, c, rfl, fun j hj => ⟨ad, rfl, h j hj⟩⟩

theorem ISrc.of_owns {w : World} {base : Nat} {v : Value} {l : List Nat} (h : w.ownsRow base 3 1 v l.length (ints l)) : ISrc w v (l.map fun (n : Nat) => (n : Int)) := by
  rcases h.2 with ⟨rfl, h0⟩ | ⟨g, cap, cur, rfl, r1, r2, r3, _, _, r6⟩
  · exact .inl ⟨rfl, by rw [List.eq_nil_of_length_eq_zero h0]; rfl⟩
  · refine .inr ⟨⟨g, 0, none⟩, cap, by simp, fun j hj => ?_⟩
    have hj' : j < l.length := by simpa using hj
    exact h.cells (g := g) rfl j _ (by unfold ints; simp [List.getElem?_eq_getElem hj'])

theorem ISrc.kept {w w' : World} {s : Value} {l : List Int} {F : Nat → Prop} (h : ISrc w s l) (k : Kept F w w') (hF : ∀ b, s.ownBlock = some b → ¬ F b) : ISrc w' s l := by
  rcases h with h | ⟨ad, c, rfl, h⟩
  · exact .inl h
  · refine .inr ⟨ad, c, rfl, fun j hj => ?_⟩
    have h1 := h j hj
    have hb : (ad.add j).block = ad.block := by unfold Addr.add; split <;> rfl
    rw [k.cell (p := ad.add j) (World.block_lt_of_cell? _ _ h1) (by rw [hb]; exact hF _ rfl)]
    exact h1

def IPost (w : World) (r : Bool) (e : Ending) (w' : World) : Prop := e = .returned (.bool r) ∧ Below w.heap.size w w'

theorem dropI {l m : List Int} {k : Nat} (hk : k < l.length) (hm : k < m.length) : decide (l.drop k = m.drop k) = (decide (l[k] = m[k]) && decide (l.drop (k + 1) = m.drop (k + 1))) := by
  rw [Bool.eq_iff_iff]
  simp only [decide_eq_true_eq, Bool.and_eq_true]
  rw [List.drop_eq_getElem_cons hk, List.drop_eq_getElem_cons hm, List.cons.injEq]

set_option maxRecDepth 100000 in
set_option maxHeartbeats 1000000 in
theorem ints_any (a b : Value) (l m : List Int) (w : World) (ha : ISrc w a l) (hb : ISrc w b m) (hll : l.length ≤ 4611686018427387904) (hml : m.length ≤ 4611686018427387904) :
    Calls Tryz.prog 57 #[a, b] w fun e w' => IPost w (decide (l = m)) e w' := by
  obtain ⟨aa, ac, rfl, hca⟩ := ha.form
  obtain ⟨ba, bc, rfl, hcb⟩ := hb.form
  clear ha hb
  have HA := Lib.hid hca
  have HB := Lib.hid hcb
  clear hca hcb
  by_cases hlen : l.length = m.length
  · have hli : (l.length : Int) = m.length := by omega
    rw [← hlen]
    go_enter Tryz.func57, Tryz.ntmps57
    go_wp2_with fail
    go_loopw [13] (fun idx wr => ∃ k : Nat, k ≤ l.length ∧ idx = .int .i64 k ∧ Hid (decide (l.drop k = m.drop k) = decide (l = m)) ∧ Hid (Below w.heap.size w wr)) (fun idx _ => l.length - (intOf idx).toNat)
    case atStart => exact ⟨0, by omega, rfl, rfl, Below.refl _ _⟩
    case round =>
      obtain ⟨k, hk, rfl, hd, hb⟩ := hrel
      by_cases hlt : k < l.length
      · have hltm : k < m.length := by omega
        obtain ⟨ad, rfl, hc1⟩ := HA.out k hlt
        obtain ⟨bd, rfl, hc2⟩ := HB.out k hltm
        have hc1 := (hb.out.cell (World.block_lt_of_cell? _ _ hc1)).trans hc1
        have hc2 := (hb.out.cell (World.block_lt_of_cell? _ _ hc2)).trans hc2
        have hki : (k : Int) < l.length := by omega
        by_cases he : l[k] = m[k]
        · have HD : Hid (decide (l.drop (k + 1) = m.drop (k + 1)) = decide (l = m)) := by
            have h1 := hd.out
            rw [dropI hlt hltm, he] at h1
            show _ = _
            rw [← h1]
            simp
          rw [he] at hc1
          clear he hd
          go_wp2_with fail
          go_region
          all_goals
            go_wp2_with fail
            go_roundw
            case rel => exact ⟨k + 1, by omega, by go_num, HD.out, hb.out.drew⟩
            case measure => simp [intOf]; omega
        · have HD : Hid (decide (l = m) = false) := by
            have h1 := hd.out
            rw [dropI hlt hltm] at h1
            show _ = _
            rw [← h1]
            simp [he]
          clear hd
          go_wp2_with fail
          go_region
          all_goals
            go_wp2_with fail
            go_ret
            exact ⟨by rw [HD.out]; rfl, hb.out.drew⟩
      · have HD : Hid (decide (l = m) = true) := by
          have h1 := hd.out
          rw [List.drop_of_length_le (by omega), List.drop_of_length_le (by omega)] at h1
          show _ = _
          rw [← h1]
          simp
        clear hd
        go_wp2_with fail
        go_ret
        exact ⟨by rw [HD.out]; rfl, hb.out⟩
  · have hli : ¬ (l.length : Int) = m.length := by omega
    have HD : Hid (decide (l = m) = false) := by
      show _ = _
      simp only [decide_eq_false_iff_not]
      rintro rfl
      exact hlen rfl
    go_enter Tryz.func57, Tryz.ntmps57
    go_wp2_with fail
    go_ret
    exact ⟨by rw [HD.out]; rfl, Below.refl _ _⟩
end Go.Proofs.YtiejfbkbjahcgaaGreatDoor
