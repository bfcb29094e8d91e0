/-
  The pieces of a path, letter by letter. No program in sight.
-/
import Derived.Test.YtiejfbkbjahcgaaGreatDoorClean
import Derived.Lib.IndexBytes
import Derived.Lib.SplitLaws
namespace Go.Proofs.YtiejfbkbjahcgaaGreatDoor
open Go Go.RowKit

/-- The pieces; cur: the one that is begun. -/
def cutL : List UInt8 → List UInt8 → List (List UInt8)
  | cur, [] => [cur]
  | cur, c :: r => if c = 47 then cur :: cutL [] r else cutL (cur ++ [c]) r

theorem cutL_slash (cur r : List UInt8) : cutL cur (47 :: r) = cur :: cutL [] r := by rw [cutL]; simp
theorem cutL_other (cur r : List UInt8) {c : UInt8} (h : ¬ c = 47) : cutL cur (c :: r) = cutL (cur ++ [c]) r := by rw [cutL]; simp [h]
theorem cutL_end (cur : List UInt8) : cutL cur [] = [cur] := by rw [cutL]

theorem cutL_miss : ∀ (s cur : List UInt8), Lib.indexByte s 47 = -1 → cutL cur s = [cur ++ s]
  | [], cur, _ => by simp [cutL]
  | b :: l, cur, h => by
    unfold Lib.indexByte at h
    have hg := Lib.indexByte_ge l 47
    by_cases hb : b = 47
    · subst hb
      simp at h
    · have hb' : (b == 47) = false := by simpa using hb
      rw [hb'] at h
      simp only [Bool.false_eq_true, if_false] at h
      have h1 : Lib.indexByte l 47 = -1 := by
        by_cases he : Lib.indexByte l 47 = -1
        · exact he
        · rw [if_neg (by simpa using he)] at h
          omega
      rw [cutL_other _ _ hb, cutL_miss l _ h1]
      simp
theorem cutL_hit : ∀ (s cur : List UInt8) (i : Nat), Lib.indexByte s 47 = (i : Int) → cutL cur s = (cur ++ s.take i) :: cutL [] (s.drop (i + 1))
  | [], cur, i, h => by unfold Lib.indexByte at h; omega
  | b :: l, cur, i, h => by
    unfold Lib.indexByte at h
    by_cases hb : b = 47
    · subst hb
      have : i = 0 := by simp at h; omega
      subst this
      rw [cutL_slash]
      simp
    · have hb' : (b == 47) = false := by simpa using hb
      rw [hb'] at h
      simp only [Bool.false_eq_true, if_false] at h
      by_cases he : Lib.indexByte l 47 = -1
      · rw [if_pos (by simpa using he)] at h
        omega
      · rw [if_neg (by simpa using he)] at h
        have hg := Lib.indexByte_ge l 47
        obtain ⟨j, hj⟩ : ∃ j : Nat, Lib.indexByte l 47 = j := ⟨(Lib.indexByte l 47).toNat, by omega⟩
        have : i = j + 1 := by omega
        subst this
        rw [cutL_other _ _ hb, cutL_hit l _ j hj]
        simp

theorem pieces_cut : ∀ (n : Nat) (s : ByteArray), s.size ≤ n → (pieces s).map (·.data.toList) = cutL [] s.data.toList := by
  intro n
  induction n with
  | zero =>
    intro s hs
    rcases Lib.indexB_cases s slash with hix | ⟨i, hix, hroom⟩
    · have h1 : Lib.indexByte s.data.toList 47 = -1 := (Lib.index_one _ _).symm.trans hix
      unfold pieces
      rw [Lib.splitB_miss _ _ _ _ hix, cutL_miss _ _ h1]
      simp
    · have : slash.size = 1 := rfl
      omega
  | succ n ih =>
    intro s hs
    rcases Lib.indexB_cases s slash with hix | ⟨i, hix, hroom⟩
    · have h1 : Lib.indexByte s.data.toList 47 = -1 := (Lib.index_one _ _).symm.trans hix
      unfold pieces
      rw [Lib.splitB_miss _ _ _ _ hix, cutL_miss _ _ h1]
      simp
    · have hs1 : slash.size = 1 := rfl
      have h1 : Lib.indexByte s.data.toList 47 = i := (Lib.index_one _ _).symm.trans hix
      have hp : pieces s = s.extract 0 i :: pieces (s.extract (i + 1) s.size) := by
        unfold pieces
        rw [Lib.countB_hit s slash i (by decide) hix, Nat.add_comm 1, Lib.splitB_hit _ _ _ _ _ hix]
        rfl
      rw [hp, List.map_cons, ih _ (by simp; omega), cutL_hit _ _ _ h1, Lib.extract_from_zero, Lib.extract_to_end]
      rfl
end Go.Proofs.YtiejfbkbjahcgaaGreatDoor
