/-
  pidginref16.Clean: the same parts.
-/
import Derived.Test.YtiejfbkbjahcgaaGreatDoorCut
namespace Go.Proofs.YtiejfbkbjahcgaaGreatDoor
open Go Go.RowKit

def mkB (l : List UInt8) : ByteArray := ⟨l.toArray⟩
theorem mkB_data (s : ByteArray) : mkB s.data.toList = s := by unfold mkB; simp
theorem pieces_eq (s : ByteArray) : pieces s = (cutL [] s.data.toList).map mkB := by
  rw [← pieces_cut s.size s (Nat.le_refl _), List.map_map]
  have : (mkB ∘ fun x : ByteArray => x.data.toList) = id := by funext x; exact mkB_data x
  rw [this, List.map_id]

/-- Where the loop stands before place i: out, and the piece that began at frm. -/
def RC (s : ByteArray) (i frm : Nat) (out : List ByteArray) : Prop :=
  frm ≤ i ∧ i ≤ s.size + 1 ∧ (∀ j (h : j < s.data.toList.length), j < i → s.data.toList[j] ≠ 0) ∧
    ((i ≤ s.size ∧ fold (pieces s) = ((cutL ((s.data.toList.drop frm).take (i - frm)) (s.data.toList.drop i)).map mkB).foldl step out) ∨ (i = s.size + 1 ∧ fold (pieces s) = out))

theorem RC.start (s : ByteArray) : RC s 0 0 [] := ⟨Nat.le_refl _, Nat.zero_le _, fun _ _ h => absurd h (by omega), .inl ⟨Nat.zero_le _, by rw [pieces_eq]; simp [fold]⟩⟩

/-- A letter of a piece. -/
theorem RC.letter {s : ByteArray} {i frm : Nat} {out : List ByteArray} (h : RC s i frm out) (hi : i < s.data.toList.length) (h0 : s.data.toList[i] ≠ 0) (h47 : ¬ s.data.toList[i] = 47) : RC s (i + 1) frm out := by
  obtain ⟨q1, q2, q3, q4⟩ := h
  have hsz : s.size = s.data.toList.length := Lib.size_eq s
  refine ⟨by omega, by omega, fun j hj hji => ?_, .inl ⟨by omega, ?_⟩⟩
  · by_cases he : j = i
    · subst he; exact h0
    · exact q3 j hj (by omega)
  · rcases q4 with ⟨_, q4⟩ | ⟨q4, _⟩
    · rw [q4, List.drop_eq_getElem_cons hi, cutL_other _ _ h47]
      congr 3
      have e : i + 1 - frm = (i - frm) + 1 := by omega
      have hlt : i - frm < (s.data.toList.drop frm).length := by rw [List.length_drop]; omega
      rw [e, List.take_succ_eq_append_getElem hlt]
      congr 2
      rw [List.getElem_drop]
      congr 1
      omega
    · omega

/-- A piece's end. -/
theorem RC.cut {s : ByteArray} {i frm : Nat} {out : List ByteArray} (h : RC s i frm out) (hi : i ≤ s.size) (h0 : ∀ (h : i < s.data.toList.length), s.data.toList[i] = 47) : RC s (i + 1) (i + 1) (step out (s.extract frm i)) := by
  obtain ⟨q1, q2, q3, q4⟩ := h
  have hsz : s.size = s.data.toList.length := Lib.size_eq s
  have hx : mkB ((s.data.toList.drop frm).take (i - frm)) = s.extract frm i := by
    rw [← mkB_data (s.extract frm i), Lib.extract_data]
  refine ⟨Nat.le_refl _, by omega, fun j hj hji => ?_, ?_⟩
  · by_cases he : j = i
    · subst he; rw [h0 hj]; decide
    · exact q3 j hj (by omega)
  · rcases q4 with ⟨_, q4⟩ | ⟨q4, _⟩
    · by_cases hlt : i < s.data.toList.length
      · left
        refine ⟨by omega, ?_⟩
        rw [q4, List.drop_eq_getElem_cons hlt, h0 hlt, cutL_slash, List.map_cons, List.foldl_cons, hx, Nat.sub_self, List.take_zero]
      · right
        refine ⟨by omega, ?_⟩
        rw [q4, show s.data.toList.drop i = [] from List.drop_of_length_le (by omega), cutL_end, List.map_cons, List.map_nil, List.foldl_cons, List.foldl_nil, hx]
    · omega

theorem RC.done {s : ByteArray} {i frm : Nat} {out : List ByteArray} (h : RC s i frm out) (hi : s.size < i) : fold (pieces s) = out ∧ Lib.indexByte s.data.toList 0 = -1 := by
  obtain ⟨q1, q2, q3, q4⟩ := h
  have hsz : s.size = s.data.toList.length := Lib.size_eq s
  constructor
  · rcases q4 with ⟨q4, _⟩ | ⟨_, q4⟩
    · omega
    · exact q4
  · have key : ∀ (l : List UInt8), (∀ x ∈ l, x ≠ 0) → Lib.indexByte l 0 = -1 := by
      intro l
      induction l with
      | nil => intro _; rfl
      | cons b l ih =>
        intro h
        unfold Lib.indexByte
        rw [if_neg (by simpa using h b (by simp)), ih (fun x hx => h x (by simp [hx]))]
        rfl
    refine key _ fun x hx => ?_
    obtain ⟨j, hj, rfl⟩ := List.mem_iff_getElem.1 hx
    exact q3 j hj (by omega)

theorem bad_zero {s : ByteArray} {i : Nat} (hi : i < s.data.toList.length) (h : s.data.toList[i] = 0) : badPath s = true := by
  have key : ∀ (l : List UInt8) (i : Nat) (hi : i < l.length), l[i] = 0 → (Lib.indexByte l 0 != -1) = true := by
    intro l
    induction l with
    | nil => intro i hi; exact absurd hi (by simp)
    | cons b l ih =>
      intro i hi h
      unfold Lib.indexByte
      by_cases hb : b = 0
      · rw [if_pos (by simpa using hb)]; rfl
      · rw [if_neg (by simpa using hb)]
        cases i with
        | zero => exact absurd h hb
        | succ i =>
          have h1 := ih i (by simpa using hi) (by simpa using h)
          have h2 : ¬ Lib.indexByte l 0 = -1 := by simpa using h1
          rw [if_neg (by simpa using h2)]
          have := Lib.indexByte_ge l 0
          have h3 : ¬ Lib.indexByte l 0 + 1 = -1 := by omega
          simpa using h3
  unfold badPath
  rw [key _ i hi h]
  simp
end Go.Proofs.YtiejfbkbjahcgaaGreatDoor
