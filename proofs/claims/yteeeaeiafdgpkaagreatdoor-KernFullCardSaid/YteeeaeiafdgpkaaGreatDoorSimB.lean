/-
 The zbe of a path, letter by letter. No program in sight.
 pidginref16.Clean: the same parts.
 PATHS OF A ROW: parts put together; the order in which they stand. No program in sight.
 WHERE PARTS LEAD IN A TREE, and what the tree's calls do to that. No program in sight.
 THE DOCUMENT'S ROW AND THE PROGRAM'S TREE SAY THE SAME; what keeps it so. No program in sight.
 A name more of a file; a name less; a file's bytes turned; a file without a name: the row and the tree still say the same. No program in sight.
 A file's bytes turned, a file without a name, the directories on a way: the row and the tree still say the same. No program in sight.
 A path's parts, put together again, are those parts. No program in sight.
-/
import Derived.Test.YteeeaeiafdgpkaaGreatDoorTreeA
import Derived.Lib.IndexBytes
import Derived.Lib.SplitLaws
import Derived.Test.YteeeaeiafdgpkaaGreatDoorCore
import Derived.Test.YteeeaeiafdgpkaaGreatDoorPutA
namespace Go.Proofs.YteeeaeiafdgpkaaGreatDoor
open Go Go.RowKit
section
def cutL : List UInt8 → List UInt8 → List (List UInt8)
 | cur, [] => [cur]
 | cur, c :: r => if c = 47 then cur :: cutL [] r else cutL (cur ++ [c]) r
theorem zd2 (cur r : List UInt8) : cutL cur (47 :: r) = cur :: cutL [] r := by rw [cutL]; simp
theorem zda (cur r : List UInt8) {c : UInt8} (h : ¬ c = 47) : cutL cur (c :: r) = cutL (cur ++ [c]) r := by rw [cutL]; simp [h]
theorem cutL_end (cur : List UInt8) : cutL cur [] = [cur] := by rw [cutL]
theorem cutL_miss : ∀ (s cur : List UInt8), Lib.indexByte s 47 = -1 → cutL cur s = [cur ++ s]
 | [], cur, _ => by simp [cutL]
 | b :: l, cur, h => by
  unfold Lib.indexByte at h
  have hg := Lib.indexByte_ge l 47
  by_cases hb : b = 47
  ·subst hb
   simp at h
  ·have hb' : (b == 47) = false := by simpa using hb
   rw [hb'] at h
   simp only [Bool.false_eq_true, if_false] at h
   have h1 : Lib.indexByte l 47 = -1 := by
    by_cases he : Lib.indexByte l 47 = -1
    ·exact he
    ·rw [if_neg (by simpa using he)] at h
     omega
   rw [zda _ _ hb, cutL_miss l _ h1]
   simp
theorem cutL_hit : ∀ (s cur : List UInt8) (i : Nat), Lib.indexByte s 47 = (i : Int) → cutL cur s = (cur ++ s.take i) :: cutL [] (s.drop (i + 1))
 | [], cur, i, h => by unfold Lib.indexByte at h; omega
 | b :: l, cur, i, h => by
  unfold Lib.indexByte at h
  by_cases hb : b = 47
  ·subst hb
   have : i = 0 := by simp at h; omega
   subst this
   rw [zd2]
   simp
  ·have hb' : (b == 47) = false := by simpa using hb
   rw [hb'] at h
   simp only [Bool.false_eq_true, if_false] at h
   by_cases he : Lib.indexByte l 47 = -1
   ·rw [if_pos (by simpa using he)] at h
    omega
   ·rw [if_neg (by simpa using he)] at h
    have hg := Lib.indexByte_ge l 47
    obtain ⟨j, hj⟩ : ∃ j : Nat, Lib.indexByte l 47 = j := ⟨(Lib.indexByte l 47).toNat, by omega⟩
    have : i = j + 1 := by omega
    subst this
    rw [zda _ _ hb, cutL_hit l _ j hj]
    simp
theorem pieces_cut : ∀ (n : Nat) (s : ByteArray), s.size ≤ n → (zbe s).map (·.data.toList) = cutL [] s.data.toList := by
 intro n
 induction n with
 | zero =>
  intro s hs
  rcases Lib.indexB_cases s zdm with hix | ⟨i, hix, hroom⟩
  ·have h1 : Lib.indexByte s.data.toList 47 = -1 := (Lib.index_one _ _).symm.trans hix
   unfold zbe
   rw [Lib.splitB_miss _ _ _ _ hix, cutL_miss _ _ h1]
   simp
  ·have : zdm.size = 1 := rfl
   omega
 | succ n ih =>
  intro s hs
  rcases Lib.indexB_cases s zdm with hix | ⟨i, hix, hroom⟩
  ·have h1 : Lib.indexByte s.data.toList 47 = -1 := (Lib.index_one _ _).symm.trans hix
   unfold zbe
   rw [Lib.splitB_miss _ _ _ _ hix, cutL_miss _ _ h1]
   simp
  ·have hs1 : zdm.size = 1 := rfl
   have h1 : Lib.indexByte s.data.toList 47 = i := (Lib.index_one _ _).symm.trans hix
   have hp : zbe s = s.extract 0 i :: zbe (s.extract (i + 1) s.size) := by
    unfold zbe
    rw [Lib.countB_hit s zdm i (by decide) hix, Nat.add_comm 1, Lib.splitB_hit _ _ _ _ _ hix]
    rfl
   rw [hp, List.map_cons, ih _ (by simp; omega), cutL_hit _ _ _ h1, Lib.extract_from_zero, Lib.extract_to_end]
   rfl
end
section
def mkB (l : List UInt8) : ByteArray := ⟨l.toArray⟩
theorem mkB_data (s : ByteArray) : mkB s.data.toList = s := by unfold mkB; simp
theorem pieces_eq (s : ByteArray) : zbe s = (cutL [] s.data.toList).map mkB := by
 rw [← pieces_cut s.size s (Nat.le_refl _), List.map_map]
 have : (mkB ∘ fun x : ByteArray => x.data.toList) = id := by funext x; exact mkB_data x
 rw [this, List.map_id]
def RC (s : ByteArray) (i frm : Nat) (out : List ByteArray) : Prop :=
 frm ≤ i ∧ i ≤ s.size + 1 ∧ (∀ j (h : j < s.data.toList.length), j < i → s.data.toList[j] ≠ 0) ∧
  ((i ≤ s.size ∧ fold (zbe s) = ((cutL ((s.data.toList.drop frm).take (i - frm)) (s.data.toList.drop i)).map mkB).foldl step out) ∨ (i = s.size + 1 ∧ fold (zbe s) = out))
theorem RC.start (s : ByteArray) : RC s 0 0 [] := ⟨Nat.le_refl _, Nat.zero_le _, fun _ _ h => absurd h (by omega), .inl ⟨Nat.zero_le _, by rw [pieces_eq]; simp [fold]⟩⟩
theorem RC.letter {s : ByteArray} {i frm : Nat} {out : List ByteArray} (h : RC s i frm out) (hi : i < s.data.toList.length) (h0 : s.data.toList[i] ≠ 0) (h47 : ¬ s.data.toList[i] = 47) : RC s (i + 1) frm out := by
 obtain ⟨q1, q2, q3, q4⟩ := h
 have hsz : s.size = s.data.toList.length := Lib.size_eq s
 refine ⟨by omega, by omega, fun j hj hji => ?_, .inl ⟨by omega, ?_⟩⟩
 ·by_cases he : j = i
  ·subst he; exact h0
  ·exact q3 j hj (by omega)
 ·rcases q4 with ⟨_, q4⟩ | ⟨q4, _⟩
  ·rw [q4, List.drop_eq_getElem_cons hi, zda _ _ h47]
   congr 3
   have e : i + 1 - frm = (i - frm) + 1 := by omega
   have hlt : i - frm < (s.data.toList.drop frm).length := by rw [List.length_drop]; omega
   rw [e, List.take_succ_eq_append_getElem hlt]
   congr 2
   rw [List.getElem_drop]
   congr 1
   omega
  ·omega
theorem RC.cut {s : ByteArray} {i frm : Nat} {out : List ByteArray} (h : RC s i frm out) (hi : i ≤ s.size) (h0 : ∀ (h : i < s.data.toList.length), s.data.toList[i] = 47) : RC s (i + 1) (i + 1) (step out (s.extract frm i)) := by
 obtain ⟨q1, q2, q3, q4⟩ := h
 have hsz : s.size = s.data.toList.length := Lib.size_eq s
 have hx : mkB ((s.data.toList.drop frm).take (i - frm)) = s.extract frm i := by
  rw [← mkB_data (s.extract frm i), Lib.extract_data]
 refine ⟨Nat.le_refl _, by omega, fun j hj hji => ?_, ?_⟩
 ·by_cases he : j = i
  ·subst he; rw [h0 hj]; decide
  ·exact q3 j hj (by omega)
 ·rcases q4 with ⟨_, q4⟩ | ⟨q4, _⟩
  ·by_cases hlt : i < s.data.toList.length
   ·left
    refine ⟨by omega, ?_⟩
    rw [q4, List.drop_eq_getElem_cons hlt, h0 hlt, zd2, List.map_cons, List.foldl_cons, hx, Nat.sub_self, List.take_zero]
   ·right
    refine ⟨by omega, ?_⟩
    rw [q4, show s.data.toList.drop i = [] from List.drop_of_length_le (by omega), cutL_end, List.map_cons, List.map_nil, List.foldl_cons, List.foldl_nil, hx]
  ·omega
theorem RC.done {s : ByteArray} {i frm : Nat} {out : List ByteArray} (h : RC s i frm out) (hi : s.size < i) : fold (zbe s) = out ∧ Lib.indexByte s.data.toList 0 = -1 := by
 obtain ⟨q1, q2, q3, q4⟩ := h
 have hsz : s.size = s.data.toList.length := Lib.size_eq s
 constructor
 ·rcases q4 with ⟨q4, _⟩ | ⟨_, q4⟩
  ·omega
  ·exact q4
 ·have key : ∀ (l : List UInt8), (∀ x ∈ l, x ≠ 0) → Lib.indexByte l 0 = -1 := by
   intro l
   induction l with
   | nil => intro _; rfl
   | cons b l ih =>
    intro h
    unfold Lib.indexByte
    rw [if_neg (by simpa using h b (by simp)), ih (fun x hx => h x (by simp [hx]))]
    rfl
  refine key _ fun x hx => ?_
  obtain ⟨j, hj, rfl⟩ := List.mem_iff_getElem.1 hx
  exact q3 j hj (by omega)
theorem bad_zero {s : ByteArray} {i : Nat} (hi : i < s.data.toList.length) (h : s.data.toList[i] = 0) : zbj s = true := by
 have key : ∀ (l : List UInt8) (i : Nat) (hi : i < l.length), l[i] = 0 → (Lib.indexByte l 0 != -1) = true := by
  intro l
  induction l with
  | nil => intro i hi; exact absurd hi (by simp)
  | cons b l ih =>
   intro i hi h
   unfold Lib.indexByte
   by_cases hb : b = 0
   ·rw [if_pos (by simpa using hb)]; rfl
   ·rw [if_neg (by simpa using hb)]
    cases i with
    | zero => exact absurd h hb
    | succ i =>
     have h1 := ih i (by simpa using hi) (by simpa using h)
     have h2 : ¬ Lib.indexByte l 0 = -1 := by simpa using h1
     rw [if_neg (by simpa using h2)]
     have := Lib.indexByte_ge l 0
     have h3 : ¬ Lib.indexByte l 0 + 1 = -1 := by omega
     simpa using h3
 unfold zbj
 rw [key _ i hi h]
 simp
end
section
def Part (p : List UInt8) : Prop := p ≠ [] ∧ (47 : UInt8) ∉ p
def zc4 (l : List (List UInt8)) : List UInt8 := l.flatMap fun p => 47 :: p
theorem joinL_nil : zc4 [] = [] := rfl
theorem zca (p : List UInt8) (l : List (List UInt8)) : zc4 (p :: l) = 47 :: (p ++ zc4 l) := by simp [zc4]
theorem joinL_append (l m : List (List UInt8)) : zc4 (l ++ m) = zc4 l ++ zc4 m := by simp [zc4]
theorem zdx (l : List (List UInt8)) (p : List UInt8) : zc4 (l ++ [p]) = zc4 l ++ 47 :: p := by simp [zc4]
theorem joinL_form (l : List (List UInt8)) : zc4 l = [] ∨ ∃ u, zc4 l = 47 :: u := by
 cases l with
 | nil => exact .inl rfl
 | cons p l => exact .inr ⟨_, zca p l⟩
theorem cut_part : ∀ {p q u v : List UInt8}, (47 : UInt8) ∉ p → (47 : UInt8) ∉ q → (u = [] ∨ ∃ x, u = 47 :: x) → (v = [] ∨ ∃ x, v = 47 :: x) → p ++ u = q ++ v → p = q ∧ u = v
 | [], [], u, v, _, _, _, _, h => ⟨rfl, h⟩
 | [], b :: q, u, v, _, hq, hu, _, h => by
  rcases hu with rfl | ⟨x, rfl⟩
  ·cases h
  ·simp only [List.nil_append, List.cons_append, List.cons.injEq] at h
   exact absurd (h.1 ▸ List.mem_cons_self ..) hq
 | a :: p, [], u, v, hp, _, _, hv, h => by
  rcases hv with rfl | ⟨x, rfl⟩
  ·cases h
  ·simp only [List.nil_append, List.cons_append, List.cons.injEq] at h
   exact absurd (h.1 ▸ List.mem_cons_self ..) hp
 | a :: p, b :: q, u, v, hp, hq, hu, hv, h => by
  simp only [List.cons_append, List.cons.injEq] at h
  obtain ⟨h1, h2⟩ := cut_part (fun hm => hp (List.mem_cons_of_mem _ hm)) (fun hm => hq (List.mem_cons_of_mem _ hm)) hu hv h.2
  exact ⟨by rw [h.1, h1], h2⟩
theorem joinL_inj : ∀ {l m : List (List UInt8)}, (∀ p ∈ l, Part p) → (∀ p ∈ m, Part p) → zc4 l = zc4 m → l = m
 | [], [], _, _, _ => rfl
 | [], q :: m, _, _, h => by rw [zca] at h; cases h
 | p :: l, [], _, _, h => by rw [zca] at h; cases h
 | p :: l, q :: m, hl, hm, h => by
  rw [zca, zca, List.cons.injEq] at h
  obtain ⟨h1, h2⟩ := cut_part (hl p (List.mem_cons_self ..)).2 (hm q (List.mem_cons_self ..)).2 (joinL_form l) (joinL_form m) h.2
  rw [h1, joinL_inj (fun x hx => hl x (List.mem_cons_of_mem _ hx)) (fun x hx => hm x (List.mem_cons_of_mem _ hx)) h2]
def bef : List UInt8 → List UInt8 → Bool
 | _, [] => false
 | [], _ :: _ => true
 | a :: p, b :: q => if a = b then bef p q else if a = 47 then true else if b = 47 then false else decide (a < b)
theorem bef_nil (p : List UInt8) : bef p [] = false := by cases p <;> rfl
theorem bef_nil_cons (b : UInt8) (q : List UInt8) : bef [] (b :: q) = true := rfl
def bk (a : UInt8) : Nat := if a = 47 then 0 else a.toNat + 1
theorem bk_inj {a b : UInt8} (h : bk a = bk b) : a = b := by
 unfold bk at h
 by_cases ha : a = 47
 ·by_cases hb : b = 47
  ·rw [ha, hb]
  ·rw [if_pos ha, if_neg hb] at h; omega
 ·by_cases hb : b = 47
  ·rw [if_neg ha, if_pos hb] at h; omega
  ·rw [if_neg ha, if_neg hb] at h
   exact UInt8.toNat_inj.1 (by omega)
theorem zfw (a b : UInt8) (p q : List UInt8) : bef (a :: p) (b :: q) = if bk a = bk b then bef p q else decide (bk a < bk b) := by
 rw [bef]
 by_cases hab : a = b
 ·rw [if_pos hab, if_pos (by rw [hab])]
 ·rw [if_neg hab, if_neg (fun h => hab (bk_inj h))]
  by_cases ha : a = 47
  ·have hb : ¬ b = 47 := fun h => hab (ha.trans h.symm)
   rw [if_pos ha]
   unfold bk
   rw [if_pos ha, if_neg hb]
   exact (decide_eq_true (by omega)).symm
  ·rw [if_neg ha]
   by_cases hb : b = 47
   ·rw [if_pos hb]
    unfold bk
    rw [if_pos hb]
    exact (decide_eq_false (by omega)).symm
   ·rw [if_neg hb]
    unfold bk
    rw [if_neg ha, if_neg hb]
    by_cases hlt : a < b
    ·rw [decide_eq_true hlt, decide_eq_true (by rw [UInt8.lt_iff_toNat_lt] at hlt; omega)]
    ·rw [decide_eq_false hlt, decide_eq_false (by rw [UInt8.lt_iff_toNat_lt] at hlt; omega)]
theorem zdb : ∀ p : List UInt8, bef p p = false
 | [] => rfl
 | a :: p => by rw [zfw, if_pos rfl]; exact zdb p
theorem bef_trans : ∀ {p q r : List UInt8}, bef p q = true → bef q r = true → bef p r = true
 | p, q, [], _, h2 => by rw [bef_nil] at h2; cases h2
 | p, [], c :: r, h1, _ => by rw [bef_nil] at h1; cases h1
 | [], b :: q, c :: r, _, _ => rfl
 | a :: p, b :: q, c :: r, h1, h2 => by
  rw [zfw] at *
  by_cases hab : bk a = bk b
  ·by_cases hbc : bk b = bk c
   ·rw [if_pos hab] at h1
    rw [if_pos hbc] at h2
    rw [if_pos (hab.trans hbc)]
    exact bef_trans h1 h2
   ·rw [if_neg hbc] at h2
    rw [hab, if_neg hbc]
    exact h2
  ·rw [if_neg hab] at h1
   have h1' := of_decide_eq_true h1
   by_cases hbc : bk b = bk c
   ·rw [← hbc, if_neg hab]
    exact h1
   ·rw [if_neg hbc] at h2
    have h2' := of_decide_eq_true h2
    rw [if_neg (by omega)]
    exact decide_eq_true (by omega)
theorem bef_total : ∀ {p q : List UInt8}, p ≠ q → bef p q = true ∨ bef q p = true
 | [], [], h => absurd rfl h
 | [], b :: q, _ => .inl rfl
 | a :: p, [], _ => .inr rfl
 | a :: p, b :: q, h => by
  rw [zfw, zfw]
  by_cases hab : bk a = bk b
  ·rw [if_pos hab, if_pos hab.symm]
   refine bef_total fun he => h ?_
   rw [he, bk_inj hab]
  ·rw [if_neg hab, if_neg (fun e => hab e.symm)]
   rcases Nat.lt_or_gt_of_ne hab with h1 | h1
   ·exact .inl (decide_eq_true h1)
   ·exact .inr (decide_eq_true h1)
theorem bef_append : ∀ (p a b : List UInt8), bef (p ++ a) (p ++ b) = bef a b
 | [], a, b => rfl
 | c :: p, a, b => by rw [List.cons_append, List.cons_append, zfw, if_pos rfl, bef_append p a b]
theorem bef_more (p : List UInt8) (c : UInt8) (q : List UInt8) : bef p (p ++ c :: q) = true := by
 have h := bef_append p [] (c :: q)
 rw [List.append_nil] at h
 rw [h]; rfl
theorem bef_names : ∀ {x y u v : List UInt8}, x < y → (47 : UInt8) ∉ x → (47 : UInt8) ∉ y → (u = [] ∨ ∃ z, u = 47 :: z) → bef (x ++ u) (y ++ v) = true
 | x, [], _, _, h, _, _, _ => absurd h (List.not_lt_nil x)
 | [], b :: y, u, v, _, _, hy, hu => by
  rcases hu with rfl | ⟨z, rfl⟩
  ·rfl
  ·have hb : ¬ b = 47 := fun e => hy (e ▸ List.mem_cons_self ..)
   rw [List.nil_append, List.cons_append, bef, if_neg (fun e => hb e.symm), if_pos rfl]
 | a :: x, b :: y, u, v, h, hx, hy, hu => by
  have ha : ¬ a = 47 := fun e => hx (e ▸ List.mem_cons_self ..)
  have hb : ¬ b = 47 := fun e => hy (e ▸ List.mem_cons_self ..)
  rw [List.cons_append, List.cons_append, bef]
  rcases List.cons_lt_cons_iff.1 h with h1 | ⟨h1, h2⟩
  ·have hne : ¬ a = b := fun e => by
    rw [e, UInt8.lt_iff_toNat_lt] at h1; omega
   rw [if_neg hne, if_neg ha, if_neg hb]
   exact decide_eq_true h1
  ·rw [if_pos h1]
   exact bef_names h2 (fun hm => hx (List.mem_cons_of_mem _ hm)) (fun hm => hy (List.mem_cons_of_mem _ hm)) hu
abbrev Ent := List UInt8 × Nat
def zaw : List Ent → List UInt8 → Option Nat
 | [], _ => none
 | e :: L, p => if e.1 = p then some e.2 else zaw L p
def zci : List Ent → List UInt8 → Nat → List Ent
 | [], p, n => [(p, n)]
 | e :: L, p, n => if bef e.1 p = true then e :: zci L p n else (p, n) :: e :: L
def zbb (L : List Ent) (p : List UInt8) : List Ent := L.filter fun e => decide (e.1 ≠ p)
def Srt (L : List Ent) : Prop := L.Pairwise fun a b => bef a.1 b.1 = true
theorem zcf : ∀ {L : List Ent} {p : List UInt8} {n : Nat}, zaw L p = some n → (p, n) ∈ L
 | [], _, _, h => by cases h
 | e :: L, p, n, h => by
  unfold zaw at h
  by_cases he : e.1 = p
  ·rw [if_pos he] at h
   obtain rfl := Option.some.inj h
   subst he
   exact List.mem_cons_self ..
  ·rw [if_neg he] at h
   exact List.mem_cons_of_mem _ (zcf h)
theorem zew : ∀ {L : List Ent} {p : List UInt8}, zaw L p = none → ∀ e ∈ L, e.1 ≠ p
 | [], _, _, _, he => by cases he
 | a :: L, p, h, e, he => by
  unfold zaw at h
  by_cases ha : a.1 = p
  ·rw [if_pos ha] at h; cases h
  ·rw [if_neg ha] at h
   rcases List.mem_cons.1 he with rfl | he
   ·exact ha
   ·exact zew h e he
theorem entAt_of_mem : ∀ {L : List Ent} {p : List UInt8} {n : Nat}, Srt L → (p, n) ∈ L → zaw L p = some n
 | [], _, _, _, h => by cases h
 | a :: L, p, n, hs, h => by
  unfold zaw
  rcases List.mem_cons.1 h with h | h
  ·subst h; rw [if_pos rfl]
  ·have h1 := (List.pairwise_cons.1 hs).1 _ h
   by_cases ha : a.1 = p
   ·rw [ha, zdb] at h1; cases h1
   ·rw [if_neg ha]
    exact entAt_of_mem (List.pairwise_cons.1 hs).2 h
theorem zdf : ∀ {L : List Ent} {p : List UInt8} {n : Nat} {e : Ent}, e ∈ zci L p n ↔ e = (p, n) ∨ e ∈ L
 | [], p, n, e => by simp [zci]
 | a :: L, p, n, e => by
  unfold zci
  by_cases h : bef a.1 p = true
  ·rw [if_pos h, List.mem_cons, zdf, List.mem_cons]
   constructor
   ·rintro (h | h | h)
    ·exact .inr (.inl h)
    ·exact .inl h
    ·exact .inr (.inr h)
   ·rintro (h | h | h)
    ·exact .inr (.inl h)
    ·exact .inl h
    ·exact .inr (.inr h)
  ·rw [if_neg h, List.mem_cons]
theorem insAt_srt : ∀ {L : List Ent} {p : List UInt8} (n : Nat), Srt L → zaw L p = none → Srt (zci L p n)
 | [], _, _, _, _ => List.pairwise_singleton ..
 | a :: L, p, n, hs, hn => by
  have hne := zew hn
  have hs' := List.pairwise_cons.1 hs
  have hn' : zaw L p = none := by
   unfold zaw at hn
   rw [if_neg (hne a (List.mem_cons_self ..))] at hn
   exact hn
  unfold zci
  by_cases h : bef a.1 p = true
  ·rw [if_pos h]
   refine List.pairwise_cons.2 ⟨fun e he => ?_, insAt_srt n hs'.2 hn'⟩
   rcases zdf.1 he with rfl | he
   ·exact h
   ·exact hs'.1 e he
  ·rw [if_neg h]
   have hpa : bef p a.1 = true := (bef_total (hne a (List.mem_cons_self ..))).resolve_left h
   refine List.pairwise_cons.2 ⟨fun e he => ?_, hs⟩
   rcases List.mem_cons.1 he with rfl | he
   ·exact hpa
   ·exact bef_trans hpa (hs'.1 e he)
theorem zb5 : ∀ {L : List Ent} {p : List UInt8} (n : Nat), zaw L p = none → ∀ q, zaw (zci L p n) q = if q = p then some n else zaw L q
 | [], p, n, _, q => by
  show (if p = q then some n else none) = _
  by_cases h : q = p
  ·rw [if_pos h, if_pos h.symm]
  ·rw [if_neg h, if_neg (fun e => h e.symm)]; rfl
 | a :: L, p, n, hn, q => by
  have ha : a.1 ≠ p := zew hn a (List.mem_cons_self ..)
  have hn' : zaw L p = none := by
   unfold zaw at hn
   rw [if_neg ha] at hn
   exact hn
  unfold zci
  by_cases h : bef a.1 p = true
  ·rw [if_pos h]
   show (if a.1 = q then some a.2 else zaw (zci L p n) q) = if q = p then some n else if a.1 = q then some a.2 else zaw L q
   rw [zb5 n hn' q]
   by_cases hq : a.1 = q
   ·rw [if_pos hq, if_pos hq, if_neg (fun e => ha (hq.trans e))]
   ·rw [if_neg hq, if_neg hq]
  ·rw [if_neg h]
   show (if p = q then some n else zaw (a :: L) q) = _
   by_cases hq : q = p
   ·rw [if_pos hq, if_pos hq.symm]
   ·rw [if_neg hq, if_neg (fun e => hq e.symm)]
theorem zet : ∀ (L : List Ent) (p : List UInt8) (n k : Nat), k ≤ L.length → (∀ j (h : j < L.length), j < k → bef L[j].1 p = true) → (∀ (h : k < L.length), bef L[k].1 p = false) → zci L p n = L.take k ++ (p, n) :: L.drop k
 | [], p, n, k, _, _, _ => by simp [zci]
 | a :: L, p, n, 0, _, _, h2 => by
  have h := h2 (by simp)
  rw [List.getElem_cons_zero] at h
  unfold zci
  rw [if_neg (by rw [h]; decide)]
  rfl
 | a :: L, p, n, k + 1, hk, h1, h2 => by
  have h := h1 0 (by simp) (by omega)
  rw [List.getElem_cons_zero] at h
  unfold zci
  rw [if_pos h, zet L p n k (by simpa using hk) (fun j hj hjk => by
   have := h1 (j + 1) (by simpa using hj) (by omega)
   rwa [List.getElem_cons_succ] at this) (fun hj => by
   have := h2 (by simpa using hj)
   rwa [List.getElem_cons_succ] at this)]
  rfl
theorem zfo {L : List Ent} {p : List UInt8} {e : Ent} : e ∈ zbb L p ↔ e ∈ L ∧ e.1 ≠ p := by simp [zbb]
theorem remAt_srt {L : List Ent} (p : List UInt8) (h : Srt L) : Srt (zbb L p) := h.filter _
theorem zdl : ∀ (L : List Ent) (p q : List UInt8), zaw (zbb L p) q = if q = p then none else zaw L q
 | [], p, q => by
  by_cases h : q = p
  ·rw [if_pos h]; rfl
  ·rw [if_neg h]; rfl
 | a :: L, p, q => by
  have ih := zdl L p q
  unfold zbb at *
  by_cases ha : a.1 = p
  ·rw [List.filter_cons_of_neg (by simp [ha]), ih]
   by_cases h : q = p
   ·rw [if_pos h, if_pos h]
   ·rw [if_neg h, if_neg h, zaw, if_neg (fun e => h (e.symm.trans ha))]
  ·rw [List.filter_cons_of_pos (by simp [ha]), zaw, ih]
   by_cases hq : a.1 = q
   ·rw [if_pos hq, if_neg (fun e => ha (hq.trans e)), zaw, if_pos hq]
   ·rw [if_neg hq]
    by_cases h : q = p
    ·rw [if_pos h, if_pos h]
    ·rw [if_neg h, if_neg h, zaw, if_neg hq]
theorem srt_unique : ∀ {L M : List Ent}, Srt L → Srt M → (∀ e, e ∈ L ↔ e ∈ M) → L = M
 | [], [], _, _, _ => rfl
 | [], b :: M, _, _, h => by have := (h b).2 (List.mem_cons_self ..); cases this
 | a :: L, [], _, _, h => by have := (h a).1 (List.mem_cons_self ..); cases this
 | a :: L, b :: M, hL, hM, h => by
  have hL' := List.pairwise_cons.1 hL
  have hM' := List.pairwise_cons.1 hM
  have hab : a = b := by
   rcases List.mem_cons.1 ((h a).1 (List.mem_cons_self ..)) with h1 | h1
   ·exact h1
   ·rcases List.mem_cons.1 ((h b).2 (List.mem_cons_self ..)) with h2 | h2
    ·exact h2.symm
    ·have h3 := bef_trans (hM'.1 a h1) (hL'.1 b h2)
     rw [zdb] at h3; cases h3
  subst hab
  have e : L = M := srt_unique hL'.2 hM'.2 fun e => by
   constructor
   ·intro he
    rcases List.mem_cons.1 ((h e).1 (List.mem_cons_of_mem _ he)) with h1 | h1
    ·have h3 := hL'.1 e he
     rw [h1, zdb] at h3; cases h3
    ·exact h1
   ·intro he
    rcases List.mem_cons.1 ((h e).2 (List.mem_cons_of_mem _ he)) with h1 | h1
    ·have h3 := hM'.1 e he
     rw [h1, zdb] at h3; cases h3
    ·exact h1
  rw [e]
def za4 (L : List Ent) (n : Nat) : Nat := (L.map (·.2)).count n
def cntD : List Nat → Nat
 | [] => 0
 | a :: l => cntD l + if a ∈ l then 0 else 1
def zbq (L : List Ent) : Nat := cntD (L.map (·.2))
theorem cntD_perm {l m : List Nat} (h : l.Perm m) : cntD l = cntD m := by
 induction h with
 | nil => rfl
 | @cons a l m hp ih =>
  unfold cntD
  rw [ih]
  by_cases ha : a ∈ l
  ·rw [if_pos ha, if_pos (hp.mem_iff.1 ha)]
  ·rw [if_neg ha, if_neg (fun h => ha (hp.mem_iff.2 h))]
 | swap a b l =>
  simp only [cntD, List.mem_cons]
  by_cases hab : a = b
  ·subst hab; rfl
  ·have hba : ¬ b = a := fun h => hab h.symm
   simp only [hab, hba, false_or]
   omega
 | trans _ _ ih1 ih2 => exact ih1.trans ih2
theorem cntD_snoc (l : List Nat) (a : Nat) : cntD (l ++ [a]) = cntD l + if a ∈ l then 0 else 1 := cntD_perm (m := a :: l) (by simp)
theorem zcn : ∀ (L : List Ent) (p : List UInt8) (n : Nat), (zci L p n).Perm ((p, n) :: L)
 | [], p, n => List.Perm.refl _
 | a :: L, p, n => by
  unfold zci
  by_cases h : bef a.1 p = true
  ·rw [if_pos h]
   exact ((zcn L p n).cons a).trans (List.Perm.swap ..)
  ·rw [if_neg h]
theorem remAt_same : ∀ {L : List Ent} {p : List UInt8}, zaw L p = none → zbb L p = L := by
 intro L p h
 unfold zbb
 exact List.filter_eq_self.2 fun e he => decide_eq_true (zew h e he)
theorem remAt_perm : ∀ {L : List Ent} {p : List UInt8} {n : Nat}, Srt L → zaw L p = some n → L.Perm ((p, n) :: zbb L p)
 | [], _, _, _, h => by cases h
 | a :: L, p, n, hs, h => by
  have hs' := List.pairwise_cons.1 hs
  unfold zaw at h
  by_cases ha : a.1 = p
  ·rw [if_pos ha] at h
   have hn : a.2 = n := Option.some.inj h
   have e : zaw L p = none := by
    cases he : zaw L p with
    | none => rfl
    | some k =>
     have h1 := hs'.1 _ (zcf he)
     rw [ha, zdb] at h1
     cases h1
   have e2 : zbb (a :: L) p = L := by
    have h3 := remAt_same e
    unfold zbb at *
    rw [List.filter_cons_of_neg (by simp [ha]), h3]
   rw [e2, ← ha, ← hn]
  ·rw [if_neg ha] at h
   have ih := remAt_perm hs'.2 h
   have e2 : zbb (a :: L) p = a :: zbb L p := by
    unfold zbb
    rw [List.filter_cons_of_pos (by simp [ha])]
   rw [e2]
   exact (ih.cons a).trans (List.Perm.swap ..)
theorem linksIn_ins (L : List Ent) (p : List UInt8) (n m : Nat) : za4 (zci L p n) m = za4 L m + if n = m then 1 else 0 := by
 unfold za4
 rw [((zcn L p n).map (·.2)).count_eq, List.map_cons, List.count_cons]
 by_cases h : n = m
 ·simp [h]
 ·simp [h]
theorem zfa {L : List Ent} {p : List UInt8} {n : Nat} (hs : Srt L) (h : zaw L p = some n) (m : Nat) : za4 L m = za4 (zbb L p) m + if n = m then 1 else 0 := by
 unfold za4
 rw [((remAt_perm hs h).map (·.2)).count_eq, List.map_cons, List.count_cons]
 by_cases h : n = m
 ·simp [h]
 ·simp [h]
theorem linksIn_pos {L : List Ent} {n : Nat} : 0 < za4 L n ↔ ∃ p, (p, n) ∈ L := by
 unfold za4
 rw [List.count_pos_iff, List.mem_map]
 constructor
 ·rintro ⟨e, h1, h2⟩
  exact ⟨e.1, by rw [← h2]; exact h1⟩
 ·rintro ⟨p, h⟩
  exact ⟨_, h, rfl⟩
theorem nodesIn_ins (L : List Ent) (p : List UInt8) (n : Nat) : zbq (zci L p n) = zbq L + if za4 L n = 0 then 1 else 0 := by
 unfold zbq za4
 rw [cntD_perm ((zcn L p n).map (·.2)), List.map_cons, cntD]
 congr 1
 by_cases h : n ∈ L.map (·.2)
 ·have h1 : ¬ (L.map (·.2)).count n = 0 := by have := List.count_pos_iff.2 h; omega
  rw [if_pos h, if_neg h1]
 ·rw [if_neg h, if_pos (List.count_eq_zero.2 h)]
theorem nodesIn_rem {L : List Ent} {p : List UInt8} {n : Nat} (hs : Srt L) (h : zaw L p = some n) : zbq L = zbq (zbb L p) + if za4 L n = 1 then 1 else 0 := by
 have h2 := zfa hs h n
 rw [if_pos rfl] at h2
 have h3 : zbq L = cntD (n :: (zbb L p).map (·.2)) := cntD_perm ((remAt_perm hs h).map (·.2))
 rw [h3, cntD]
 unfold zbq
 congr 1
 unfold za4 at *
 by_cases hm : n ∈ (zbb L p).map (·.2)
 ·have := List.count_pos_iff.2 hm
  rw [if_pos hm, if_neg (by omega)]
 ·have := List.count_eq_zero.2 hm
  rw [if_neg hm, if_pos (by omega)]
theorem zd5 {α : Type} {P : List α → Prop} (h0 : P []) (h1 : ∀ l x, P l → P (l ++ [x])) : ∀ l, P l := by
 intro l
 have h : ∀ m : List α, P m.reverse := by
  intro m
  induction m with
  | nil => exact h0
  | cons a m ih => rw [List.reverse_cons]; exact h1 _ a ih
 have := h l.reverse
 rwa [List.reverse_reverse] at this
theorem zb3 {α : Type} (l : List α) : l = [] ∨ ∃ m x, l = m ++ [x] := by
 refine zd5 (P := fun l => l = [] ∨ ∃ m x, l = m ++ [x]) (.inl rfl) ?_ l
 intro m x _
 exact .inr ⟨m, x, rfl⟩
theorem zcz {α : Type} {l m : List α} {x y : α} (h : l ++ [x] = m ++ [y]) : l = m ∧ x = y := by
 have := List.append_inj' h rfl
 simpa using this
def bl (x : ByteArray) : List UInt8 := x.data.toList
theorem bl_inj {x y : ByteArray} (h : bl x = bl y) : x = y := by
 unfold bl at h
 cases x with | mk x => cases y with | mk y => exact congrArg ByteArray.mk (Array.toList_inj.1 h)
def zal (l : List ByteArray) : List UInt8 := zc4 (l.map bl)
theorem zfr : zal [] = [] := rfl
theorem zcv (l : List ByteArray) (x : ByteArray) : zal (l ++ [x]) = zal l ++ 47 :: bl x := by
 unfold zal; rw [List.map_append, List.map_cons, List.map_nil, zdx]
def Pts (l : List ByteArray) : Prop := ∀ x ∈ l, Part (bl x)
theorem Pts.nil : Pts [] := fun x hx => by cases hx
theorem Pts.snoc {l : List ByteArray} {x : ByteArray} : Pts (l ++ [x]) ↔ Pts l ∧ Part (bl x) := by
 constructor
 ·intro h
  exact ⟨fun y hy => h y (List.mem_append_left _ hy), h x (by simp)⟩
 ·rintro ⟨h1, h2⟩ y hy
  rcases List.mem_append.1 hy with h | h
  ·exact h1 y h
  ·rw [List.mem_singleton.1 h]; exact h2
theorem map_bl_inj : ∀ {l m : List ByteArray}, l.map bl = m.map bl → l = m
 | [], [], _ => rfl
 | [], b :: m, h => by cases h
 | a :: l, [], h => by cases h
 | a :: l, b :: m, h => by
  simp only [List.map_cons, List.cons.injEq] at h
  rw [bl_inj h.1, map_bl_inj h.2]
theorem joinB_inj {l m : List ByteArray} (hl : Pts l) (hm : Pts m) (h : zal l = zal m) : l = m := by
 refine map_bl_inj (joinL_inj ?_ ?_ h)
 ·intro p hp
  obtain ⟨x, hx, rfl⟩ := List.mem_map.1 hp
  exact hl x hx
 ·intro p hp
  obtain ⟨x, hx, rfl⟩ := List.mem_map.1 hp
  exact hm x hx
def Tr.sk (T : Tr) (n : Nat) : Option (Bool × List (ByteArray × Nat)) := (T.nd n).map fun d => (d.dir, d.names)
theorem Tr.sk_some {T : Tr} {n : Nat} {d : Nd} (h : T.nd n = some d) : T.sk n = some (d.dir, d.names) := by unfold Tr.sk; rw [h]; rfl
theorem Tr.sk_none {T : Tr} {n : Nat} (h : T.nd n = none) : T.sk n = none := by unfold Tr.sk; rw [h]; rfl
def Tr.hop (T : Tr) (n : Nat) (x : ByteArray) : Option Nat :=
 match T.sk n with
 | some (true, names) => look names x
 | _ => none
def Tr.wk (T : Tr) : Nat → List ByteArray → Option Nat
 | n, [] => some n
 | n, x :: l => (T.hop n x).bind fun k => T.wk k l
def Tr.at (T : Tr) (l : List ByteArray) : Option Nat := T.wk T.root l
theorem Tr.wk_append (T : Tr) : ∀ (l m : List ByteArray) (n : Nat), T.wk n (l ++ m) = (T.wk n l).bind fun k => T.wk k m
 | [], _, _ => rfl
 | x :: l, m, n => by
  rw [List.cons_append, Tr.wk, Tr.wk]
  cases T.hop n x with
  | none => rfl
  | some k => exact Tr.wk_append T l m k
theorem Tr.at_nil (T : Tr) : T.at [] = some T.root := rfl
theorem Tr.at_snoc (T : Tr) (l : List ByteArray) (x : ByteArray) : T.at (l ++ [x]) = (T.at l).bind fun n => T.hop n x := by
 unfold Tr.at
 rw [Tr.wk_append]
 cases T.wk T.root l with
 | none => rfl
 | some k => show (T.hop k x).bind _ = T.hop k x; cases T.hop k x <;> rfl
theorem Tr.hop_dir {T : Tr} {n : Nat} {d : Nd} (h : T.nd n = some d) (hd : d.dir = true) (x : ByteArray) : T.hop n x = look d.names x := by
 unfold Tr.hop; rw [Tr.sk_some h, hd]
theorem Tr.hop_file {T : Tr} {n : Nat} {d : Nd} (h : T.nd n = some d) (hd : d.dir = false) (x : ByteArray) : T.hop n x = none := by
 unfold Tr.hop; rw [Tr.sk_some h, hd]
theorem Tr.hop_some {T : Tr} {n k : Nat} {x : ByteArray} (h : T.hop n x = some k) : ∃ d, T.nd n = some d ∧ d.dir = true ∧ look d.names x = some k := by
 unfold Tr.hop Tr.sk at h
 cases hn : T.nd n with
 | none => rw [hn] at h; cases h
 | some d =>
  rw [hn] at h
  simp only [Option.map_some] at h
  cases hd : d.dir with
  | false => rw [hd] at h; cases h
  | true => rw [hd] at h; exact ⟨d, rfl, hd, h⟩
theorem Tr.hop_sk {T T' : Tr} {n : Nat} (h : T'.sk n = T.sk n) (x : ByteArray) : T'.hop n x = T.hop n x := by unfold Tr.hop; rw [h]
structure TW (T : Tr) : Prop where
 root : ∃ d, T.nd T.root = some d ∧ d.dir = true
 kids : ∀ n d s k, T.nd n = some d → (s, k) ∈ d.names → ∃ d', T.nd k = some d'
 file : ∀ n d, T.nd n = some d → d.dir = false → d.names = []
 part : ∀ n d s k, T.nd n = some d → (s, k) ∈ d.names → Part (bl s) ∧ s.size ≤ 64
 keys : ∀ n d, T.nd n = some d → (d.names.map (·.1)).Nodup
 once : ∀ l m k d, T.at l = some k → T.at m = some k → T.nd k = some d → d.dir = true → l = m
theorem TW.there {T : Tr} (h : TW T) : ∀ {l : List ByteArray} {k : Nat}, T.at l = some k → ∃ d, T.nd k = some d := by
 intro l
 refine zd5 (P := fun l => ∀ {k : Nat}, T.at l = some k → ∃ d, T.nd k = some d) ?_ ?_ l
 ·intro k hk
  obtain rfl := Option.some.inj hk
  obtain ⟨d, h1, _⟩ := h.root
  exact ⟨d, h1⟩
 ·intro l x ih k hk
  rw [Tr.at_snoc] at hk
  cases hl : T.at l with
  | none => rw [hl] at hk; cases hk
  | some n =>
   rw [hl] at hk
   obtain ⟨d, h1, h2, h3⟩ := Tr.hop_some hk
   exact h.kids n d x k h1 (zdp h3)
theorem TW.pts {T : Tr} (h : TW T) : ∀ {l : List ByteArray} {k : Nat}, T.at l = some k → Pts l := by
 intro l
 refine zd5 (P := fun l => ∀ {k : Nat}, T.at l = some k → Pts l) ?_ ?_ l
 ·intro k _; exact Pts.nil
 ·intro l x ih k hk
  rw [Tr.at_snoc] at hk
  cases hl : T.at l with
  | none => rw [hl] at hk; cases hk
  | some n =>
   rw [hl] at hk
   obtain ⟨d, h1, h2, h3⟩ := Tr.hop_some hk
   exact Pts.snoc.2 ⟨ih hl, (h.part n d x k h1 (zdp h3)).1⟩
theorem look_append (names : List (ByteArray × Nat)) (nm x : ByteArray) (k : Nat) (h : look names nm = none) : look (names ++ [(nm, k)]) x = if x = nm then some k else look names x := by
 unfold look at *
 rw [List.find?_append]
 by_cases hx : x = nm
 ·subst hx
  rw [if_pos rfl]
  have h1 : names.find? (fun p => x == p.1) = none := by simpa using h
  rw [h1]
  have h2 : (x == x) = true := (MapKept.bytes_beq x x).2 rfl
  simp [h2]
 ·rw [if_neg hx]
  have h2 : (x == nm) = false := by
   cases hb : x == nm with
   | false => rfl
   | true => exact absurd ((MapKept.bytes_beq x nm).1 hb) hx
  cases names.find? (fun p => x == p.1) <;> simp [h2]
theorem zdg {names : List (ByteArray × Nat)} {s : ByteArray} {k : Nat} (hn : (names.map (·.1)).Nodup) (h : (s, k) ∈ names) : look names s = some k := by
 induction names with
 | nil => cases h
 | cons p l ih =>
  rw [List.map_cons, List.nodup_cons] at hn
  unfold look
  rw [List.find?_cons]
  rcases List.mem_cons.1 h with rfl | h
  ·have h2 : (s == s) = true := (MapKept.bytes_beq s s).2 rfl
   simp [h2]
  ·have hb : (s == p.1) = false := by
    cases hb : s == p.1 with
    | false => rfl
    | true =>
     have he := (MapKept.bytes_beq s p.1).1 hb
     exact absurd (List.mem_map.2 ⟨_, h, rfl⟩) (he ▸ hn.1)
   rw [hb]
   exact ih hn.2 h
theorem Tr.at_graft {T T' : Tr} (hT : TW T) {dp : List ByteArray} {i k : Nat} {nm : ByteArray} {names : List (ByteArray × Nat)} {b : Bool}
  (hroot : T'.root = T.root) (hi : T.at dp = some i) (hsi : T.sk i = some (true, names)) (hnm : look names nm = none) (hik : i ≠ k)
  (hi' : T'.sk i = some (true, names ++ [(nm, k)])) (hk' : T'.sk k = some (b, [])) (hk : T.sk k = none ∨ T.sk k = some (false, []))
  (hoth : ∀ n, n ≠ i → n ≠ k → T'.sk n = T.sk n) : ∀ l, T'.at l = if l = dp ++ [nm] then some k else T.at l := by
 have hhi : ∀ x, T.hop i x = look names x := fun x => by unfold Tr.hop; rw [hsi]
 have hhi' : ∀ x, T'.hop i x = if x = nm then some k else look names x := fun x => by unfold Tr.hop; rw [hi']; exact look_append names nm x k hnm
 have hhk' : ∀ x, T'.hop k x = none := fun x => by
  unfold Tr.hop
  rw [hk']
  cases b <;> rfl
 have hhk : ∀ x, T.hop k x = none := fun x => by
  unfold Tr.hop
  rcases hk with h | h <;> rw [h]
 refine zd5 ?_ ?_
 ·rw [if_neg (by simp)]
  show some T'.root = some T.root
  rw [hroot]
 ·intro l x ih
  rw [Tr.at_snoc, Tr.at_snoc, ih]
  by_cases hl : l = dp ++ [nm]
  ·rw [if_pos hl]
   show T'.hop k x = _
   rw [hhk']
   have hne : ¬ l ++ [x] = dp ++ [nm] := fun e => by
    have := (zcz e).1
    rw [this] at hl
    have := congrArg List.length hl
    simp at this
   rw [if_neg hne, hl, Tr.at_snoc, hi]
   show none = (T.hop i nm).bind _
   rw [hhi, hnm]
   rfl
  ·rw [if_neg hl]
   cases hn : T.at l with
   | none =>
    have hne : ¬ l ++ [x] = dp ++ [nm] := fun e => by
     rw [(zcz e).1, hi] at hn; cases hn
    rw [if_neg hne]
    rfl
   | some n =>
    show T'.hop n x = if l ++ [x] = dp ++ [nm] then some k else T.hop n x
    by_cases hni : n = i
    ·subst hni
     obtain ⟨d, hd⟩ := hT.there hi
     have hdd := Tr.sk_some hd
     rw [hsi] at hdd
     have hdir : d.dir = true := by
      have := Option.some.inj hdd
      exact (congrArg Prod.fst this).symm
     have hld : l = dp := hT.once l dp n d hn hi hd hdir
     subst hld
     rw [hhi', hhi]
     by_cases hx : x = nm
     ·rw [if_pos hx, if_pos (by rw [hx])]
     ·rw [if_neg hx, if_neg (fun e => hx (zcz e).2)]
    ·have hne : ¬ l ++ [x] = dp ++ [nm] := fun e => by
      rw [(zcz e).1, hi] at hn
      exact hni (Option.some.inj hn).symm
     rw [if_neg hne]
     by_cases hnk : n = k
     ·subst hnk
      rw [hhk', hhk]
     ·exact Tr.hop_sk (hoth n hni hnk) x
theorem look_filter (names : List (ByteArray × Nat)) (nm x : ByteArray) : look (names.filter fun p => !(nm == p.1)) x = if x = nm then none else look names x := by
 induction names with
 | nil => by_cases h : x = nm <;> simp [look, h]
 | cons p l ih =>
  by_cases hp : (nm == p.1) = true
  ·have he := (MapKept.bytes_beq nm p.1).1 hp
   rw [List.filter_cons_of_neg (by simp [hp]), ih]
   by_cases hx : x = nm
   ·rw [if_pos hx, if_pos hx]
   ·rw [if_neg hx, if_neg hx]
    have hb : (x == p.1) = false := by
     cases hb : x == p.1 with
     | false => rfl
     | true => exact absurd (((MapKept.bytes_beq x p.1).1 hb).trans he.symm) hx
    unfold look
    rw [List.find?_cons, hb]
  ·have hp' : (nm == p.1) = false := by simpa using hp
   rw [List.filter_cons_of_pos (by simp [hp'])]
   have ih' := ih
   unfold look at *
   rw [List.find?_cons, List.find?_cons]
   by_cases hb : (x == p.1) = true
   ·have he := (MapKept.bytes_beq x p.1).1 hb
    have hx : ¬ x = nm := fun e => by
     rw [e] at he
     rw [(MapKept.bytes_beq nm p.1).2 he] at hp'
     cases hp'
    rw [hb, if_neg hx]
   ·have hb' : (x == p.1) = false := by simpa using hb
    rw [hb']
    exact ih'
theorem Tr.at_prune {T T' : Tr} (hT : TW T) {dp : List ByteArray} {i k : Nat} {nm : ByteArray} {names : List (ByteArray × Nat)} {b : Bool}
  (hroot : T'.root = T.root) (hi : T.at dp = some i) (hsi : T.sk i = some (true, names)) (hnm : look names nm = some k) (hk : T.sk k = some (b, [])) (hk' : ∀ x, T'.hop k x = none)
  (hi' : T'.sk i = some (true, names.filter fun p => !(nm == p.1))) (hoth : ∀ n, n ≠ i → n ≠ k → T'.sk n = T.sk n) : ∀ l, T'.at l = if l = dp ++ [nm] then none else T.at l := by
 have hhi : ∀ x, T.hop i x = look names x := fun x => by unfold Tr.hop; rw [hsi]
 have hhi' : ∀ x, T'.hop i x = if x = nm then none else look names x := fun x => by unfold Tr.hop; rw [hi']; exact look_filter names nm x
 have hhk : ∀ x, T.hop k x = none := fun x => by
  unfold Tr.hop
  rw [hk]
  cases b <;> rfl
 refine zd5 ?_ ?_
 ·rw [if_neg (by simp)]
  show some T'.root = some T.root
  rw [hroot]
 ·intro l x ih
  rw [Tr.at_snoc, Tr.at_snoc, ih]
  by_cases hl : l = dp ++ [nm]
  ·have hne : ¬ l ++ [x] = dp ++ [nm] := fun e => by
    have := (zcz e).1
    rw [this] at hl
    have := congrArg List.length hl
    simp at this
   rw [if_pos hl, if_neg hne, hl, Tr.at_snoc, hi]
   show none = (T.hop i nm).bind _
   rw [hhi, hnm]
   exact (hhk x).symm
  ·rw [if_neg hl]
   cases hn : T.at l with
   | none =>
    have hne : ¬ l ++ [x] = dp ++ [nm] := fun e => by
     rw [(zcz e).1, hi] at hn; cases hn
    rw [if_neg hne]
    rfl
   | some n =>
    show T'.hop n x = if l ++ [x] = dp ++ [nm] then none else T.hop n x
    by_cases hni : n = i
    ·subst hni
     obtain ⟨d, hd⟩ := hT.there hi
     have hdd := Tr.sk_some hd
     rw [hsi] at hdd
     have hdir : d.dir = true := by
      have := Option.some.inj hdd
      exact (congrArg Prod.fst this).symm
     have hld : l = dp := hT.once l dp n d hn hi hd hdir
     subst hld
     rw [hhi', hhi]
     by_cases hx : x = nm
     ·rw [if_pos hx, if_pos (by rw [hx])]
     ·rw [if_neg hx, if_neg (fun e => hx (zcz e).2)]
    ·have hne : ¬ l ++ [x] = dp ++ [nm] := fun e => by
      rw [(zcz e).1, hi] at hn
      exact hni (Option.some.inj hn).symm
     rw [if_neg hne]
     by_cases hnk : n = k
     ·subst hnk
      rw [hk', hhk]
     ·exact Tr.hop_sk (hoth n hni hnk) x
theorem Tr.wk_same {T T' : Tr} (h : ∀ n, T'.sk n = T.sk n) : ∀ (l : List ByteArray) (n : Nat), T'.wk n l = T.wk n l
 | [], _ => rfl
 | x :: l, n => by
  rw [Tr.wk, Tr.wk, Tr.hop_sk (h n) x]
  cases T.hop n x with
  | none => rfl
  | some k => exact Tr.wk_same h l k
theorem Tr.at_same {T T' : Tr} (hroot : T'.root = T.root) (h : ∀ n, T'.sk n = T.sk n) (l : List ByteArray) : T'.at l = T.at l := by
 unfold Tr.at; rw [hroot, Tr.wk_same h]
theorem Tr.goTo_snoc (T : Tr) : ∀ (l : List ByteArray) (x : ByteArray) (s : Spot), T.goTo s (l ++ [x]) = (T.goTo s l).bind fun s' => T.goTo s' [x]
 | [], x, s => rfl
 | y :: l, x, s => by
  obtain ⟨a, nm, n⟩ := s
  cases n with
  | none => rfl
  | some n =>
   cases hd : T.nd n with
   | none => simp [Tr.goTo, hd]
   | some d =>
    by_cases hdir : d.dir = true
    ·rw [List.cons_append, Tr.goTo_cons_dir hd hdir, Tr.goTo_cons_dir hd hdir]
     exact Tr.goTo_snoc T l x _
    ·have hf : d.dir = false := by simpa using hdir
     rw [List.cons_append, Tr.goTo_cons_file hd hf, Tr.goTo_cons_file hd hf]
     rfl
theorem Tr.goTo_at {T : Tr} : ∀ (l : List ByteArray) (s : Spot), T.goTo T.start l = some s → s.n = T.at l := by
 refine zd5 ?_ ?_
 ·intro s h
  obtain rfl := Option.some.inj h
  rfl
 ·intro l x ih s h
  rw [Tr.goTo_snoc] at h
  cases hg : T.goTo T.start l with
  | none => rw [hg] at h; cases h
  | some s' =>
   rw [hg] at h
   have h1 := ih s' hg
   obtain ⟨a, nm, n⟩ := s'
   have h2 : T.goTo ⟨a, nm, n⟩ [x] = some s := h
   rw [Tr.at_snoc, ← h1]
   cases n with
   | none => cases h2
   | some n =>
    show _ = T.hop n x
    cases hd : T.nd n with
    | none => simp [Tr.goTo, hd] at h2
    | some d =>
     by_cases hdir : d.dir = true
     ·rw [Tr.goTo_cons_dir hd hdir] at h2
      obtain rfl := Option.some.inj h2
      exact (Tr.hop_dir hd hdir x).symm
     ·rw [Tr.goTo_cons_file hd (by simpa using hdir)] at h2
      cases h2
theorem Tr.goTo_of_at {T : Tr} : ∀ (l : List ByteArray) (k : Nat), T.at l = some k → ∃ s, T.goTo T.start l = some s ∧ s.n = some k := by
 refine zd5 ?_ ?_
 ·intro k h
  exact ⟨T.start, rfl, h⟩
 ·intro l x ih k h
  rw [Tr.at_snoc] at h
  cases hl : T.at l with
  | none => rw [hl] at h; cases h
  | some n =>
   rw [hl] at h
   obtain ⟨s, h1, h2⟩ := ih n hl
   obtain ⟨d, h3, h4, h5⟩ := Tr.hop_some h
   refine ⟨⟨some n, x, some k⟩, ?_, rfl⟩
   rw [Tr.goTo_snoc, h1]
   obtain ⟨a, nm, m⟩ := s
   have h6 : m = some n := h2
   subst h6
   show T.goTo ⟨a, nm, some n⟩ [x] = _
   rw [Tr.goTo_cons_dir h3 h4, h5]
   rfl
theorem Tr.parts_dir {T : Tr} {l : List ByteArray} {x : ByteArray} {i : Nat} {d : Nd} (h : T.at l = some i) (hd : T.nd i = some d) (hdir : d.dir = true) : T.parts (l ++ [x]) = .ok ⟨some i, x, look d.names x⟩ := by
 obtain ⟨s, h1, h2⟩ := Tr.goTo_of_at l i h
 refine Tr.parts_some ?_
 rw [Tr.goTo_snoc, h1]
 obtain ⟨a, nm, m⟩ := s
 have h6 : m = some i := h2
 subst h6
 show T.goTo ⟨a, nm, some i⟩ [x] = _
 rw [Tr.goTo_cons_dir hd hdir]
 rfl
theorem Tr.parts_bad {T : Tr} {l : List ByteArray} {x : ByteArray} (h : ∀ i d, T.at l = some i → T.nd i = some d → d.dir = false) : T.parts (l ++ [x]) = .error 16 := by
 refine Tr.parts_none ?_
 rw [Tr.goTo_snoc]
 cases hg : T.goTo T.start l with
 | none => rfl
 | some s =>
  have h1 := Tr.goTo_at l s hg
  obtain ⟨a, nm, m⟩ := s
  show T.goTo ⟨a, nm, m⟩ [x] = none
  cases m with
  | none => rfl
  | some n =>
   cases hd : T.nd n with
   | none => simp [Tr.goTo, hd]
   | some d => exact Tr.goTo_cons_file hd (h n d h1.symm hd) a nm x []
theorem Tr.parts_root (T : Tr) : T.parts [] = .ok T.start := rfl
structure RNd where
 dir : Bool
 dv : Value
 data : List UInt8
 tick : Int
structure RT where
 tb : Nat
 lv : Value
 L : List Ent
 now : Int
 nd : Nat → Option RNd
structure Sim (T : Tr) (R : RT) (f : Nat → Nat) : Prop where
 leads : ∀ l, Pts l → zaw R.L (zal l) = (T.at l).map f
 form : ∀ e ∈ R.L, ∃ l, Pts l ∧ e.1 = zal l
 srt : Srt R.L
 node : ∀ n d, T.nd n = some d → ∃ r, R.nd (f n) = some r ∧ r.dir = d.dir ∧ r.data = d.data ∧ r.tick = d.tick
 inj : ∀ n m d e, T.nd n = some d → T.nd m = some e → f n = f m → n = m
 now : R.now = T.clock
 links : ∀ n d, T.nd n = some d → d.dir = false → d.links = za4 R.L (f n)
 count : T.count = zbq R.L
theorem Sim.entry {T : Tr} {R : RT} {f : Nat → Nat} (h : Sim T R f) {e : Ent} (he : e ∈ R.L) : ∃ l n, Pts l ∧ e.1 = zal l ∧ T.at l = some n ∧ e.2 = f n := by
 obtain ⟨l, h1, h2⟩ := h.form e he
 have h3 := entAt_of_mem (p := e.1) (n := e.2) h.srt he
 rw [h2, h.leads l h1] at h3
 cases hl : T.at l with
 | none => rw [hl] at h3; cases h3
 | some n =>
  rw [hl] at h3
  exact ⟨l, n, h1, h2, hl, (Option.some.inj h3).symm⟩
theorem Sim.fresh {T : Tr} {R : RT} {f : Nat → Nat} (hT : TW T) (h : Sim T R f) {m : Nat} (hm : R.nd m = none) : za4 R.L m = 0 := by
 rcases Nat.eq_zero_or_pos (za4 R.L m) with h0 | h0
 ·exact h0
 ·obtain ⟨p, hp⟩ := linksIn_pos.1 h0
  obtain ⟨l, n, _, _, h3, h4⟩ := h.entry hp
  obtain ⟨d, hd⟩ := hT.there h3
  obtain ⟨r, hr, _⟩ := h.node n d hd
  rw [← h4] at hr
  rw [hm] at hr
  cases hr
structure Grown (T T' : Tr) (i k : Nat) (di dk : Nd) (nm : ByteArray) : Prop where
 root : T'.root = T.root
 clock : T'.clock = T.clock + 1
 count : T'.count = T.count + 1
 here : T'.nd k = some dk
 bare : dk.names = []
 tick : dk.tick = T.clock + 1
 one : dk.dir = false → dk.links = 1
 up : T'.nd i = some { di with names := di.names ++ [(nm, k)], tick := T.clock + 1 }
 oth : ∀ n, n ≠ i → n ≠ k → T'.nd n = T.nd n
structure RGrown (R R' : RT) (p : List UInt8) (i m : Nat) (ri rk : RNd) : Prop where
 L : R'.L = zci R.L p m
 now : R'.now = R.now + 1
 here : R'.nd m = some rk
 tick : rk.tick = R.now + 1
 up : R'.nd i = some { ri with tick := R.now + 1 }
 oth : ∀ n, n ≠ i → n ≠ m → R'.nd n = R.nd n
def upd (f : Nat → Nat) (k m : Nat) : Nat → Nat := fun x => if x = k then m else f x
theorem upd_k (f : Nat → Nat) (k m : Nat) : upd f k m k = m := by unfold upd; rw [if_pos rfl]
theorem zee (f : Nat → Nat) {k m x : Nat} (h : x ≠ k) : upd f k m x = f x := by unfold upd; rw [if_neg h]
section
variable {T T' : Tr} {i k : Nat} {di dk : Nd} {nm : ByteArray} {dp : List ByteArray}
theorem Grown.at (h : Grown T T' i k di dk nm) (hT : TW T) (hi : T.at dp = some i) (hdi : T.nd i = some di) (hdir : di.dir = true) (hlk : look di.names nm = none) (hk : T.nd k = none) : ∀ l, T'.at l = if l = dp ++ [nm] then some k else T.at l := by
 have hik : i ≠ k := fun e => by rw [e, hk] at hdi; cases hdi
 refine Tr.at_graft (names := di.names) (b := dk.dir) hT h.root hi ?_ hlk hik ?_ ?_ (.inl (Tr.sk_none hk)) ?_
 ·rw [Tr.sk_some hdi, hdir]
 ·rw [Tr.sk_some h.up, hdir]
 ·rw [Tr.sk_some h.here, h.bare]
 ·intro n h1 h2
  unfold Tr.sk
  rw [h.oth n h1 h2]
theorem Grown.tw (h : Grown T T' i k di dk nm) (hT : TW T) (hi : T.at dp = some i) (hdi : T.nd i = some di) (hdir : di.dir = true) (hlk : look di.names nm = none) (hk : T.nd k = none) (hnm : Part (bl nm)) (h64 : nm.size ≤ 64) : TW T' := by
 have hik : i ≠ k := fun e => by rw [e, hk] at hdi; cases hdi
 have hat := h.at hT hi hdi hdir hlk hk
 have hnd : ∀ n d, T'.nd n = some d → (n = k ∧ d = dk) ∨ (n = i ∧ n ≠ k ∧ d = { di with names := di.names ++ [(nm, k)], tick := T.clock + 1 }) ∨ (n ≠ i ∧ n ≠ k ∧ T.nd n = some d) := by
  intro n d hn
  by_cases hnk : n = k
  ·subst hnk
   rw [h.here] at hn
   exact .inl ⟨rfl, (Option.some.inj hn).symm⟩
  ·by_cases hni : n = i
   ·subst hni
    rw [h.up] at hn
    exact .inr (.inl ⟨rfl, hnk, (Option.some.inj hn).symm⟩)
   ·rw [h.oth n hni hnk] at hn
    exact .inr (.inr ⟨hni, hnk, hn⟩)
 have hkeep : ∀ n d, T.nd n = some d → ∃ d', T'.nd n = some d' := by
  intro n d hn
  by_cases hnk : n = k
  ·exact ⟨dk, by rw [hnk]; exact h.here⟩
  ·by_cases hni : n = i
   ·exact ⟨_, by rw [hni]; exact h.up⟩
   ·exact ⟨d, by rw [h.oth n hni hnk]; exact hn⟩
 refine ⟨?_, ?_, ?_, ?_, ?_, ?_⟩
 ·obtain ⟨d, h1, h2⟩ := hT.root
  rw [h.root]
  by_cases hri : T.root = i
  ·rw [hri]
   exact ⟨_, h.up, hdir⟩
  ·have hrk : T.root ≠ k := fun e => by rw [e, hk] at h1; cases h1
   exact ⟨d, (h.oth _ hri hrk).trans h1, h2⟩
 ·intro n d s c hn hs
  rcases hnd n d hn with ⟨rfl, rfl⟩ | ⟨rfl, _, rfl⟩ | ⟨_, _, hn⟩
  ·rw [h.bare] at hs; cases hs
  ·rcases List.mem_append.1 hs with hs | hs
   ·obtain ⟨d', hd'⟩ := hT.kids n di s c hdi hs
    exact hkeep c d' hd'
   ·simp only [List.mem_singleton, Prod.mk.injEq] at hs
    exact ⟨dk, by rw [hs.2]; exact h.here⟩
  ·obtain ⟨d', hd'⟩ := hT.kids n d s c hn hs
   exact hkeep c d' hd'
 ·intro n d hn hf
  rcases hnd n d hn with ⟨rfl, rfl⟩ | ⟨rfl, _, rfl⟩ | ⟨_, _, hn⟩
  ·exact h.bare
  ·have hf' : di.dir = false := hf
   rw [hdir] at hf'; cases hf'
  ·exact hT.file n d hn hf
 ·intro n d s c hn hs
  rcases hnd n d hn with ⟨rfl, rfl⟩ | ⟨rfl, _, rfl⟩ | ⟨_, _, hn⟩
  ·rw [h.bare] at hs; cases hs
  ·rcases List.mem_append.1 hs with hs | hs
   ·exact hT.part n di s c hdi hs
   ·simp only [List.mem_singleton, Prod.mk.injEq] at hs
    rw [hs.1]
    exact ⟨hnm, h64⟩
  ·exact hT.part n d s c hn hs
 ·intro n d hn
  rcases hnd n d hn with ⟨rfl, rfl⟩ | ⟨rfl, _, rfl⟩ | ⟨_, _, hn⟩
  ·rw [h.bare]; exact List.nodup_nil
  ·show ((di.names ++ [(nm, k)]).map (·.1)).Nodup
   rw [List.map_append, List.map_cons, List.map_nil]
   refine List.nodup_append.2 ⟨hT.keys n di hdi, by simp, ?_⟩
   intro a ha b hb
   simp only [List.mem_singleton] at hb
   subst hb
   obtain ⟨p, hp, rfl⟩ := List.mem_map.1 ha
   exact zd8 hlk p hp
  ·exact hT.keys n d hn
 ·intro l m c d hl hm hc hd
  rw [hat] at hl hm
  have hno : ∀ x, T.at x ≠ some k := fun x hx => by
   obtain ⟨d', hd'⟩ := hT.there hx
   rw [hk] at hd'; cases hd'
  by_cases h1 : l = dp ++ [nm]
  ·rw [if_pos h1] at hl
   obtain rfl := Option.some.inj hl
   by_cases h2 : m = dp ++ [nm]
   ·rw [h1, h2]
   ·rw [if_neg h2] at hm
    exact absurd hm (hno m)
  ·rw [if_neg h1] at hl
   by_cases h2 : m = dp ++ [nm]
   ·rw [if_pos h2] at hm
    obtain rfl := Option.some.inj hm
    exact absurd hl (hno l)
   ·rw [if_neg h2] at hm
    rcases hnd c d hc with ⟨rfl, rfl⟩ | ⟨rfl, _, rfl⟩ | ⟨_, _, hn⟩
    ·exact absurd hl (hno l)
    ·exact hT.once l m c di hl hm hdi hdir
    ·exact hT.once l m c d hl hm hn hd
theorem Sim.grown {R R' : RT} {f : Nat → Nat} {ri rk : RNd} {m : Nat} (hS : Sim T R f) (hT : TW T) (h : Grown T T' i k di dk nm) (hi : T.at dp = some i) (hdi : T.nd i = some di) (hdir : di.dir = true) (hlk : look di.names nm = none) (hk : T.nd k = none)
  (hdp : Pts (dp ++ [nm])) (hR : RGrown R R' (zal (dp ++ [nm])) (f i) m ri rk) (hri : R.nd (f i) = some ri) (hm : R.nd m = none) (hsame : rk.dir = dk.dir ∧ rk.data = dk.data) : Sim T' R' (upd f k m) := by
 have hik : i ≠ k := fun e => by rw [e, hk] at hdi; cases hdi
 have hat := h.at hT hi hdi hdir hlk hk
 have hno : ∀ x, T.at x ≠ some k := fun x hx => by
  obtain ⟨d', hd'⟩ := hT.there hx
  rw [hk] at hd'; cases hd'
 have hnone : T.at (dp ++ [nm]) = none := by
  rw [Tr.at_snoc, hi]
  show T.hop i nm = none
  rw [Tr.hop_dir hdi hdir, hlk]
 have hent : zaw R.L (zal (dp ++ [nm])) = none := by rw [hS.leads _ hdp, hnone]; rfl
 have hfm : ∀ n d, T.nd n = some d → f n ≠ m := fun n d hn e => by
  obtain ⟨r, hr, _⟩ := hS.node n d hn
  rw [e, hm] at hr; cases hr
 have hfi : ∀ n d, T.nd n = some d → n ≠ i → f n ≠ f i := fun n d hn hne e => hne (hS.inj n i d di hn hdi e)
 have hnd : ∀ n d, T'.nd n = some d → (n = k ∧ d = dk) ∨ (n = i ∧ n ≠ k ∧ d = { di with names := di.names ++ [(nm, k)], tick := T.clock + 1 }) ∨ (n ≠ i ∧ n ≠ k ∧ T.nd n = some d) := by
  intro n d hn
  by_cases hnk : n = k
  ·subst hnk
   rw [h.here] at hn
   exact .inl ⟨rfl, (Option.some.inj hn).symm⟩
  ·by_cases hni : n = i
   ·subst hni
    rw [h.up] at hn
    exact .inr (.inl ⟨rfl, hnk, (Option.some.inj hn).symm⟩)
   ·rw [h.oth n hni hnk] at hn
    exact .inr (.inr ⟨hni, hnk, hn⟩)
 have hm0 := hS.fresh hT hm
 refine ⟨?_, ?_, ?_, ?_, ?_, ?_, ?_, ?_⟩
 ·intro l hl
  rw [hR.L, zb5 m hent, hat]
  by_cases he : l = dp ++ [nm]
  ·rw [if_pos he, if_pos (by rw [he])]
   show some m = some (upd f k m k)
   rw [upd_k]
  ·rw [if_neg he, if_neg (fun e => he (joinB_inj hl hdp e)), hS.leads l hl]
   cases hn : T.at l with
   | none => rfl
   | some n =>
    show some (f n) = some (upd f k m n)
    rw [zee f (fun e => hno l (by rw [hn, e]))]
 ·intro e he
  rw [hR.L] at he
  rcases zdf.1 he with rfl | he
  ·exact ⟨_, hdp, rfl⟩
  ·exact hS.form e he
 ·rw [hR.L]
  exact insAt_srt m hS.srt hent
 ·intro n d hn
  rcases hnd n d hn with ⟨rfl, rfl⟩ | ⟨rfl, h1, rfl⟩ | ⟨h1, h2, hn⟩
  ·rw [upd_k]
   exact ⟨rk, hR.here, hsame.1, hsame.2, by rw [hR.tick, h.tick, hS.now]⟩
  ·rw [zee f h1]
   obtain ⟨r, hr, q1, q2, q3⟩ := hS.node n di hdi
   rw [hri] at hr
   obtain rfl := Option.some.inj hr
   exact ⟨_, hR.up, q1, q2, by show R.now + 1 = T.clock + 1; rw [hS.now]⟩
  ·rw [zee f h2]
   obtain ⟨r, hr, q⟩ := hS.node n d hn
   exact ⟨r, (hR.oth _ (hfi n d hn h1) (hfm n d hn)).trans hr, q⟩
 ·intro a b d e ha hb hab
  have hdom : ∀ x y, T'.nd x = some y → x ≠ k → ∃ z, T.nd x = some z := fun x y hx hxk => by
   rcases hnd x y hx with ⟨rfl, _⟩ | ⟨rfl, _, _⟩ | ⟨_, _, h3⟩
   ·exact absurd rfl hxk
   ·exact ⟨_, hdi⟩
   ·exact ⟨_, h3⟩
  by_cases hak : a = k
  ·by_cases hbk : b = k
   ·rw [hak, hbk]
   ·rw [hak, upd_k, zee f hbk] at hab
    obtain ⟨z, hz⟩ := hdom b e hb hbk
    exact absurd hab.symm (hfm b z hz)
  ·obtain ⟨z, hz⟩ := hdom a d ha hak
   by_cases hbk : b = k
   ·rw [hbk, upd_k, zee f hak] at hab
    exact absurd hab (hfm a z hz)
   ·rw [zee f hak, zee f hbk] at hab
    obtain ⟨y, hy⟩ := hdom b e hb hbk
    exact hS.inj a b z y hz hy hab
 ·rw [hR.now, h.clock, hS.now]
 ·intro n d hn hf
  rw [hR.L, linksIn_ins]
  rcases hnd n d hn with ⟨rfl, rfl⟩ | ⟨rfl, h1, rfl⟩ | ⟨h1, h2, hn⟩
  ·rw [upd_k, hm0, if_pos rfl, h.one hf]; rfl
  ·have hf' : di.dir = false := hf
   rw [hdir] at hf'; cases hf'
  ·rw [zee f h2, if_neg (fun e => hfm n d hn e.symm), hS.links n d hn hf]
   simp
 ·rw [hR.L, nodesIn_ins, hm0, if_pos rfl, h.count, hS.count]
  simp
end
structure RLinked (R R' : RT) (p : List UInt8) (i m : Nat) (ri : RNd) : Prop where
 L : R'.L = zci R.L p m
 now : R'.now = R.now + 1
 up : R'.nd i = some { ri with tick := R.now + 1 }
 oth : ∀ n, n ≠ i → R'.nd n = R.nd n
section
variable {T T' : Tr} {i k : Nat} {di dk : Nd} {nm : ByteArray} {dp q : List ByteArray}
end
structure Pruned (T T' : Tr) (i k : Nat) (di dk : Nd) (nm : ByteArray) : Prop where
 root : T'.root = T.root
 clock : T'.clock = T.clock + 1
 count : T'.count = T.count - if dk.dir = true ∨ dk.links = 1 then 1 else 0
 dirs : dk.dir = true → T'.nd k = none
 files : dk.dir = false → T'.nd k = some { dk with links := dk.links - 1 }
 up : T'.nd i = some { di with names := di.names.filter (fun p => !(nm == p.1)), tick := T.clock + 1 }
 oth : ∀ n, n ≠ i → n ≠ k → T'.nd n = T.nd n
structure RPruned (R R' : RT) (p : List UInt8) (i : Nat) (ri : RNd) : Prop where
 L : R'.L = zbb R.L p
 now : R'.now = R.now + 1
 up : R'.nd i = some { ri with tick := R.now + 1 }
 oth : ∀ n, n ≠ i → R'.nd n = R.nd n
section
variable {T T' : Tr} {i k : Nat} {di dk : Nd} {nm : ByteArray} {dp q : List ByteArray}
theorem TW.apart {T : Tr} {i k : Nat} {di : Nd} {nm : ByteArray} {dp : List ByteArray} (hT : TW T) (hi : T.at dp = some i) (hdi : T.nd i = some di) (hdir : di.dir = true) (hlk : look di.names nm = some k) : i ≠ k := fun e => by
 subst e
 have h1 : T.at (dp ++ [nm]) = some i := by
  rw [Tr.at_snoc, hi]
  exact (Tr.hop_dir hdi hdir nm).trans hlk
 have h2 := congrArg List.length (hT.once _ _ i di hi h1 hdi hdir)
 simp at h2
theorem Pruned.at (h : Pruned T T' i k di dk nm) (hT : TW T) (hi : T.at dp = some i) (hdi : T.nd i = some di) (hdir : di.dir = true) (hlk : look di.names nm = some k) (hk : T.nd k = some dk) (hb : dk.names = []) : ∀ l, T'.at l = if l = dp ++ [nm] then none else T.at l := by
 refine Tr.at_prune (names := di.names) (b := dk.dir) (k := k) hT h.root hi ?_ hlk ?_ ?_ ?_ ?_
 ·rw [Tr.sk_some hdi, hdir]
 ·rw [Tr.sk_some hk, hb]
 ·intro x
  cases hd : dk.dir with
  | true =>
   unfold Tr.hop
   rw [Tr.sk_none (h.dirs hd)]
  | false => exact Tr.hop_file (h.files hd) hd x
 ·rw [Tr.sk_some h.up, hdir]
 ·intro n h1 h2
  unfold Tr.sk
  rw [h.oth n h1 h2]
theorem Pruned.cases (h : Pruned T T' i k di dk nm) (hik : i ≠ k) (n : Nat) (d : Nd) (hn : T'.nd n = some d) : (n = k ∧ dk.dir = false ∧ d = { dk with links := dk.links - 1 }) ∨ (n = i ∧ n ≠ k ∧ d = { di with names := di.names.filter (fun p => !(nm == p.1)), tick := T.clock + 1 }) ∨ (n ≠ i ∧ n ≠ k ∧ T.nd n = some d) := by
 by_cases hnk : n = k
 ·subst hnk
  by_cases hd : dk.dir = true
  ·rw [h.dirs hd] at hn; cases hn
  ·have hd' : dk.dir = false := by simpa using hd
   rw [h.files hd'] at hn
   exact .inl ⟨rfl, hd', (Option.some.inj hn).symm⟩
 ·by_cases hni : n = i
  ·subst hni
   rw [h.up] at hn
   exact .inr (.inl ⟨rfl, hnk, (Option.some.inj hn).symm⟩)
  ·rw [h.oth n hni hnk] at hn
   exact .inr (.inr ⟨hni, hnk, hn⟩)
theorem TW.dir_one {T : Tr} {i k : Nat} {di dk : Nd} {nm : ByteArray} {dp : List ByteArray} (hT : TW T) (hi : T.at dp = some i) (hdi : T.nd i = some di) (hdir : di.dir = true) (hlk : look di.names nm = some k) (hk : T.nd k = some dk) (hd : dk.dir = true) {l : List ByteArray} (hl : T.at l = some k) : l = dp ++ [nm] := by
 refine hT.once l _ k dk hl ?_ hk hd
 rw [Tr.at_snoc, hi]
 exact (Tr.hop_dir hdi hdir nm).trans hlk
theorem Pruned.tw (h : Pruned T T' i k di dk nm) (hT : TW T) (hi : T.at dp = some i) (hdi : T.nd i = some di) (hdir : di.dir = true) (hlk : look di.names nm = some k) (hk : T.nd k = some dk) (hb : dk.names = [])
  (hreach : dk.dir = true → ∀ n d s, T.nd n = some d → (s, k) ∈ d.names → n = i ∧ s = nm) : TW T' := by
 have hik := hT.apart hi hdi hdir hlk
 have hat := h.at hT hi hdi hdir hlk hk hb
 have hkeep : ∀ n d, T.nd n = some d → (dk.dir = true → n ≠ k) → ∃ d', T'.nd n = some d' := by
  intro n d hn hnk0
  by_cases hnk : n = k
  ·cases hd : dk.dir with
   | true => exact absurd hnk (hnk0 hd)
   | false => exact ⟨_, by rw [hnk]; exact h.files hd⟩
  ·by_cases hni : n = i
   ·exact ⟨_, by rw [hni]; exact h.up⟩
   ·exact ⟨d, by rw [h.oth n hni hnk]; exact hn⟩
 refine ⟨?_, ?_, ?_, ?_, ?_, ?_⟩
 ·obtain ⟨d, h1, h2⟩ := hT.root
  rw [h.root]
  by_cases hri : T.root = i
  ·rw [hri]
   exact ⟨_, h.up, hdir⟩
  ·have hrk : T.root ≠ k := fun e => by
    cases hd : dk.dir with
    | true =>
     have := hT.dir_one hi hdi hdir hlk hk hd (l := []) (by rw [Tr.at_nil, e])
     simp at this
    | false =>
     rw [e, hk] at h1
     obtain rfl := Option.some.inj h1
     rw [hd] at h2; cases h2
   exact ⟨d, (h.oth _ hri hrk).trans h1, h2⟩
 ·intro n d s c hn hs
  rcases h.cases hik n d hn with ⟨rfl, _, rfl⟩ | ⟨rfl, _, rfl⟩ | ⟨hni, _, hn⟩
  ·have hs' : (s, c) ∈ dk.names := hs
   rw [hb] at hs'; cases hs'
  ·obtain ⟨h1, h2⟩ := List.mem_filter.1 hs
   obtain ⟨d', hd'⟩ := hT.kids n di s c hdi h1
   refine hkeep c d' hd' fun hd hck => ?_
   subst hck
   have h3 := (hreach hd n di s hdi h1).2
   subst h3
   rw [(MapKept.bytes_beq s s).2 rfl] at h2
   cases h2
  ·obtain ⟨d', hd'⟩ := hT.kids n d s c hn hs
   refine hkeep c d' hd' fun hd hck => ?_
   subst hck
   exact hni (hreach hd n d s hn hs).1
 ·intro n d hn hfd
  rcases h.cases hik n d hn with ⟨rfl, _, rfl⟩ | ⟨rfl, _, rfl⟩ | ⟨_, _, hn⟩
  ·exact hb
  ·have hf' : di.dir = false := hfd
   rw [hdir] at hf'; cases hf'
  ·exact hT.file n d hn hfd
 ·intro n d s c hn hs
  rcases h.cases hik n d hn with ⟨rfl, _, rfl⟩ | ⟨rfl, _, rfl⟩ | ⟨_, _, hn⟩
  ·exact hT.part n dk s c hk hs
  ·exact hT.part n di s c hdi (List.mem_filter.1 hs).1
  ·exact hT.part n d s c hn hs
 ·intro n d hn
  rcases h.cases hik n d hn with ⟨rfl, _, rfl⟩ | ⟨rfl, _, rfl⟩ | ⟨_, _, hn⟩
  ·exact hT.keys n dk hk
  ·exact (hT.keys n di hdi).sublist ((List.filter_sublist ..).map _)
  ·exact hT.keys n d hn
 ·intro l m c d hl hm hc hd
  rw [hat] at hl hm
  by_cases h1 : l = dp ++ [nm]
  ·rw [if_pos h1] at hl; cases hl
  ·rw [if_neg h1] at hl
   by_cases h2 : m = dp ++ [nm]
   ·rw [if_pos h2] at hm; cases hm
   ·rw [if_neg h2] at hm
    rcases h.cases hik c d hc with ⟨rfl, hf, rfl⟩ | ⟨rfl, _, rfl⟩ | ⟨_, _, hn⟩
    ·have hd' : dk.dir = true := hd
     rw [hf] at hd'; cases hd'
    ·exact hT.once l m c di hl hm hdi hdir
    ·exact hT.once l m c d hl hm hn hd
theorem Sim.pruned {R R' : RT} {f : Nat → Nat} {ri : RNd} (hS : Sim T R f) (hT : TW T) (h : Pruned T T' i k di dk nm) (hi : T.at dp = some i) (hdi : T.nd i = some di) (hdir : di.dir = true) (hlk : look di.names nm = some k) (hk : T.nd k = some dk) (hb : dk.names = [])
  (hdp : Pts (dp ++ [nm])) (hR : RPruned R R' (zal (dp ++ [nm])) (f i) ri) (hri : R.nd (f i) = some ri) : Sim T' R' f := by
 have hik := hT.apart hi hdi hdir hlk
 have hat := h.at hT hi hdi hdir hlk hk hb
 have hatk : T.at (dp ++ [nm]) = some k := by
  rw [Tr.at_snoc, hi]
  exact (Tr.hop_dir hdi hdir nm).trans hlk
 have hent : zaw R.L (zal (dp ++ [nm])) = some (f k) := by rw [hS.leads _ hdp, hatk]; rfl
 have hfi : ∀ n d, T.nd n = some d → n ≠ i → f n ≠ f i := fun n d hn hne e => hne (hS.inj n i d di hn hdi e)
 have hdom : ∀ x y, T'.nd x = some y → ∃ z, T.nd x = some z := fun x y hx => by
  rcases h.cases hik x y hx with ⟨rfl, _, _⟩ | ⟨rfl, _, _⟩ | ⟨_, _, h3⟩
  ·exact ⟨_, hk⟩
  ·exact ⟨_, hdi⟩
  ·exact ⟨_, h3⟩
 refine ⟨?_, ?_, ?_, ?_, ?_, ?_, ?_, ?_⟩
 ·intro l hl
  rw [hR.L, zdl, hat]
  by_cases he : l = dp ++ [nm]
  ·rw [if_pos he, if_pos (by rw [he])]
   rfl
  ·rw [if_neg he, if_neg (fun e => he (joinB_inj hl hdp e)), hS.leads l hl]
 ·intro e he
  rw [hR.L] at he
  exact hS.form e (zfo.1 he).1
 ·rw [hR.L]
  exact remAt_srt _ hS.srt
 ·intro n d hn
  rcases h.cases hik n d hn with ⟨rfl, _, rfl⟩ | ⟨rfl, h1, rfl⟩ | ⟨h1, h2, hn⟩
  ·obtain ⟨r, hr, q⟩ := hS.node n dk hk
   exact ⟨r, (hR.oth _ (hfi n dk hk (Ne.symm hik))).trans hr, q⟩
  ·obtain ⟨r, hr, q1, q2, q3⟩ := hS.node n di hdi
   rw [hri] at hr
   obtain rfl := Option.some.inj hr
   exact ⟨_, hR.up, q1, q2, by show R.now + 1 = T.clock + 1; rw [hS.now]⟩
  ·obtain ⟨r, hr, q⟩ := hS.node n d hn
   exact ⟨r, (hR.oth _ (hfi n d hn h1)).trans hr, q⟩
 ·intro a b d e ha hb' hab
  obtain ⟨z, hz⟩ := hdom a d ha
  obtain ⟨y, hy⟩ := hdom b e hb'
  exact hS.inj a b z y hz hy hab
 ·rw [hR.now, h.clock, hS.now]
 ·intro n d hn hfd
  rw [hR.L]
  have hlr := zfa hS.srt hent (f n)
  rcases h.cases hik n d hn with ⟨rfl, hf, rfl⟩ | ⟨rfl, h1, rfl⟩ | ⟨h1, h2, hn⟩
  ·rw [if_pos rfl] at hlr
   show dk.links - 1 = _
   have := hS.links n dk hk hf
   omega
  ·have hf' : di.dir = false := hfd
   rw [hdir] at hf'; cases hf'
  ·rw [if_neg (fun e => h2 (hS.inj k n dk d hk hn e).symm)] at hlr
   have := hS.links n d hn hfd
   omega
 ·have hnr := nodesIn_rem hS.srt hent
  rw [hR.L, h.count, hS.count]
  cases hd : dk.dir with
  | true =>
   have h1 : za4 R.L (f k) = 1 := by
    have hlr := zfa hS.srt hent (f k)
    rw [if_pos rfl] at hlr
    have h0 : za4 (zbb R.L (zal (dp ++ [nm]))) (f k) = 0 := by
     rcases Nat.eq_zero_or_pos (za4 (zbb R.L (zal (dp ++ [nm]))) (f k)) with h0 | h0
     ·exact h0
     ·obtain ⟨p, hp⟩ := linksIn_pos.1 h0
      obtain ⟨hp1, hp2⟩ := zfo.1 hp
      obtain ⟨l, n, _, q2, q3, q4⟩ := hS.entry hp1
      obtain ⟨d, hn⟩ := hT.there q3
      have hkn := hS.inj k n dk d hk hn q4
      subst hkn
      have := hT.dir_one hi hdi hdir hlk hk hd q3
      exact absurd (q2.trans (by rw [this])) hp2
    omega
   rw [if_pos h1] at hnr
   rw [if_pos (.inl rfl)]
   omega
  | false =>
   have h1 := hS.links k dk hk hd
   by_cases h2 : dk.links = 1
   ·rw [if_pos (by omega)] at hnr
    rw [if_pos (.inr h2)]
    omega
   ·rw [if_neg (by omega)] at hnr
    rw [if_neg (by simp [h2])]
    omega
end
theorem TW.of_sk {T T' : Tr} (hT : TW T) (hroot : T'.root = T.root) (h : ∀ n, T'.sk n = T.sk n) : TW T' := by
 have key : ∀ {n d}, T'.nd n = some d → ∃ e, T.nd n = some e ∧ e.dir = d.dir ∧ e.names = d.names := by
  intro n d hn
  have h1 := h n
  rw [Tr.sk_some hn] at h1
  unfold Tr.sk at h1
  cases he : T.nd n with
  | none => rw [he] at h1; cases h1
  | some e =>
   rw [he] at h1
   have h2 := Option.some.inj h1
   exact ⟨e, rfl, (congrArg Prod.fst h2).symm, (congrArg Prod.snd h2).symm⟩
 have back : ∀ {n e}, T.nd n = some e → ∃ d, T'.nd n = some d ∧ d.dir = e.dir := by
  intro n e hn
  have h1 := h n
  rw [Tr.sk_some hn] at h1
  unfold Tr.sk at h1
  cases hd : T'.nd n with
  | none => rw [hd] at h1; cases h1
  | some d =>
   rw [hd] at h1
   exact ⟨d, rfl, congrArg Prod.fst (Option.some.inj h1)⟩
 refine ⟨?_, ?_, ?_, ?_, ?_, ?_⟩
 ·obtain ⟨e, h1, h2⟩ := hT.root
  obtain ⟨d, h3, h4⟩ := back h1
  exact ⟨d, by rw [hroot]; exact h3, h4.trans h2⟩
 ·intro n d s k hn hs
  obtain ⟨e, h1, h2, h3⟩ := key hn
  obtain ⟨e', h4⟩ := hT.kids n e s k h1 (h3 ▸ hs)
  obtain ⟨d', h5, _⟩ := back h4
  exact ⟨d', h5⟩
 ·intro n d hn hd
  obtain ⟨e, h1, h2, h3⟩ := key hn
  rw [← h3]
  exact hT.file n e h1 (h2.trans hd)
 ·intro n d s k hn hs
  obtain ⟨e, h1, h2, h3⟩ := key hn
  exact hT.part n e s k h1 (h3 ▸ hs)
 ·intro n d hn
  obtain ⟨e, h1, h2, h3⟩ := key hn
  rw [← h3]
  exact hT.keys n e h1
 ·intro l m k d hl hm hk hd
  obtain ⟨e, h1, h2, h3⟩ := key hk
  rw [Tr.at_same hroot h] at hl hm
  exact hT.once l m k e hl hm h1 (h2.trans hd)
structure Turned (T T' : Tr) (k : Nat) (dk : Nd) (data : List UInt8) : Prop where
 root : T'.root = T.root
 clock : T'.clock = T.clock + 1
 count : T'.count = T.count
 here : ∃ bv, T'.nd k = some { dk with bv := bv, data := data, tick := T.clock + 1 }
 oth : ∀ n, n ≠ k → T'.nd n = T.nd n
structure RTurned (R R' : RT) (m : Nat) (rk : RNd) (data : List UInt8) : Prop where
 L : R'.L = R.L
 now : R'.now = R.now + 1
 here : ∃ dv, R'.nd m = some { rk with dv := dv, data := data, tick := R.now + 1 }
 oth : ∀ n, n ≠ m → R'.nd n = R.nd n
section
variable {T T' : Tr} {k : Nat} {dk : Nd} {data : List UInt8}
theorem Turned.sk (h : Turned T T' k dk data) (hk : T.nd k = some dk) (n : Nat) : T'.sk n = T.sk n := by
 by_cases hn : n = k
 ·obtain ⟨bv, h1⟩ := h.here
  rw [hn, Tr.sk_some h1, Tr.sk_some hk]
 ·unfold Tr.sk
  rw [h.oth n hn]
theorem Turned.tw (h : Turned T T' k dk data) (hT : TW T) (hk : T.nd k = some dk) : TW T' := hT.of_sk h.root (h.sk hk)
theorem Sim.turned {R R' : RT} {f : Nat → Nat} {rk : RNd} (hS : Sim T R f) (h : Turned T T' k dk data) (hk : T.nd k = some dk) (hR : RTurned R R' (f k) rk data) (hrk : R.nd (f k) = some rk) : Sim T' R' f := by
 have hnd : ∀ n d, T'.nd n = some d → (n = k ∧ ∃ bv, d = { dk with bv := bv, data := data, tick := T.clock + 1 }) ∨ (n ≠ k ∧ T.nd n = some d) := by
  intro n d hn
  by_cases hnk : n = k
  ·obtain ⟨bv, h1⟩ := h.here
   rw [hnk, h1] at hn
   exact .inl ⟨hnk, bv, (Option.some.inj hn).symm⟩
  ·rw [h.oth n hnk] at hn
   exact .inr ⟨hnk, hn⟩
 have hdom : ∀ x y, T'.nd x = some y → ∃ z, T.nd x = some z := fun x y hx => by
  rcases hnd x y hx with ⟨rfl, _⟩ | ⟨_, h3⟩
  ·exact ⟨_, hk⟩
  ·exact ⟨_, h3⟩
 refine ⟨?_, ?_, ?_, ?_, ?_, ?_, ?_, ?_⟩
 ·intro l hl
  rw [hR.L, hS.leads l hl, Tr.at_same h.root (h.sk hk)]
 ·rw [hR.L]; exact hS.form
 ·rw [hR.L]; exact hS.srt
 ·intro n d hn
  rcases hnd n d hn with ⟨rfl, bv, rfl⟩ | ⟨h1, hn⟩
  ·obtain ⟨dv, h2⟩ := hR.here
   obtain ⟨r, hr, q1, _⟩ := hS.node n dk hk
   rw [hrk] at hr
   obtain rfl := Option.some.inj hr
   exact ⟨_, h2, q1, rfl, by show R.now + 1 = T.clock + 1; rw [hS.now]⟩
  ·obtain ⟨r, hr, q⟩ := hS.node n d hn
   exact ⟨r, (hR.oth _ (fun e => h1 (hS.inj n k d dk hn hk e))).trans hr, q⟩
 ·intro a b d e ha hb hab
  obtain ⟨z, hz⟩ := hdom a d ha
  obtain ⟨y, hy⟩ := hdom b e hb
  exact hS.inj a b z y hz hy hab
 ·rw [hR.now, h.clock, hS.now]
 ·intro n d hn hfd
  rw [hR.L]
  rcases hnd n d hn with ⟨rfl, bv, rfl⟩ | ⟨h1, hn⟩
  ·exact hS.links n dk hk hfd
  ·exact hS.links n d hn hfd
 ·rw [hR.L, h.count, hS.count]
end
structure Tempd (T T' : Tr) (k : Nat) (dk : Nd) : Prop where
 root : T'.root = T.root
 clock : T'.clock = T.clock
 count : T'.count = T.count
 here : T'.nd k = some dk
 file : dk.dir = false
 bare : dk.names = []
 lone : dk.links = 0
 tick : dk.tick = 0
 data : dk.data = []
 oth : ∀ n, n ≠ k → T'.nd n = T.nd n
structure RTempd (R R' : RT) (m : Nat) (rk : RNd) : Prop where
 L : R'.L = R.L
 now : R'.now = R.now
 here : R'.nd m = some rk
 file : rk.dir = false
 tick : rk.tick = 0
 data : rk.data = []
 oth : ∀ n, n ≠ m → R'.nd n = R.nd n
section
variable {T T' : Tr} {k : Nat} {dk : Nd}
theorem Tempd.wk (h : Tempd T T' k dk) (hT : TW T) (hk : T.nd k = none) : ∀ (l : List ByteArray) (n : Nat) (d : Nd), T.nd n = some d → T'.wk n l = T.wk n l
 | [], _, _, _ => rfl
 | x :: l, n, d, hn => by
  have hnk : n ≠ k := fun e => by rw [e, hk] at hn; cases hn
  have h1 : T'.hop n x = T.hop n x := Tr.hop_sk (by unfold Tr.sk; rw [h.oth n hnk]) x
  rw [Tr.wk, Tr.wk, h1]
  cases hx : T.hop n x with
  | none => rfl
  | some c =>
   obtain ⟨d', h2, _, h3⟩ := Tr.hop_some hx
   obtain ⟨e, he⟩ := hT.kids n d' x c h2 (zdp h3)
   exact Tempd.wk h hT hk l c e he
theorem Tempd.at (h : Tempd T T' k dk) (hT : TW T) (hk : T.nd k = none) (l : List ByteArray) : T'.at l = T.at l := by
 obtain ⟨d, h1, _⟩ := hT.root
 unfold Tr.at
 rw [h.root, h.wk hT hk l _ d h1]
theorem Tempd.cases (h : Tempd T T' k dk) (n : Nat) (d : Nd) (hn : T'.nd n = some d) : (n = k ∧ d = dk) ∨ (n ≠ k ∧ T.nd n = some d) := by
 by_cases hnk : n = k
 ·rw [hnk, h.here] at hn
  exact .inl ⟨hnk, (Option.some.inj hn).symm⟩
 ·rw [h.oth n hnk] at hn
  exact .inr ⟨hnk, hn⟩
theorem Tempd.tw (h : Tempd T T' k dk) (hT : TW T) (hk : T.nd k = none) : TW T' := by
 have hold : ∀ n d, T.nd n = some d → T'.nd n = some d := fun n d hn => (h.oth n (fun e => by rw [e, hk] at hn; cases hn)).trans hn
 refine ⟨?_, ?_, ?_, ?_, ?_, ?_⟩
 ·obtain ⟨d, h1, h2⟩ := hT.root
  exact ⟨d, by rw [h.root]; exact hold _ _ h1, h2⟩
 ·intro n d s c hn hs
  rcases h.cases n d hn with ⟨rfl, rfl⟩ | ⟨_, hn⟩
  ·rw [h.bare] at hs; cases hs
  ·obtain ⟨d', hd'⟩ := hT.kids n d s c hn hs
   exact ⟨d', hold _ _ hd'⟩
 ·intro n d hn hd
  rcases h.cases n d hn with ⟨rfl, rfl⟩ | ⟨_, hn⟩
  ·exact h.bare
  ·exact hT.file n d hn hd
 ·intro n d s c hn hs
  rcases h.cases n d hn with ⟨rfl, rfl⟩ | ⟨_, hn⟩
  ·rw [h.bare] at hs; cases hs
  ·exact hT.part n d s c hn hs
 ·intro n d hn
  rcases h.cases n d hn with ⟨rfl, rfl⟩ | ⟨_, hn⟩
  ·rw [h.bare]; exact List.nodup_nil
  ·exact hT.keys n d hn
 ·intro l m c d hl hm hc hd
  rw [h.at hT hk] at hl hm
  rcases h.cases c d hc with ⟨rfl, rfl⟩ | ⟨_, hn⟩
  ·rw [h.file] at hd; cases hd
  ·exact hT.once l m c d hl hm hn hd
theorem Sim.tempd {R R' : RT} {f : Nat → Nat} {rk : RNd} {m : Nat} (hS : Sim T R f) (hT : TW T) (h : Tempd T T' k dk) (hk : T.nd k = none) (hR : RTempd R R' m rk) (hm : R.nd m = none) : Sim T' R' (upd f k m) := by
 have hfm : ∀ n d, T.nd n = some d → f n ≠ m := fun n d hn e => by
  obtain ⟨r, hr, _⟩ := hS.node n d hn
  rw [e, hm] at hr; cases hr
 have hm0 := hS.fresh hT hm
 refine ⟨?_, ?_, ?_, ?_, ?_, ?_, ?_, ?_⟩
 ·intro l hl
  rw [hR.L, hS.leads l hl, h.at hT hk]
  cases hn : T.at l with
  | none => rfl
  | some n =>
   obtain ⟨d, hd⟩ := hT.there hn
   show some (f n) = some (upd f k m n)
   rw [zee f (fun e => by rw [e, hk] at hd; cases hd)]
 ·rw [hR.L]; exact hS.form
 ·rw [hR.L]; exact hS.srt
 ·intro n d hn
  rcases h.cases n d hn with ⟨rfl, rfl⟩ | ⟨h1, hn⟩
  ·rw [upd_k]
   exact ⟨rk, hR.here, hR.file.trans h.file.symm, hR.data.trans h.data.symm, hR.tick.trans h.tick.symm⟩
  ·rw [zee f h1]
   obtain ⟨r, hr, q⟩ := hS.node n d hn
   exact ⟨r, (hR.oth _ (hfm n d hn)).trans hr, q⟩
 ·intro a b d e ha hb hab
  rcases h.cases a d ha with ⟨rfl, rfl⟩ | ⟨h1, ha⟩
  ·rcases h.cases b e hb with ⟨rfl, rfl⟩ | ⟨h2, hb⟩
   ·rfl
   ·rw [upd_k, zee f h2] at hab
    exact absurd hab.symm (hfm b e hb)
  ·rcases h.cases b e hb with ⟨rfl, rfl⟩ | ⟨h2, hb⟩
   ·rw [upd_k, zee f h1] at hab
    exact absurd hab (hfm a d ha)
   ·rw [zee f h1, zee f h2] at hab
    exact hS.inj a b d e ha hb hab
 ·rw [hR.now, h.clock, hS.now]
 ·intro n d hn hfd
  rw [hR.L]
  rcases h.cases n d hn with ⟨rfl, rfl⟩ | ⟨h1, hn⟩
  ·rw [upd_k, hm0, h.lone]; rfl
  ·rw [zee f h1]
   exact hS.links n d hn hfd
 ·rw [hR.L, h.count, hS.count]
end
def RT.dirAt (R : RT) (p : List UInt8) : Bool := match zaw R.L p with
 | none => false
 | some n => match R.nd n with
  | none => false
  | some d => d.dir
def RT.okDirs (R : RT) (l : List ByteArray) : Prop := ∀ j, j < l.length → R.dirAt (zal (l.take j)) = true
theorem Tr.at_mid {T : Tr} {l r : List ByteArray} {x : ByteArray} {k : Nat} (h : T.at (l ++ x :: r) = some k) : ∃ n d, T.at l = some n ∧ T.nd n = some d ∧ d.dir = true := by
 unfold Tr.at at *
 rw [Tr.wk_append] at h
 cases hl : T.wk T.root l with
 | none => rw [hl] at h; cases h
 | some n =>
  rw [hl] at h
  have h1 : (T.hop n x).bind (fun k => T.wk k r) = some k := h
  cases hx : T.hop n x with
  | none => rw [hx] at h1; cases h1
  | some c =>
   obtain ⟨d, h2, h3, _⟩ := Tr.hop_some hx
   exact ⟨n, d, rfl, h2, h3⟩
theorem Sim.dirAt {T : Tr} {R : RT} {f : Nat → Nat} (hS : Sim T R f) (hT : TW T) {l : List ByteArray} (hl : Pts l) : R.dirAt (zal l) = true ↔ ∃ i d, T.at l = some i ∧ T.nd i = some d ∧ d.dir = true := by
 unfold RT.dirAt
 rw [hS.leads l hl]
 cases hn : T.at l with
 | none =>
  constructor
  ·intro h; cases h
  ·rintro ⟨i, d, h, _⟩; cases h
 | some n =>
  obtain ⟨d, hd⟩ := hT.there hn
  obtain ⟨r, hr, h1, _⟩ := hS.node n d hd
  simp only [Option.map_some, hr]
  constructor
  ·intro h
   exact ⟨n, d, rfl, hd, h1.symm.trans h⟩
  ·rintro ⟨i, d', h2, h3, h4⟩
   obtain rfl := Option.some.inj h2
   rw [hd] at h3
   obtain rfl := Option.some.inj h3
   exact h1.trans h4
theorem Sim.okDirs {T : Tr} {R : RT} {f : Nat → Nat} (hS : Sim T R f) (hT : TW T) {dp : List ByteArray} {nm : ByteArray} (hl : Pts dp) : R.okDirs (dp ++ [nm]) ↔ ∃ i d, T.at dp = some i ∧ T.nd i = some d ∧ d.dir = true := by
 constructor
 ·intro h
  have h1 := h dp.length (by simp)
  rw [List.take_left] at h1
  exact (hS.dirAt hT hl).1 h1
 ·rintro ⟨i, d, h1, h2, h3⟩ j hj
  have hj' : j ≤ dp.length := by simp at hj; omega
  rw [List.take_append_of_le_length hj']
  have hp : Pts (dp.take j) := fun x hx => hl x (List.mem_of_mem_take hx)
  refine (hS.dirAt hT hp).2 ?_
  by_cases he : j = dp.length
  ·rw [he, List.take_length]
   exact ⟨i, d, h1, h2, h3⟩
  ·have hlt : j < dp.length := by omega
   have e : dp = dp.take j ++ dp[j] :: dp.drop (j + 1) := by
    rw [← List.drop_eq_getElem_cons hlt, List.take_append_drop]
   rw [e] at h1
   exact Tr.at_mid h1
theorem RT.okDirs_nil (R : RT) : R.okDirs [] := fun j hj => by simp at hj
theorem cutL_part : ∀ (s cur : List UInt8), (47 : UInt8) ∉ cur → ∀ x ∈ cutL cur s, (47 : UInt8) ∉ x
 | [], cur, hc, x, hx => by
  rw [cutL_end, List.mem_singleton] at hx
  rw [hx]; exact hc
 | b :: s, cur, hc, x, hx => by
  by_cases hb : b = 47
  ·subst hb
   rw [zd2] at hx
   rcases List.mem_cons.1 hx with rfl | hx
   ·exact hc
   ·exact cutL_part s [] (by simp) x hx
  ·rw [zda _ _ hb] at hx
   refine cutL_part s (cur ++ [b]) ?_ x hx
   intro h
   rcases List.mem_append.1 h with h | h
   ·exact hc h
   ·exact hb (List.mem_singleton.1 h).symm
theorem cutL_len : ∀ (s cur : List UInt8), (zc4 (cutL cur s)).length = cur.length + s.length + 1
 | [], cur => by rw [cutL_end, zca, joinL_nil]; simp
 | b :: s, cur => by
  by_cases hb : b = 47
  ·subst hb
   rw [zd2, zca, List.length_cons, List.length_append, cutL_len s []]
   simp
  ·rw [zda _ _ hb, cutL_len s]
   simp; omega
theorem bl_mkB (l : List UInt8) : bl (mkB l) = l := by unfold bl mkB; simp
theorem step_cases (out : List ByteArray) (s : ByteArray) : step out s = out ∨ step out s = out.dropLast ∨ (step out s = out ++ [s] ∧ bl s ≠ []) := by
 unfold step
 by_cases h1 : s.toList.isEmpty = true
 ·rw [if_pos h1]; exact .inl rfl
 ·rw [if_neg h1]
  by_cases h2 : (s.toList == [46]) = true
  ·rw [if_pos h2]; exact .inl rfl
  ·rw [if_neg h2]
   by_cases h3 : (s.toList == [46, 46]) = true
   ·rw [if_pos h3]; exact .inr (.inl rfl)
   ·rw [if_neg h3]
    refine .inr (.inr ⟨rfl, fun h => h1 ?_⟩)
    rw [ByteArray.toList_eq]
    unfold bl at h
    rw [h]; rfl
theorem fold_parts : ∀ (l out : List ByteArray), (∀ x ∈ l, (47 : UInt8) ∉ bl x) → Pts out → Pts (l.foldl step out)
 | [], out, _, h => h
 | s :: l, out, hl, h => by
  rw [List.foldl_cons]
  refine fold_parts l _ (fun x hx => hl x (List.mem_cons_of_mem _ hx)) ?_
  rcases step_cases out s with e | e | ⟨e, h1⟩ <;> rw [e]
  ·exact h
  ·exact fun x hx => h x (List.dropLast_subset _ hx)
  ·exact Pts.snoc.2 ⟨h, h1, hl s (List.mem_cons_self ..)⟩
theorem joinB_append (l m : List ByteArray) : zal (l ++ m) = zal l ++ zal m := by unfold zal; rw [List.map_append, joinL_append]
theorem joinB_dropLast (l : List ByteArray) : (zal l.dropLast).length ≤ (zal l).length := by
 rcases zb3 l with rfl | ⟨m, x, rfl⟩
 ·exact Nat.le_refl _
 ·rw [List.dropLast_concat, zcv, List.length_append]; omega
theorem fold_join : ∀ (l out : List ByteArray), (zal (l.foldl step out)).length ≤ (zal out).length + (zal l).length
 | [], out => by rw [zfr]; exact Nat.le_refl _
 | s :: l, out => by
  rw [List.foldl_cons]
  have h1 := fold_join l (step out s)
  have h2 : (zal (s :: l)).length = 1 + (bl s).length + (zal l).length := by
   show (zc4 ((s :: l).map bl)).length = _
   rw [List.map_cons, zca, List.length_cons, List.length_append]
   show (bl s).length + (zal l).length + 1 = _
   omega
  have h3 : (zal (step out s)).length ≤ (zal out).length + (1 + (bl s).length) := by
   rcases step_cases out s with e | e | ⟨e, _⟩ <;> rw [e]
   ·omega
   ·have := joinB_dropLast out; omega
   ·rw [zcv, List.length_append, List.length_cons]; omega
  omega
theorem zay {s : ByteArray} {l : List ByteArray} (h : zbh s = some l) : Pts l ∧ (zal l).length ≤ s.size + 1 ∧ s.size ≤ 256 ∧ ∀ x ∈ l, x.size ≤ 64 := by
 unfold zbh at h
 by_cases hg : zbj s = true
 ·rw [if_pos hg] at h; cases h
 ·rw [if_neg hg] at h
  by_cases hl : long (fold (zbe s)) = true
  ·rw [if_pos hl] at h; cases h
  ·rw [if_neg hl] at h
   obtain rfl := Option.some.inj h
   have hp : (zbe s).map bl = cutL [] s.data.toList := pieces_cut s.size s (Nat.le_refl _)
   refine ⟨?_, ?_, ?_, ?_⟩
   ·refine fold_parts _ [] (fun x hx => ?_) Pts.nil
    exact cutL_part s.data.toList [] (by simp) _ (hp ▸ List.mem_map.2 ⟨x, hx, rfl⟩)
   ·have h1 := fold_join (zbe s) []
    have h2 : (zal (zbe s)).length = s.size + 1 := by
     show (zc4 ((zbe s).map bl)).length = _
     rw [hp, cutL_len]
     have := Lib.size_eq s
     simp
    rw [zfr] at h1
    unfold fold
    simp at h1
    omega
   ·have hg' : zbj s = false := by simpa using hg
    unfold zbj at hg'
    simp only [Bool.or_eq_false_iff, decide_eq_false_iff_not] at hg'
    omega
   ·intro x hx
    have hl' : long (fold (zbe s)) = false := by simpa using hl
    unfold long at hl'
    rw [List.any_eq_false] at hl'
    have := hl' x hx
    simpa using this
def GP (x : ByteArray) : Prop := bl x ≠ [] ∧ bl x ≠ [46] ∧ bl x ≠ [46, 46]
theorem step_cases' (out : List ByteArray) (s : ByteArray) : step out s = out ∨ step out s = out.dropLast ∨ (step out s = out ++ [s] ∧ GP s) := by
 have e : s.toList = bl s := ByteArray.toList_eq ..
 unfold step
 by_cases h1 : s.toList.isEmpty = true
 ·rw [if_pos h1]; exact .inl rfl
 ·rw [if_neg h1]
  by_cases h2 : (s.toList == [46]) = true
  ·rw [if_pos h2]; exact .inl rfl
  ·rw [if_neg h2]
   by_cases h3 : (s.toList == [46, 46]) = true
   ·rw [if_pos h3]; exact .inr (.inl rfl)
   ·rw [if_neg h3]
    rw [e] at h1 h2 h3
    exact .inr (.inr ⟨rfl, fun h => h1 (by rw [h]; rfl), fun h => h2 (by rw [h]; rfl), fun h => h3 (by rw [h]; rfl)⟩)
theorem fold_all {Q : ByteArray → Prop} : ∀ (l out : List ByteArray), (∀ x ∈ l, GP x → Q x) → (∀ x ∈ out, Q x) → ∀ x ∈ l.foldl step out, Q x
 | [], out, _, h => h
 | s :: l, out, hl, h => by
  rw [List.foldl_cons]
  refine fold_all l _ (fun x hx => hl x (List.mem_cons_of_mem _ hx)) ?_
  rcases step_cases' out s with e | e | ⟨e, h1⟩ <;> rw [e]
  ·exact h
  ·exact fun x hx => h x (List.dropLast_subset _ hx)
  ·intro x hx
   rcases List.mem_append.1 hx with hx | hx
   ·exact h x hx
   ·rw [List.mem_singleton.1 hx]
    exact hl s (List.mem_cons_self ..) h1
theorem cutL_mem : ∀ (s cur x : List UInt8), x ∈ cutL cur s → ∀ b ∈ x, b ∈ cur ∨ b ∈ s
 | [], cur, x, hx, b, hb => by
  rw [cutL_end, List.mem_singleton] at hx
  rw [hx] at hb
  exact .inl hb
 | c :: s, cur, x, hx, b, hb => by
  by_cases hc : c = 47
  ·subst hc
   rw [zd2] at hx
   rcases List.mem_cons.1 hx with rfl | hx
   ·exact .inl hb
   ·rcases cutL_mem s [] x hx b hb with h | h
    ·cases h
    ·exact .inr (List.mem_cons_of_mem _ h)
  ·rw [zda _ _ hc] at hx
   rcases cutL_mem s _ x hx b hb with h | h
   ·rcases List.mem_append.1 h with h | h
    ·exact .inl h
    ·rw [List.mem_singleton.1 h]
     exact .inr (List.mem_cons_self ..)
   ·exact .inr (List.mem_cons_of_mem _ h)
theorem clean_gp {s : ByteArray} {l : List ByteArray} (h : zbh s = some l) : ∀ x ∈ l, GP x ∧ (0 : UInt8) ∉ bl x := by
 unfold zbh at h
 by_cases hg : zbj s = true
 ·rw [if_pos hg] at h; cases h
 ·rw [if_neg hg] at h
  by_cases hl : long (fold (zbe s)) = true
  ·rw [if_pos hl] at h; cases h
  ·rw [if_neg hl] at h
   obtain rfl := Option.some.inj h
   have hp : (zbe s).map bl = cutL [] s.data.toList := pieces_cut s.size s (Nat.le_refl _)
   refine fold_all (Q := fun x => GP x ∧ (0 : UInt8) ∉ bl x) _ [] (fun x hx hgp => ⟨hgp, fun h0 => ?_⟩) (fun x hx => by cases hx)
   rcases cutL_mem _ _ (bl x) (hp ▸ List.mem_map.2 ⟨x, hx, rfl⟩) 0 h0 with h | h
   ·cases h
   ·obtain ⟨i, hi, he⟩ := List.getElem_of_mem h
    exact hg (bad_zero hi he)
theorem zfq (l : List ByteArray) (k : Nat) : (zal (l.take k)).length ≤ (zal l).length := by
 have h : zal l = zal (l.take k) ++ zal (l.drop k) := by rw [← joinB_append, List.take_append_drop]
 rw [h, List.length_append]
 omega
theorem zeq (a b : ByteArray) : bl (a ++ b) = bl a ++ bl b := by unfold bl; simp
theorem joinB_parts : ∀ (l : List ByteArray), Pts l → 2 * l.length ≤ (zal l).length := by
 refine zd5 ?_ ?_
 ·intro _; exact Nat.zero_le _
 ·intro l x ih h
  obtain ⟨h1, h2⟩ := Pts.snoc.1 h
  have h3 := ih h1
  have h4 : 0 < (bl x).length := List.length_pos_iff.2 h2.1
  rw [zcv]
  simp only [List.length_append, List.length_cons, List.length_nil]
  omega
end
end Go.Proofs.YteeeaeiafdgpkaaGreatDoor
