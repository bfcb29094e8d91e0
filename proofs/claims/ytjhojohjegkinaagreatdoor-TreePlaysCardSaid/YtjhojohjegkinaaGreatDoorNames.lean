/-
  THE NAMES OF A DIRECTORY: the document's kids are the tree's sorted names. THE TEXTS: the document's is the tree's.
-/
import Derived.Test.YtjhojohjegkinaaGreatDoorBothA
import Derived.Test.YtjhojohjegkinaaGreatDoorRText
import Derived.Sort.Walk0
namespace Go.Proofs.YtjhojohjegkinaaGreatDoor
open Go Go.RowKit

/-! ### rising rows -/
def SL (l : List (List UInt8)) : Prop := l.Pairwise (· < ·)
theorem sl_unique : ∀ {l m : List (List UInt8)}, SL l → SL m → (∀ e, e ∈ l ↔ e ∈ m) → l = m
  | [], [], _, _, _ => rfl
  | [], b :: m, _, _, h => by have := (h b).2 (List.mem_cons_self ..); cases this
  | a :: l, [], _, _, h => by have := (h a).1 (List.mem_cons_self ..); cases this
  | a :: l, b :: m, hl, hm, h => by
    have hl := List.pairwise_cons.1 hl
    have hm := List.pairwise_cons.1 hm
    have e : a = b := by
      rcases List.mem_cons.1 ((h a).1 (List.mem_cons_self ..)) with e | h1
      · exact e
      · rcases List.mem_cons.1 ((h b).2 (List.mem_cons_self ..)) with e | h2
        · exact e.symm
        · exact absurd (List.lt_trans (hm.1 a h1) (hl.1 b h2)) (List.lt_irrefl b)
    subst e
    refine congrArg (a :: ·) (sl_unique hl.2 hm.2 (fun x => ⟨fun hx => ?_, fun hx => ?_⟩))
    · rcases List.mem_cons.1 ((h x).1 (List.mem_cons_of_mem _ hx)) with e | h1
      · rw [e] at hx; exact absurd (hl.1 a hx) (List.lt_irrefl a)
      · exact h1
    · rcases List.mem_cons.1 ((h x).2 (List.mem_cons_of_mem _ hx)) with e | h1
      · rw [e] at hx; exact absurd (hm.1 a hx) (List.lt_irrefl a)
      · exact h1
theorem toList_bl (x : ByteArray) : x.toList = bl x := by rw [ByteArray.toList_eq]; rfl
theorem putS_mem : ∀ (l : List ByteArray) (s x : ByteArray), x ∈ putS l s ↔ x = s ∨ x ∈ l
  | [], s, x => by simp [putS]
  | y :: l, s, x => by
    rw [putS]
    split
    · rw [List.mem_cons, putS_mem l s x, List.mem_cons]
      constructor
      · rintro (h | h | h)
        · exact .inr (.inl h)
        · exact .inl h
        · exact .inr (.inr h)
      · rintro (h | h | h)
        · exact .inr (.inl h)
        · exact .inl h
        · exact .inr (.inr h)
    · split
      · rename_i h
        have e : y = s := bl_inj (by rw [toList_bl, toList_bl] at h; simpa using h)
        subst e
        rw [List.mem_cons]
        exact ⟨fun h => .inr h, fun h => h.elim .inl id⟩
      · rw [List.mem_cons]
theorem putS_srt : ∀ (l : List ByteArray) (s : ByteArray), SL (l.map bl) → SL ((putS l s).map bl)
  | [], s, _ => List.pairwise_singleton ..
  | y :: l, s, h => by
    have h := List.pairwise_cons.1 h
    rw [putS]
    split
    · rename_i hlt
      rw [toList_bl, toList_bl, bytesLess_eq] at hlt
      have hlt := of_decide_eq_true hlt
      refine List.pairwise_cons.2 ⟨fun z hz => ?_, putS_srt l s h.2⟩
      obtain ⟨x, hx, rfl⟩ := List.mem_map.1 hz
      rcases (putS_mem l s x).1 hx with rfl | hx
      · exact hlt
      · exact h.1 _ (List.mem_map.2 ⟨x, hx, rfl⟩)
    · rename_i hlt
      rw [toList_bl, toList_bl, bytesLess_eq] at hlt
      have hlt : ¬ bl y < bl s := fun e => hlt (decide_eq_true e)
      split
      · exact List.pairwise_cons.2 h
      · rename_i hne
        have hne : bl s ≠ bl y := fun e => hne (by rw [toList_bl, toList_bl, e]; simp)
        have hsy : bl s < bl y := list_lt_of (List.not_lt.1 hlt) hne
        refine List.pairwise_cons.2 ⟨fun z hz => ?_, List.pairwise_cons.2 h⟩
        rcases List.mem_cons.1 hz with rfl | hz
        · exact hsy
        · exact List.lt_trans hsy (h.1 z hz)
theorem kidStep_some {p : List UInt8} {acc : List ByteArray} {e : Ent} {x : List UInt8} (h : kidOf p e.1 = some x) : kidStep p acc e = putS acc (mkB x) := by unfold kidStep; rw [h]
theorem kidStep_none {p : List UInt8} {acc : List ByteArray} {e : Ent} (h : kidOf p e.1 = none) : kidStep p acc e = acc := by unfold kidStep; rw [h]
theorem kids_srt : ∀ (L : List Ent) (p : List UInt8) (acc : List ByteArray), SL (acc.map bl) → SL ((L.foldl (kidStep p) acc).map bl)
  | [], _, _, h => h
  | e :: L, p, acc, h => by
    rw [List.foldl_cons]
    refine kids_srt L p _ ?_
    cases hk : kidOf p e.1 with
    | none => rw [kidStep_none hk]; exact h
    | some x => rw [kidStep_some hk]; exact putS_srt _ _ h
theorem kids_mem : ∀ (L : List Ent) (p : List UInt8) (acc : List ByteArray) (x : ByteArray), x ∈ L.foldl (kidStep p) acc ↔ x ∈ acc ∨ ∃ e ∈ L, kidOf p e.1 = some (bl x)
  | [], p, acc, x => by simp
  | e :: L, p, acc, x => by
    rw [List.foldl_cons, kids_mem L p]
    cases hk : kidOf p e.1 with
    | none =>
      rw [kidStep_none hk]
      simp [hk]
    | some y =>
      rw [kidStep_some hk, putS_mem]
      have e1 : x = mkB y ↔ y = bl x := ⟨fun h => by rw [h, bl_mkB], fun h => bl_inj (by rw [bl_mkB, h])⟩
      rw [e1]
      simp only [List.mem_cons, exists_eq_or_imp, hk, Option.some.injEq]
      constructor
      · rintro ((h | h) | h)
        · exact .inr (.inl h)
        · exact .inl h
        · exact .inr (.inr h)
      · rintro (h | h | h)
        · exact .inl (.inr h)
        · exact .inl (.inl h)
        · exact .inr h
/-- The kids are the names. -/
theorem Sim.kids {T : Tr} {R : RT} {f : Nat → Nat} (hS : Sim T R f) (hT : TW T) {l : List ByteArray} (hl : Pts l) {k : Nat} {d : Nd} (hk : T.at l = some k) (hd : T.nd k = some d) (hdir : d.dir = true) : (kidsOf R.L (joinB l)).map bl = sortedNames d.names := by
  refine sl_unique (kids_srt R.L (joinB l) [] List.Pairwise.nil) (sortedNames_srt (hT.keys k d hd)) (fun y => ?_)
  rw [mem_sortedNames, List.mem_map]
  constructor
  · rintro ⟨x, hx, rfl⟩
    rcases (kids_mem R.L (joinB l) [] x).1 hx with h | ⟨e, he, h⟩
    · cases h
    · obtain ⟨m, n, hm, h1, h2, _⟩ := hS.entry he
      rw [h1] at h
      obtain ⟨nm, rfl, h3⟩ := (kidOf_join hl hm).1 h
      rw [Tr.at_snoc, hk] at h2
      have h2 : T.hop k nm = some n := h2
      rw [Tr.hop_dir hd hdir] at h2
      exact ⟨(nm, n), look_mem h2, h3⟩
  · rintro ⟨⟨s, q⟩, hm, rfl⟩
    have hp := (hT.part k d s q hd hm).1
    have hat : T.at (l ++ [s]) = some q := by
      rw [Tr.at_snoc, hk]
      show T.hop k s = _
      rw [Tr.hop_dir hd hdir, look_of_mem (hT.keys k d hd) hm]
    have hpts : Pts (l ++ [s]) := Pts.snoc.2 ⟨hl, hp⟩
    have he := hS.leads _ hpts
    rw [hat] at he
    exact ⟨s, (kids_mem R.L (joinB l) [] s).2 (.inr ⟨_, entAt_mem he, (kidOf_join hl hpts).2 ⟨s, rfl, rfl⟩⟩), rfl⟩

/-! ### the texts -/
theorem Both.txt_same {B n : Nat} {w : World} {T : Tr} {R : RT} {f : Nat → Nat} (h : Both B w T R f n) : T.txt = R.txt := by
  unfold Tr.txt RT.txt
  rw [Tr.text_pre, ← h.pre, List.flatMap_map]
  have key : ∀ L : List Ent, (∀ e ∈ L, ∃ l, T.at l = some e.2) → L.flatMap (lineAt T) = L.flatMap (fun e => rline R (e.1, f e.2)) := by
    intro L
    induction L with
    | nil => intro _; rfl
    | cons e L ih =>
      intro hL
      rw [List.flatMap_cons, List.flatMap_cons, ih (fun e he => hL e (List.mem_cons_of_mem _ he))]
      congr 1
      obtain ⟨l, hl⟩ := hL e (List.mem_cons_self ..)
      obtain ⟨d, hd⟩ := h.ti.tw.there hl
      obtain ⟨r, h1, h2, h3, h4⟩ := h.sim.node e.2 d hd
      unfold lineAt rline lineOf
      rw [hd]
      dsimp only
      rw [h1]
      dsimp only
      rw [h2, h3, h4]
      cases hdir : d.dir with
      | true => rfl
      | false =>
        have := h.sim.links e.2 d hd hdir
        rw [this]
  exact key _ (fun e he => by
    obtain ⟨q, k⟩ := e
    obtain ⟨l, h1, _⟩ := (Tr.mem_pre h.ti.tw 50001 [] T.root h.deep q k).1 he
    exact ⟨l, h1⟩)
theorem Sim.dirs_tick {T : Tr} {R : RT} {f : Nat → Nat} (hS : Sim T R f) (hT : TW T) : ∀ e ∈ R.L, ∃ r n d, R.nd e.2 = some r ∧ T.nd n = some d ∧ e.2 = f n ∧ r.dir = d.dir ∧ r.data = d.data ∧ r.tick = d.tick := by
  intro e he
  obtain ⟨l, n, _, _, h1, h2⟩ := hS.entry he
  obtain ⟨d, hd⟩ := hT.there h1
  obtain ⟨r, q1, q2, q3, q4⟩ := hS.node n d hd
  exact ⟨r, n, d, by rw [h2]; exact q1, hd, h2, q2, q3, q4⟩
end Go.Proofs.YtjhojohjegkinaaGreatDoor
