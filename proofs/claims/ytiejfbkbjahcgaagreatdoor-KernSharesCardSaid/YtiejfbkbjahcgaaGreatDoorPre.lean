/-
  THE ROWS OF A TREE'S TEXT: its paths, in order. No program in sight.
-/
import Derived.Test.YtiejfbkbjahcgaaGreatDoorSimA
import Derived.Test.YtiejfbkbjahcgaaGreatDoorTextA
namespace Go.Proofs.YtiejfbkbjahcgaaGreatDoor
open Go Go.RowKit

def Tr.pre (T : Tr) : Nat → List UInt8 → Nat → List Ent
  | 0, _, _ => []
  | f + 1, path, n => match T.nd n with
    | none => []
    | some d => (path, n) :: (sortedNames d.names).flatMap fun s => T.pre f (path ++ [47] ++ s) ((look d.names ⟨s.toArray⟩).getD 0)
theorem Tr.pre_succ {T : Tr} {f n : Nat} {d : Nd} (h : T.nd n = some d) (path : List UInt8) :
    T.pre (f + 1) path n = (path, n) :: (sortedNames d.names).flatMap fun s => T.pre f (path ++ [47] ++ s) ((look d.names ⟨s.toArray⟩).getD 0) := by
  rw [Tr.pre, h]

/-- A row's line. -/
def lineAt (T : Tr) (e : Ent) : List UInt8 := match T.nd e.2 with
  | none => []
  | some d => lineOf e.1 d

theorem Tr.text_pre (T : Tr) : ∀ (f : Nat) (path : List UInt8) (n : Nat), T.text f path n = (T.pre f path n).flatMap (lineAt T)
  | 0, _, _ => rfl
  | f + 1, path, n => by
    cases hn : T.nd n with
    | none =>
      rw [Tr.text, Tr.pre, hn]
      rfl
    | some d =>
      rw [Tr.text_succ hn, Tr.pre_succ hn, List.flatMap_cons, List.flatMap_assoc]
      congr 1
      · show _ = match T.nd n with | none => [] | some d => lineOf path d
        rw [hn]
      · congr 1
        funext s
        exact Tr.text_pre T f _ _

theorem mem_sortedNames {names : List (ByteArray × Nat)} {s : List UInt8} : s ∈ sortedNames names ↔ ∃ p ∈ names, bl p.1 = s := by
  unfold sortedNames
  rw [(List.mergeSort_perm _ _).mem_iff, List.mem_map]
  exact Iff.rfl

theorem mk_bl (x : ByteArray) : (⟨(bl x).toArray⟩ : ByteArray) = x := by unfold bl; simp
theorem bl_mk (s : List UInt8) : bl ⟨s.toArray⟩ = s := by unfold bl; simp

theorem list_lt_of {x y : List UInt8} : x ≤ y → x ≠ y → x < y := by
  intro h hne
  induction x generalizing y with
  | nil => cases y with
    | nil => exact absurd rfl hne
    | cons b y => exact List.nil_lt_cons b y
  | cons a x ih => cases y with
    | nil => exact absurd (List.nil_lt_cons a x) h
    | cons b y =>
      rw [List.cons_lt_cons_iff]
      by_cases hab : a = b
      · subst hab
        refine .inr ⟨rfl, ih (fun hl => h (List.cons_lt_cons_iff.2 (.inr ⟨rfl, hl⟩))) (fun e => hne (by rw [e]))⟩
      · left
        have h1 : ¬ b < a := fun hl => h (List.cons_lt_cons_iff.2 (.inl hl))
        have h2 : ¬ a.toNat = b.toNat := fun e => hab (UInt8.toNat_inj.1 e)
        rw [UInt8.lt_iff_toNat_lt] at *
        omega
theorem list_le_trans {x y z : List UInt8} (h1 : x ≤ y) (h2 : y ≤ z) : x ≤ z := List.le_trans h1 h2

theorem sortedNames_srt {names : List (ByteArray × Nat)} (hk : (names.map (·.1)).Nodup) : (sortedNames names).Pairwise (· < ·) := by
  have h1 : (sortedNames names).Pairwise (fun a b => decide (a ≤ b) = true) := by
    unfold sortedNames
    refine List.pairwise_mergeSort ?_ ?_ _
    · intro a b c hab hbc
      exact decide_eq_true (List.le_trans (of_decide_eq_true hab) (of_decide_eq_true hbc))
    · intro a b
      have := List.le_total a b
      rcases this with h | h
      · rw [decide_eq_true h]; rfl
      · rw [decide_eq_true h, Bool.or_true]
  have h2 : (sortedNames names).Nodup := by
    unfold sortedNames
    refine (List.mergeSort_perm _ _).nodup_iff.2 ?_
    have : names.map nameL = (names.map (·.1)).map bl := by rw [List.map_map]; rfl
    rw [this]
    exact List.Pairwise.map _ (fun a b hab he => hab (bl_inj he)) hk
  exact (h1.and h2).imp fun ⟨a, b⟩ => list_lt_of (of_decide_eq_true a) b

theorem TW.dir_of_names {T : Tr} (h : TW T) {n : Nat} {d : Nd} (hn : T.nd n = some d) {p : ByteArray × Nat} (hp : p ∈ d.names) : d.dir = true := by
  cases hd : d.dir with
  | true => rfl
  | false =>
    rw [h.file n d hn hd] at hp
    cases hp

theorem Tr.wk_cons {T : Tr} (h : TW T) {n : Nat} {d : Nd} (hn : T.nd n = some d) {p : ByteArray × Nat} (hp : p ∈ d.names) (l : List ByteArray) : T.wk n (p.1 :: l) = T.wk p.2 l := by
  rw [Tr.wk, Tr.hop_dir hn (h.dir_of_names hn hp), look_of_mem (h.keys n d hn) hp]
  rfl

theorem joinB_cons (x : ByteArray) (l : List ByteArray) : joinB (x :: l) = [47] ++ bl x ++ joinB l := by
  unfold joinB
  rw [List.map_cons, joinL_cons]
  simp

theorem Tr.mem_pre {T : Tr} (hw : TW T) : ∀ (f : Nat) (path : List UInt8) (n : Nat), T.deep f n → ∀ (q : List UInt8) (k : Nat), (q, k) ∈ T.pre f path n ↔ ∃ l, T.wk n l = some k ∧ q = path ++ joinB l
  | 0, _, _, hd, _, _ => absurd hd id
  | f + 1, path, n, hd, q, k => by
    obtain ⟨d, hn, hkids⟩ := hd
    rw [Tr.pre_succ hn, List.mem_cons, List.mem_flatMap]
    constructor
    · rintro (h | ⟨s, hs, h⟩)
      · simp only [Prod.mk.injEq] at h
        obtain ⟨rfl, rfl⟩ := h
        exact ⟨[], rfl, by rw [joinB_nil, List.append_nil]⟩
      · obtain ⟨p, hp, rfl⟩ := mem_sortedNames.1 hs
        rw [mk_bl, look_of_mem (hw.keys n d hn) hp] at h
        obtain ⟨l, h1, h2⟩ := (Tr.mem_pre hw f _ p.2 (hkids p hp) q k).1 h
        refine ⟨p.1 :: l, (Tr.wk_cons hw hn hp l).trans h1, ?_⟩
        rw [h2, joinB_cons]
        simp
    · rintro ⟨l, h1, h2⟩
      cases l with
      | nil =>
        left
        rw [joinB_nil, List.append_nil] at h2
        rw [h2, Option.some.inj h1]
      | cons x l =>
        right
        rw [Tr.wk] at h1
        cases hx : T.hop n x with
        | none => rw [hx] at h1; cases h1
        | some k' =>
          rw [hx] at h1
          obtain ⟨d', hn', hdir, hlk⟩ := Tr.hop_some hx
          rw [hn] at hn'
          obtain rfl := Option.some.inj hn'
          have hp := look_mem hlk
          refine ⟨bl x, mem_sortedNames.2 ⟨_, hp, rfl⟩, ?_⟩
          rw [mk_bl, hlk]
          refine (Tr.mem_pre hw f _ k' (hkids _ hp) q k).2 ⟨l, h1, ?_⟩
          rw [h2, joinB_cons]
          simp

theorem Tr.pre_srt {T : Tr} (hw : TW T) : ∀ (f : Nat) (path : List UInt8) (n : Nat), T.deep f n → Srt (T.pre f path n)
  | 0, _, _, hd => absurd hd id
  | f + 1, path, n, hd => by
    have hd0 := hd
    obtain ⟨d, hn, hkids⟩ := hd
    have hsub : ∀ s ∈ sortedNames d.names, ∃ p ∈ d.names, bl p.1 = s ∧ (look d.names ⟨s.toArray⟩).getD 0 = p.2 := by
      intro s hs
      obtain ⟨p, hp, rfl⟩ := mem_sortedNames.1 hs
      refine ⟨p, hp, rfl, ?_⟩
      rw [mk_bl, look_of_mem (hw.keys n d hn) hp]
      rfl
    have hform : ∀ s ∈ sortedNames d.names, ∀ e ∈ T.pre f (path ++ [47] ++ s) ((look d.names ⟨s.toArray⟩).getD 0), ∃ u, (u = [] ∨ ∃ z, u = 47 :: z) ∧ e.1 = path ++ [47] ++ (s ++ u) := by
      intro s hs e he
      obtain ⟨p, hp, hb, hl⟩ := hsub s hs
      rw [hl] at he
      obtain ⟨l, h1, h2⟩ := (Tr.mem_pre hw f _ p.2 (hkids p hp) e.1 e.2).1 he
      exact ⟨joinB l, joinL_form _, by rw [h2]; simp⟩
    rw [Tr.pre_succ hn]
    refine List.pairwise_cons.2 ⟨fun e he => ?_, ?_⟩
    · obtain ⟨s, hs, he⟩ := List.mem_flatMap.1 he
      obtain ⟨u, _, h2⟩ := hform s hs e he
      show bef path e.1 = true
      rw [h2, List.append_assoc]
      exact bef_more path 47 (s ++ u)
    · refine List.pairwise_flatMap.2 ⟨fun s hs => ?_, ?_⟩
      · obtain ⟨p, hp, hb, hl⟩ := hsub s hs
        rw [hl]
        exact Tr.pre_srt hw f _ p.2 (hkids p hp)
      · refine List.Pairwise.imp_of_mem ?_ (sortedNames_srt (hw.keys n d hn))
        intro s t hs ht hst e he g hg
        obtain ⟨u, hu, h1⟩ := hform s hs e he
        obtain ⟨v, hv, h2⟩ := hform t ht g hg
        obtain ⟨p, hp, hb, _⟩ := hsub s hs
        obtain ⟨q, hq, hc, _⟩ := hsub t ht
        show bef e.1 g.1 = true
        rw [h1, h2, bef_append]
        exact bef_names hst (hb ▸ (hw.part n d p.1 p.2 hn hp).1.2) (hc ▸ (hw.part n d q.1 q.2 hn hq).1.2) hu

theorem Tr.deep_of {T : Tr} (hw : TW T) : ∀ (f n : Nat) (d : Nd), T.nd n = some d → (∀ l k, T.wk n l = some k → l.length < f) → T.deep f n
  | 0, n, d, _, h => absurd (h [] n rfl) (by simp)
  | f + 1, n, d, hn, h => ⟨d, hn, fun p hp => by
    obtain ⟨d', hd'⟩ := hw.kids n d p.1 p.2 hn hp
    refine Tr.deep_of hw f p.2 d' hd' fun l k hl => ?_
    have := h (p.1 :: l) k ((Tr.wk_cons hw hn hp l).trans hl)
    simp at this
    exact this⟩

/-! ### how long lines are -/

theorem decDigits_len : ∀ (k u : Nat), u < 10 ^ (k + 1) → (Lib.decDigits u).length ≤ k + 1
  | 0, u, h => by
    rw [Lib.decDigits_one (by simpa using h)]
    simp
  | k + 1, u, h => by
    by_cases hu : u < 10
    · rw [Lib.decDigits_one hu]; simp
    · rw [Lib.decDigits, dif_neg hu, List.length_append]
      have h1 : u / 10 < 10 ^ (k + 1) := by
        rw [Nat.pow_succ] at h
        omega
      have := decDigits_len k (u / 10) h1
      simp only [List.length_cons, List.length_nil]
      omega
theorem dec_len {n : Int} (h : n ≤ 4611686018427387904) : (dec n).length ≤ 20 := by
  unfold dec
  refine decDigits_len 19 _ ?_
  have h1 : n.toNat ≤ 4611686018427387904 := by omega
  have h2 : (4611686018427387904 : Nat) < 10 ^ (19 + 1) := by decide
  omega
theorem lineOf_len (path : List UInt8) {d : Nd} (h1 : d.links ≤ 4611686018427387904) (h2 : d.tick ≤ 4611686018427387904) (h3 : d.data.length ≤ 140737488355328) : (lineOf path d).length ≤ path.length + 80 := by
  have q1 := dec_len h1
  have q2 := dec_len h2
  have q3 := dec_len (n := (d.data.length : Int)) (by omega)
  have q4 : (if path = [] then ([47] : List UInt8) else []).length ≤ 1 := by split <;> simp
  have q5 : (if d.dir = true then ([32, 100, 32] : List UInt8) else [32, 102, 32] ++ dec d.data.length ++ [32] ++ dec d.links ++ [32]).length ≤ 50 := by
    split
    · simp
    · simp only [List.length_append, List.length_cons, List.length_nil]; omega
  unfold lineOf
  simp only [List.length_append, List.length_cons, List.length_nil]
  omega
end Go.Proofs.YtiejfbkbjahcgaaGreatDoor
