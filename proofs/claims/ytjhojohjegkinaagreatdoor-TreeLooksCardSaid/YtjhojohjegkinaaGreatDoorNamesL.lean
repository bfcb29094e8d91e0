/-
  TreeNames' plain law: a path and a name behind it; what is there; a name more.
-/
import Derived.Test.YtjhojohjegkinaaGreatDoorTList
import Derived.Test.YtjhojohjegkinaaGreatDoorStatX
import Derived.Test.YtjhojohjegkinaaGreatDoorSimB
namespace Go.Proofs.YtjhojohjegkinaaGreatDoor
open Go Go.RowKit

/-! ### a path and a name behind it -/
theorem cutL_snoc : ∀ (p cur q : List UInt8), (47 : UInt8) ∉ q → cutL cur (p ++ 47 :: q) = cutL cur p ++ [q]
  | [], cur, q, hq => by
    rw [List.nil_append, cutL_slash, cutL_end]
    have h := cutL_join [] q [] hq (by simp)
    rw [joinL_nil, List.append_nil] at h
    rw [h]
    rfl
  | c :: p, cur, q, hq => by
    by_cases hc : c = 47
    · subst hc
      rw [List.cons_append, cutL_slash, cutL_slash, cutL_snoc p [] q hq]
      rfl
    · rw [List.cons_append, cutL_other _ _ hc, cutL_other _ _ hc, cutL_snoc p _ q hq]
def sub (dir name : ByteArray) : ByteArray := dir ++ ⟨#[47]⟩ ++ name
theorem sub_bl (dir name : ByteArray) : bl (sub dir name) = bl dir ++ 47 :: bl name := by
  unfold sub
  rw [bl_append, bl_append]
  show bl dir ++ [47] ++ bl name = _
  simp
theorem pieces_sub {dir name : ByteArray} (h : (47 : UInt8) ∉ bl name) : pieces (sub dir name) = pieces dir ++ [name] := by
  rw [pieces_eq, pieces_eq]
  show (cutL [] (bl (sub dir name))).map mkB = (cutL [] (bl dir)).map mkB ++ [name]
  rw [sub_bl, cutL_snoc _ _ _ h, List.map_append, List.map_singleton, show mkB (bl name) = name from mkB_data name]
/-- What a path and a name lead to, the path leads to its directory. -/
theorem clean_of_sub {dir name : ByteArray} {l m : List ByteArray} (hc : clean dir = some m) (hs : clean (sub dir name) = some l) (hg : GP name) (h47 : (47 : UInt8) ∉ bl name) : l = m ++ [name] := by
  unfold clean at hs
  by_cases hb : badPath (sub dir name) = true
  · rw [if_pos hb] at hs; cases hs
  · rw [if_neg hb] at hs
    by_cases hl : long (fold (pieces (sub dir name))) = true
    · rw [if_pos hl] at hs; cases hs
    · rw [if_neg hl] at hs
      obtain rfl := Option.some.inj hs
      unfold clean at hc
      by_cases hb : badPath dir = true
      · rw [if_pos hb] at hc; cases hc
      · rw [if_neg hb] at hc
        by_cases hl : long (fold (pieces dir)) = true
        · rw [if_pos hl] at hc; cases hc
        · rw [if_neg hl] at hc
          obtain rfl := Option.some.inj hc
          rw [pieces_sub h47, fold_snoc, step_gp hg]

/-! ### a directory at a path -/
structure DirAt (T : Tr) (s : ByteArray) (k : Nat) (d : Nd) : Prop where
  path : ∃ l, clean s = some l ∧ T.at l = some k
  nd : T.nd k = some d
  dir : d.dir = true
theorem DirAt.spot {T : Tr} {s : ByteArray} {k : Nat} {d : Nd} (h : DirAt T s k d) : ∃ sp, T.find s = .ok sp ∧ sp.n = some k := by
  obtain ⟨l, h1, h2⟩ := h.path
  exact at_find h1 h2
theorem DirAt.cStat {T : Tr} {s : ByteArray} {k : Nat} {d : Nd} (h : DirAt T s k d) : T.cStat s = 0 ∧ T.vStat s = statV 2 d.names.length 1 d.tick := by
  obtain ⟨sp, h1, h2⟩ := h.spot
  unfold Tr.cStat Tr.vStat
  rw [h1]
  dsimp only
  rw [h2]
  dsimp only
  rw [h.nd]
  dsimp only
  unfold ndStat
  rw [h.dir]
  exact ⟨rfl, rfl⟩
theorem DirAt.list {T : Tr} {s : ByteArray} {k : Nat} {d : Nd} (h : DirAt T s k d) : T.cList s = 0 ∧ T.lNames s = sortedNames d.names := by
  obtain ⟨sp, h1, h2⟩ := h.spot
  unfold Tr.cList Tr.lNames
  rw [h1]
  dsimp only
  rw [h2]
  dsimp only
  rw [h.nd]
  dsimp only
  rw [h.dir]
  exact ⟨rfl, rfl⟩
/-- A name more. -/
theorem DirAt.more {T T1 : Tr} {s name : ByteArray} {k : Nat} {d : Nd} {b : List UInt8} (h : DirAt T s k d) (hI : TI T) (hg : GP name) (h47 : (47 : UInt8) ∉ bl name) (hP : PGrown T T1 (sub s name) false b) :
    ∃ d1, DirAt T1 s k d1 ∧ d1.names.length = d.names.length + 1 ∧ bl name ∈ sortedNames d1.names := by
  obtain ⟨dp, nm, i, k', di, dk, a1, a2, a3, a4, a5, a6, a7, a8, a9, a10⟩ := hP
  obtain ⟨l, hc, ha⟩ := h.path
  obtain ⟨rfl, rfl⟩ := snoc_inj (clean_of_sub hc a1 hg h47)
  rw [ha] at a2
  obtain rfl := Option.some.inj a2
  have hnd := h.nd
  rw [a3] at hnd
  obtain rfl := Option.some.inj hnd
  have hat1 := a7.at hI.tw ha a3 a4 a5 a6
  have hne : dp ≠ dp ++ [nm] := fun e => by simpa using congrArg List.length e
  refine ⟨_, ⟨⟨dp, hc, by rw [hat1, if_neg hne, ha]⟩, a7.up, a4⟩, by simp, ?_⟩
  exact mem_sortedNames.2 ⟨(nm, k'), by simp, rfl⟩
theorem sortedNames_len (names : List (ByteArray × Nat)) : (sortedNames names).length = names.length := by unfold sortedNames; rw [(List.mergeSort_perm _ _).length_eq, List.length_map]
end Go.Proofs.YtjhojohjegkinaaGreatDoor
