/-
  TreeNames' plain law: a path and a name behind it; what is there; a name more.
-/
import Derived.Test.YtjhojohjegkinaaGreatDoorTList
import Derived.Test.YtjhojohjegkinaaGreatDoorStatX
import Derived.Test.YtjhojohjegkinaaGreatDoorSimB
namespace Go.Proofs.YtjhojohjegkinaaGreatDoor
open Go Go.RowKit

/-! ### a path and a name behind it -/
theorem cutL_snoc : ∀ (p cur q : List UInt8), (47 : UInt8) ∉ q → cutL cur (p ++ 47 :: q) = cutL cur p ++ [q]
  | [], cur, q, hq => by
    rw [List.nil_append, cutL_slash, cutL_end]
    have h := cutL_join [] q [] hq (by simp)
    rw [joinL_nil, List.append_nil] at h
    rw [h]
    rfl
  | c :: p, cur, q, hq => by
    by_cases hc : c = 47
    · subst hc
      rw [List.cons_append, cutL_slash, cutL_slash, cutL_snoc p [] q hq]
      rfl
    · rw [List.cons_append, cutL_other _ _ hc, cutL_other _ _ hc, cutL_snoc p _ q hq]
theorem index_zero {l : List UInt8} (h : Lib.indexByte l 0 = -1) : (0 : UInt8) ∉ l := by
  induction l with
  | nil => simp
  | cons b l ih =>
    unfold Lib.indexByte at h
    have hg := Lib.indexByte_ge l 0
    by_cases hb : b = 0
    · subst hb; simp at h
    · have hb' : (b == 0) = false := by simpa using hb
      rw [hb'] at h
      simp only [Bool.false_eq_true, if_false] at h
      by_cases he : Lib.indexByte l 0 = -1
      · intro hm
        rcases List.mem_cons.1 hm with h1 | h1
        · exact hb h1.symm
        · exact ih he h1
      · rw [if_neg (by simpa using he)] at h
        omega
def sub (dir name : ByteArray) : ByteArray := dir ++ ⟨#[47]⟩ ++ name
theorem sub_bl (dir name : ByteArray) : bl (sub dir name) = bl dir ++ 47 :: bl name := by
  unfold sub
  rw [bl_append, bl_append]
  show bl dir ++ [47] ++ bl name = _
  simp
theorem sub_size (dir name : ByteArray) : (sub dir name).size = dir.size + 1 + name.size := by
  unfold sub
  rw [ByteArray.size_append, ByteArray.size_append]
  rfl
theorem pieces_sub {dir name : ByteArray} (h : (47 : UInt8) ∉ bl name) : pieces (sub dir name) = pieces dir ++ [name] := by
  rw [pieces_eq, pieces_eq]
  show (cutL [] (bl (sub dir name))).map mkB = (cutL [] (bl dir)).map mkB ++ [name]
  rw [sub_bl, cutL_snoc _ _ _ h, List.map_append, List.map_singleton, show mkB (bl name) = name from mkB_data name]
theorem bad_sub {dir name : ByteArray} (hb : badPath (sub dir name) = false) (hd : dir.size ≠ 0) : badPath dir = false := by
  have hs := sub_size dir name
  unfold badPath at hb ⊢
  simp only [Bool.or_eq_false_iff, decide_eq_false_iff_not] at hb ⊢
  refine ⟨⟨by omega, by omega⟩, ?_⟩
  obtain ⟨_, h2⟩ := hb
  have h2 : Lib.indexByte (bl (sub dir name)) 0 = -1 := by
    show Lib.indexByte (sub dir name).data.toList 0 = -1
    simpa using h2
  have h3 := index_zero h2
  rw [sub_bl] at h3
  have h4 : Lib.indexByte (bl dir) 0 = -1 := index_none _ (fun h => h3 (List.mem_append_left _ h))
  have h5 : Lib.indexByte dir.data.toList 0 = -1 := h4
  rw [h5]
  rfl
theorem long_snoc (l : List ByteArray) (x : ByteArray) : long (l ++ [x]) = (long l || decide (64 < x.size)) := by
  unfold long
  rw [List.any_append]
  simp
/-- A good name behind a clean path. -/
theorem clean_sub {dir name : ByteArray} {l : List ByteArray} (hc : clean dir = some l) (hg : GP name) (h0 : (0 : UInt8) ∉ bl name) (h47 : (47 : UInt8) ∉ bl name) (h64 : name.size ≤ 64) (hz : dir.size + name.size < 256) : clean (sub dir name) = some (l ++ [name]) := by
  unfold clean at hc
  by_cases hb : badPath dir = true
  · rw [if_pos hb] at hc; cases hc
  · rw [if_neg hb] at hc
    by_cases hl : long (fold (pieces dir)) = true
    · rw [if_pos hl] at hc; cases hc
    · rw [if_neg hl] at hc
      obtain rfl := Option.some.inj hc
      have hs := sub_size dir name
      have hb' : badPath dir = false := by simpa using hb
      have hbs : badPath (sub dir name) = false := by
        unfold badPath at hb' ⊢
        simp only [Bool.or_eq_false_iff, decide_eq_false_iff_not] at hb' ⊢
        refine ⟨⟨by omega, by omega⟩, ?_⟩
        have h2 : Lib.indexByte (bl dir) 0 = -1 := by
          have := hb'.2
          show Lib.indexByte dir.data.toList 0 = -1
          simpa using this
        have h4 : Lib.indexByte (bl (sub dir name)) 0 = -1 := by
          refine index_none _ (fun h => ?_)
          rw [sub_bl] at h
          rcases List.mem_append.1 h with h | h
          · exact index_zero h2 h
          · rcases List.mem_cons.1 h with h | h
            · cases h
            · exact h0 h
        have h5 : Lib.indexByte (sub dir name).data.toList 0 = -1 := h4
        rw [h5]
        rfl
      have hf : fold (pieces (sub dir name)) = fold (pieces dir) ++ [name] := by
        rw [pieces_sub h47, fold_snoc, step_gp hg]
      unfold clean
      rw [if_neg (by rw [hbs]; decide), hf, long_snoc]
      have hl' : long (fold (pieces dir)) = false := by simpa using hl
      rw [hl', decide_eq_false (by omega)]
      rfl
/-- What a path and a name lead to, the path leads to its directory. -/
theorem clean_of_sub {dir name : ByteArray} {l m : List ByteArray} (hc : clean dir = some m) (hs : clean (sub dir name) = some l) (hg : GP name) (h47 : (47 : UInt8) ∉ bl name) : l = m ++ [name] := by
  unfold clean at hs
  by_cases hb : badPath (sub dir name) = true
  · rw [if_pos hb] at hs; cases hs
  · rw [if_neg hb] at hs
    by_cases hl : long (fold (pieces (sub dir name))) = true
    · rw [if_pos hl] at hs; cases hs
    · rw [if_neg hl] at hs
      obtain rfl := Option.some.inj hs
      unfold clean at hc
      by_cases hb : badPath dir = true
      · rw [if_pos hb] at hc; cases hc
      · rw [if_neg hb] at hc
        by_cases hl : long (fold (pieces dir)) = true
        · rw [if_pos hl] at hc; cases hc
        · rw [if_neg hl] at hc
          obtain rfl := Option.some.inj hc
          rw [pieces_sub h47, fold_snoc, step_gp hg]

/-! ### a directory at a path -/
structure DirAt (T : Tr) (s : ByteArray) (k : Nat) (d : Nd) : Prop where
  path : ∃ l, clean s = some l ∧ T.at l = some k
  nd : T.nd k = some d
  dir : d.dir = true
theorem cList_dir {T : Tr} {s : ByteArray} (h : T.cList s = 0) : ∃ k d, DirAt T s k d := by
  unfold Tr.cList at h
  cases hf : T.find s with
  | error c =>
    rw [hf] at h
    dsimp only at h
    rcases find_err_ne hf with e | e <;> omega
  | ok sp =>
    rw [hf] at h
    dsimp only at h
    obtain ⟨l, hc, ha, _⟩ := find_ok hf
    cases hn : sp.n with
    | none => rw [hn] at h; cases h
    | some k =>
      rw [hn] at h ha
      dsimp only at h
      cases hd : T.nd k with
      | none => rw [hd] at h; cases h
      | some d =>
        rw [hd] at h
        dsimp only at h
        cases hdir : d.dir with
        | true => exact ⟨k, d, ⟨l, hc, ha⟩, hd, hdir⟩
        | false => rw [hdir] at h; cases h
theorem DirAt.spot {T : Tr} {s : ByteArray} {k : Nat} {d : Nd} (h : DirAt T s k d) : ∃ sp, T.find s = .ok sp ∧ sp.n = some k := by
  obtain ⟨l, h1, h2⟩ := h.path
  exact at_find h1 h2
theorem DirAt.cStat {T : Tr} {s : ByteArray} {k : Nat} {d : Nd} (h : DirAt T s k d) : T.cStat s = 0 ∧ T.vStat s = statV 2 d.names.length 1 d.tick := by
  obtain ⟨sp, h1, h2⟩ := h.spot
  unfold Tr.cStat Tr.vStat
  rw [h1]
  dsimp only
  rw [h2]
  dsimp only
  rw [h.nd]
  dsimp only
  unfold ndStat
  rw [h.dir]
  exact ⟨rfl, rfl⟩
theorem DirAt.list {T : Tr} {s : ByteArray} {k : Nat} {d : Nd} (h : DirAt T s k d) : T.cList s = 0 ∧ T.lNames s = sortedNames d.names := by
  obtain ⟨sp, h1, h2⟩ := h.spot
  unfold Tr.cList Tr.lNames
  rw [h1]
  dsimp only
  rw [h2]
  dsimp only
  rw [h.nd]
  dsimp only
  rw [h.dir]
  exact ⟨rfl, rfl⟩
/-- What can't be listed, and can be looked at, is a file. -/
theorem cList_file {T : Tr} {s : ByteArray} (hI : TI T) (h : T.cList s ≠ 0) (h0 : T.cStat s = 0) : ∃ size links tick, T.vStat s = statV 1 size links tick := by
  unfold Tr.cStat at h0
  unfold Tr.cList at h
  unfold Tr.vStat
  cases hf : T.find s with
  | error c =>
    rw [hf] at h0
    dsimp only at h0
    rcases find_err_ne hf with e | e <;> omega
  | ok sp =>
    rw [hf] at h h0
    dsimp only at h h0 ⊢
    obtain ⟨l, hc, ha, _⟩ := find_ok hf
    cases hn : sp.n with
    | none => rw [hn] at h0; cases h0
    | some k =>
      rw [hn] at h ha
      obtain ⟨d, hd⟩ := hI.tw.there ha
      dsimp only at h ⊢
      rw [hd] at h ⊢
      dsimp only at h ⊢
      unfold ndStat
      cases hdir : d.dir with
      | true => rw [hdir] at h; exact absurd rfl h
      | false => exact ⟨_, _, _, rfl⟩
/-- Each name is of something. -/
theorem DirAt.kid {T : Tr} {s : ByteArray} {k : Nat} {d : Nd} (h : DirAt T s k d) (hI : TI T) (hG : TG T) {x : List UInt8} (hx : x ∈ sortedNames d.names) (hz : s.size + x.length < 256) :
    T.cStat (sub s (mkB x)) = 0 ∧ ∃ kd size links tick, T.vStat (sub s (mkB x)) = statV kd size links tick ∧ kd ≠ 0 := by
  obtain ⟨p, hp, rfl⟩ := mem_sortedNames.1 hx
  obtain ⟨nm, q⟩ := p
  have e : mkB (bl nm) = nm := mkB_data nm
  simp only
  rw [e]
  obtain ⟨l, hc, ha⟩ := h.path
  obtain ⟨g1, g2⟩ := hG k d nm q h.nd hp
  obtain ⟨g3, g4⟩ := hI.tw.part k d nm q h.nd hp
  have hsz : nm.size = (bl nm).length := Lib.size_eq nm
  have hcl := clean_sub hc g1 g2 g3.2 g4 (by simp only at hz; omega)
  have hat : T.at (l ++ [nm]) = some q := by
    rw [Tr.at_snoc, ha]
    show T.hop k nm = _
    rw [Tr.hop_dir h.nd h.dir, look_of_mem (hI.tw.keys k d h.nd) hp]
  obtain ⟨sp, h1, h2⟩ := at_find hcl hat
  obtain ⟨d', hd'⟩ := hI.tw.there hat
  unfold Tr.cStat Tr.vStat
  rw [h1]
  dsimp only
  rw [h2]
  dsimp only
  rw [hd']
  dsimp only
  refine ⟨rfl, ?_⟩
  unfold ndStat
  cases hdir : d'.dir with
  | true => exact ⟨2, _, _, _, rfl, by decide⟩
  | false => exact ⟨1, _, _, _, rfl, by decide⟩
/-- A name more. -/
theorem DirAt.more {T T1 : Tr} {s name : ByteArray} {k : Nat} {d : Nd} {b : List UInt8} (h : DirAt T s k d) (hI : TI T) (hg : GP name) (h47 : (47 : UInt8) ∉ bl name) (hP : PGrown T T1 (sub s name) false b) :
    ∃ d1, DirAt T1 s k d1 ∧ d1.names.length = d.names.length + 1 ∧ bl name ∈ sortedNames d1.names := by
  obtain ⟨dp, nm, i, k', di, dk, a1, a2, a3, a4, a5, a6, a7, a8, a9, a10⟩ := hP
  obtain ⟨l, hc, ha⟩ := h.path
  obtain ⟨rfl, rfl⟩ := snoc_inj (clean_of_sub hc a1 hg h47)
  rw [ha] at a2
  obtain rfl := Option.some.inj a2
  have hnd := h.nd
  rw [a3] at hnd
  obtain rfl := Option.some.inj hnd
  have hat1 := a7.at hI.tw ha a3 a4 a5 a6
  have hne : dp ≠ dp ++ [nm] := fun e => by simpa using congrArg List.length e
  refine ⟨_, ⟨⟨dp, hc, by rw [hat1, if_neg hne, ha]⟩, a7.up, a4⟩, by simp, ?_⟩
  exact mem_sortedNames.2 ⟨(nm, k'), by simp, rfl⟩
theorem sortedNames_len (names : List (ByteArray × Nat)) : (sortedNames names).length = names.length := by unfold sortedNames; rw [(List.mergeSort_perm _ _).length_eq, List.length_map]
end Go.Proofs.YtjhojohjegkinaaGreatDoor
