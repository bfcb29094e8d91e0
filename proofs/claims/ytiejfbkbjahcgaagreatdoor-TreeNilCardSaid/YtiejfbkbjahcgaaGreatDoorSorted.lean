/-
  slices.Sorted(maps.Keys(names)): a directory's names, sorted.
-/
import Derived.Test.YtiejfbkbjahcgaaGreatDoorIter
import Derived.Test.YtiejfbkbjahcgaaGreatDoorOpen
import Derived.Lib.Hide
namespace Go.Proofs.YtiejfbkbjahcgaaGreatDoor
open Go Go.RowKit Go.Maps Go.Sort

def nameL (p : ByteArray × Nat) : List UInt8 := p.1.data.toList
/-- A directory's names, rising. -/
def sortedNames (names : List (ByteArray × Nat)) : List (List UInt8) := (names.map nameL).mergeSort fun x y => decide (x ≤ y)

/-- How the walk reads a node in a map: as nothing. -/
def nodeR (_ : Value) : Option (DataW Unit × List MemPlace) := some (.nil, [])

theorem rg_str {e : MapEntry} {s : ByteArray} (h : e.key = .string s) (hs : s.size ≤ maxLen) : WideElems.rd Tryz.prog 9 nodeR e = some (.string s.data.toList, .nil) := by
  have hu : Tryz.prog.underlying 9 = some .string := Tryz.underlying9
  simp [WideElems.rd, h, keyOf, hu, mapKey, hs, nodeR]

theorem ownsMap_of {w : World} {mb : Nat} {names : List (ByteArray × Nat)} (h : MapAt w mb names) (hs : ∀ p ∈ names, p.1.size ≤ 9223372036854775807) (hn : names.length ≤ 1000000000) :
    ∃ D : DataW Unit, w.ownsMap Tryz.prog 9 nodeR mb names.length D ∧ (strKeys D).Perm (names.map nameL) ∧ Maps.size D = names.length := by
  obtain ⟨es, clock, hb, he, hst⟩ := h
  have hlen : es.toList.length = names.length := by
    have := congrArg List.length he
    simpa using this
  have hkey : ∀ x ∈ es.toList, ∃ s : ByteArray, x.key = .string s ∧ s.size ≤ maxLen := by
    intro x hx
    have h1 : (x.key, x.val) ∈ es.toList.map (fun e => (e.key, e.val)) := List.mem_map.2 ⟨x, hx, rfl⟩
    rw [he] at h1
    obtain ⟨p, hp, h2⟩ := List.mem_map.1 h1
    simp only [Prod.mk.injEq] at h2
    exact ⟨p.1, h2.1.symm, by unfold maxLen; exact hs p hp⟩
  have hread : ∀ x ∈ es.toList, ∃ y, WideElems.rd Tryz.prog 9 nodeR x = some y := fun x hx => by
    obtain ⟨s, h1, h2⟩ := hkey x hx
    exact ⟨_, rg_str h1 h2⟩
  have hperm := WideShapes.sorted_perm (es.toList.map (WideElems.rg Tryz.prog 9 nodeR))
  have hst2 : ∀ (l : List MapEntry) (nl : List (ByteArray × Nat)), (∀ x ∈ l, ∃ s : ByteArray, x.key = .string s ∧ s.size ≤ maxLen) → l.map (fun e => (e.key, e.val)) = nl.map (fun p => (Value.string p.1, Value.pointer (some ⟨p.2, 0, none⟩))) →
      (l.map (WideElems.rg Tryz.prog 9 nodeR)).map (fun p => Go.strOf p.1) = nl.map nameL := by
    intro l
    induction l with
    | nil => intro nl _ h; cases nl with
      | nil => rfl
      | cons => cases h
    | cons x l ih =>
      intro nl hk h
      cases nl with
      | nil => cases h
      | cons p nl =>
        simp only [List.map_cons, List.cons.injEq, Prod.mk.injEq] at h
        obtain ⟨s, h1, h2⟩ := hk x (List.mem_cons_self ..)
        have h3 : s = p.1 := by
          have := h.1.1
          rw [h1] at this
          simpa using this
        simp only [List.map_cons]
        rw [ih nl (fun y hy => hk y (List.mem_cons_of_mem _ hy)) h.2, WideElems.rg_of (rg_str h1 h2), h3]
        rfl
  refine ⟨_, ⟨es, clock, hb, ⟨by rw [← Array.length_toList, hlen]; unfold maxLen; omega, hst, hread⟩, by rw [← Array.length_toList, hlen]; exact Nat.le_refl _, rfl⟩, ?_, ?_⟩
  · show (((es.toList.map (WideElems.rg Tryz.prog 9 nodeR)).foldr DataW.insert []).map fun p => Go.strOf p.1).Perm _
    rw [← hst2 es.toList names hkey he]
    exact hperm.map _
  · rw [Maps.size_eq, hperm.length_eq, List.length_map, hlen]

theorem strs_of_enc {w : World} {base : Nat} {v : Value} {ss : List (List UInt8)} (h : w.ownsRow base 9 1 v ss.length (ss.map encStr)) (hb : base ≤ base) : StrsAt w base v (ss.map fun s => ⟨s.toArray⟩) := by
  refine StrsAt.of_owns ?_ hb
  rw [List.length_map, List.map_map]
  exact h

/-- What sorting the names leaves. -/
def SortPost (w : World) (names : List (ByteArray × Nat)) (e : Ending) (w' : World) : Prop :=
  ∃ v, e = .returned v ∧ w'.ownsRow w.heap.size 9 1 v (sortedNames names).length ((sortedNames names).map encStr) ∧ Below w.heap.size w w'

theorem sortedNames_perm {names : List (ByteArray × Nat)} {l : List (List UInt8)} (h : l.Perm (names.map nameL)) : l.mergeSort (fun x y => decide (x ≤ y)) = sortedNames names := mergeSort_of_perm h

theorem keys_names (mb : Option Nat) (w : World) : Calls Tryz.prog 71 #[.map mb] w fun e w' => e = .returned (.func (.func 109) #[] #[.pointer (some ⟨w.heap.size, 0, none⟩)]) ∧ w' = w.alloc (.cells #[.map mb] 130) :=
  (callsIn_wide (n := 5)).1 (Tryz.maps_Keys mb w)

theorem sorted_names {w : World} {mb : Nat} {names : List (ByteArray × Nat)} (h : MapAt w mb names) (hs : ∀ p ∈ names, p.1.size ≤ 9223372036854775807) (hn : names.length ≤ 1000000000) :
    Calls Tryz.prog 70 #[.func (.func 109) #[] #[.pointer (some ⟨w.heap.size, 0, none⟩)]] (w.alloc (.cells #[.map (some mb)] 130)) fun e w' => SortPost (w.alloc (.cells #[.map (some mb)] 130)) names e w' := by
  obtain ⟨D, hown, hperm, hsz⟩ := ownsMap_of h hs hn
  refine ((callsIn_wide (n := 5)).1 (Tryz.sorted_keys mb _ D _ w hown (by rw [hsz]; unfold maxLen; omega) (by rw [hsz]; omega))).mono ?_
  rintro e w' ⟨v, ss, rfl, hp, hrow, _, hb⟩
  have e1 : ss.mergeSort (fun x y => decide (x ≤ y)) = sortedNames names := sortedNames_perm (hp.trans hperm)
  have e2 : ss.length = (sortedNames names).length := by rw [← e1, (List.mergeSort_perm ss _).length_eq]
  rw [e1, e2] at hrow
  exact ⟨v, rfl, hrow, hb⟩

theorem sorted_nil (w : World) :
    Calls Tryz.prog 70 #[.func (.func 109) #[] #[.pointer (some ⟨w.heap.size, 0, none⟩)]] (w.alloc (.cells #[.map none] 130)) fun e w' => SortPost (w.alloc (.cells #[.map none] 130)) [] e w' := by
  refine ((callsIn_wide (n := 5)).1 (Tryz.sorted_keys_nil w)).mono ?_
  rintro e w' ⟨v, ss, rfl, hp, hrow, _, hb⟩
  subst hp
  have e1 : sortedNames [] = [] := by simp [sortedNames]
  exact ⟨v, rfl, by rw [e1]; simpa using hrow, hb⟩
end Go.Proofs.YtiejfbkbjahcgaaGreatDoor
