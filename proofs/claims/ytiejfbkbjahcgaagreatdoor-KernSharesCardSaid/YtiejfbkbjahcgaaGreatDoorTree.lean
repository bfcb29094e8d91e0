/-
  A TREE IN MEMORY: nodes, their rows of bytes, their maps of names; and the plain functions that tell what the tree's calls do. The laws of a map of names.
-/
import Derived.Test.YtiejfbkbjahcgaaGreatDoorClean
namespace Go.Proofs.YtiejfbkbjahcgaaGreatDoor
open Go Go.RowKit

/-- A pointer to the head of a block, or nil. -/
def ptrV (o : Option Nat) : Value := .pointer (o.map fun b => ⟨b, 0, none⟩)
theorem ptrV_some (b : Nat) : ptrV (some b) = .pointer (some ⟨b, 0, none⟩) := rfl
theorem ptrV_none : ptrV none = .pointer none := rfl

/-- Bytes as cells. -/
def u8s (l : List UInt8) : List Value := l.map fun x => .int .u8 x.toNat
theorem u8s_length (l : List UInt8) : (u8s l).length = l.length := by simp [u8s]
theorem u8s_append (l m : List UInt8) : u8s (l ++ m) = u8s l ++ u8s m := by simp [u8s]

/-- A node: what its five cells hold. -/
structure Nd where
  dir : Bool
  bv : Value
  data : List UInt8
  names : List (ByteArray × Nat)
  mb : Nat
  links : Int
  tick : Int

/-- A tree: its own block, its root, its clock, its count; its nodes by their blocks. -/
structure Tr where
  tb : Nat
  root : Nat
  clock : Int
  count : Int
  nd : Nat → Option Nd

/-- A map's block that reads as names. -/
def MapAt (w : World) (mb : Nat) (names : List (ByteArray × Nat)) : Prop :=
  ∃ es clock, w.heap[mb]? = some (.map es clock) ∧ es.toList.map (fun e => (e.key, e.val)) = names.map (fun p => (Value.string p.1, Value.pointer (some ⟨p.2, 0, none⟩))) ∧ MapKept.Stamped es clock

def mapV (d : Nd) : Value := if d.dir then .map (some d.mb) else .map none

structure NodeAt (B : Nat) (w : World) (n : Nat) (d : Nd) : Prop where
  cells : w.heap[n]? = some (.cells #[.bool d.dir, d.bv, mapV d, .int .i64 d.links, .int .i64 d.tick] 132 (0, 0))
  row : w.ownsRow B 5 1 d.bv d.data.length (u8s d.data)
  map : d.dir = true → MapAt w d.mb d.names
  file : d.dir = false → d.names = []

/-- The blocks that are the tree's. -/
def Tr.foot (T : Tr) (b : Nat) : Prop :=
  b = T.tb ∨ (∃ d, T.nd b = some d) ∨ ∃ n d, T.nd n = some d ∧ ((d.dir = true ∧ d.mb = b) ∨ d.bv.ownBlock = some b)

structure Rep (B : Nat) (w : World) (T : Tr) : Prop where
  low : ∀ b, T.foot b → B ≤ b
  tree : w.heap[T.tb]? = some (.cells #[ptrV (some T.root), .int .i64 T.clock, .int .i64 T.count] 139 (0, 0))
  node : ∀ n d, T.nd n = some d → NodeAt B w n d
  maps : ∀ n d n' d', T.nd n = some d → T.nd n' = some d' → d.dir = true → d'.dir = true → d.mb = d'.mb → n = n'
  rows : ∀ n d n' d' b, T.nd n = some d → T.nd n' = some d' → d.bv.ownBlock = some b → d'.bv.ownBlock = some b → n = n'
  root : ∃ d, T.nd T.root = some d ∧ d.dir = true
  kids : ∀ n d s k, T.nd n = some d → (s, k) ∈ d.names → ∃ d', T.nd k = some d'

theorem MapAt.kept {w w' : World} {mb : Nat} {names : List (ByteArray × Nat)} {F : Nat → Prop} (h : MapAt w mb names) (k : Kept F w w') (hF : ¬ F mb) : MapAt w' mb names := by
  obtain ⟨es, c, h1, h2⟩ := h
  exact ⟨es, c, (k.block mb (lt_of_heap h1) hF).trans h1, h2⟩

theorem ownsRow_kept {w w' : World} {base n : Nat} {e : TypeId} {size : Nat} {v : Value} {xs : List Value} {F : Nat → Prop} (h : w.ownsRow base e size v n xs) (k : Kept F w w') (hF : ∀ b, v.ownBlock = some b → ¬ F b) : w'.ownsRow base e size v n xs := by
  refine ⟨h.1, ?_⟩
  rcases h.2 with hn | ⟨g, cap, cur, rfl, r1, r2, r3⟩
  · exact .inl hn
  · exact .inr ⟨g, cap, cur, rfl, r1, (k.block g (lt_of_heap r2) (hF g rfl)).trans r2, r3⟩

theorem NodeAt.kept {B n : Nat} {w w' : World} {d : Nd} {F : Nat → Prop} (h : NodeAt B w n d) (k : Kept F w w') (h1 : ¬ F n) (h2 : d.dir = true → ¬ F d.mb) (h3 : ∀ b, d.bv.ownBlock = some b → ¬ F b) : NodeAt B w' n d :=
  ⟨(k.block n (lt_of_heap h.cells) h1).trans h.cells, ownsRow_kept h.row k h3, fun hd => (h.map hd).kept k (h2 hd), h.file⟩

theorem Rep.kept {B : Nat} {w w' : World} {T : Tr} {F : Nat → Prop} (h : Rep B w T) (k : Kept F w w') (hF : ∀ b, T.foot b → ¬ F b) : Rep B w' T where
  low := h.low
  tree := (k.block T.tb (lt_of_heap h.tree) (hF _ (.inl rfl))).trans h.tree
  node n d hn := (h.node n d hn).kept k (hF _ (.inr (.inl ⟨d, hn⟩))) (fun hd => hF _ (.inr (.inr ⟨n, d, hn, .inl ⟨hd, rfl⟩⟩))) (fun _ hb => hF _ (.inr (.inr ⟨n, d, hn, .inr hb⟩)))
  maps := h.maps
  rows := h.rows
  root := h.root
  kids := h.kids

theorem Rep.below {B : Nat} {w w' : World} {T : Tr} (h : Rep B w T) (k : Below w.heap.size w w') : Rep B w' T :=
  h.kept (Kept.of_below k (fun _ => False)) (fun _ _ hf => hf)

/-- The tree's blocks are there. -/
theorem Rep.lt {B : Nat} {w : World} {T : Tr} (h : Rep B w T) {b : Nat} (hb : T.foot b) : b < w.heap.size := by
  rcases hb with rfl | ⟨d, hd⟩ | ⟨n, d, hn, ⟨hd, rfl⟩ | hv⟩
  · exact lt_of_heap h.tree
  · exact lt_of_heap (h.node _ _ hd).cells
  · obtain ⟨es, c, h1, _⟩ := (h.node _ _ hn).map hd
    exact lt_of_heap h1
  · exact ((h.node _ _ hn).row.lt b hv).2

/-! ### the map's laws -/

def look (names : List (ByteArray × Nat)) (s : ByteArray) : Option Nat := (names.find? fun p => s == p.1).map (·.2)

theorem look_mem {names : List (ByteArray × Nat)} {s : ByteArray} {k : Nat} (h : look names s = some k) : (s, k) ∈ names := by
  unfold look at h
  cases hf : names.find? (fun p => s == p.1) with
  | none => rw [hf] at h; cases h
  | some p =>
    rw [hf] at h
    simp only [Option.map_some, Option.some.injEq] at h
    have h1 := List.mem_of_find?_eq_some hf
    have h2 := List.find?_some hf
    have e : s = p.1 := (MapKept.bytes_beq s p.1).1 h2
    subst h; subst e
    exact h1

theorem findNow_names (s : ByteArray) : ∀ (es : List MapEntry) (names : List (ByteArray × Nat)) (i : Nat),
    es.map (fun e => (e.key, e.val)) = names.map (fun p => (Value.string p.1, Value.pointer (some ⟨p.2, 0, none⟩))) →
    Instr.findNow .string (.string s) es i = some ((names.findIdx? (fun p => s == p.1)).map fun j => (i + j, Value.pointer (some ⟨((names[j]?).map (·.2)).getD 0, 0, none⟩)))
  | [], names, i, h => by
    cases names with
    | nil => rfl
    | cons a l => cases h
  | e :: es, names, i, h => by
    cases names with
    | nil => cases h
    | cons p l =>
      simp only [List.map_cons, List.cons.injEq, Prod.mk.injEq] at h
      obtain ⟨⟨hk, hv⟩, hr⟩ := h
      unfold Instr.findNow
      rw [hk]
      simp only [Instr.sameNow, List.findIdx?_cons]
      by_cases hs : (s == p.1) = true
      · rw [hs]; simp [hv]
      · have hs' : (s == p.1) = false := by simpa using hs
        rw [hs', findNow_names s es l (i + 1) hr]
        simp only [Bool.false_eq_true, if_false, Option.map_map]
        congr 1
        congr 1
        funext j
        simp [Nat.add_comm, Nat.add_left_comm]

theorem look_idx (names : List (ByteArray × Nat)) (s : ByteArray) : look names s = (names.findIdx? (fun p => s == p.1)).map fun j => ((names[j]?).map (·.2)).getD 0 := by
  unfold look
  induction names with
  | nil => rfl
  | cons p l ih =>
    simp only [List.find?_cons, List.findIdx?_cons]
    by_cases hs : (s == p.1) = true
    · rw [hs]; simp
    · have hs' : (s == p.1) = false := by simpa using hs
      rw [hs', ih]
      simp [Option.map_map, Function.comp_def]

theorem checkKey_str {P : Program} {t : TypeId} (ht : P.underlying t = some .string) (e : Bool) (n : Nat) (s : ByteArray) (w : World) : (Instr.checkKey e (n + 1) t (.string s)).run P w = .ok () w := by
  unfold Instr.checkKey
  simp [run_underlying ht]

theorem run_lookup_names {w : World} {mb : Nat} {names : List (ByteArray × Nat)} (h : MapAt w mb names) (s : ByteArray) :
    (Instr.lookup 130 (.map (some mb)) (.string s) false).run Tryz.prog w = .ok (ptrV (look names s)) w := by
  obtain ⟨es, clock, hb, he, _⟩ := h
  have hm : Tryz.prog.underlying 130 = some (.map 9 128) := Tryz.underlying130
  have hs : Tryz.prog.underlying 9 = some .string := Tryz.underlying9
  have hz : (zeroValue 128).run Tryz.prog w = .ok (.pointer none) w := by kernel_rfl
  have hf := findNow_names s es.toList names 0 he
  have hg : (getObj mb).run Tryz.prog w = .ok (.map es clock) w := MapKept.run_getObj_map hb
  have hc := checkKey_str hs es.isEmpty 9999 s w
  rw [look_idx]
  cases hj : names.findIdx? (fun p => s == p.1) with
  | none =>
    rw [hj] at hf
    simp [Instr.lookup, run_underlying hm, hg, hc, Instr.findKey, run_underlying hs, hf, hz, ptrV, Result.andThen]
  | some j =>
    rw [hj] at hf
    simp [Instr.lookup, run_underlying hm, hg, hc, Instr.findKey, run_underlying hs, hf, ptrV, Result.andThen]
end Go.Proofs.YtiejfbkbjahcgaaGreatDoor
