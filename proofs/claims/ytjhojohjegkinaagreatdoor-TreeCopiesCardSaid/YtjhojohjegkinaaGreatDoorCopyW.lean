/-
  The program's Copy.
-/
import Derived.Test.YtjhojohjegkinaaGreatDoorCopyM
import Derived.Laws.EntriesVeiled
import Derived.Deep.RegionWith
import Derived.Deep.Onto
namespace Go.Proofs.YtjhojohjegkinaaGreatDoor
open Go Go.RowKit

/-! ### one more copy, in words -/
theorem Cp.vals_of {T : Tr} {L : List (Nat × Nat)} {C : Nat → Option Nd} {P : Nat → Prop} (h : Cp T L C P) {c : Nat} (hc : C c = none) : c ∉ L.map (·.2) := fun hm => by
  obtain ⟨p, hp, e⟩ := List.mem_map.1 hm
  obtain ⟨d, e', _, he, _⟩ := h.node p.1 p.2 hp
  rw [e, hc] at he
  cases he
theorem Cp.add {T : Tr} {L : List (Nat × Nat)} {C : Nat → Option Nd} {P Q : Nat → Prop} (h : Cp T L C P) {n c : Nat} {d e : Nd} (hn : lkC L n = none) (hc : C c = none) (hd : T.nd n = some d) (h1 : e.dir = d.dir) (h2 : e.data = d.data) (h3 : e.links = d.links) (h4 : e.tick = d.tick) (h5 : e.names = [])
    (hQ : ∀ x, P x → Q x) (hq : d.dir = true → Q n) (hf : d.dir = false → d.names = []) : Cp T (L ++ [(n, c)]) (updC C c e) Q := by
  have hv := h.vals_of hc
  refine ⟨?_, ?_, fun x y hx => ?_, fun m x hm => ?_⟩
  · rw [List.map_append, List.nodup_append]
    refine ⟨h.keys, by simp, fun a ha b hb e1 => ?_⟩
    have h2 : b = n := by simpa using hb
    rw [e1, h2] at ha
    exact lkC_none hn ha
  · rw [List.map_append, List.nodup_append]
    refine ⟨h.vals, by simp, fun a ha b hb e1 => ?_⟩
    have h2 : b = c := by simpa using hb
    rw [e1, h2] at ha
    exact hv ha
  · by_cases e1 : x = c
    · exact ⟨n, by rw [e1]; simp⟩
    · rw [updC_other C e e1] at hx
      obtain ⟨m, hm⟩ := h.dom x y hx
      exact ⟨m, List.mem_append_left _ hm⟩
  · rcases List.mem_append.1 hm with hm | hm
    · obtain ⟨d', e', g1, g2, g3, g4, g5, g6, g7, g8⟩ := h.node m x hm
      have hx : x ≠ c := fun e1 => hv (List.mem_map.2 ⟨_, hm, e1⟩)
      exact ⟨d', e', g1, by rw [updC_other C e hx]; exact g2, g3, g4, g5, g6, g7, fun hq => (g8 (fun hp => hq (hQ m hp))).more _⟩
    · have hm : m = n ∧ x = c := by simpa using hm
      obtain ⟨rfl, rfl⟩ := hm
      refine ⟨d, e, hd, updC_same C x e, h1, h2, h3, h4, fun _ => h5, fun hq' => ?_⟩
      cases hdir : d.dir with
      | true => exact absurd (hq hdir) hq'
      | false =>
        rw [hf hdir, h5]
        exact ⟨fun p hp => (by cases hp), List.Perm.refl _⟩
theorem Cp.name {T : Tr} {L : List (Nat × Nat)} {C : Nat → Option Nd} {P : Nat → Prop} (h : Cp T L C P) {n c : Nat} {e : Nd} (hn : (n, c) ∈ L) (hc : C c = some e) (hp : P n) (hdir : e.dir = true) (ns : List (ByteArray × Nat)) : Cp T L (updC C c { e with names := ns }) P := by
  refine ⟨h.keys, h.vals, fun x y hx => ?_, fun m x hm => ?_⟩
  · by_cases e1 : x = c
    · exact ⟨n, by rw [e1]; exact hn⟩
    · rw [updC_other C _ e1] at hx
      exact h.dom x y hx
  · obtain ⟨d', e', g1, g2, g3, g4, g5, g6, g7, g8⟩ := h.node m x hm
    by_cases e1 : x = c
    · subst e1
      rw [hc] at g2
      cases g2
      obtain rfl := h.one hm hn
      exact ⟨d', _, g1, updC_same C x _, g3, g4, g5, g6, fun hf => (by rw [← g3, hdir] at hf; cases hf), fun hq => absurd hp hq⟩
    · exact ⟨d', e', g1, by rw [updC_other C _ e1]; exact g2, g3, g4, g5, g6, g7, g8⟩
theorem Cp.close {T : Tr} {L : List (Nat × Nat)} {C : Nat → Option Nd} {P : Nat → Prop} {n c : Nat} {d e : Nd} (h : Cp T L C (fun x => x = n ∨ P x)) (hn : (n, c) ∈ L) (hd : T.nd n = some d) (hc : C c = some e) (hf : Full L d.names e.names) : Cp T L C P := by
  refine ⟨h.keys, h.vals, h.dom, fun m x hm => ?_⟩
  obtain ⟨d', e', g1, g2, g3, g4, g5, g6, g7, g8⟩ := h.node m x hm
  refine ⟨d', e', g1, g2, g3, g4, g5, g6, g7, fun hq => ?_⟩
  by_cases e1 : m = n
  · subst e1
    rw [hd] at g1
    cases g1
    have h1 := lkC_of_mem h.keys hm
    rw [lkC_of_mem h.keys hn] at h1
    obtain rfl := Option.some.inj h1
    rw [hc] at g2
    cases g2
    exact hf
  · exact g8 (fun hp => hp.elim e1 hq)

/-! ### what stands while it is made -/
structure CX (Bt B : Nat) (w : World) (mc cc md : Nat) (T : Tr) : Prop where
  rep : Rep Bt w T
  lowT : ∀ q, T.foot q → q < B
  mcell : w.heap[mc]? = some (.cells #[.map (some md)] 143 (0, 0))
  fn : w.heap[cc]? = some (.cells #[.func (.func 72) #[] #[nP mc, nP cc]] 144 (0, 0))
  base : B ≤ w.heap.size
section
variable {Bt B : Nat} {w w' : World} {mc cc md : Nat} {T : Tr} {L : List (Nat × Nat)} {C : Nat → Option Nd} {P : Nat → Prop}
theorem CX.kept {F : Nat → Prop} (h : CX Bt B w mc cc md T) (k : Kept F w w') (h1 : ∀ q, F q → B ≤ q) (h2 : ¬ F mc) (h3 : ¬ F cc) : CX Bt B w' mc cc md T :=
  ⟨h.rep.kept k (fun q hq hf => by have := h.lowT q hq; have := h1 q hf; omega), h.lowT, (k.block mc (lt_of_heap h.mcell) h2).trans h.mcell, (k.block cc (lt_of_heap h.fn) h3).trans h.fn, Nat.le_trans h.base k.size⟩
theorem CX.below (h : CX Bt B w mc cc md T) (k : Below w.heap.size w w') : CX Bt B w' mc cc md T :=
  h.kept (Kept.of_below k (fun _ => False)) (fun _ h => h.elim) (fun h => h) (fun h => h)
/-- Map blocks of the copy's may turn. -/
theorem CX.map {q : Nat} {es : Array MapEntry} {ck : Nat} (h : CX Bt B w mc cc md T) (hq : w.heap[q]? = some (.map es ck)) (hB : B ≤ q) (k : Kept (fun b => b = q) w w') : CX Bt B w' mc cc md T :=
  h.kept k (fun x e => by rw [e]; exact hB) (fun e => by have hx := h.mcell; rw [e] at hx; exact cells_ne_map hx hq rfl) (fun e => by have hx := h.fn; rw [e] at hx; exact cells_ne_map hx hq rfl)
theorem CX.nodes (h : CX Bt B w mc cc md T) (hC : Cp T L C P) : ∀ p ∈ L, NodeB w p.1 := fun p hp => by
  obtain ⟨d, e, hd, _⟩ := hC.node p.1 p.2 hp
  exact ⟨_, (h.rep.node p.1 d hd).cells⟩
theorem iter_ne {q r : Nat} {c : Array Value} {t : TypeId} {f : Nat × Nat} {m : Option Nat} {s : Nat} {seen : Array Nat} {c0 : Nat} (h1 : w.heap[q]? = some (.cells c t f)) (h2 : w.heap[r]? = some (.mapIter m s seen c0)) : q ≠ r := fun e => by
  rw [e, h2] at h1
  cases h1
theorem iter_ne_map {q r : Nat} {es : Array MapEntry} {k : Nat} {m : Option Nat} {s : Nat} {seen : Array Nat} {c0 : Nat} (h1 : w.heap[q]? = some (.map es k)) (h2 : w.heap[r]? = some (.mapIter m s seen c0)) : q ≠ r := fun e => by
  rw [e, h2] at h1
  cases h1
/-- The iterator may turn. -/
theorem CX.iter {r : Nat} {m : Option Nat} {s : Nat} {seen : Array Nat} {c0 : Nat} (h : CX Bt B w mc cc md T) (hr : w.heap[r]? = some (.mapIter m s seen c0)) (hB : B ≤ r) (k : Kept (fun b => b = r) w w') : CX Bt B w' mc cc md T :=
  h.kept k (fun x e => by rw [e]; exact hB) (fun e => iter_ne h.mcell hr e) (fun e => iter_ne h.fn hr e)
theorem CM.iter {r : Nat} {m : Option Nat} {s : Nat} {seen : Array Nat} {c0 : Nat} (h : CM B w md L C) (hr : w.heap[r]? = some (.mapIter m s seen c0)) (k : Kept (fun b => b = r) w w') : CM B w' md L C := by
  obtain ⟨es, ck, hmd, _⟩ := h.made
  refine h.kept k (fun e => iter_ne_map hmd hr e) (fun c e hc => ⟨fun e1 => iter_ne (h.node c e hc).1.cells hr e1, fun hd e1 => ?_, fun b hb e1 => ?_⟩)
  · obtain ⟨es2, ck2, h2, _⟩ := (h.node c e hc).1.map hd
    exact iter_ne_map h2 hr e1
  · obtain ⟨cur, hcur⟩ := owns_heap (h.node c e hc).1.row hb
    exact iter_ne hcur hr e1
end

/-! ### the inner function -/
def CpPost (B md : Nat) (T : Tr) (L : List (Nat × Nat)) (C : Nat → Option Nd) (P : Nat → Prop) (n : Nat) (w : World) (e : Ending) (w' : World) : Prop :=
  ∃ L2 C' c, e = .returned (nP c) ∧ CM B w' md (L ++ L2) C' ∧ Cp T (L ++ L2) C' P ∧ lkC (L ++ L2) n = some c ∧ (∀ x y, C x = some y → C' x = some y) ∧ Kept (fun b => b = md) w w'
/-- A file's copy is made. -/
theorem cp_file {B md : Nat} {T : Tr} {L : List (Nat × Nat)} {C : Nat → Option Nd} {P : Nat → Prop} {n c : Nat} {d : Nd} {w W2 w3 : World} {bv : Value} (hM : CM B w md L C) (hC : Cp T L C P) (hB : B ≤ w.heap.size) (hd : T.nd n = some d) (hdir : d.dir = false) (hnm : d.names = []) (hL : lkC L n = none)
    (hb : Below w.heap.size w W2) (hc : w.heap.size ≤ c) (hcell : W2.heap[c]? = some (.cells #[.bool false, bv, .map none, .int .i64 d.links, .int .i64 d.tick] 126 (0, 0))) (hrow : W2.ownsRow w.heap.size 5 1 bv d.data.length (u8s d.data)) (hm : MadeAt w3 md (L ++ [(n, c)])) (hk : Kept (fun b => b = md) W2 w3) :
    CpPost B md T L C P n w (.returned (nP c)) w3 := by
  obtain ⟨es, ck, hmd, _⟩ := hM.made
  have hmdl := lt_of_heap hmd
  have hcn : C c = none := by
    cases hx : C c with
    | none => rfl
    | some y => have := (hM.lt hx).1; omega
  have k : Kept (fun b => b = md) w w3 := (Kept.of_below hb _).trans hk (fun _ h => .inl h)
  have hmd2 : W2.heap[md]? = some (.map es ck) := below_heap hb hmdl hmd
  have hrow3 : w3.ownsRow w.heap.size 5 1 bv d.data.length (u8s d.data) := ownsRow_kept hrow hk (fun b hbk e => by
    obtain ⟨cur, hcur⟩ := owns_heap hrow hbk
    exact cells_ne_map hcur hmd2 e)
  refine ⟨[(n, c)], updC C c ⟨false, bv, d.data, [], 0, d.links, d.tick⟩, c, rfl, hM.add hB k hm ⟨?_, World.ownsRow.mono hrow3 hB, fun h => (by cases h), fun _ => rfl⟩ hc (fun b hb => (hrow3.lt b hb).1) (fun h => by cases h), hC.add hL hcn hd hdir.symm rfl rfl rfl rfl (fun _ h => h) (fun h => by rw [hdir] at h; cases h) (fun _ => hnm), lkC_new hL c, fun x y hx => ?_, k⟩
  · exact (hk.block c (lt_of_heap hcell) (fun e => by omega)).trans hcell
  · rw [updC_other C _ (fun e => by rw [e, hcn] at hx; cases hx)]
    exact hx
/-- What stands in the round over a directory's names. -/
structure CpLoop (Bt B md mc cc : Nat) (T : Tr) (L : List (Nat × Nat)) (C : Nat → Option Nd) (P : Nat → Prop) (n c mb r : Nat) (d : Nd) (bv : Value) (w wr : World) (L2 : List (Nat × Nat)) (C' : Nat → Option Nd) (done : List (ByteArray × Nat)) (left : Nat) : Prop where
  cx : CX Bt B wr mc cc md T
  cm : CM B wr md (L ++ [(n, c)] ++ L2) C'
  cp : Cp T (L ++ [(n, c)] ++ L2) C' (fun x => x = n ∨ P x)
  here : C' c = some ⟨true, bv, d.data, cpN (L ++ [(n, c)] ++ L2) done, mb, d.links, d.tick⟩
  old : ∀ x y, C x = some y → C' x = some y
  it : ItAt wr d.mb r d.names done left
  kept : Kept (fun b => b = md) w wr
  new : w.heap.size ≤ c ∧ w.heap.size ≤ mb ∧ w.heap.size ≤ r
  ins : ∀ p ∈ done, ∃ k, lkC (L ++ [(n, c)] ++ L2) p.2 = some k
  cn : C c = none
theorem cp_dir {Bt B md mc cc : Nat} {T : Tr} {L : List (Nat × Nat)} {C : Nat → Option Nd} {P : Nat → Prop} {n c mb r left : Nat} {d : Nd} {w W2 w3 w5 w6 : World} {bv : Value} (hX : CX Bt B w mc cc md T) (hM : CM B w md L C) (hC : Cp T L C P) (hd : T.nd n = some d) (hdir : d.dir = true) (hL : lkC L n = none)
    (hb : Below w.heap.size w W2) (hc : w.heap.size ≤ c) (hcell : W2.heap[c]? = some (.cells #[.bool true, bv, .map none, .int .i64 d.links, .int .i64 d.tick] 126 (0, 0))) (hrow : W2.ownsRow w.heap.size 5 1 bv d.data.length (u8s d.data)) (hm : MadeAt w3 md (L ++ [(n, c)])) (hk : Kept (fun b => b = md) W2 w3)
    (hmb : mb = w3.heap.size) (h5 : w5 = (w3.alloc (.map #[] 0)).setCell ⟨c, 2, none⟩ (.map (some mb))) (hr : r = w5.heap.size) (h6 : Below w5.heap.size w5 w6) (hit : ItAt w6 d.mb r d.names [] left) :
    CpLoop Bt B md mc cc T L C P n c mb r d bv w w6 [] (updC C c ⟨true, bv, d.data, [], mb, d.links, d.tick⟩) [] left := by
  obtain ⟨es, ck, hmd, _⟩ := hM.made
  have hmdl := lt_of_heap hmd
  have hcn : C c = none := by
    cases hx : C c with
    | none => rfl
    | some y => have := (hM.lt hx).1; omega
  have k3 : Kept (fun b => b = md) w w3 := (Kept.of_below hb _).trans hk (fun _ h => .inl h)
  have hmd2 : W2.heap[md]? = some (.map es ck) := below_heap hb hmdl hmd
  have hcell3 : w3.heap[c]? = some (.cells #[.bool true, bv, .map none, .int .i64 d.links, .int .i64 d.tick] 126 (0, 0)) := (hk.block c (lt_of_heap hcell) (fun e => by omega)).trans hcell
  have hc3 := lt_of_heap hcell3
  have k35 : Kept (fun b => b = c) w3 w5 := by rw [h5]; exact (Kept.of_below (below_alloc w3 _) (fun b => b = c)).setCell (p := ⟨c, 2, none⟩) (.inl rfl) _
  have k5 : Kept (fun b => b = md) w w5 := k3.trans k35 (fun b e => .inr (by rw [e]; exact hc))
  have k6 : Kept (fun b => b = md) w w6 := k5.trans (Kept.of_below h6 (fun _ => False)) (fun _ h => h.elim)
  have hcell5 : w5.heap[c]? = some (.cells #[.bool true, bv, .map (some mb), .int .i64 d.links, .int .i64 d.tick] 126 (0, 0)) := by
    rw [h5]
    exact heap_set_same (below_heap (below_alloc w3 _) hc3 hcell3) 2 _
  have hmb5 : w5.heap[mb]? = some (.map #[] 0) := by
    rw [h5]
    refine (heap_set_other _ _ _ (show mb ≠ c by omega)).trans ?_
    rw [hmb]
    exact heap_alloc_new w3 _
  have hrow3 : w3.ownsRow w.heap.size 5 1 bv d.data.length (u8s d.data) := ownsRow_kept hrow hk (fun b hbk e => by
    obtain ⟨cur, hcur⟩ := owns_heap hrow hbk
    exact cells_ne_map hcur hmd2 e)
  have hrow6 : w6.ownsRow w.heap.size 5 1 bv d.data.length (u8s d.data) := ownsRow_kept (ownsRow_kept hrow3 k35 (fun b hbk e => by
    obtain ⟨cur, hcur⟩ := owns_heap hrow3 hbk
    rw [show b = c from e] at hcur
    exact cells_ne_type hcur hcell3 (by decide) rfl)) (Kept.of_below h6 (fun _ => False)) (fun _ _ h => h)
  have hm6 : MadeAt w6 md (L ++ [(n, c)]) := (hm.kept k35 (fun e => by omega)).kept (Kept.of_below h6 (fun _ => False)) (fun h => h)
  have hmbw : w.heap.size ≤ mb := by rw [hmb]; exact k3.size
  have hX6 : CX Bt B w6 mc cc md T := hX.map hmd hM.low k6
  refine ⟨hX6, ?_, ?_, ?_, fun x y hx => ?_, hit, k6, ⟨hc, hmbw, by rw [hr]; exact k5.size⟩, fun p hp => (by cases hp), hcn⟩
  · rw [List.append_nil]
    exact hM.add hX.base k6 hm6 ⟨below_heap h6 (lt_of_heap hcell5) hcell5, World.ownsRow.mono hrow6 hX.base, fun _ => ⟨#[], 0, below_heap h6 (lt_of_heap hmb5) hmb5, rfl, MapKept.stamped_empty 0⟩, fun h => by cases h⟩ hc (fun b hb => (hrow6.lt b hb).1) (fun _ => hmbw)
  · rw [List.append_nil]
    exact hC.add hL hcn hd hdir.symm rfl rfl rfl rfl (fun _ h => .inr h) (fun _ => .inl rfl) (fun h => by rw [hdir] at h; cases h)
  · exact updC_same _ _ _
  · rw [updC_other C _ (fun e => by rw [e, hcn] at hx; cases hx)]
    exact hx
/-- One name more. -/
theorem CpLoop.next {Bt B md mc cc : Nat} {T : Tr} {L : List (Nat × Nat)} {C : Nat → Option Nd} {P : Nat → Prop} {n c mb r : Nat} {d : Nd} {bv : Value} {w w1 w2 w3 : World} {L2 L3 : List (Nat × Nat)} {C' C3 : Nat → Option Nd} {done : List (ByteArray × Nat)} {left k c0 : Nat} {s : ByteArray}
    (hcx : CX Bt B w1 mc cc md T) (hit : ItAt w1 d.mb r d.names (done ++ [(s, k)]) left) (hk1 : Kept (fun b => b = md) w w1) (hnew : w.heap.size ≤ c ∧ w.heap.size ≤ mb ∧ w.heap.size ≤ r)
    (hhere : C' c = some ⟨true, bv, d.data, cpN (L ++ [(n, c)] ++ L2) done, mb, d.links, d.tick⟩) (hold : ∀ x y, C x = some y → C' x = some y) (hins : ∀ p ∈ done, ∃ k, lkC (L ++ [(n, c)] ++ L2) p.2 = some k)
    (hcn : C c = none) (hm0 : MadeAt w1 md (L ++ [(n, c)] ++ L2)) (hlow : B ≤ md) (hdm : d.mb < w.heap.size ∧ d.mb ≠ md) (_hmdw : md < w.heap.size)
    (hm2 : CM B w2 md (L ++ [(n, c)] ++ L2 ++ L3) C3) (hp2 : Cp T (L ++ [(n, c)] ++ L2 ++ L3) C3 (fun x => x = n ∨ P x)) (hl2 : lkC (L ++ [(n, c)] ++ L2 ++ L3) k = some c0) (hext : ∀ x y, C' x = some y → C3 x = some y) (hk2 : Kept (fun b => b = md) w1 w2)
    (hm3 : MapAt w3 mb (cpN (L ++ [(n, c)] ++ L2) done ++ [(s, c0)])) (hk3 : Kept (fun b => b = mb) w2 w3) :
    ∃ C4, CpLoop Bt B md mc cc T L C P n c mb r d bv w w3 (L2 ++ L3) C4 (done ++ [(s, k)]) left := by
  have e1 : L ++ [(n, c)] ++ (L2 ++ L3) = L ++ [(n, c)] ++ L2 ++ L3 := by simp
  have h3 := hext _ _ hhere
  have hmem : (n, c) ∈ L ++ [(n, c)] ++ L2 ++ L3 := by simp
  have hcp : cpN (L ++ [(n, c)] ++ L2) done ++ [(s, c0)] = cpN (L ++ [(n, c)] ++ L2 ++ L3) (done ++ [(s, k)]) := by
    unfold cpN
    rw [List.map_append, List.map_singleton, hl2]
    congr 1
    have := cpN_more hins L3
    unfold cpN at this
    exact this.symm
  obtain ⟨hn3, hc3, hmb3⟩ := hm2.node c _ h3
  obtain ⟨esm, ckm, hmbo, _⟩ := hn3.map rfl
  obtain ⟨es, ck, hmd, _⟩ := hm0
  obtain ⟨es1, ck1, since, seen, cz, i1, i2, i3, i4, i5⟩ := hit
  have hrm : r ≠ md := fun e => by rw [e, hmd] at i4; cases i4
  have hit2 : ItAt w2 d.mb r d.names (done ++ [(s, k)]) left := ItAt.kept ⟨es1, ck1, since, seen, cz, i1, i2, i3, i4, i5⟩ hk2 hdm.2 hrm
  have hcx2 := hcx.map hmd hlow hk2
  have hit3 : ItAt w3 d.mb r d.names (done ++ [(s, k)]) left := hit2.kept hk3 (fun e => by omega) (fun e => by
    obtain ⟨es2, ck2, since2, seen2, cz2, j1, j2, j3, j4, j5⟩ := hit2
    rw [e, hmbo] at j4
    cases j4)
  have hm4 := hm2.name h3 rfl hk3 (ns := cpN (L ++ [(n, c)] ++ L2 ++ L3) (done ++ [(s, k)])) (by rw [← hcp]; exact hm3)
  refine ⟨_, hcx2.map hmbo (hmb3 rfl).1 hk3, by rw [e1]; exact hm4, by rw [e1]; exact hp2.name hmem h3 (.inl rfl) rfl _, by rw [e1]; exact updC_same _ _ _, fun x y hx => ?_, hit3, (hk1.trans hk2 (fun _ h => .inl h)).trans hk3 (fun b e => .inr (by rw [e]; exact hnew.2.1)), hnew, fun p hp => ?_, hcn⟩
  · have hx3 := hext _ _ (hold x y hx)
    by_cases e : x = c
    · exfalso
      rw [e, hcn] at hx
      cases hx
    · rw [updC_other _ _ e]
      exact hx3
  · rw [e1]
    rcases List.mem_append.1 hp with hp | hp
    · obtain ⟨q, hq⟩ := hins p hp
      exact ⟨q, lkC_old hq L3⟩
    · have : p = (s, k) := by simpa using hp
      rw [this]
      exact ⟨c0, hl2⟩
/-- All names have come. -/
theorem CpLoop.done {Bt B md mc cc : Nat} {T : Tr} {L : List (Nat × Nat)} {C : Nat → Option Nd} {P : Nat → Prop} {n c mb r : Nat} {d : Nd} {bv : Value} {w wr : World} {L2 : List (Nat × Nat)} {C' : Nat → Option Nd} {done : List (ByteArray × Nat)} {left : Nat} (h : CpLoop Bt B md mc cc T L C P n c mb r d bv w wr L2 C' done left) (hd : T.nd n = some d) (hL : lkC L n = none) (hp : done.Perm d.names) : CpPost B md T L C P n w (.returned (nP c)) wr := by
  have e1 : L ++ ([(n, c)] ++ L2) = L ++ [(n, c)] ++ L2 := by simp
  have hmem : (n, c) ∈ L ++ [(n, c)] ++ L2 := by simp
  have hf : Full (L ++ [(n, c)] ++ L2) d.names (cpN (L ++ [(n, c)] ++ L2) done) := ⟨fun p hp' => h.ins p (hp.mem_iff.2 hp'), by
    unfold cpN
    exact hp.map _⟩
  exact ⟨[(n, c)] ++ L2, C', c, rfl, by rw [e1]; exact h.cm, by rw [e1]; exact h.cp.close hmem hd h.here hf, by rw [e1]; exact lkC_old (lkC_new hL c) L2, h.old, h.kept⟩
theorem ItAt.left_eq {w : World} {mb r : Nat} {names done : List (ByteArray × Nat)} {left : Nat} (h : ItAt w mb r names done left) : w.rangeLeft mb r = left := by
  obtain ⟨es, clock, since, seen, c0, a1, a2, a3, a4, _, _, _, a5, _⟩ := h
  simp only [World.rangeLeft, a1, a4]
  exact a5
end Go.Proofs.YtjhojohjegkinaaGreatDoor
