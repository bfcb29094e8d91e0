/-
  WHAT A ROW's ARGUMENTS GIVE A WALK: bytes, rows of bytes, bools, ints, a text, a number.
-/
import Derived.Test.YtiejfbkbjahcgaaDoorRowKit
import Derived.Test.YtiejfbkbjahcgaaDoorAwake
import Derived.Deep.Matrix
import Derived.Deep.Grids
namespace Go.Proofs.YtiejfbkbjahcgaaDoor
open Go Go.RowKit Go.ChangeShapes Go.WideShapes

theorem wf_bounds {n : Int} (h : (Lit.int .i64 n).wf = true) : -9223372036854775808 ≤ n ∧ n ≤ 9223372036854775807 := by
  simpa [Lit.wf, IntKind.min, IntKind.max, IntKind.signed, IntKind.bits] using h

theorem byte_wf {z : Int} (h : (Lit.int .u8 z).wf = true) : ((z.toNat.toUInt8.toNat : Nat) : Int) = z := by
  have h' : 0 ≤ z ∧ z ≤ 255 := by simpa [Lit.wf, IntKind.min, IntKind.max, IntKind.signed, IntKind.bits] using h
  have : z.toNat < 256 := by omega
  simp only [Nat.toUInt8, UInt8.toNat_ofNat']
  omega

theorem src_of_ints {w : World} {a : Addr} {len cap : Nat} {zs : List Int} (hz : zs.length = cap) (hl : len ≤ cap) (hc : ∀ i, i < cap → w.cell? (a.add i) = some (.int .u8 (zs.getD i 0))) (hw : ∀ n ∈ zs, (Lit.int .u8 n).wf = true) :
    ∃ l : List UInt8, l.length = len ∧ Src w (.slice (some a) len cap) l := by
  have hlen : ((zs.take len).map fun z => z.toNat.toUInt8).length = len := by simp; omega
  refine ⟨(zs.take len).map fun z => z.toNat.toUInt8, hlen, .inr ⟨a, cap, by rw [hlen], by omega, fun j hj => ?_⟩⟩
  have hj' : j < len := by omega
  rw [hc j (by omega)]
  have hjz : j < zs.length := by omega
  have hb := byte_wf (hw _ (List.getElem_mem hjz))
  simp only [List.getElem_map, List.getElem_take, hb]
  simp [List.getElem?_eq_getElem hjz]

section
variable {H : Type} {enc : TypeId × Value → H} {W : World} {base : Nat} {v : Value} {d : DataW H} {ps : List MemPlace}

set_option maxRecDepth 100000 in
theorem arg_bytes (hval : Value.okWide Tryd.prog W .any base 33 v) (h : DataW.Trod enc Tryd.prog W 0 (fun _ => true) true 33 v d ps) :
    ∃ (a : Option Addr) (c : Nat) (l : List UInt8), v = .slice a l.length c ∧ Src W (.slice a l.length c) l ∧ l.length ≤ 9223372036854775807 := by
  obtain ⟨a0, len, cap, rfl⟩ := okWide_slice Tryd.underlying33 hval
  obtain ⟨fuel, hf⟩ := h
  rcases open_ints Tryd.underlying33 Tryd.underlying5 (by kernel_rfl) hf with ⟨hcs, _⟩ | ⟨a, len', cap', zs, hcs, _, hl, hm, hz, _, hcell, hw⟩
  · simp [Value.cells] at hcs
    obtain ⟨rfl, rfl, rfl⟩ := hcs
    exact ⟨none, 0, [], rfl, .inl ⟨rfl, rfl⟩, by simp⟩
  · simp [Value.cells] at hcs
    obtain ⟨rfl, rfl, rfl⟩ := hcs
    simp only [if_true] at hz
    obtain ⟨l, h1, h2⟩ := src_of_ints hz hl (fun i hi => hcell i (by omega)) hw
    subst h1
    exact ⟨_, cap, l, rfl, h2, by unfold maxLen at hm; omega⟩

set_option maxRecDepth 100000 in
theorem arg_ints (hval : Value.okWide Tryd.prog W .any base 22 v) (h : DataW.Trod enc Tryd.prog W 0 (fun _ => true) true 22 v d ps) :
    ∃ (a : Option Addr) (c : Nat) (l : List Int), v = .slice a l.length c ∧ ISrc W (.slice a l.length c) l ∧ l.length ≤ 9223372036854775807 ∧ ∀ n ∈ l, (Lit.int .i64 n).wf = true := by
  obtain ⟨a0, len, cap, rfl⟩ := okWide_slice Tryd.underlying22 hval
  obtain ⟨fuel, hf⟩ := h
  rcases open_ints Tryd.underlying22 Tryd.underlying3 (by kernel_rfl) hf with ⟨hcs, _⟩ | ⟨a, len', cap', zs, hcs, _, hl, hm, hz, _, hcell, hw⟩
  · simp [Value.cells] at hcs
    obtain ⟨rfl, rfl, rfl⟩ := hcs
    exact ⟨none, 0, [], rfl, .inl ⟨rfl, rfl⟩, by simp, by simp⟩
  · simp [Value.cells] at hcs
    obtain ⟨rfl, rfl, rfl⟩ := hcs
    simp only [if_true] at hz
    have hll : (zs.take len).length = len := by simp; omega
    refine ⟨some a, cap, zs.take len, by rw [hll], .inr ⟨a, cap, by rw [hll], fun j hj => ?_⟩, by rw [hll]; unfold maxLen at hm; omega, fun n hn => hw n (List.mem_of_mem_take hn)⟩
    have h1 := hcell j (by omega)
    rw [h1]
    have hjz : j < zs.length := by omega
    simp [List.getElem?_eq_getElem hjz]

/-- A slice of bools that reads as l. -/
def BSrc (w : World) (s : Value) (l : List Bool) : Prop :=
  (s = .slice none 0 0 ∧ l = []) ∨ ∃ ad c, s = .slice (some ad) l.length c ∧ ∀ j (h : j < l.length), w.cell? (ad.add j) = some (.bool l[j])

set_option maxRecDepth 100000 in
theorem arg_bools (hval : Value.okWide Tryd.prog W .any base 57 v) (h : DataW.Trod enc Tryd.prog W 0 (fun _ => true) true 57 v d ps) :
    ∃ (a : Option Addr) (c : Nat) (l : List Bool), v = .slice a l.length c ∧ BSrc W (.slice a l.length c) l ∧ l.length ≤ 9223372036854775807 := by
  obtain ⟨a0, len, cap, rfl⟩ := okWide_slice Tryd.underlying57 hval
  obtain ⟨fuel, hf⟩ := h
  rcases Go.Deep.open_bools Tryd.underlying57 Tryd.underlying4 (by kernel_rfl) hf with ⟨hcs, _⟩ | ⟨a, len', cap', B, hcs, _, hl, hm, _, hcell⟩
  · simp [Value.cells] at hcs
    obtain ⟨rfl, rfl, rfl⟩ := hcs
    exact ⟨none, 0, [], rfl, .inl ⟨rfl, rfl⟩, by simp⟩
  · simp [Value.cells] at hcs
    obtain ⟨rfl, rfl, rfl⟩ := hcs
    have hll : ((List.range len).map B).length = len := by simp
    refine ⟨some a, cap, (List.range len).map B, by rw [hll], .inr ⟨a, cap, by rw [hll], fun j hj => ?_⟩, by rw [hll]; unfold maxLen at hm; omega⟩
    rw [hcell j (by omega)]
    simp

/-- A slice of slices of bytes that reads as ll. -/
def BBSrc (w : World) (s : Value) (ll : List (List UInt8)) : Prop :=
  (s = .slice none 0 0 ∧ ll = []) ∨ ∃ ad c, s = .slice (some ad) ll.length c ∧ ∀ j (h : j < ll.length), ∃ a c', w.cell? (ad.add j) = some (.slice a ll[j].length c') ∧ Src w (.slice a ll[j].length c') ll[j] ∧ ll[j].length ≤ 9223372036854775807

/-- One slice of bytes at a place. -/
def w_row (w : World) (p : Addr) (l : List UInt8) : Prop := ∃ a c', w.cell? p = some (.slice a l.length c') ∧ Src w (.slice a l.length c') l ∧ l.length ≤ 9223372036854775807

set_option maxRecDepth 100000 in
theorem arg_rows (hval : Value.okWide Tryd.prog W .any base 50 v) (h : DataW.Trod enc Tryd.prog W 0 (fun _ => true) true 50 v d ps) :
    ∃ (a : Option Addr) (c : Nat) (l : List (List UInt8)), v = .slice a l.length c ∧ BBSrc W (.slice a l.length c) l ∧ l.length ≤ 9223372036854775807 := by
  obtain ⟨a0, len, cap, rfl⟩ := okWide_slice Tryd.underlying50 hval
  obtain ⟨fuel, hf⟩ := h
  rcases Go.Deep.open_int_rows Tryd.underlying50 Tryd.underlying33 Tryd.underlying5 (by kernel_rfl) (by kernel_rfl) hf with ⟨hcs, _⟩ | ⟨a, len', cap', A, L, C, Z, hcs, _, hl, hm, _, hrow⟩
  · simp [Value.cells] at hcs
    obtain ⟨rfl, rfl, rfl⟩ := hcs
    exact ⟨none, 0, [], rfl, .inl ⟨rfl, rfl⟩, by simp⟩
  · simp [Value.cells] at hcs
    obtain ⟨rfl, rfl, rfl⟩ := hcs
    have each : ∀ r, r < len → ∃ l : List UInt8, w_row W (a.add r) l := by
      intro r hr
      obtain ⟨h1, h2, h3, h4, h5, h6, h7⟩ := hrow r (by omega)
      cases hA : A r with
      | none =>
        have hC := h6 hA
        refine ⟨[], none, 0, ?_, .inl ⟨rfl, rfl⟩, by simp⟩
        rw [h1, hA, hC, show L r = 0 by omega]
        rfl
      | some ad =>
        obtain ⟨_, h8⟩ := h7 ad hA
        obtain ⟨l, hl1, hl2⟩ := src_of_ints h4 h2 h8 h5
        refine ⟨l, some ad, C r, ?_, ?_, by unfold maxLen at h3; omega⟩
        · rw [h1, hA, hl1]
        · rw [hl1]; exact hl2
    obtain ⟨F, hF⟩ := Go.Deep.choose_lt each
    have hll : ((List.range len).map F).length = len := by simp
    refine ⟨some a, cap, (List.range len).map F, by rw [hll], .inr ⟨a, cap, by rw [hll], fun j hj => ?_⟩, by rw [hll]; unfold maxLen at hm; omega⟩
    obtain ⟨b, c', q1, q2, q3⟩ := hF j (by omega)
    refine ⟨b, c', ?_, ?_, ?_⟩ <;> simp only [List.getElem_map, List.getElem_range]
    · exact q1
    · exact q2
    · exact q3
end
end Go.Proofs.YtiejfbkbjahcgaaDoor
