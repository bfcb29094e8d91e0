/-
 WHAT A ROW's ARGUMENTS GIVE A WALK: bytes, ints (at a seat without rows and bools).
-/
import Derived.Test.YteeeaeiafdgpkaaGreatDoorRowA
import Derived.Test.YteeeaeiafdgpkaaGreatDoorAwA
import Derived.Deep.Matrix
import Derived.Deep.Grids
namespace Go.Proofs.YteeeaeiafdgpkaaGreatDoor
open Go Go.RowKit Go.ChangeShapes Go.WideShapes
theorem zdu {n : Int} (h : (Lit.int .i64 n).wf = true) : -9223372036854775808 ≤ n ∧ n ≤ 9223372036854775807 := by
 simpa [Lit.wf, IntKind.min, IntKind.max, IntKind.signed, IntKind.bits] using h
theorem byte_wf {z : Int} (h : (Lit.int .u8 z).wf = true) : ((z.toNat.toUInt8.toNat : Nat) : Int) = z := by
 have h' : 0 ≤ z ∧ z ≤ 255 := by simpa [Lit.wf, IntKind.min, IntKind.max, IntKind.signed, IntKind.bits] using h
 have : z.toNat < 256 := by omega
 simp only [Nat.toUInt8, UInt8.toNat_ofNat']
 omega
theorem src_of_ints {w : World} {a : Addr} {len cap : Nat} {zs : List Int} (hz : zs.length = cap) (hl : len ≤ cap) (hc : ∀ i, i < cap → w.cell? (a.add i) = some (.int .u8 (zs.getD i 0))) (hw : ∀ n ∈ zs, (Lit.int .u8 n).wf = true) :
  ∃ l : List UInt8, l.length = len ∧ Src w (.slice (some a) len cap) l := by
 have hlen : ((zs.take len).map fun z => z.toNat.toUInt8).length = len := by simp; omega
 refine ⟨(zs.take len).map fun z => z.toNat.toUInt8, hlen, .inr ⟨a, cap, by rw [hlen], by omega, fun j hj => ?_⟩⟩
 have hj' : j < len := by omega
 rw [hc j (by omega)]
 have hjz : j < zs.length := by omega
 have hb := byte_wf (hw _ (List.getElem_mem hjz))
 simp only [List.getElem_map, List.getElem_take, hb]
 simp [List.getElem?_eq_getElem hjz]
section
variable {H : Type} {enc : TypeId × Value → H} {W : World} {base : Nat} {v : Value} {d : DataW H} {ps : List MemPlace}
set_option maxRecDepth 100000 in
theorem arg_bytes (hval : Value.okWide Tryz.prog W .any base 28 v) (h : DataW.Trod enc Tryz.prog W 0 (fun _ => true) true 28 v d ps) :
  ∃ (a : Option Addr) (c : Nat) (l : List UInt8), v = .slice a l.length c ∧ Src W (.slice a l.length c) l ∧ l.length ≤ 9223372036854775807 := by
 obtain ⟨a0, len, cap, rfl⟩ := okWide_slice Tryz.underlying28 hval
 obtain ⟨fuel, hf⟩ := h
 rcases open_ints Tryz.underlying28 Tryz.underlying5 (by kernel_rfl) hf with ⟨hcs, _⟩ | ⟨a, len', cap', zs, hcs, _, hl, hm, hz, _, hcell, hw⟩
 ·simp [Value.cells] at hcs
  obtain ⟨rfl, rfl, rfl⟩ := hcs
  exact ⟨none, 0, [], rfl, .inl ⟨rfl, rfl⟩, by simp⟩
 ·simp [Value.cells] at hcs
  obtain ⟨rfl, rfl, rfl⟩ := hcs
  simp only [if_true] at hz
  obtain ⟨l, h1, h2⟩ := src_of_ints hz hl (fun i hi => hcell i (by omega)) hw
  subst h1
  exact ⟨_, cap, l, rfl, h2, by unfold maxLen at hm; omega⟩
end
end Go.Proofs.YteeeaeiafdgpkaaGreatDoor
