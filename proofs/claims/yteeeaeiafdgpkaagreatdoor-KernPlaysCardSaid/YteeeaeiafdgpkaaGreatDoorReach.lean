/-
 What the form's own reach gives: a slice of bytes has less than 2 ^ 47 of them.
-/
import Derived.Test.YteeeaeiafdgpkaaGreatDoorArgC
import Derived.SizedLaws
namespace Go.Proofs.YteeeaeiafdgpkaaGreatDoor
open Go Go.RowKit Go.ChangeShapes Go.WideShapes
theorem bytes_u8 : Tryz.prog.bytesOf 5 = 1 := by kernel_rfl
section
variable {H : Type} {enc : TypeId × Value → H} {W : World} {d : DataW H} {ps : List MemPlace}
set_option maxRecDepth 100000 in
theorem bytes_reach {a0 : Option Addr} {len cap : Nat} (h : DataW.Trod enc Tryz.prog W 0 (fun _ => true) true 28 (.slice a0 len cap) d ps) {ts : List TypeId} {ds : List (DataW H)} (hall : (DataW.weightsEach Tryz.prog ts ds).all (· ≤ reachBytes) = true) (j : Nat) (ht : ts[j]? = some 28) (hd : ds[j]? = some d) : len ≤ 140737488351232 := by
 obtain ⟨fuel, hf⟩ := h
 rcases open_ints Tryz.underlying28 Tryz.underlying5 (by kernel_rfl) hf with ⟨hcs, _⟩ | ⟨a, len', cap', zs, hcs, _, hl, hm, hz, hx, hcell, hw⟩
 ·simp [Value.cells] at hcs
  omega
 ·simp [Value.cells] at hcs
  obtain ⟨rfl, rfl, rfl⟩ := hcs
  simp only [if_true] at hz
  obtain ⟨rfl, _⟩ := (Prod.mk.injEq ..).mp hx
  have h1 := sized_slice hall ht hd Tryz.underlying28
  rw [bytes_u8] at h1
  unfold reachBytes at h1
  simp only [lits, List.length_map, List.length_take, List.length_drop] at h1
  omega
end
section
variable {H : Type} {enc : TypeId × Value → H} {P : Program} {w : World} {base : Nat} {spare : Nat → Bool} {held : Bool}
open Go.Deep
theorem open_slice_fives {t e : TypeId} {f0 f1 f2 f3 f4 : Field} {fuel : Nat} {cs : List Value} {x : DataW H × List MemPlace} (ht : P.underlying t = some (.slice e)) (he : P.underlying e = some (.struct #[f0, f1, f2, f3, f4]))
  (ce : P.cellsOf e = 5) (o0 : f0.offset = 0) (o1 : f1.offset = 1) (o2 : f2.offset = 2) (o3 : f3.offset = 3) (o4 : f4.offset = 4) (c0 : P.cellsOf f0.type = 1) (c1 : P.cellsOf f1.type = 1) (c2 : P.cellsOf f2.type = 1) (c3 : P.cellsOf f3.type = 1) (c4 : P.cellsOf f4.type = 1)
  (h : DataW.trod enc P w base spare held fuel t cs = some x) :
  (cs = [.slice none 0 0] ∧ x = (.nil, [])) ∨
  ∃ (a : Addr) (len cap m n : Nat) (D : Nat → DataW H) (sp : List (DataW H)), cs = [.slice (some a) len cap] ∧ len ≤ cap ∧ cap ≤ maxLen ∧ len ≤ m ∧ x.1 = .slice ((List.range len).map D) sp ∧
   ∀ i, i < m → ∃ (v0 v1 v2 v3 v4 : Value) (y0 y1 y2 y3 y4 : DataW H × List MemPlace), w.cell? (a.add (i * 5)) = some v0 ∧ w.cell? (a.add (i * 5 + 1)) = some v1 ∧ w.cell? (a.add (i * 5 + 2)) = some v2 ∧ w.cell? (a.add (i * 5 + 3)) = some v3 ∧ w.cell? (a.add (i * 5 + 4)) = some v4 ∧
    DataW.trod enc P w base spare held n f0.type [v0] = some y0 ∧ DataW.trod enc P w base spare held n f1.type [v1] = some y1 ∧ DataW.trod enc P w base spare held n f2.type [v2] = some y2 ∧ DataW.trod enc P w base spare held n f3.type [v3] = some y3 ∧ DataW.trod enc P w base spare held n f4.type [v4] = some y4 ∧
    D i = .agg [y0.1, y1.1, y2.1, y3.1, y4.1] := by
 rcases open_slice ht h with h0 | ⟨a, len, cap, m, n, D, Pl, rfl, hb, hl, hm, hmm, rfl, hx⟩
 ·exact Or.inl h0
 right
 have hlm : len ≤ m := by rw [hmm]; split <;> omega
 refine ⟨a, len, cap, m, n - 1, D, _, rfl, hl, hm, hlm, rfl, fun i hi => ?_⟩
 obtain ⟨cs', h1, h2⟩ := hx i hi
 rw [ce] at h1
 obtain ⟨_, hlen, hcell⟩ := World.cells?_some h1
 obtain ⟨xs, k, hk, hxy, _, hxl, hf⟩ := DataW.trod_struct he h2
 have hk' : k = n - 1 := by omega
 subst hk'
 match xs, hxl, cs', hlen with
 | [y0, y1, y2, y3, y4], _, [v0, v1, v2, v3, v4], _ =>
  have g0 := hf 0 f0 rfl
  have g1 := hf 1 f1 rfl
  have g2 := hf 2 f2 rfl
  have g3 := hf 3 f3 rfl
  have g4 := hf 4 f4 rfl
  simp [o0, o1, o2, o3, o4, c0, c1, c2, c3, c4] at g0 g1 g2 g3 g4
  have e0 := hcell 0 (by omega)
  have e1 := hcell 1 (by omega)
  have e2 := hcell 2 (by omega)
  have e3 := hcell 3 (by omega)
  have e4 := hcell 4 (by omega)
  rw [add_add] at e0 e1 e2 e3 e4
  simp only [Prod.mk.injEq] at hxy
  exact ⟨v0, v1, v2, v3, v4, y0, y1, y2, y3, y4, by simpa using e0, by simpa using e1, by simpa using e2, by simpa using e3, by simpa using e4, g0, g1, g2, g3, g4, by simpa using hxy.1⟩
end
section
variable {H : Type} {enc : TypeId × Value → H} {W : World} {base : Nat} {v : Value} {d : DataW H} {ps : List MemPlace}
set_option maxRecDepth 100000 in
theorem arg_calls (hval : Value.okWide Tryz.prog W .any base 37 v) (h : DataW.Trod enc Tryz.prog W 0 (fun _ => true) true 37 v d ps)
  {ts : List TypeId} {ds : List (DataW H)} (hall : (DataW.weightsEach Tryz.prog ts ds).all (· ≤ reachBytes) = true) (j : Nat) (ht : ts[j]? = some 37) (hd : ds[j]? = some d) :
  ∃ (a : Option Addr) (c : Nat) (l : List Cal), v = .slice a l.length c ∧ CSrc W (.slice a l.length c) l ∧ l.length ≤ 9223372036854775807 ∧ ∀ x ∈ l, CalOk x := by
 obtain ⟨a0, len, cap, rfl⟩ := okWide_slice Tryz.underlying37 hval
 obtain ⟨fuel, hf⟩ := h
 rcases open_slice_fives Tryz.underlying37 Tryz.underlying30 (by kernel_rfl) rfl rfl rfl rfl rfl (by kernel_rfl) (by kernel_rfl) (by kernel_rfl) (by kernel_rfl) (by kernel_rfl) hf with ⟨hcs, _⟩ | ⟨a, len', cap', m, n, D, sp, hcs, hl, hm, hlm, hx, hel⟩
 ·simp [Value.cells] at hcs
  obtain ⟨rfl, rfl, rfl⟩ := hcs
  exact ⟨none, 0, [], rfl, .inl ⟨rfl, _, _, rfl⟩, by simp, by simp⟩
 ·simp [Value.cells] at hcs
  obtain ⟨rfl, rfl, rfl⟩ := hcs
  have hx : d = .slice ((List.range len).map D) sp := hx
  by_cases h0 : len = 0
  ·subst h0
   exact ⟨some a, cap, [], rfl, .inl ⟨rfl, _, _, rfl⟩, by simp, by simp⟩
  obtain ⟨b, o, spot⟩ := a
  have hspot : spot = none := by
   obtain ⟨v0, _, _, _, _, _, _, _, _, _, q0, _⟩ := hel 0 (by omega)
   simpa [Addr.add] using World.cell?_spot q0
  subst hspot
  have each : ∀ i, i < len → ∃ x : Cal, (∃ da dc, ClAt W b (o + i * 5) x da dc) ∧ CalOk x := by
   intro i hi
   obtain ⟨v0, v1, v2, v3, v4, y0, y1, y2, y3, y4, q0, q1, q2, q3, q4, r0, r1, r2, r3, r4, hD⟩ := hel i (by omega)
   obtain ⟨n0, e0, _, w0⟩ := DataW.trod_int Tryz.underlying3 r0
   obtain ⟨s1, e1, _, w1⟩ := DataW.trod_int Tryz.underlying3 r1
   obtain ⟨s2, e2, _, w2⟩ := DataW.trod_int Tryz.underlying3 r2
   obtain ⟨s3, e3, _, w3⟩ := DataW.trod_string Tryz.underlying9 r3
   simp only [List.cons.injEq, and_true] at e0 e1 e2 e3
   subst e0 e1 e2 e3
   have hw0 := zdu w0
   have hw1 := zdu w1
   have hw2 := zdu w2
   unfold maxLen at w3
   have cell : ∀ k, (({ block := b, off := o, spot := none } : Addr).add (i * 5 + k)) = ⟨b, o + i * 5 + k, none⟩ := fun k => by simp [Addr.add, Nat.add_assoc]
   rw [show i * 5 = i * 5 + 0 from rfl, cell] at q0
   rw [cell] at q1 q2 q3 q4
   have hmem : ∀ n ∈ y4.1.weights Tryz.prog 28, n ≤ reachBytes := by
    intro k hk
    have h1 : k ∈ (D i).weights Tryz.prog 30 := by
     rw [hD]
     simp only [DataW.weights, Tryz.underlying30]
     exact DataW.weights_mem_each (j := 4) (t := 28) (d := y4.1) rfl rfl k hk
    have h2 : k ∈ d.weights Tryz.prog 37 := by
     rw [hx]
     simp only [DataW.weights, Tryz.underlying37]
     exact List.mem_cons_of_mem _ (List.mem_append_left _ (weights_all (List.mem_map.2 ⟨i, List.mem_range.2 hi, rfl⟩) h1))
    have := List.all_eq_true.1 hall k (DataW.weights_mem_each ht hd k h2)
    simpa using this
   rcases open_ints Tryz.underlying28 Tryz.underlying5 (by kernel_rfl) r4 with ⟨e4, _⟩ | ⟨a3, len3, cap3, zs, e4, _, hl3, hm3, hz3, hx3, hc3, hw3⟩
   ·simp only [List.cons.injEq, and_true] at e4
    subst e4
    exact ⟨⟨n0, s1, s2, s3, []⟩, ⟨none, 0, q0, q1, q2, q3, q4, .inl ⟨rfl, rfl⟩⟩, ⟨hw0, hw1, hw2, by omega, by simp⟩⟩
   ·simp only [List.cons.injEq, and_true] at e4
    subst e4
    simp only [if_true] at hz3
    obtain ⟨l3, g1, g2⟩ := src_of_ints hz3 hl3 (fun i hi => hc3 i (by omega)) hw3
    have hlen : len3 ≤ 140737488355328 := by
     have h1 := hmem ((lits .u8 (zs.take len3)).length + (lits .u8 (zs.drop len3)).length |> (· * Tryz.prog.bytesOf 5)) (by
      rw [hx3]
      simp only [DataW.weights, Tryz.underlying28]
      exact List.mem_cons_self ..)
     rw [show Tryz.prog.bytesOf 5 = 1 by kernel_rfl] at h1
     unfold reachBytes at h1
     simp only [lits, List.length_map, List.length_take, List.length_drop] at h1
     omega
    subst g1
    exact ⟨⟨n0, s1, s2, s3, l3⟩, ⟨some a3, cap3, q0, q1, q2, q3, q4, g2⟩, ⟨hw0, hw1, hw2, by omega, hlen⟩⟩
  obtain ⟨F, hF⟩ := Go.Deep.choose_lt (p := fun i x => (∃ da dc, ClAt W b (o + i * 5) x da dc) ∧ CalOk x) each
  have hll : ((List.range len).map F).length = len := by simp
  refine ⟨some ⟨b, o, none⟩, cap, (List.range len).map F, by rw [hll], .inr ⟨b, o, cap, by rw [hll], fun j hj => ?_⟩, by rw [hll]; unfold maxLen at hm; omega, fun x hx => ?_⟩
  ·have hj' : j < len := by omega
   simp only [List.getElem_map, List.getElem_range]
   exact (hF j hj').1
  ·obtain ⟨i, hi, rfl⟩ := List.mem_map.1 hx
   exact (hF i (List.mem_range.1 hi)).2
end
end Go.Proofs.YteeeaeiafdgpkaaGreatDoor
