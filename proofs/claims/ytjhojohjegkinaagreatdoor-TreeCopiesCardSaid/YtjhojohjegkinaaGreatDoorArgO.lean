/-
  WHAT A ROW's ARGUMENT GIVES A WALK: a slice of calls.
-/
import Derived.Test.YtjhojohjegkinaaGreatDoorArgsZ
import Derived.Test.YtjhojohjegkinaaGreatDoorRefC
import Derived.SizedLaws
namespace Go.Proofs.YtjhojohjegkinaaGreatDoor
open Go Go.RowKit Go.ChangeShapes Go.WideShapes

/-- A call as an argument holds it. -/
structure OpA where
  act : Int
  path : ByteArray
  other : ByteArray
  data : List UInt8
instance : Inhabited OpA := ⟨⟨0, ByteArray.empty, ByteArray.empty, []⟩⟩
def OpAt (w : World) (b o : Nat) (x : OpA) : Prop :=
  ∃ da dc, w.cell? ⟨b, o, none⟩ = some (.int .i64 x.act) ∧ w.cell? ⟨b, o + 1, none⟩ = some (.string x.path) ∧ w.cell? ⟨b, o + 2, none⟩ = some (.string x.other) ∧ w.cell? ⟨b, o + 3, none⟩ = some (.slice da x.data.length dc) ∧ Src w (.slice da x.data.length dc) x.data
structure OpOk (x : OpA) : Prop where
  act : -9223372036854775808 ≤ x.act ∧ x.act ≤ 9223372036854775807
  path : x.path.size ≤ 9223372036854775807
  other : x.other.size ≤ 9223372036854775807
  data : x.data.length ≤ 140737488355328
/-- A slice of calls that reads as l. -/
def OSrc (w : World) (v : Value) (l : List OpA) : Prop :=
  (l = [] ∧ ∃ a c, v = .slice a 0 c) ∨ ∃ b o c, v = .slice (some ⟨b, o, none⟩) l.length c ∧ ∀ j (h : j < l.length), OpAt w b (o + j * 4) l[j]
theorem below_cell {w w' : World} (h : Below w.heap.size w w') {p : Addr} {v : Value} (hc : w.cell? p = some v) : w'.cell? p = some v := by
  have hlt : p.block < w.heap.size := by
    unfold World.cell? at hc
    cases hb : w.heap[p.block]? with
    | none => rw [hb] at hc; simp at hc
    | some o => exact (Array.getElem?_eq_some_iff.1 hb).1
  have e : w'.heap[p.block]? = w.heap[p.block]? := h.block _ hlt
  unfold World.cell? at hc ⊢
  rw [e]
  exact hc

section
variable {H : Type} {enc : TypeId × Value → H} {P : Program} {w : World} {base : Nat} {spare : Nat → Bool} {held : Bool}
open Go.Deep
theorem open_slice_quads {t e : TypeId} {f0 f1 f2 f3 : Field} {fuel : Nat} {cs : List Value} {x : DataW H × List MemPlace} (ht : P.underlying t = some (.slice e)) (he : P.underlying e = some (.struct #[f0, f1, f2, f3]))
    (ce : P.cellsOf e = 4) (o0 : f0.offset = 0) (o1 : f1.offset = 1) (o2 : f2.offset = 2) (o3 : f3.offset = 3) (c0 : P.cellsOf f0.type = 1) (c1 : P.cellsOf f1.type = 1) (c2 : P.cellsOf f2.type = 1) (c3 : P.cellsOf f3.type = 1)
    (h : DataW.trod enc P w base spare held fuel t cs = some x) :
    (cs = [.slice none 0 0] ∧ x = (.nil, [])) ∨
    ∃ (a : Addr) (len cap m n : Nat) (D : Nat → DataW H) (sp : List (DataW H)), cs = [.slice (some a) len cap] ∧ len ≤ cap ∧ cap ≤ maxLen ∧ len ≤ m ∧ x.1 = .slice ((List.range len).map D) sp ∧
      ∀ i, i < m → ∃ (v0 v1 v2 v3 : Value) (y0 y1 y2 y3 : DataW H × List MemPlace), w.cell? (a.add (i * 4)) = some v0 ∧ w.cell? (a.add (i * 4 + 1)) = some v1 ∧ w.cell? (a.add (i * 4 + 2)) = some v2 ∧ w.cell? (a.add (i * 4 + 3)) = some v3 ∧
        DataW.trod enc P w base spare held n f0.type [v0] = some y0 ∧ DataW.trod enc P w base spare held n f1.type [v1] = some y1 ∧ DataW.trod enc P w base spare held n f2.type [v2] = some y2 ∧ DataW.trod enc P w base spare held n f3.type [v3] = some y3 ∧
        D i = .agg [y0.1, y1.1, y2.1, y3.1] := by
  rcases open_slice ht h with h0 | ⟨a, len, cap, m, n, D, Pl, rfl, hb, hl, hm, hmm, rfl, hx⟩
  · exact Or.inl h0
  right
  have hlm : len ≤ m := by rw [hmm]; split <;> omega
  refine ⟨a, len, cap, m, n - 1, D, _, rfl, hl, hm, hlm, rfl, fun i hi => ?_⟩
  obtain ⟨cs', h1, h2⟩ := hx i hi
  rw [ce] at h1
  obtain ⟨_, hlen, hcell⟩ := World.cells?_some h1
  obtain ⟨xs, k, hk, hxy, _, hxl, hf⟩ := DataW.trod_struct he h2
  have hk' : k = n - 1 := by omega
  subst hk'
  match xs, hxl, cs', hlen with
  | [y0, y1, y2, y3], _, [v0, v1, v2, v3], _ =>
    have g0 := hf 0 f0 rfl
    have g1 := hf 1 f1 rfl
    have g2 := hf 2 f2 rfl
    have g3 := hf 3 f3 rfl
    simp [o0, o1, o2, o3, c0, c1, c2, c3] at g0 g1 g2 g3
    have e0 := hcell 0 (by omega)
    have e1 := hcell 1 (by omega)
    have e2 := hcell 2 (by omega)
    have e3 := hcell 3 (by omega)
    rw [add_add] at e0 e1 e2 e3
    simp only [Prod.mk.injEq] at hxy
    exact ⟨v0, v1, v2, v3, y0, y1, y2, y3, by simpa using e0, by simpa using e1, by simpa using e2, by simpa using e3, g0, g1, g2, g3, by simpa using hxy.1⟩
theorem weights_all {e : TypeId} : ∀ {l : List (DataW H)} {d : DataW H} {n : Nat}, d ∈ l → n ∈ d.weights P e → n ∈ DataW.weightsAll P e l
  | [], _, _, h, _ => by cases h
  | x :: l, d, n, h, hn => by
    simp only [DataW.weightsAll, List.mem_append]
    rcases List.mem_cons.1 h with rfl | h
    · exact .inl hn
    · exact .inr (weights_all h hn)
end

section
variable {H : Type} {enc : TypeId × Value → H} {W : World} {base : Nat} {v : Value} {d : DataW H} {ps : List MemPlace}

set_option maxRecDepth 100000 in
theorem arg_ops (hval : Value.okWide Tryz.prog W .any base 22 v) (h : DataW.Trod enc Tryz.prog W 0 (fun _ => true) true 22 v d ps)
    {ts : List TypeId} {ds : List (DataW H)} (hall : (DataW.weightsEach Tryz.prog ts ds).all (· ≤ reachBytes) = true) (j : Nat) (ht : ts[j]? = some 22) (hd : ds[j]? = some d) :
    ∃ (a : Option Addr) (c : Nat) (l : List OpA), v = .slice a l.length c ∧ OSrc W (.slice a l.length c) l ∧ l.length ≤ 9223372036854775807 ∧ ∀ x ∈ l, OpOk x := by
  obtain ⟨a0, len, cap, rfl⟩ := okWide_slice Tryz.underlying22 hval
  obtain ⟨fuel, hf⟩ := h
  rcases open_slice_quads Tryz.underlying22 Tryz.underlying53 (by kernel_rfl) rfl rfl rfl rfl (by kernel_rfl) (by kernel_rfl) (by kernel_rfl) (by kernel_rfl) hf with ⟨hcs, _⟩ | ⟨a, len', cap', m, n, D, sp, hcs, hl, hm, hlm, hx, hel⟩
  · simp [Value.cells] at hcs
    obtain ⟨rfl, rfl, rfl⟩ := hcs
    exact ⟨none, 0, [], rfl, .inl ⟨rfl, _, _, rfl⟩, by simp, by simp⟩
  · simp [Value.cells] at hcs
    obtain ⟨rfl, rfl, rfl⟩ := hcs
    have hx : d = .slice ((List.range len).map D) sp := hx
    by_cases h0 : len = 0
    · subst h0
      exact ⟨some a, cap, [], rfl, .inl ⟨rfl, _, _, rfl⟩, by simp, by simp⟩
    obtain ⟨b, o, spot⟩ := a
    have hspot : spot = none := by
      obtain ⟨v0, _, _, _, _, _, _, _, q0, _⟩ := hel 0 (by omega)
      simpa [Addr.add] using World.cell?_spot q0
    subst hspot
    have each : ∀ i, i < len → ∃ x : OpA, OpAt W b (o + i * 4) x ∧ OpOk x := by
      intro i hi
      obtain ⟨v0, v1, v2, v3, y0, y1, y2, y3, q0, q1, q2, q3, r0, r1, r2, r3, hD⟩ := hel i (by omega)
      obtain ⟨n0, e0, _, w0⟩ := DataW.trod_int Tryz.underlying3 r0
      obtain ⟨s1, e1, _, w1⟩ := DataW.trod_string Tryz.underlying9 r1
      obtain ⟨s2, e2, _, w2⟩ := DataW.trod_string Tryz.underlying9 r2
      simp only [List.cons.injEq, and_true] at e0 e1 e2
      subst e0 e1 e2
      have hw := wf_bounds w0
      unfold maxLen at w1 w2
      have cell : ∀ k, (({ block := b, off := o, spot := none } : Addr).add (i * 4 + k)) = ⟨b, o + i * 4 + k, none⟩ := fun k => by simp [Addr.add, Nat.add_assoc]
      rw [show i * 4 = i * 4 + 0 from rfl, cell] at q0
      rw [cell] at q1 q2 q3
      have hmem : ∀ n ∈ y3.1.weights Tryz.prog 44, n ≤ reachBytes := by
        intro k hk
        have h1 : k ∈ (D i).weights Tryz.prog 53 := by
          rw [hD]
          simp only [DataW.weights, Tryz.underlying53]
          exact DataW.weights_mem_each (j := 3) (t := 44) (d := y3.1) rfl rfl k hk
        have h2 : k ∈ d.weights Tryz.prog 22 := by
          rw [hx]
          simp only [DataW.weights, Tryz.underlying22]
          exact List.mem_cons_of_mem _ (List.mem_append_left _ (weights_all (List.mem_map.2 ⟨i, List.mem_range.2 hi, rfl⟩) h1))
        have := List.all_eq_true.1 hall k (DataW.weights_mem_each ht hd k h2)
        simpa using this
      rcases open_ints Tryz.underlying44 Tryz.underlying5 (by kernel_rfl) r3 with ⟨e3, _⟩ | ⟨a3, len3, cap3, zs, e3, _, hl3, hm3, hz3, hx3, hc3, hw3⟩
      · simp only [List.cons.injEq, and_true] at e3
        subst e3
        exact ⟨⟨n0, s1, s2, []⟩, ⟨none, 0, q0, q1, q2, q3, .inl ⟨rfl, rfl⟩⟩, ⟨hw, by omega, by omega, by simp⟩⟩
      · simp only [List.cons.injEq, and_true] at e3
        subst e3
        simp only [if_true] at hz3
        obtain ⟨l3, g1, g2⟩ := src_of_ints hz3 hl3 (fun i hi => hc3 i (by omega)) hw3
        have hlen : len3 ≤ 140737488355328 := by
          have h1 := hmem ((lits .u8 (zs.take len3)).length + (lits .u8 (zs.drop len3)).length |> (· * Tryz.prog.bytesOf 5)) (by
            rw [hx3]
            simp only [DataW.weights, Tryz.underlying44]
            exact List.mem_cons_self ..)
          rw [show Tryz.prog.bytesOf 5 = 1 by kernel_rfl] at h1
          unfold reachBytes at h1
          simp only [lits, List.length_map, List.length_take, List.length_drop] at h1
          omega
        subst g1
        exact ⟨⟨n0, s1, s2, l3⟩, ⟨some a3, cap3, q0, q1, q2, q3, g2⟩, ⟨hw, by omega, by omega, hlen⟩⟩
    obtain ⟨F, hF⟩ := Go.Deep.choose_lt (p := fun i x => OpAt W b (o + i * 4) x ∧ OpOk x) each
    have hll : ((List.range len).map F).length = len := by simp
    refine ⟨some ⟨b, o, none⟩, cap, (List.range len).map F, by rw [hll], .inr ⟨b, o, cap, by rw [hll], fun j hj => ?_⟩, by rw [hll]; unfold maxLen at hm; omega, fun x hx => ?_⟩
    · have hj' : j < len := by omega
      simp only [List.getElem_map, List.getElem_range]
      exact (hF j hj').1
    · obtain ⟨i, hi, rfl⟩ := List.mem_map.1 hx
      exact (hF i (List.mem_range.1 hi)).2
end
end Go.Proofs.YtjhojohjegkinaaGreatDoor
