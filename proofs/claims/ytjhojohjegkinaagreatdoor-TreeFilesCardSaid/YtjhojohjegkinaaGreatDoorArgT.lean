/-
  WHAT A ROW's ARGUMENT GIVES A WALK: a slice of calls of an open file.
-/
import Derived.Test.YtjhojohjegkinaaGreatDoorArgO
import Derived.ChangeArms
namespace Go.Proofs.YtjhojohjegkinaaGreatDoor
open Go Go.RowKit Go.ChangeShapes Go.WideShapes

/-- A call of an open file as an argument holds it. -/
structure AtA where
  write : Bool
  pos : Int
  n : Int
  data : List UInt8
instance : Inhabited AtA := ⟨⟨false, 0, 0, []⟩⟩
/-- A step's four cells. -/
def StAt (w : World) (b o : Nat) (x : AtA) (da : Option Addr) (dc : Nat) : Prop :=
  w.cell? ⟨b, o, none⟩ = some (.bool x.write) ∧ w.cell? ⟨b, o + 1, none⟩ = some (.int .i64 x.pos) ∧ w.cell? ⟨b, o + 2, none⟩ = some (.int .i64 x.n) ∧ w.cell? ⟨b, o + 3, none⟩ = some (.slice da x.data.length dc) ∧ Src w (.slice da x.data.length dc) x.data
structure AtOk (x : AtA) : Prop where
  pos : -9223372036854775808 ≤ x.pos ∧ x.pos ≤ 9223372036854775807
  n : -9223372036854775808 ≤ x.n ∧ x.n ≤ 9223372036854775807
  data : x.data.length ≤ 140737488355328
/-- A slice of them that reads as l. -/
def ASrc (w : World) (v : Value) (l : List AtA) : Prop :=
  (l = [] ∧ ∃ a c, v = .slice a 0 c) ∨ ∃ b o c, v = .slice (some ⟨b, o, none⟩) l.length c ∧ ∀ j (h : j < l.length), ∃ da dc, StAt w b (o + j * 4) l[j] da dc
theorem StAt.below {w w' : World} {b o : Nat} {x : AtA} {da : Option Addr} {dc : Nat} (h : StAt w b o x da dc) (k : Below w.heap.size w w') : StAt w' b o x da dc := by
  obtain ⟨h0, h1, h2, h3, h4⟩ := h
  exact ⟨below_cell k h0, below_cell k h1, below_cell k h2, below_cell k h3, h4.kept (Kept.of_below k (fun _ => False)) (fun _ _ h => h)⟩
theorem ASrc.below {w w' : World} {v : Value} {l : List AtA} (h : ASrc w v l) (k : Below w.heap.size w w') : ASrc w' v l := by
  rcases h with h | ⟨b, o, c, h1, h2⟩
  · exact .inl h
  · exact .inr ⟨b, o, c, h1, fun j hj => by
      obtain ⟨da, dc, h3⟩ := h2 j hj
      exact ⟨da, dc, h3.below k⟩⟩

section
open Go.Deep
variable {H : Type} {enc : TypeId × Value → H} {P : Program} {w : World} {base : Nat} {spare : Nat → Bool} {held : Bool}
theorem trodAll_six {t t' t'' t3 t4 t5 : TypeId} {args : Array Value} {ds : List (DataW H)} {ps : List MemPlace} (h : DataW.TrodAll enc P w base spare held [t, t', t'', t3, t4, t5] args.toList ds ps) :
    ∃ v v' v'' v3 v4 v5 d d' d'' d3 d4 d5 p p' p'' p3 p4 p5, args = #[v, v', v'', v3, v4, v5] ∧ ds = [d, d', d'', d3, d4, d5] ∧ ps = p ++ p' ++ p'' ++ p3 ++ p4 ++ p5 ∧
      DataW.Trod enc P w base spare held t v d p ∧ DataW.Trod enc P w base spare held t' v' d' p' ∧ DataW.Trod enc P w base spare held t'' v'' d'' p'' ∧ DataW.Trod enc P w base spare held t3 v3 d3 p3 ∧ DataW.Trod enc P w base spare held t4 v4 d4 p4 ∧ DataW.Trod enc P w base spare held t5 v5 d5 p5 := by
  obtain ⟨v, vs, d, ds', p, q, hargs, rfl, rfl, hd, hrest⟩ := trodAll_cons h
  obtain ⟨v', vs', d', ds'', p', q', rfl, rfl, rfl, hd', hrest'⟩ := trodAll_cons hrest
  obtain ⟨v'', vs'', d'', dsx, p'', q'', rfl, rfl, rfl, hd'', hrest''⟩ := trodAll_cons hrest'
  obtain ⟨v3, vs3, d3, ds3, p3, q3, rfl, rfl, rfl, hd3, hrest3⟩ := trodAll_cons hrest''
  obtain ⟨v4, vs4, d4, ds4, p4, q4, rfl, rfl, rfl, hd4, hrest4⟩ := trodAll_cons hrest3
  obtain ⟨v5, vs5, d5, ds5, p5, q5, rfl, rfl, rfl, hd5, hrest5⟩ := trodAll_cons hrest4
  obtain ⟨rfl, rfl, rfl⟩ := trodAll_nil hrest5
  exact ⟨v, v', v'', v3, v4, v5, d, d', d'', d3, d4, d5, p, p', p'', p3, p4, p5, by cases args; simp_all, rfl, by simp, hd, hd', hd'', hd3, hd4, hd5⟩
theorem trodAll_mk6 {t t' t'' t3 t4 t5 : TypeId} {v v' v'' v3 v4 v5 : Value} {d d' d'' d3 d4 d5 : DataW H} {p p' p'' p3 p4 p5 : List MemPlace} (h : DataW.Trod enc P w base spare held t v d p) (h' : DataW.Trod enc P w base spare held t' v' d' p')
    (h'' : DataW.Trod enc P w base spare held t'' v'' d'' p'') (h3 : DataW.Trod enc P w base spare held t3 v3 d3 p3) (h4 : DataW.Trod enc P w base spare held t4 v4 d4 p4) (h5 : DataW.Trod enc P w base spare held t5 v5 d5 p5) :
    DataW.TrodAll enc P w base spare held [t, t', t'', t3, t4, t5] [v, v', v'', v3, v4, v5] [d, d', d'', d3, d4, d5] (p ++ (p' ++ (p'' ++ (p3 ++ (p4 ++ p5))))) := ⟨p, _, h, ⟨p', _, h', trodAll_mk4 h'' h3 h4 h5, rfl⟩, rfl⟩
end

section
variable {H : Type} {enc : TypeId × Value → H} {W : World} {base : Nat} {v : Value} {d : DataW H} {ps : List MemPlace}

set_option maxRecDepth 100000 in
theorem arg_ats (hval : Value.okWide Tryz.prog W .any base 77 v) (h : DataW.Trod enc Tryz.prog W 0 (fun _ => true) true 77 v d ps)
    {ts : List TypeId} {ds : List (DataW H)} (hall : (DataW.weightsEach Tryz.prog ts ds).all (· ≤ reachBytes) = true) (j : Nat) (ht : ts[j]? = some 77) (hd : ds[j]? = some d) :
    ∃ (a : Option Addr) (c : Nat) (l : List AtA), v = .slice a l.length c ∧ ASrc W (.slice a l.length c) l ∧ l.length ≤ 9223372036854775807 ∧ ∀ x ∈ l, AtOk x := by
  obtain ⟨a0, len, cap, rfl⟩ := okWide_slice Tryz.underlying77 hval
  obtain ⟨fuel, hf⟩ := h
  rcases open_slice_quads Tryz.underlying77 Tryz.underlying88 (by kernel_rfl) rfl rfl rfl rfl (by kernel_rfl) (by kernel_rfl) (by kernel_rfl) (by kernel_rfl) hf with ⟨hcs, _⟩ | ⟨a, len', cap', m, n, D, sp, hcs, hl, hm, hlm, hx, hel⟩
  · simp [Value.cells] at hcs
    obtain ⟨rfl, rfl, rfl⟩ := hcs
    exact ⟨none, 0, [], rfl, .inl ⟨rfl, _, _, rfl⟩, by simp, by simp⟩
  · simp [Value.cells] at hcs
    obtain ⟨rfl, rfl, rfl⟩ := hcs
    have hx : d = .slice ((List.range len).map D) sp := hx
    by_cases h0 : len = 0
    · subst h0
      exact ⟨some a, cap, [], rfl, .inl ⟨rfl, _, _, rfl⟩, by simp, by simp⟩
    obtain ⟨b, o, spot⟩ := a
    have hspot : spot = none := by
      obtain ⟨v0, _, _, _, _, _, _, _, q0, _⟩ := hel 0 (by omega)
      simpa [Addr.add] using World.cell?_spot q0
    subst hspot
    have each : ∀ i, i < len → ∃ x : AtA, (∃ da dc, StAt W b (o + i * 4) x da dc) ∧ AtOk x := by
      intro i hi
      obtain ⟨v0, v1, v2, v3, y0, y1, y2, y3, q0, q1, q2, q3, r0, r1, r2, r3, hD⟩ := hel i (by omega)
      obtain ⟨n0, e0, _⟩ := DataW.trod_bool Tryz.underlying4 r0
      obtain ⟨s1, e1, _, w1⟩ := DataW.trod_int Tryz.underlying3 r1
      obtain ⟨s2, e2, _, w2⟩ := DataW.trod_int Tryz.underlying3 r2
      simp only [List.cons.injEq, and_true] at e0 e1 e2
      subst e0 e1 e2
      have hw1 := wf_bounds w1
      have hw2 := wf_bounds w2
      have cell : ∀ k, (({ block := b, off := o, spot := none } : Addr).add (i * 4 + k)) = ⟨b, o + i * 4 + k, none⟩ := fun k => by simp [Addr.add, Nat.add_assoc]
      rw [show i * 4 = i * 4 + 0 from rfl, cell] at q0
      rw [cell] at q1 q2 q3
      have hmem : ∀ n ∈ y3.1.weights Tryz.prog 44, n ≤ reachBytes := by
        intro k hk
        have h1 : k ∈ (D i).weights Tryz.prog 88 := by
          rw [hD]
          simp only [DataW.weights, Tryz.underlying88]
          exact DataW.weights_mem_each (j := 3) (t := 44) (d := y3.1) rfl rfl k hk
        have h2 : k ∈ d.weights Tryz.prog 77 := by
          rw [hx]
          simp only [DataW.weights, Tryz.underlying77]
          exact List.mem_cons_of_mem _ (List.mem_append_left _ (weights_all (List.mem_map.2 ⟨i, List.mem_range.2 hi, rfl⟩) h1))
        have := List.all_eq_true.1 hall k (DataW.weights_mem_each ht hd k h2)
        simpa using this
      rcases open_ints Tryz.underlying44 Tryz.underlying5 (by kernel_rfl) r3 with ⟨e3, _⟩ | ⟨a3, len3, cap3, zs, e3, _, hl3, hm3, hz3, hx3, hc3, hw3⟩
      · simp only [List.cons.injEq, and_true] at e3
        subst e3
        exact ⟨⟨n0, s1, s2, []⟩, ⟨none, 0, q0, q1, q2, q3, .inl ⟨rfl, rfl⟩⟩, ⟨hw1, hw2, by simp⟩⟩
      · simp only [List.cons.injEq, and_true] at e3
        subst e3
        simp only [if_true] at hz3
        obtain ⟨l3, g1, g2⟩ := src_of_ints hz3 hl3 (fun i hi => hc3 i (by omega)) hw3
        have hlen : len3 ≤ 140737488355328 := by
          have h1 := hmem ((lits .u8 (zs.take len3)).length + (lits .u8 (zs.drop len3)).length |> (· * Tryz.prog.bytesOf 5)) (by
            rw [hx3]
            simp only [DataW.weights, Tryz.underlying44]
            exact List.mem_cons_self ..)
          rw [show Tryz.prog.bytesOf 5 = 1 by kernel_rfl] at h1
          unfold reachBytes at h1
          simp only [lits, List.length_map, List.length_take, List.length_drop] at h1
          omega
        subst g1
        exact ⟨⟨n0, s1, s2, l3⟩, ⟨some a3, cap3, q0, q1, q2, q3, g2⟩, ⟨hw1, hw2, hlen⟩⟩
    obtain ⟨F, hF⟩ := Go.Deep.choose_lt (p := fun i x => (∃ da dc, StAt W b (o + i * 4) x da dc) ∧ AtOk x) each
    have hll : ((List.range len).map F).length = len := by simp
    refine ⟨some ⟨b, o, none⟩, cap, (List.range len).map F, by rw [hll], .inr ⟨b, o, cap, by rw [hll], fun j hj => ?_⟩, by rw [hll]; unfold maxLen at hm; omega, fun x hx => ?_⟩
    · have hj' : j < len := by omega
      simp only [List.getElem_map, List.getElem_range]
      exact (hF j hj').1
    · obtain ⟨i, hi, rfl⟩ := List.mem_map.1 hx
      exact (hF i (List.mem_range.1 hi)).2
end
end Go.Proofs.YtjhojohjegkinaaGreatDoor
