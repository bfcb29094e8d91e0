/-
  (*Tree).find: its contract.
-/
import Derived.Test.YtiejfbkbjahcgaaGreatDoorTree
import Derived.RegionTactic
import Derived.ChangeAlike
import Derived.BigRegion
namespace Go.Proofs.YtiejfbkbjahcgaaGreatDoor
open Go Go.RowKit

/-- Where a path leads. -/
structure Spot where
  inn : Option Nat
  name : ByteArray
  n : Option Nat

def spotV (s : Spot) : Value := .agg #[ptrV s.inn, .string s.name, ptrV s.n]
def spot0 : Spot := ⟨none, ByteArray.empty, none⟩

def Tr.goTo (T : Tr) : Spot → List ByteArray → Option Spot
  | s, [] => some s
  | s, x :: l => match s.n with
    | none => none
    | some n => match T.nd n with
      | none => none
      | some d => if d.dir then T.goTo ⟨some n, x, look d.names x⟩ l else none

def Tr.start (T : Tr) : Spot := ⟨none, ByteArray.empty, some T.root⟩
def Tr.parts (T : Tr) (l : List ByteArray) : Except Nat Spot :=
  match T.goTo T.start l with
  | none => .error 16
  | some s => .ok s
/-- find, plainly: the spot, or the code. -/
def Tr.find (T : Tr) (p : ByteArray) : Except Nat Spot :=
  match clean p with
  | none => .error 15
  | some l => T.parts l
theorem Tr.parts_none {T : Tr} {l : List ByteArray} (h : T.goTo T.start l = none) : T.parts l = .error 16 := by unfold Tr.parts; rw [h]
theorem Tr.parts_some {T : Tr} {l : List ByteArray} {s : Spot} (h : T.goTo T.start l = some s) : T.parts l = .ok s := by unfold Tr.parts; rw [h]

theorem Tr.goTo_cons_none (T : Tr) (a : Option Nat) (nm : ByteArray) (x : ByteArray) (l : List ByteArray) : T.goTo ⟨a, nm, none⟩ (x :: l) = none := rfl
theorem Tr.goTo_cons_file {T : Tr} {n : Nat} {d : Nd} (h : T.nd n = some d) (hd : d.dir = false) (a : Option Nat) (nm : ByteArray) (x : ByteArray) (l : List ByteArray) : T.goTo ⟨a, nm, some n⟩ (x :: l) = none := by
  simp [Tr.goTo, h, hd]
theorem Tr.goTo_cons_dir {T : Tr} {n : Nat} {d : Nd} (h : T.nd n = some d) (hd : d.dir = true) (a : Option Nat) (nm : ByteArray) (x : ByteArray) (l : List ByteArray) : T.goTo ⟨a, nm, some n⟩ (x :: l) = T.goTo ⟨some n, x, look d.names x⟩ l := by
  simp [Tr.goTo, h, hd]

/-- What find leaves. -/
def FindPost (E : Nat → Addr) (w : World) (r : Except Nat Spot) (e : Ending) (w' : World) : Prop :=
  Below w.heap.size w w' ∧
  match r with
  | .ok s => e = .returned (.tuple #[spotV s, .nilIface])
  | .error c => ∃ a, e = .returned (.tuple #[spotV spot0, failV a]) ∧ Failed E w.heap.size w' a c

theorem three_sets (w : World) (b : Nat) (x y z : Value) : Kept (fun k => k = b) w (((w.setCell ⟨b, 0, none⟩ x).setCell ⟨b, 1, none⟩ y).setCell ⟨b, 2, none⟩ z) :=
  (((Kept.refl (fun k => k = b) w).setCell (p := ⟨b, 0, none⟩) (.inl rfl) x).setCell (p := ⟨b, 1, none⟩) (.inl rfl) y).setCell (p := ⟨b, 2, none⟩) (.inl rfl) z

theorem three_heap {w : World} {b : Nat} {x0 y0 z0 : Value} {t : TypeId} (h : w.heap[b]? = some (.cells #[x0, y0, z0] t (0, 0))) (x y z : Value) :
    (((w.setCell ⟨b, 0, none⟩ x).setCell ⟨b, 1, none⟩ y).setCell ⟨b, 2, none⟩ z).heap[b]? = some (.cells #[x, y, z] t (0, 0)) :=
  heap_set_same (heap_set_same (heap_set_same h 0 x) 1 y) 2 z

/-- The facts of the outer world that the tree's calls use. -/
structure Ctx (E : Nat → Addr) (B : Nat) (w : World) : Prop where
  env : Env E B w
  max : ∃ m, w.cell? ⟨23, 0, none⟩ = some (.int .i64 m)
  maxB : 23 < B

theorem Ctx.kept {E : Nat → Addr} {B : Nat} {w w' : World} {F : Nat → Prop} (h : Ctx E B w) (k : Kept F w w') (hF : ∀ b, F b → B ≤ b) : Ctx E B w' :=
  ⟨h.env.kept k hF, by
    obtain ⟨m, hm⟩ := h.max
    exact ⟨m, (k.cell (p := ⟨23, 0, none⟩) (Nat.lt_of_lt_of_le h.maxB h.env.size) (fun hf => by have h1 := hF _ hf; have h2 := h.maxB; exact absurd h1 (by show ¬ B ≤ 23; omega))).trans hm⟩, h.maxB⟩
theorem Ctx.below {E : Nat → Addr} {B : Nat} {w w' : World} (h : Ctx E B w) (k : Below w.heap.size w w') : Ctx E B w' := h.kept (Kept.of_below k (fun _ => False)) (fun _ hf => hf.elim)

set_option maxRecDepth 100000 in
set_option maxHeartbeats 2000000 in
theorem find_parts {E : Nat → Addr} {B : Nat} {T : Tr} (p : ByteArray) (w : World) (hE : Ctx E B w) (hR : Rep B w T) (hg : badPath p = false) (hl : long (fold (pieces p)) = false) :
    Calls Tryz.prog 73 #[ptrV (some T.tb), .string p] w fun e w' => FindPost E w (T.parts (fold (pieces p))) e w' := by
  have hroot : w.cell? ⟨T.tb, 0, none⟩ = some (.pointer (some ⟨T.root, 0, none⟩)) := cell_of hR.tree (o := 0) rfl
  have hlen : (fold (pieces p)).length ≤ 300 := by
    unfold badPath at hg
    simp only [Bool.or_eq_false_iff, decide_eq_false_iff_not] at hg
    have h1 := fold_length (pieces p)
    have h2 := pieces_le p
    omega
  obtain ⟨m, hm⟩ := hE.max
  have HM : Hid (w.cell? ⟨23, 0, none⟩ = some (.int .i64 m)) := hm
  clear hm
  have HG : Hid (badPath p = false) := hg
  clear hg
  have HL : Hid (long (fold (pieces p)) = false) := hl
  clear hl
  have HE : Hid (Ctx E B w) := hE
  clear hE
  have HR : Hid (Rep B w T) := hR
  clear hR
  have HT : Hid (T.tb < w.heap.size) := HR.out.lt (.inl rfl)
  have HRT : Hid (w.cell? ⟨T.tb, 0, none⟩ = some (.pointer (some ⟨T.root, 0, none⟩))) := hroot
  clear hroot
  rw [ptrV_some]
  generalize hys : fold (pieces p) = ys at *
  have HYS : Hid (fold (pieces p) = ys) := hys
  clear hys
  go_enter Tryz.func73, Tryz.ntmps73
  go_wp2_with fail
  refine (clean_good (m := m) p _ ?_ HG.out).mono ?_
  · rw [World.cell?_alloc_lt _ _ _ (Nat.lt_of_lt_of_le HE.out.maxB HE.out.env.size)]
    exact HM.out
  intro e w1 hpost
  obtain ⟨v, he, hv, hb1⟩ := hpost
  rw [HYS.out] at he hv
  rw [HL.out] at he
  simp only [Bool.false_eq_true, if_false] at he
  subst he
  have HB1 : Hid (Below w.heap.size w w1) := ((Below.refl _ w).alloc (Nat.le_refl _) _).trans (hb1.mono (by simp))
  have HR1 : Hid (w1.heap[w.heap.size]? = some (.cells #[.pointer none, .string ByteArray.empty, .pointer none] 141 (0, 0))) :=
    (hb1.block _ (by simp)).trans (heap_alloc_new w _)
  have HSZ1 : Hid (w.heap.size < w1.heap.size) := by have := hb1.size; simp at this; exact (by omega : w.heap.size < w1.heap.size)
  obtain ⟨av, cv, hvv, _, hcells⟩ := hv.form
  subst hvv
  have HC : Hid (∀ j (hj : j < ys.length), ∃ g, av = some ⟨g, 0, none⟩ ∧ g ≠ w.heap.size ∧ g < w1.heap.size ∧ w1.cell? ⟨g, j, none⟩ = some (.string ys[j])) := by
    intro j hj
    obtain ⟨g, h1, h2, h3⟩ := hcells j hj
    simp at h2
    exact ⟨g, h1, by omega, World.block_lt_of_cell? _ _ h3, h3⟩
  clear hcells hv hb1
  have hroot : w1.cell? ⟨T.tb, 0, none⟩ = some (.pointer (some ⟨T.root, 0, none⟩)) := (HB1.out.cell (p := ⟨T.tb, 0, none⟩) HT.out).trans HRT.out
  have hfree : (w1.alloc (.cells #[.pointer none, .string ByteArray.empty, .pointer none] 141)).frozen? ⟨w1.heap.size, 0, none⟩ = false := by simp
  have HA : Hid ((w1.alloc (.cells #[.pointer none, .string ByteArray.empty, .pointer (some ⟨T.root, 0, none⟩)] 141)).heap[w1.heap.size]? = some (.cells #[.pointer none, .string ByteArray.empty, .pointer (some ⟨T.root, 0, none⟩)] 141 (0, 0))) := heap_alloc_new w1 _
  have HBA : Hid (Below w1.heap.size w1 (w1.alloc (.cells #[.pointer none, .string ByteArray.empty, .pointer (some ⟨T.root, 0, none⟩)] 141))) := (Below.refl _ w1).alloc (Nat.le_refl _) _
  have HSZA : Hid (w1.heap.size < (w1.alloc (.cells #[.pointer none, .string ByteArray.empty, .pointer (some ⟨T.root, 0, none⟩)] 141)).heap.size) := by show _ < _; simp
  go_wp2_with fail
  go_loopw [31] (fun idx wr => ∃ k : Nat, k ≤ ys.length ∧ idx = .int .i64 k ∧ ∃ sp : Spot, Hid (T.goTo sp (ys.drop k) = T.goTo T.start ys) ∧ Hid (wr.heap[w1.heap.size]? = some (.cells #[ptrV sp.inn, .string sp.name, ptrV sp.n] 141 (0, 0))) ∧ Hid (Below w1.heap.size w1 wr) ∧ Hid (sp.n = none ∨ ∃ n d, sp.n = some n ∧ T.nd n = some d)) (fun idx _ => ys.length - (intOf idx).toNat)
  case atStart => exact ⟨0, Nat.zero_le _, rfl, ⟨none, ByteArray.empty, some T.root⟩, rfl, HA.out, HBA.out, .inr (let ⟨d, h1, _⟩ := HR.out.root; ⟨_, d, rfl, h1⟩)⟩
  case round =>
    obtain ⟨k, hk, rfl, sp, hgo, hat, hbw, hsn⟩ := hrel
    by_cases hlt : k < ys.length
    · obtain ⟨g, hg, hgne, hglt, hcell0⟩ := HC.out k hlt
      subst hg
      have hcell : wr.cell? ⟨g, k, none⟩ = some (.string ys[k]) := (hbw.out.cell (p := ⟨g, k, none⟩) hglt).trans hcell0
      have HGO : Hid (T.goTo sp (ys[k] :: ys.drop (k + 1)) = T.goTo T.start ys) := by
        have h1 := hgo.out
        rw [List.drop_eq_getElem_cons hlt] at h1
        exact h1
      clear hcell0 hgo
      generalize ys[k] = x at *
      obtain ⟨inn, nm, nn⟩ := sp
      have hc0 : wr.cell? ⟨w1.heap.size, 0, none⟩ = some (ptrV inn) := cell_of hat.out rfl
      have hc1 : wr.cell? ⟨w1.heap.size, 1, none⟩ = some (.string nm) := cell_of hat.out rfl
      have hc2 : wr.cell? ⟨w1.heap.size, 2, none⟩ = some (ptrV nn) := cell_of hat.out rfl
      cases nn with
      | none =>
        simp only [ptrV_none] at hc2
        have HGN : Hid (T.goTo T.start ys = none) := HGO.out.symm.trans (Tr.goTo_cons_none T inn nm x _)
        clear hc0 hc1 HGO
        go_wp2_with fail
        refine (tree_fail wr (HE.out.env.below (HB1.out.trans (hbw.out.mono (Nat.le_of_lt HSZ1.out)))) 16 (by unfold Used; omega)).mono ?_
        rintro e w2 ⟨a, rfl, hfail, hb2⟩
        have HF : Hid (Failed E wr.heap.size w2 a 16) := hfail
        have HB2 : Hid (Below w.heap.size w w2) := (HB1.out.trans (hbw.out.mono (Nat.le_of_lt HSZ1.out))).trans (hb2.mono (Nat.le_trans HB1.out.size hbw.out.size))
        have HR2 : Hid (w2.heap[w.heap.size]? = some (.cells #[.pointer none, .string ByteArray.empty, .pointer none] 141 (0, 0))) :=
          (hb2.block _ (Nat.lt_of_lt_of_le HSZ1.out hbw.out.size)).trans ((hbw.out.block _ HSZ1.out).trans HR1.out)
        clear hfail hb2
        have g0 : w2.cell? ⟨w.heap.size, 0, none⟩ = some (.pointer none) := cell_of HR2.out rfl
        have g1 : w2.cell? ⟨w.heap.size, 1, none⟩ = some (.string ByteArray.empty) := cell_of HR2.out rfl
        have g2 : w2.cell? ⟨w.heap.size, 2, none⟩ = some (.pointer none) := cell_of HR2.out rfl
        have f0 : ∀ o, w2.frozen? ⟨w.heap.size, o, none⟩ = false := fun o => free_of HR2.out o
        go_wp2_with fail
        have HW : Hid (Kept (fun b => b = w.heap.size) w2 (((w2.setCell ⟨w.heap.size, 0, none⟩ (.pointer none)).setCell ⟨w.heap.size, 1, none⟩ (.string ⟨#[]⟩)).setCell ⟨w.heap.size, 2, none⟩ (.pointer none))) :=
          three_sets w2 w.heap.size _ _ _
        refine bodyPost_ret (v := .tuple #[spotV spot0, failV a]) ?_ rfl ?_
        · simp [results, Tryz.results73, go_sem, g0, g1, g2, spotV, spot0, ptrV]
          rfl
        · rw [Tr.parts_none HGN.out]
          refine ⟨HB2.out.trans (HW.out.below (fun b hb => by omega) HB2.out.size), a, rfl, (HF.out.kept HW.out (fun b hb => ?_)).mono (Nat.le_trans HB1.out.size hbw.out.size)⟩
          have := Nat.lt_of_lt_of_le HSZ1.out hbw.out.size
          omega
      | some n =>
        simp only [ptrV_some] at hc2
        obtain ⟨d, hnd⟩ : ∃ d, T.nd n = some d := by
          rcases hsn.out with h | ⟨n', d, h1, h2⟩
          · cases h
          · obtain rfl := Option.some.inj h1
            exact ⟨d, h2⟩
        have HRW : Hid (Rep B wr T) := HR.out.below (HB1.out.trans (hbw.out.mono (Nat.le_of_lt HSZ1.out)))
        have HN : Hid (NodeAt B wr n d) := HRW.out.node n d hnd
        by_cases hdir : d.dir = true
        · have hdc : wr.cell? ⟨n, 0, none⟩ = some (.bool true) := by rw [← hdir]; exact cell_of HN.out.cells rfl
          have hmc : wr.cell? ⟨n, 2, none⟩ = some (.map (some d.mb)) := by
            have h1 : wr.cell? ⟨n, 2, none⟩ = some (mapV d) := cell_of HN.out.cells rfl
            rw [h1]; simp [mapV, hdir]
          have hlk : (Instr.lookup 130 (.map (some d.mb)) (.string x) false).run Tryz.prog wr.drew = .ok (ptrV (look d.names x)) wr.drew := run_lookup_names (w := wr.drew) (HN.out.map hdir) x
          have HGN : Hid (T.goTo ⟨some n, x, look d.names x⟩ (ys.drop (k + 1)) = T.goTo T.start ys) := (Tr.goTo_cons_dir hnd hdir inn nm x _).symm.trans HGO.out
          have HNE : Hid (n ≠ w1.heap.size) := by
            have h1 : n < w.heap.size := HR.out.lt (.inr (.inl ⟨d, hnd⟩))
            have h2 := HSZ1.out
            show n ≠ w1.heap.size
            omega
          have HSN : Hid (look d.names x = none ∨ ∃ n' d', look d.names x = some n' ∧ T.nd n' = some d') := by
            cases hl : look d.names x with
            | none => exact .inl rfl
            | some n' =>
              obtain ⟨d', hd'⟩ := HR.out.kids n d x n' hnd (look_mem hl)
              exact .inr ⟨n', d', rfl, hd'⟩
          have hf : ∀ o, wr.frozen? ⟨w1.heap.size, o, none⟩ = false := fun o => free_of hat.out o
          have HDN : Hid (T.nd n = some d) := hnd
          clear hnd HGO
          generalize look d.names x = lk at *
          unfold ptrV at hlk
          generalize hlka : lk.map (fun b => (⟨b, 0, none⟩ : Addr)) = lka at hlk
          have HLK : Hid (Value.pointer lka = ptrV lk) := by show Value.pointer lka = _; rw [← hlka]; rfl
          clear hlka
          go_wp2_with fail
          go_region
          go_wp2_with fail
          go_roundw
          case rel =>
            refine ⟨k + 1, by omega, by go_num, ⟨some n, x, lk⟩, HGN.out, ?_, ?_, HSN.out⟩
            · show (((wr.setCell ⟨w1.heap.size, 0, none⟩ _).setCell ⟨w1.heap.size, 1, none⟩ _).setCell ⟨w1.heap.size, 2, none⟩ _).heap[w1.heap.size]? = _
              rw [HLK.out]
              exact three_heap hat.out _ _ _
            · exact hbw.out.trans (((three_sets wr w1.heap.size _ _ _).below (fun b hb => Nat.le_of_eq hb.symm) hbw.out.size).drew)
          case measure => simp [intOf]; omega
        · have hdir : d.dir = false := by simpa using hdir
          have hdc : wr.cell? ⟨n, 0, none⟩ = some (.bool false) := by rw [← hdir]; exact cell_of HN.out.cells rfl
          have HGN : Hid (T.goTo T.start ys = none) := HGO.out.symm.trans (Tr.goTo_cons_file hnd hdir inn nm x _)
          clear hc0 hc1 HGO
          go_wp2_with fail
          refine (tree_fail wr (HE.out.env.below (HB1.out.trans (hbw.out.mono (Nat.le_of_lt HSZ1.out)))) 16 (by unfold Used; omega)).mono ?_
          rintro e w2 ⟨a, rfl, hfail, hb2⟩
          have HF : Hid (Failed E wr.heap.size w2 a 16) := hfail
          have HB2 : Hid (Below w.heap.size w w2) := (HB1.out.trans (hbw.out.mono (Nat.le_of_lt HSZ1.out))).trans (hb2.mono (Nat.le_trans HB1.out.size hbw.out.size))
          have HR2 : Hid (w2.heap[w.heap.size]? = some (.cells #[.pointer none, .string ByteArray.empty, .pointer none] 141 (0, 0))) :=
            (hb2.block _ (Nat.lt_of_lt_of_le HSZ1.out hbw.out.size)).trans ((hbw.out.block _ HSZ1.out).trans HR1.out)
          clear hfail hb2
          have g0 : w2.cell? ⟨w.heap.size, 0, none⟩ = some (.pointer none) := cell_of HR2.out rfl
          have g1 : w2.cell? ⟨w.heap.size, 1, none⟩ = some (.string ByteArray.empty) := cell_of HR2.out rfl
          have g2 : w2.cell? ⟨w.heap.size, 2, none⟩ = some (.pointer none) := cell_of HR2.out rfl
          have f0 : ∀ o, w2.frozen? ⟨w.heap.size, o, none⟩ = false := fun o => free_of HR2.out o
          go_wp2_with fail
          have HW : Hid (Kept (fun b => b = w.heap.size) w2 (((w2.setCell ⟨w.heap.size, 0, none⟩ (.pointer none)).setCell ⟨w.heap.size, 1, none⟩ (.string ⟨#[]⟩)).setCell ⟨w.heap.size, 2, none⟩ (.pointer none))) :=
            three_sets w2 w.heap.size _ _ _
          refine bodyPost_ret (v := .tuple #[spotV spot0, failV a]) ?_ rfl ?_
          · simp [results, Tryz.results73, go_sem, g0, g1, g2, spotV, spot0, ptrV]
            rfl
          · rw [Tr.parts_none HGN.out]
            refine ⟨HB2.out.trans (HW.out.below (fun b hb => by omega) HB2.out.size), a, rfl, (HF.out.kept HW.out (fun b hb => ?_)).mono (Nat.le_trans HB1.out.size hbw.out.size)⟩
            have := Nat.lt_of_lt_of_le HSZ1.out hbw.out.size
            omega
    · obtain rfl : k = ys.length := by omega
      have HGN : Hid (T.goTo T.start ys = some sp) := by
        have h1 := hgo.out
        rw [List.drop_length] at h1
        exact h1.symm
      clear hgo
      obtain ⟨inn, nm, nn⟩ := sp
      have hc0 : wr.cell? ⟨w1.heap.size, 0, none⟩ = some (ptrV inn) := cell_of hat.out rfl
      have hc1 : wr.cell? ⟨w1.heap.size, 1, none⟩ = some (.string nm) := cell_of hat.out rfl
      have hc2 : wr.cell? ⟨w1.heap.size, 2, none⟩ = some (ptrV nn) := cell_of hat.out rfl
      have HR2 : Hid (wr.heap[w.heap.size]? = some (.cells #[.pointer none, .string ByteArray.empty, .pointer none] 141 (0, 0))) :=
        (hbw.out.block _ HSZ1.out).trans HR1.out
      have g0 : wr.cell? ⟨w.heap.size, 0, none⟩ = some (.pointer none) := cell_of HR2.out rfl
      have g1 : wr.cell? ⟨w.heap.size, 1, none⟩ = some (.string ByteArray.empty) := cell_of HR2.out rfl
      have g2 : wr.cell? ⟨w.heap.size, 2, none⟩ = some (.pointer none) := cell_of HR2.out rfl
      have f0 : ∀ o, wr.frozen? ⟨w.heap.size, o, none⟩ = false := fun o => free_of HR2.out o
      have HW : Hid (∀ x y z, Below w.heap.size w (((wr.setCell ⟨w.heap.size, 0, none⟩ x).setCell ⟨w.heap.size, 1, none⟩ y).setCell ⟨w.heap.size, 2, none⟩ z)) := fun x y z =>
        (HB1.out.trans (hbw.out.mono (Nat.le_of_lt HSZ1.out))).trans ((three_sets wr w.heap.size x y z).below (fun b hb => Nat.le_of_eq hb.symm) (Nat.le_trans (Nat.le_of_lt HSZ1.out) hbw.out.size))
      unfold ptrV at hc0 hc2
      generalize hia : inn.map (fun b => (⟨b, 0, none⟩ : Addr)) = ia at hc0
      generalize hna : nn.map (fun b => (⟨b, 0, none⟩ : Addr)) = na at hc2
      have HIA : Hid (Value.pointer ia = ptrV inn) := by show Value.pointer ia = _; rw [← hia]; rfl
      have HNA : Hid (Value.pointer na = ptrV nn) := by show Value.pointer na = _; rw [← hna]; rfl
      clear hia hna
      go_wp2_with fail
      refine bodyPost_ret (v := .tuple #[.agg #[.pointer ia, .string nm, .pointer na], .nilIface]) ?_ rfl ?_
      · simp [results, Tryz.results73, go_sem, g0, g1, g2]
      · rw [Tr.parts_some HGN.out]
        refine ⟨HW.out _ _ _, ?_⟩
        show _ = Ending.returned (.tuple #[spotV ⟨inn, nm, nn⟩, .nilIface])
        rw [HIA.out, HNA.out]
        rfl

set_option maxRecDepth 100000 in
set_option maxHeartbeats 2000000 in
/-- A path that is none: whatever Clean does, it says no. -/
theorem find_no {E : Nat → Addr} {B : Nat} (tb : Nat) (p : ByteArray) (w : World) (hE : Ctx E B w)
    (hc : ∀ w0, Ctx E B w0 → Calls Tryz.prog 110 #[.string p] w0 fun e w' => e = .returned (.tuple #[.slice none 0 0, .bool false]) ∧ Below w0.heap.size w0 w') :
    Calls Tryz.prog 73 #[.pointer (some ⟨tb, 0, none⟩), .string p] w fun e w' => FindPost E w (.error 15) e w' := by
  have HE : Hid (Ctx E B w) := hE
  clear hE
  have HC : Hid (∀ w0, Ctx E B w0 → Calls Tryz.prog 110 #[.string p] w0 fun e w' => e = .returned (.tuple #[.slice none 0 0, .bool false]) ∧ Below w0.heap.size w0 w') := hc
  clear hc
  go_enter Tryz.func73, Tryz.ntmps73
  go_wp2_with fail
  refine (HC.out _ (HE.out.below ((Below.refl _ w).alloc (Nat.le_refl _) _))).mono ?_
  rintro e w1 ⟨rfl, hb1⟩
  have HB1 : Hid (Below w.heap.size w w1) := ((Below.refl _ w).alloc (Nat.le_refl _) _).trans (hb1.mono (by simp))
  have HR1 : Hid (w1.heap[w.heap.size]? = some (.cells #[.pointer none, .string ByteArray.empty, .pointer none] 141 (0, 0))) :=
    (hb1.block _ (by simp)).trans (heap_alloc_new w _)
  have HSZ1 : Hid (w.heap.size < w1.heap.size) := by have := hb1.size; simp at this; exact (by omega : w.heap.size < w1.heap.size)
  clear hb1
  go_wp2_with fail
  refine (tree_fail w1 (HE.out.env.below HB1.out) 15 (by unfold Used; omega)).mono ?_
  rintro e w2 ⟨a, rfl, hfail, hb2⟩
  have HF : Hid (Failed E w1.heap.size w2 a 15) := hfail
  have HB2 : Hid (Below w.heap.size w w2) := HB1.out.trans (hb2.mono (Nat.le_of_lt HSZ1.out))
  have HR2 : Hid (w2.heap[w.heap.size]? = some (.cells #[.pointer none, .string ByteArray.empty, .pointer none] 141 (0, 0))) := (hb2.block _ HSZ1.out).trans HR1.out
  clear hfail hb2
  have g0 : w2.cell? ⟨w.heap.size, 0, none⟩ = some (.pointer none) := cell_of HR2.out rfl
  have g1 : w2.cell? ⟨w.heap.size, 1, none⟩ = some (.string ByteArray.empty) := cell_of HR2.out rfl
  have g2 : w2.cell? ⟨w.heap.size, 2, none⟩ = some (.pointer none) := cell_of HR2.out rfl
  have f0 : ∀ o, w2.frozen? ⟨w.heap.size, o, none⟩ = false := fun o => free_of HR2.out o
  go_wp2_with fail
  have HW : Hid (Kept (fun b => b = w.heap.size) w2 (((w2.setCell ⟨w.heap.size, 0, none⟩ (.pointer none)).setCell ⟨w.heap.size, 1, none⟩ (.string ⟨#[]⟩)).setCell ⟨w.heap.size, 2, none⟩ (.pointer none))) :=
    three_sets w2 w.heap.size _ _ _
  refine bodyPost_ret (v := .tuple #[spotV spot0, failV a]) ?_ rfl ?_
  · simp [results, Tryz.results73, go_sem, g0, g1, g2, spotV, spot0, ptrV]
    rfl
  · refine ⟨HB2.out.trans (HW.out.below (fun b hb => by omega) HB2.out.size), a, rfl, (HF.out.kept HW.out (fun b hb => ?_)).mono (Nat.le_of_lt HSZ1.out)⟩
    have := HSZ1.out
    omega

/-- (*Tree).find, a tree that there is. -/
theorem find_any {E : Nat → Addr} {B : Nat} {T : Tr} (p : ByteArray) (w : World) (hE : Ctx E B w) (hR : Rep B w T) (hsz : p.size ≤ 9223372036854775807) :
    Calls Tryz.prog 73 #[.pointer (some ⟨T.tb, 0, none⟩), .string p] w fun e w' => FindPost E w (T.find p) e w' := by
  unfold Tr.find clean
  by_cases hg : badPath p = true
  · rw [if_pos hg]
    exact find_no T.tb p w hE fun w0 _ => (clean_bad p w0 hsz hg).mono fun e w' ⟨h1, h2⟩ => ⟨h1, h2 ▸ Below.refl _ _⟩
  · rw [if_neg hg]
    have hg' : badPath p = false := by simpa using hg
    by_cases hl : long (fold (pieces p)) = true
    · rw [if_pos hl]
      refine find_no T.tb p w hE fun w0 h0 => ?_
      obtain ⟨m, hm⟩ := h0.max
      refine (clean_good p w0 hm hg').mono fun e w' ⟨v, h1, _, h3⟩ => ⟨?_, h3⟩
      rw [h1, if_pos hl]
    · rw [if_neg hl]
      exact find_parts p w hE hR hg' (by simpa using hl)
end Go.Proofs.YtiejfbkbjahcgaaGreatDoor
