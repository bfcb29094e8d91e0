/-
  The document's tree: List, Stat, Read.
-/
import Derived.Test.YtjhojohjegkinaaGreatDoorRefB
namespace Go.Proofs.YtjhojohjegkinaaGreatDoor
open Go Go.RowKit

/-- Why a path is no directory's. -/
def NoList (R : RT) (s : ByteArray) (c : Nat) : Prop := (c = 15 ∧ clean s = none) ∨ ∃ l, clean s = some l ∧ c = 16 ∧ (¬ R.okDirs l ∨ (R.okDirs l ∧ (entAt R.L (joinB l) = none ∨ ∃ k d, entAt R.L (joinB l) = some k ∧ R.nd k = some d ∧ d.dir = false)))
def NoStat (R : RT) (s : ByteArray) (c : Nat) : Prop := (c = 15 ∧ clean s = none) ∨ ∃ l, clean s = some l ∧ c = 16 ∧ (¬ R.okDirs l ∨ (R.okDirs l ∧ entAt R.L (joinB l) = none))
def rStatV (R : RT) (p : List UInt8) (k : Nat) (d : RNd) : Value := if d.dir then .agg #[.int .i64 2, .int .i64 (kidsOf R.L p).length, .int .i64 1, .int .i64 d.tick] else .agg #[.int .i64 1, .int .i64 d.data.length, .int .i64 (linksIn R.L k), .int .i64 d.tick]
structure RListPost (w : World) (R : RT) (s : ByteArray) (e : Ending) (w' : World) : Prop where
  below : Below w.heap.size w w'
  case : (∃ c, c ≠ 0 ∧ e = .returned (.tuple #[.slice none 0 0, fltV c]) ∧ NoList R s c) ∨
    ∃ l k d v, clean s = some l ∧ R.okDirs l ∧ entAt R.L (joinB l) = some k ∧ R.nd k = some d ∧ d.dir = true ∧ e = .returned (.tuple #[v, flt0]) ∧ SRow w' w.heap.size v (kidsOf R.L (joinB l))
structure RStatPost (w : World) (R : RT) (s : ByteArray) (e : Ending) (w' : World) : Prop where
  below : Below w.heap.size w w'
  case : (∃ c, c ≠ 0 ∧ e = .returned (.tuple #[.agg #[.int .i64 0, .int .i64 0, .int .i64 0, .int .i64 0], fltV c]) ∧ NoStat R s c) ∨
    ∃ l k d, clean s = some l ∧ R.okDirs l ∧ entAt R.L (joinB l) = some k ∧ R.nd k = some d ∧ e = .returned (.tuple #[rStatV R (joinB l) k d, flt0])
structure RReadPost (w : World) (R : RT) (s : ByteArray) (e : Ending) (w' : World) : Prop where
  below : Below w.heap.size w w'
  case : (∃ c, c ≠ 0 ∧ e = .returned (.tuple #[.slice none 0 0, fltV c]) ∧ NoFile R s c) ∨
    ∃ k d v, IsFile R s k d ∧ e = .returned (.tuple #[v, flt0]) ∧ Src w' v d.data
theorem SRow.base_le {w : World} {base base' : Nat} {v : Value} {l : List ByteArray} (h : SRow w base v l) (hb : base' ≤ base) : SRow w base' v l := ⟨owns_base h.1 hb, h.2⟩
theorem SRow.kept {w w' : World} {base : Nat} {v : Value} {l : List ByteArray} {F : Nat → Prop} (h : SRow w base v l) (k : Kept F w w') (hF : ∀ b, F b → b < base) : SRow w' base v l :=
  ⟨ownsRow_kept h.1 k (fun b hb hf => by have h1 := hF b hf; have h2 := (h.1.lt b hb).1; omega), h.2⟩

set_option maxRecDepth 100000 in
set_option maxHeartbeats 1000000 in
theorem ref_list {B : Nat} {R : RT} (s : ByteArray) (w : World) (hR : RRep B w R) (hb : RB R) (hsz : s.size ≤ 9223372036854775807) :
    Calls Tryz.prog 32 #[.pointer (some ⟨R.tb, 0, none⟩), .string s] w fun e w' => RListPost w R s e w' := by
  have HR := Lib.hid hR
  have HRB := Lib.hid hb
  have HB0 := Lib.hid (below_alloc w (.cells #[.int .i64 0, .int .i64 0, .int .i64 0] 56))
  have HH0 := Lib.hid (heap_alloc_new w (.cells #[.int .i64 0, .int .i64 0, .int .i64 0] 56))
  clear hR hb
  go_enter Tryz.func32, Tryz.ntmps32
  go_wp2_with fail
  generalize w.alloc (.cells #[.int .i64 0, .int .i64 0, .int .i64 0] 56) = w0 at *
  refine (ref_place s w0 (HR.out.below HB0.out) (by have := HRB.out.len; omega) hsz).mono ?_
  intro e w1 hp
  obtain ⟨hb1, hp⟩ := hp
  have HB1 := Lib.hid (below_trans HB0.out hb1)
  have HH1 : Hid (w1.heap[w.heap.size]? = some (.cells #[.int .i64 0, .int .i64 0, .int .i64 0] 56 (0, 0))) := below_heap hb1 (lt_of_heap HH0.out) HH0.out
  have HR1 := Lib.hid (HR.out.below HB1.out)
  clear hb1
  rcases hp with ⟨hcl, rfl⟩ | ⟨l, hcl, hok, rfl⟩ | ⟨l, hcl, hok, rfl⟩

  · have HCL := Lib.hid hcl
    clear hcl
    simp only [fltV]
    obtain ⟨w2, hw2⟩ : ∃ w2, w2 = w1.alloc (.cells #[.int .i64 15, .int .i64 0, .int .i64 11] 56) := ⟨_, rfl⟩
    have HW2 := Lib.hid hw2
    have HB2 : Hid (Below w.heap.size w w2) := by rw [hw2]; exact HB1.out.alloc HB1.out.size _
    have HH2 : Hid (w2.heap[w.heap.size]? = some (.cells #[.int .i64 0, .int .i64 0, .int .i64 0] 56 (0, 0))) := by
      rw [hw2]; exact below_heap (below_alloc w1 _) (lt_of_heap HH1.out) HH1.out
    have HF2 : Hid (w2.heap[w1.heap.size]? = some (.cells #[.int .i64 15, .int .i64 0, .int .i64 11] 56 (0, 0))) := by
      rw [hw2]; exact heap_alloc_new w1 _
    clear hw2
    go_upto_region 3 with fail
    rw [← HW2.out]
    clear HW2
    generalize w1.heap.size = fb at *
    have g0 := cell_of (o := 0) HH2.out rfl
    have g1 := cell_of (o := 1) HH2.out rfl
    have g2 := cell_of (o := 2) HH2.out rfl
    have gf := fun o => free_of HH2.out o
    have f0 := cell_of (o := 0) HF2.out rfl
    have f1 := cell_of (o := 1) HF2.out rfl
    have f2 := cell_of (o := 2) HF2.out rfl
    obtain ⟨hx, hy⟩ := fault_left HB2.out (Nat.le_refl _) HH2.out (.int .i64 15) (.int .i64 0) (.int .i64 11)
    have HX := Lib.hid hx
    have HY := Lib.hid hy
    clear hx hy
    go_wp2_with fail
    go_region
    all_goals
      go_wp2_with fail
      clear g0 g1 g2 gf f0 f1 f2
      generalize ((w2.setCell ⟨w.heap.size, 0, none⟩ (.int .i64 15)).setCell ⟨w.heap.size, 1, none⟩ (.int .i64 0)).setCell ⟨w.heap.size, 2, none⟩ (.int .i64 11) = W at *
      have r0 := cell_of (o := 0) HY.out rfl
      have r1 := cell_of (o := 1) HY.out rfl
      have r2 := cell_of (o := 2) HY.out rfl
      refine bodyPost_ret (v := .tuple #[.slice none 0 0, fltV 15]) ?_ rfl ⟨HX.out.drew, .inl ⟨15, by decide, rfl, .inl ⟨rfl, HCL.out⟩⟩⟩
      simp [results, Tryz.results32, go_sem, r0, r1, r2, fltV]

  · have HCL := Lib.hid hcl
    have HOK := Lib.hid hok
    clear hcl hok
    simp only [fltV]
    obtain ⟨w2, hw2⟩ : ∃ w2, w2 = w1.alloc (.cells #[.int .i64 16, .int .i64 0, .int .i64 11] 56) := ⟨_, rfl⟩
    have HW2 := Lib.hid hw2
    have HB2 : Hid (Below w.heap.size w w2) := by rw [hw2]; exact HB1.out.alloc HB1.out.size _
    have HH2 : Hid (w2.heap[w.heap.size]? = some (.cells #[.int .i64 0, .int .i64 0, .int .i64 0] 56 (0, 0))) := by
      rw [hw2]; exact below_heap (below_alloc w1 _) (lt_of_heap HH1.out) HH1.out
    have HF2 : Hid (w2.heap[w1.heap.size]? = some (.cells #[.int .i64 16, .int .i64 0, .int .i64 11] 56 (0, 0))) := by
      rw [hw2]; exact heap_alloc_new w1 _
    clear hw2
    go_upto_region 3 with fail
    rw [← HW2.out]
    clear HW2
    generalize w1.heap.size = fb at *
    have g0 := cell_of (o := 0) HH2.out rfl
    have g1 := cell_of (o := 1) HH2.out rfl
    have g2 := cell_of (o := 2) HH2.out rfl
    have gf := fun o => free_of HH2.out o
    have f0 := cell_of (o := 0) HF2.out rfl
    have f1 := cell_of (o := 1) HF2.out rfl
    have f2 := cell_of (o := 2) HF2.out rfl
    obtain ⟨hx, hy⟩ := fault_left HB2.out (Nat.le_refl _) HH2.out (.int .i64 16) (.int .i64 0) (.int .i64 11)
    have HX := Lib.hid hx
    have HY := Lib.hid hy
    clear hx hy
    go_wp2_with fail
    go_region
    all_goals
      go_wp2_with fail
      clear g0 g1 g2 gf f0 f1 f2
      generalize ((w2.setCell ⟨w.heap.size, 0, none⟩ (.int .i64 16)).setCell ⟨w.heap.size, 1, none⟩ (.int .i64 0)).setCell ⟨w.heap.size, 2, none⟩ (.int .i64 11) = W at *
      have r0 := cell_of (o := 0) HY.out rfl
      have r1 := cell_of (o := 1) HY.out rfl
      have r2 := cell_of (o := 2) HY.out rfl
      refine bodyPost_ret (v := .tuple #[.slice none 0 0, fltV 16]) ?_ rfl ⟨HX.out.drew, .inl ⟨16, by decide, rfl, .inr ⟨l, HCL.out, rfl, .inl HOK.out⟩⟩⟩
      simp [results, Tryz.results32, go_sem, r0, r1, r2, fltV]

  · have HCL := Lib.hid hcl
    have HOK := Lib.hid hok
    clear hcl hok
    simp only [flt0]
    obtain ⟨w2, hw2⟩ : ∃ w2, w2 = w1.alloc (.cells #[.int .i64 0, .int .i64 0, .int .i64 0] 56) := ⟨_, rfl⟩
    have HW2 := Lib.hid hw2
    have HB2 : Hid (Below w.heap.size w w2) := by rw [hw2]; exact HB1.out.alloc HB1.out.size _
    have HH2 : Hid (w2.heap[w.heap.size]? = some (.cells #[.int .i64 0, .int .i64 0, .int .i64 0] 56 (0, 0))) := by
      rw [hw2]; exact below_heap (below_alloc w1 _) (lt_of_heap HH1.out) HH1.out
    have HF2 : Hid (w2.heap[w1.heap.size]? = some (.cells #[.int .i64 0, .int .i64 0, .int .i64 0] 56 (0, 0))) := by
      rw [hw2]; exact heap_alloc_new w1 _
    have HR2 := Lib.hid (HR.out.below HB2.out)
    have HFL : Hid (w.heap.size ≤ w1.heap.size ∧ w.heap.size < w2.heap.size) := ⟨HB1.out.size, lt_of_heap HH2.out⟩
    have HNE : Hid (w.heap.size ≠ w1.heap.size) := Nat.ne_of_lt (lt_of_heap HH1.out)
    clear hw2
    go_upto_region 4 with fail
    rw [← HW2.out]
    clear HW2 HR1 HH1 HB1
    generalize w1.heap.size = fb at *
    go_wp2_with fail
    refine (ref_at' _ w2 HR2.out (by have := HRB.out.len; omega)).mono ?_
    rintro e w3 ⟨rfl, hb3⟩
    have HB3 := Lib.hid (below_trans HB2.out hb3)
    have HH3 : Hid (w3.heap[w.heap.size]? = some (.cells #[.int .i64 0, .int .i64 0, .int .i64 0] 56 (0, 0))) := below_heap hb3 (lt_of_heap HH2.out) HH2.out
    have HF3 : Hid (w3.heap[fb]? = some (.cells #[.int .i64 0, .int .i64 0, .int .i64 0] 56 (0, 0))) := below_heap hb3 (lt_of_heap HF2.out) HF2.out
    have HR3 := Lib.hid (HR.out.below HB3.out)
    clear hb3 HH2 HB2 HR2 HF2
    cases hat : entAt R.L (joinB l) with
    | some k =>
      have HAT := Lib.hid hat
      obtain ⟨d, hd⟩ := HR.out.ents _ (entAt_mem hat)
      have HD := Lib.hid hd
      have c0 := cell_of (o := 0) (HR3.out.node k d hd).1 rfl
      clear hat hd
      simp only [ptrV_some]
      cases hdir : d.dir with
      | false =>
        rw [hdir] at c0
        have HDIR := Lib.hid hdir
        clear hdir
        go_wp2_with fail
        refine (ref_fault 16 w3).mono ?_
        rintro e w9 ⟨rfl, hb9⟩
        have HB9 := Lib.hid (below_trans HB3.out hb9)
        have HH9 : Hid (w9.heap[w.heap.size]? = some (.cells #[.int .i64 0, .int .i64 0, .int .i64 0] 56 (0, 0))) := below_heap hb9 (lt_of_heap HH3.out) HH3.out
        clear hb9
        have g0 := cell_of (o := 0) HH9.out rfl
        have g1 := cell_of (o := 1) HH9.out rfl
        have g2 := cell_of (o := 2) HH9.out rfl
        have gf := fun o => free_of HH9.out o
        obtain ⟨hx, hy⟩ := fault_left HB9.out (Nat.le_refl _) HH9.out (.int .i64 16) (.int .i64 0) (.int .i64 11)
        have HX := Lib.hid hx
        have HY := Lib.hid hy
        clear hx hy
        simp only [fltV]
        go_wp2_with fail
        clear g0 g1 g2 gf
        generalize ((w9.setCell ⟨w.heap.size, 0, none⟩ (.int .i64 16)).setCell ⟨w.heap.size, 1, none⟩ (.int .i64 0)).setCell ⟨w.heap.size, 2, none⟩ (.int .i64 11) = W at *
        have r0 := cell_of (o := 0) HY.out rfl
        have r1 := cell_of (o := 1) HY.out rfl
        have r2 := cell_of (o := 2) HY.out rfl
        refine bodyPost_ret (v := .tuple #[.slice none 0 0, fltV 16]) ?_ rfl ⟨HX.out, .inl ⟨16, by decide, rfl, .inr ⟨l, HCL.out, rfl, .inr ⟨HOK.out, .inr ⟨k, d, HAT.out, HD.out, HDIR.out⟩⟩⟩⟩⟩
        simp [results, Tryz.results32, go_sem, r0, r1, r2, fltV]
      | true =>
        rw [hdir] at c0
        have HDIR := Lib.hid hdir
        clear hdir
        have HPL : Hid ((mkB (joinB l)).size ≤ 100000) := by
          have h1 := HRB.out.paths _ (entAt_mem HAT.out)
          show (joinB l).toArray.size ≤ _
          rw [List.size_toArray]
          exact h1
        have HKD : Hid (∀ W, Below w3.heap.size w3 W → Calls Tryz.prog 79 #[.pointer (some ⟨R.tb, 0, none⟩), .string ⟨(joinB l).toArray⟩] W fun e w' => KidsPost W R.L (joinB l) e w') := fun W hW => by
          have h := ref_kids (mkB (joinB l)) W (HR3.out.below hW) (by have := HRB.out.len; omega) HRB.out.paths HPL.out
          rw [bl_mkB] at h
          exact h
        have f0 := cell_of (o := 0) HF3.out rfl
        have f1 := cell_of (o := 1) HF3.out rfl
        have f2 := cell_of (o := 2) HF3.out rfl
        have g0 := cell_of (o := 0) HH3.out rfl
        have g1 := cell_of (o := 1) HH3.out rfl
        have g2 := cell_of (o := 2) HH3.out rfl
        have gf := fun o => free_of HH3.out o
        go_wp2_with fail
        go_region_with (go_at_call 79; refine (HKD.out _ (by first | exact Below.refl _ _ | exact (Below.refl _ _).drew)).mono ?_; rintro e w' ⟨hbk, v, rfl, hrow⟩; have HBK := Lib.hid hbk; have HROW := Lib.hid hrow; clear hbk hrow; have HF4 : Hid (w'.heap[fb]? = some (.cells #[.int .i64 0, .int .i64 0, .int .i64 0] 56 (0, 0))) := below_heap HBK.out (lt_of_heap HF3.out) HF3.out; have HH4 : Hid (w'.heap[w.heap.size]? = some (.cells #[.int .i64 0, .int .i64 0, .int .i64 0] 56 (0, 0))) := below_heap HBK.out (lt_of_heap HH3.out) HH3.out; have f0 := cell_of (o := 0) HF4.out rfl; have f1 := cell_of (o := 1) HF4.out rfl; have f2 := cell_of (o := 2) HF4.out rfl; have g0 := cell_of (o := 0) HH4.out rfl; have g1 := cell_of (o := 1) HH4.out rfl; have g2 := cell_of (o := 2) HH4.out rfl; have gf := fun o => free_of HH4.out o)
        all_goals
          go_wp2_with fail
          have HB4 : Hid (Below w.heap.size w w') := below_trans HB3.out (by first | exact HBK.out | exact ((Below.refl _ _).drew).trans HBK.out)
          obtain ⟨hx, hy⟩ := fault_left HB4.out (Nat.le_refl _) HH4.out (.int .i64 0) (.int .i64 0) (.int .i64 0)
          have hk3 := three_sets w' w.heap.size (.int .i64 0) (.int .i64 0) (.int .i64 0)
          have hrw := (HROW.out.base_le (base' := w.heap.size + 1) (by first | exact HFL.out.2 | (have := lt_of_heap HH3.out; show _ ≤ w3.heap.size; omega) | (have := lt_of_heap HH3.out; omega))).kept hk3 (fun b hb => by omega)
          have HX := Lib.hid hx
          have HY := Lib.hid hy
          have HRW := Lib.hid (hrw.base_le (Nat.le_succ _))
          clear hx hy hk3 hrw f0 f1 f2 g0 g1 g2 gf
          generalize ((w'.setCell ⟨w.heap.size, 0, none⟩ (.int .i64 0)).setCell ⟨w.heap.size, 1, none⟩ (.int .i64 0)).setCell ⟨w.heap.size, 2, none⟩ (.int .i64 0) = W at *
          have r0 := cell_of (o := 0) HY.out rfl
          have r1 := cell_of (o := 1) HY.out rfl
          have r2 := cell_of (o := 2) HY.out rfl
          refine bodyPost_ret (v := .tuple #[v, flt0]) ?_ rfl ⟨by first | exact HX.out | exact HX.out.drew, .inr ⟨l, k, d, v, HCL.out, HOK.out, HAT.out, HD.out, HDIR.out, rfl, HRW.out⟩⟩
          simp [results, Tryz.results32, go_sem, r0, r1, r2, flt0]
    | none =>
      have HAT := Lib.hid hat
      clear hat
      simp only [ptrV_none]
      go_wp2_with fail
      refine (ref_fault 16 w3).mono ?_
      rintro e w9 ⟨rfl, hb9⟩
      have HB9 := Lib.hid (below_trans HB3.out hb9)
      have HH9 : Hid (w9.heap[w.heap.size]? = some (.cells #[.int .i64 0, .int .i64 0, .int .i64 0] 56 (0, 0))) := below_heap hb9 (lt_of_heap HH3.out) HH3.out
      clear hb9
      have g0 := cell_of (o := 0) HH9.out rfl
      have g1 := cell_of (o := 1) HH9.out rfl
      have g2 := cell_of (o := 2) HH9.out rfl
      have gf := fun o => free_of HH9.out o
      obtain ⟨hx, hy⟩ := fault_left HB9.out (Nat.le_refl _) HH9.out (.int .i64 16) (.int .i64 0) (.int .i64 11)
      have HX := Lib.hid hx
      have HY := Lib.hid hy
      clear hx hy
      simp only [fltV]
      go_wp2_with fail
      clear g0 g1 g2 gf
      generalize ((w9.setCell ⟨w.heap.size, 0, none⟩ (.int .i64 16)).setCell ⟨w.heap.size, 1, none⟩ (.int .i64 0)).setCell ⟨w.heap.size, 2, none⟩ (.int .i64 11) = W at *
      have r0 := cell_of (o := 0) HY.out rfl
      have r1 := cell_of (o := 1) HY.out rfl
      have r2 := cell_of (o := 2) HY.out rfl
      refine bodyPost_ret (v := .tuple #[.slice none 0 0, fltV 16]) ?_ rfl ⟨HX.out, .inl ⟨16, by decide, rfl, .inr ⟨l, HCL.out, rfl, .inr ⟨HOK.out, .inl HAT.out⟩⟩⟩⟩
      simp [results, Tryz.results32, go_sem, r0, r1, r2, fltV]

section
attribute [local go_sem ↓] ap_rule
set_option maxRecDepth 100000 in
set_option maxHeartbeats 1000000 in
theorem ref_read {B : Nat} {R : RT} (s : ByteArray) (w : World) (hR : RRep B w R) (hb : RB R) (hsz : s.size ≤ 9223372036854775807) (hdl : ∀ n d, R.nd n = some d → d.data.length ≤ 180000000000000) :
    Calls Tryz.prog 30 #[.pointer (some ⟨R.tb, 0, none⟩), .string s] w fun e w' => RReadPost w R s e w' := by
  have HR := Lib.hid hR
  have HRB := Lib.hid hb
  have HB0 := Lib.hid (below_alloc w (.cells #[.int .i64 0, .int .i64 0, .int .i64 0] 56))
  have HH0 := Lib.hid (heap_alloc_new w (.cells #[.int .i64 0, .int .i64 0, .int .i64 0] 56))
  have HDL := Lib.hid hdl
  clear hR hb hdl
  go_enter Tryz.func30, Tryz.ntmps30
  go_wp2_with fail
  generalize w.alloc (.cells #[.int .i64 0, .int .i64 0, .int .i64 0] 56) = w0 at *
  refine (ref_file s w0 (HR.out.below HB0.out) HRB.out hsz).mono ?_
  intro e w1 hp
  obtain ⟨hb1, hp⟩ := hp
  have HB1 := Lib.hid (below_trans HB0.out hb1)
  have HH1 : Hid (w1.heap[w.heap.size]? = some (.cells #[.int .i64 0, .int .i64 0, .int .i64 0] 56 (0, 0))) := below_heap hb1 (lt_of_heap HH0.out) HH0.out
  have HR1 := Lib.hid (HR.out.below HB1.out)
  clear hb1
  rcases hp with ⟨c, hc0, rfl, hnf⟩ | ⟨k, d, hif, rfl⟩
  · have HNF := Lib.hid hnf
    have HC0 := Lib.hid hc0
    have hci : ¬ (c : Int) = 0 := by omega
    clear hnf hc0
    simp only [fltV]
    obtain ⟨w2, hw2⟩ : ∃ w2, w2 = w1.alloc (.cells #[.int .i64 c, .int .i64 0, .int .i64 11] 56) := ⟨_, rfl⟩
    have HW2 := Lib.hid hw2
    have HB2 : Hid (Below w.heap.size w w2) := by rw [hw2]; exact HB1.out.alloc HB1.out.size _
    have HH2 : Hid (w2.heap[w.heap.size]? = some (.cells #[.int .i64 0, .int .i64 0, .int .i64 0] 56 (0, 0))) := by
      rw [hw2]; exact below_heap (below_alloc w1 _) (lt_of_heap HH1.out) HH1.out
    have HF2 : Hid (w2.heap[w1.heap.size]? = some (.cells #[.int .i64 c, .int .i64 0, .int .i64 11] 56 (0, 0))) := by
      rw [hw2]; exact heap_alloc_new w1 _
    clear hw2
    go_upto_region 3 with fail
    rw [← HW2.out]
    clear HW2
    generalize w1.heap.size = fb at *
    have g0 := cell_of (o := 0) HH2.out rfl
    have g1 := cell_of (o := 1) HH2.out rfl
    have g2 := cell_of (o := 2) HH2.out rfl
    have gf := fun o => free_of HH2.out o
    have f0 := cell_of (o := 0) HF2.out rfl
    have f1 := cell_of (o := 1) HF2.out rfl
    have f2 := cell_of (o := 2) HF2.out rfl
    obtain ⟨hx, hy⟩ := fault_left HB2.out (Nat.le_refl _) HH2.out (.int .i64 c) (.int .i64 0) (.int .i64 11)
    have HX := Lib.hid hx
    have HY := Lib.hid hy
    clear hx hy
    go_wp2_with fail
    go_region
    all_goals
      go_wp2_with fail
      clear g0 g1 g2 gf f0 f1 f2
      generalize ((w2.setCell ⟨w.heap.size, 0, none⟩ (.int .i64 c)).setCell ⟨w.heap.size, 1, none⟩ (.int .i64 0)).setCell ⟨w.heap.size, 2, none⟩ (.int .i64 11) = W at *
      have r0 := cell_of (o := 0) HY.out rfl
      have r1 := cell_of (o := 1) HY.out rfl
      have r2 := cell_of (o := 2) HY.out rfl
      refine bodyPost_ret (v := .tuple #[.slice none 0 0, fltV c]) ?_ rfl ⟨HX.out.drew, .inl ⟨c, HC0.out, rfl, HNF.out⟩⟩
      simp [results, Tryz.results30, go_sem, r0, r1, r2, fltV]
  · have HIF := Lib.hid hif
    obtain ⟨l, hcl, hok, hat, hnd, hdir⟩ := hif
    simp only [flt0]
    obtain ⟨w2, hw2⟩ : ∃ w2, w2 = w1.alloc (.cells #[.int .i64 0, .int .i64 0, .int .i64 0] 56) := ⟨_, rfl⟩
    have HW2 := Lib.hid hw2
    have HB2 : Hid (Below w.heap.size w w2) := by rw [hw2]; exact HB1.out.alloc HB1.out.size _
    have HH2 : Hid (w2.heap[w.heap.size]? = some (.cells #[.int .i64 0, .int .i64 0, .int .i64 0] 56 (0, 0))) := by
      rw [hw2]; exact below_heap (below_alloc w1 _) (lt_of_heap HH1.out) HH1.out
    have HF2 : Hid (w2.heap[w1.heap.size]? = some (.cells #[.int .i64 0, .int .i64 0, .int .i64 0] 56 (0, 0))) := by
      rw [hw2]; exact heap_alloc_new w1 _
    have HR2 := Lib.hid (HR.out.below HB2.out)
    clear hw2 hcl hok hat hdir
    go_upto_region 4 with fail
    rw [← HW2.out]
    clear HW2 HR1 HH1 HB1
    generalize w1.heap.size = fb at *
    obtain ⟨da, dc, hdv⟩ := owns_form (HR2.out.node k d hnd).2
    have n1 : w2.cell? ⟨k, 1, none⟩ = some (.slice da d.data.length dc) := by rw [← hdv]; exact cell_of (o := 1) (HR2.out.node k d hnd).1 rfl
    have hsrc : Src w2.drew (.slice da d.data.length dc) d.data := by
      have h := Src.of_owns (HR2.out.node k d hnd).2
      rw [hdv] at h
      exact h
    obtain ⟨hok, hn2, hown2, hgrow2⟩ := ap_known (w := w2.drew) w2.heap.size (.slice none 0 0) 0 [] (World.ownsRow_nil _ _ _ _) _ _ hsrc (by have := HDL.out k d hnd; omega) (Nat.le_refl _)
    have HG2 : Hid (Below w2.heap.size w2 (apW w2.drew (.slice none 0 0) (.slice da d.data.length dc))) := ⟨hgrow2.os, hgrow2.tape, hgrow2.output, hgrow2.size, fun x hx => hgrow2.block x hx (by simp [Value.ownBlock])⟩
    rw [Nat.zero_add, List.nil_append] at hown2
    have HO2 : Hid ((apW w2.drew (.slice none 0 0) (.slice da d.data.length dc)).ownsRow w2.heap.size 5 1 (.slice (apA w2.drew (.slice none 0 0) (.slice da d.data.length dc)) (apN w2.drew (.slice none 0 0) (.slice da d.data.length dc)) (apC w2.drew (.slice none 0 0) (.slice da d.data.length dc))) d.data.length (u8s d.data)) := hown2
    have HH3 : Hid ((apW w2.drew (.slice none 0 0) (.slice da d.data.length dc)).heap[w.heap.size]? = some (.cells #[.int .i64 0, .int .i64 0, .int .i64 0] 56 (0, 0))) := below_heap HG2.out (lt_of_heap HH2.out) HH2.out
    have HF3 : Hid ((apW w2.drew (.slice none 0 0) (.slice da d.data.length dc)).heap[fb]? = some (.cells #[.int .i64 0, .int .i64 0, .int .i64 0] 56 (0, 0))) := below_heap HG2.out (lt_of_heap HF2.out) HF2.out
    have HB3 := Lib.hid (below_trans HB2.out HG2.out)
    have HLT : Hid (w.heap.size < w2.heap.size) := lt_of_heap HH2.out
    have f0 := cell_of (o := 0) HF2.out rfl
    have f1 := cell_of (o := 1) HF2.out rfl
    have f2 := cell_of (o := 2) HF2.out rfl
    have q0 := cell_of (o := 0) HF3.out rfl
    have q1 := cell_of (o := 1) HF3.out rfl
    have q2 := cell_of (o := 2) HF3.out rfl
    have g0 := cell_of (o := 0) HH3.out rfl
    have g1 := cell_of (o := 1) HH3.out rfl
    have g2 := cell_of (o := 2) HH3.out rfl
    have gf := fun o => free_of HH3.out o
    clear hn2 hown2 hgrow2 hsrc hdv hnd
    go_wp2_with fail
    go_region
    all_goals
      go_wp2_with fail
      generalize apA w2.drew (.slice none 0 0) (.slice da d.data.length dc) = ga at *
      generalize apN w2.drew (.slice none 0 0) (.slice da d.data.length dc) = gn at *
      generalize apC w2.drew (.slice none 0 0) (.slice da d.data.length dc) = gc at *
      generalize apW w2.drew (.slice none 0 0) (.slice da d.data.length dc) = W3 at *
      obtain ⟨hx, hy⟩ := fault_left HB3.out (Nat.le_refl _) HH3.out (.int .i64 0) (.int .i64 0) (.int .i64 0)
      have hsr : Src (((W3.setCell ⟨w.heap.size, 0, none⟩ (.int .i64 0)).setCell ⟨w.heap.size, 1, none⟩ (.int .i64 0)).setCell ⟨w.heap.size, 2, none⟩ (.int .i64 0)) (.slice ga gn gc) d.data :=
        Src.of_owns (ownsRow_kept HO2.out (three_sets W3 w.heap.size (.int .i64 0) (.int .i64 0) (.int .i64 0)) (fun b hb hf => by have h1 := (HO2.out.lt b hb).1; have h2 := HLT.out; omega))
      have HX := Lib.hid hx
      have HY := Lib.hid hy
      have HSR := Lib.hid hsr
      clear hx hy hsr f0 f1 f2 q0 q1 q2 g0 g1 g2 gf n1 hok
      generalize ((W3.setCell ⟨w.heap.size, 0, none⟩ (.int .i64 0)).setCell ⟨w.heap.size, 1, none⟩ (.int .i64 0)).setCell ⟨w.heap.size, 2, none⟩ (.int .i64 0) = W at *
      have r0 := cell_of (o := 0) HY.out rfl
      have r1 := cell_of (o := 1) HY.out rfl
      have r2 := cell_of (o := 2) HY.out rfl
      refine bodyPost_ret (v := .tuple #[.slice ga gn gc, flt0]) ?_ rfl ⟨HX.out, .inr ⟨k, d, _, HIF.out, rfl, HSR.out⟩⟩
      simp [results, Tryz.results30, go_sem, r0, r1, r2, flt0]
end
end Go.Proofs.YtjhojohjegkinaaGreatDoor
