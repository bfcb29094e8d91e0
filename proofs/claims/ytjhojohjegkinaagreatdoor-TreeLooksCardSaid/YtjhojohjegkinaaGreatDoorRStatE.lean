/-
  The document's Stat: the errors.
-/
import Derived.Test.YtjhojohjegkinaaGreatDoorRLook
namespace Go.Proofs.YtjhojohjegkinaaGreatDoor
open Go Go.RowKit

theorem set_ne {W : World} {b c : Nat} (h : c ≠ b) {o : Obj} (hh : W.heap[c]? = some o) (k : Nat) (v : Value) : (W.setCell ⟨b, k, none⟩ v).heap[c]? = some o := (heap_set_other W ⟨b, k, none⟩ v h).trans hh
theorem seven_a {w W : World} {sb rb : Nat} (hb : Below w.heap.size w W) (h1 : w.heap.size ≤ sb) (h2 : w.heap.size ≤ rb) (hne : sb ≠ rb) (hs : W.heap[sb]? = some (.cells #[.int .i64 0, .int .i64 0, .int .i64 0, .int .i64 0] 30 (0, 0))) (hr : W.heap[rb]? = some (.cells #[.int .i64 0, .int .i64 0, .int .i64 0] 56 (0, 0))) (x y z u p q r : Value) :
    Below w.heap.size w (((((((W.setCell ⟨sb, 0, none⟩ x).setCell ⟨sb, 1, none⟩ y).setCell ⟨sb, 2, none⟩ z).setCell ⟨sb, 3, none⟩ u).setCell ⟨rb, 0, none⟩ p).setCell ⟨rb, 1, none⟩ q).setCell ⟨rb, 2, none⟩ r) ∧
      (((((((W.setCell ⟨sb, 0, none⟩ x).setCell ⟨sb, 1, none⟩ y).setCell ⟨sb, 2, none⟩ z).setCell ⟨sb, 3, none⟩ u).setCell ⟨rb, 0, none⟩ p).setCell ⟨rb, 1, none⟩ q).setCell ⟨rb, 2, none⟩ r).heap[sb]? = some (.cells #[x, y, z, u] 30 (0, 0)) ∧
      (((((((W.setCell ⟨sb, 0, none⟩ x).setCell ⟨sb, 1, none⟩ y).setCell ⟨sb, 2, none⟩ z).setCell ⟨sb, 3, none⟩ u).setCell ⟨rb, 0, none⟩ p).setCell ⟨rb, 1, none⟩ q).setCell ⟨rb, 2, none⟩ r).heap[rb]? = some (.cells #[p, q, r] 56 (0, 0)) :=
  ⟨hb.trans ((((((((Kept.refl (fun b => b = sb ∨ b = rb) W).setCell (p := ⟨sb, 0, none⟩) (.inl (.inl rfl)) x).setCell (p := ⟨sb, 1, none⟩) (.inl (.inl rfl)) y).setCell (p := ⟨sb, 2, none⟩) (.inl (.inl rfl)) z).setCell (p := ⟨sb, 3, none⟩) (.inl (.inl rfl)) u).setCell (p := ⟨rb, 0, none⟩) (.inl (.inr rfl)) p).setCell (p := ⟨rb, 1, none⟩) (.inl (.inr rfl)) q).setCell (p := ⟨rb, 2, none⟩) (.inl (.inr rfl)) r |>.below (B := w.heap.size) (fun b hb => by omega) hb.size),
    set_ne hne (set_ne hne (set_ne hne (heap_set_same (heap_set_same (heap_set_same (heap_set_same hs 0 x) 1 y) 2 z) 3 u) 0 p) 1 q) 2 r,
    heap_set_same (heap_set_same (heap_set_same (set_ne hne.symm (set_ne hne.symm (set_ne hne.symm (set_ne hne.symm hr 0 x) 1 y) 2 z) 3 u) 0 p) 1 q) 2 r⟩

set_option maxRecDepth 100000 in
set_option maxHeartbeats 4000000 in
theorem ref_stat_no {B : Nat} {R : RT} (s : ByteArray) (w : World) (hR : RRep B w R) (hb : RB R) (hsz : s.size ≤ 9223372036854775807) (hno : ∀ l k, clean s = some l → R.okDirs l → entAt R.L (joinB l) = some k → False) :
    Calls Tryz.prog 31 #[.pointer (some ⟨R.tb, 0, none⟩), .string s] w fun e w' => RStatPost w R s e w' := by
  have HNO := Lib.hid hno
  clear hno
  have HR := Lib.hid hR
  have HRB := Lib.hid hb
  obtain ⟨w0, hw0⟩ : ∃ w0, w0 = (w.alloc (.cells #[.int .i64 0, .int .i64 0, .int .i64 0, .int .i64 0] 30)).alloc (.cells #[.int .i64 0, .int .i64 0, .int .i64 0] 56) := ⟨_, rfl⟩
  have HW0 := Lib.hid hw0
  have HB0 : Hid (Below w.heap.size w w0) := by rw [hw0]; exact below_two w _ _
  have hsz1 : (w.alloc (.cells #[.int .i64 0, .int .i64 0, .int .i64 0, .int .i64 0] 30)).heap.size = w.heap.size + 1 := by simp
  have HS0 : Hid (w0.heap[w.heap.size]? = some (.cells #[.int .i64 0, .int .i64 0, .int .i64 0, .int .i64 0] 30 (0, 0))) := by
    rw [hw0]
    exact (Below.heap_alloc _ _ _ (by rw [hsz1]; exact Nat.lt_succ_self _)).trans (heap_alloc_new w _)
  have HH0 : Hid (w0.heap[w.heap.size + 1]? = some (.cells #[.int .i64 0, .int .i64 0, .int .i64 0] 56 (0, 0))) := by
    rw [hw0, ← hsz1]
    exact heap_alloc_new _ _
  clear hR hb hw0 hsz1
  go_enter Tryz.func31, Tryz.ntmps31
  go_upto_region 1 with fail
  rw [← HW0.out]
  clear HW0
  have HLS : Hid (w.heap.size ≤ w.heap.size) := Nat.le_refl _
  have HLR : Hid (w.heap.size ≤ w.heap.size + 1) := Nat.le_succ _
  have HNE : Hid (w.heap.size ≠ w.heap.size + 1) := Nat.ne_of_lt (Nat.lt_succ_self _)
  generalize hrb : w.heap.size + 1 = rb at *
  obtain ⟨sb, hsb⟩ : ∃ sb, sb = w.heap.size := ⟨_, rfl⟩
  have HSB := Lib.hid hsb
  have HS0' : Hid (w0.heap[sb]? = some (.cells #[.int .i64 0, .int .i64 0, .int .i64 0, .int .i64 0] 30 (0, 0))) := by rw [hsb]; exact HS0.out
  have HLS' : Hid (w.heap.size ≤ sb) := by rw [hsb]; exact Nat.le_refl _
  have HNE' : Hid (sb ≠ rb) := by rw [hsb]; exact HNE.out
  rw [← hsb]
  clear HS0 HLS HNE hrb hsb
  have HLS := HLS'
  have HNE := HNE'
  have HS0 := HS0'
  clear HLS' HNE' HS0'
  go_wp2_with fail
  refine (ref_place s w0 (HR.out.below HB0.out) (by have := HRB.out.len; omega) hsz).mono ?_
  intro e w1 hp
  obtain ⟨hb1, hp⟩ := hp
  have HB1 := Lib.hid (below_trans HB0.out hb1)
  have HS1 : Hid (w1.heap[sb]? = some (.cells #[.int .i64 0, .int .i64 0, .int .i64 0, .int .i64 0] 30 (0, 0))) := below_heap hb1 (lt_of_heap HS0.out) HS0.out
  have HH1 : Hid (w1.heap[rb]? = some (.cells #[.int .i64 0, .int .i64 0, .int .i64 0] 56 (0, 0))) := below_heap hb1 (lt_of_heap HH0.out) HH0.out
  have HR1 := Lib.hid (HR.out.below HB1.out)
  clear hb1 HS0 HH0 HB0
  rcases hp with ⟨hcl, rfl⟩ | ⟨l, hcl, hok, rfl⟩ | ⟨l, hcl, hok, rfl⟩

  · have HCL := Lib.hid hcl
    clear hcl
    simp only [fltV]
    obtain ⟨w2, hw2⟩ : ∃ w2, w2 = w1.alloc (.cells #[.int .i64 15, .int .i64 0, .int .i64 11] 56) := ⟨_, rfl⟩
    have HW2 := Lib.hid hw2
    have hbw : Below w1.heap.size w1 w2 := by rw [hw2]; exact below_alloc w1 _
    have HBZ : Hid (Below w.heap.size w w2) := below_trans HB1.out hbw
    have HSZ : Hid (w2.heap[sb]? = some (.cells #[.int .i64 0, .int .i64 0, .int .i64 0, .int .i64 0] 30 (0, 0))) := below_heap hbw (lt_of_heap HS1.out) HS1.out
    have HRZ : Hid (w2.heap[rb]? = some (.cells #[.int .i64 0, .int .i64 0, .int .i64 0] 56 (0, 0))) := below_heap hbw (lt_of_heap HH1.out) HH1.out
    have HFZ : Hid (w2.heap[w1.heap.size]? = some (.cells #[.int .i64 15, .int .i64 0, .int .i64 11] 56 (0, 0))) := by rw [hw2]; exact heap_alloc_new w1 _
    have HSF : Hid (sb ≠ w1.heap.size) := Nat.ne_of_lt (lt_of_heap HS1.out)
    have HRF : Hid (rb ≠ w1.heap.size) := Nat.ne_of_lt (lt_of_heap HH1.out)
    clear hw2 hbw
    go_upto_region 3 with fail
    rw [← HW2.out]
    clear HW2
    generalize w1.heap.size = fb at *
    have s0 := cell_of (o := 0) HSZ.out rfl
    have s1 := cell_of (o := 1) HSZ.out rfl
    have s2 := cell_of (o := 2) HSZ.out rfl
    have s3 := cell_of (o := 3) HSZ.out rfl
    have sf := fun o => free_of HSZ.out o
    have g0 := cell_of (o := 0) HRZ.out rfl
    have g1 := cell_of (o := 1) HRZ.out rfl
    have g2 := cell_of (o := 2) HRZ.out rfl
    have gf := fun o => free_of HRZ.out o
    have hsr : sb ≠ rb := HNE.out
    have hrs : rb ≠ sb := HNE.out.symm
    have f0 := cell_of (o := 0) HFZ.out rfl
    have f1 := cell_of (o := 1) HFZ.out rfl
    have f2 := cell_of (o := 2) HFZ.out rfl
    have hsf : sb ≠ fb := HSF.out
    have hrf : rb ≠ fb := HRF.out
    have hfs : fb ≠ sb := HSF.out.symm
    have hfr : fb ≠ rb := HRF.out.symm
    go_wp2_with fail
    go_region
    all_goals
      go_wp2_with fail
      clear s0 s1 s2 s3 sf g0 g1 g2 gf hsr hrs f0 f1 f2 hsf hrf hfs hfr
      obtain ⟨hxa, hya, hza⟩ := seven_a HBZ.out HLS.out HLR.out HNE.out HSZ.out HRZ.out (.int .i64 0) (.int .i64 0) (.int .i64 0) (.int .i64 0) (.int .i64 15) (.int .i64 0) (.int .i64 11)
      have HXA := Lib.hid hxa
      have HYA := Lib.hid hya
      have HZA := Lib.hid hza
      clear hxa hya hza
      generalize ((((((w2.setCell ⟨sb, 0, none⟩ (.int .i64 0)).setCell ⟨sb, 1, none⟩ (.int .i64 0)).setCell ⟨sb, 2, none⟩ (.int .i64 0)).setCell ⟨sb, 3, none⟩ (.int .i64 0)).setCell ⟨rb, 0, none⟩ (.int .i64 15)).setCell ⟨rb, 1, none⟩ (.int .i64 0)).setCell ⟨rb, 2, none⟩ (.int .i64 11) = Wa at *
      have a0 := cell_of (o := 0) HYA.out rfl
      have a1 := cell_of (o := 1) HYA.out rfl
      have a2 := cell_of (o := 2) HYA.out rfl
      have a3 := cell_of (o := 3) HYA.out rfl
      have a4 := cell_of (o := 0) HZA.out rfl
      have a5 := cell_of (o := 1) HZA.out rfl
      have a6 := cell_of (o := 2) HZA.out rfl
      refine bodyPost_ret (v := .tuple #[.agg #[.int .i64 0, .int .i64 0, .int .i64 0, .int .i64 0], .agg #[.int .i64 15, .int .i64 0, .int .i64 11]]) ?_ rfl ⟨by first | exact HXA.out | exact HXA.out.drew, .inl ⟨15, by decide, rfl, .inl ⟨rfl, HCL.out⟩⟩⟩
      simp [results, Tryz.results31, go_sem, a0, a1, a2, a3, a4, a5, a6]

  · have HCL := Lib.hid hcl
    have HOK := Lib.hid hok
    clear hcl hok
    simp only [fltV]
    obtain ⟨w2, hw2⟩ : ∃ w2, w2 = w1.alloc (.cells #[.int .i64 16, .int .i64 0, .int .i64 11] 56) := ⟨_, rfl⟩
    have HW2 := Lib.hid hw2
    have hbw : Below w1.heap.size w1 w2 := by rw [hw2]; exact below_alloc w1 _
    have HBZ : Hid (Below w.heap.size w w2) := below_trans HB1.out hbw
    have HSZ : Hid (w2.heap[sb]? = some (.cells #[.int .i64 0, .int .i64 0, .int .i64 0, .int .i64 0] 30 (0, 0))) := below_heap hbw (lt_of_heap HS1.out) HS1.out
    have HRZ : Hid (w2.heap[rb]? = some (.cells #[.int .i64 0, .int .i64 0, .int .i64 0] 56 (0, 0))) := below_heap hbw (lt_of_heap HH1.out) HH1.out
    have HFZ : Hid (w2.heap[w1.heap.size]? = some (.cells #[.int .i64 16, .int .i64 0, .int .i64 11] 56 (0, 0))) := by rw [hw2]; exact heap_alloc_new w1 _
    have HSF : Hid (sb ≠ w1.heap.size) := Nat.ne_of_lt (lt_of_heap HS1.out)
    have HRF : Hid (rb ≠ w1.heap.size) := Nat.ne_of_lt (lt_of_heap HH1.out)
    clear hw2 hbw
    go_upto_region 3 with fail
    rw [← HW2.out]
    clear HW2
    generalize w1.heap.size = fb at *
    have s0 := cell_of (o := 0) HSZ.out rfl
    have s1 := cell_of (o := 1) HSZ.out rfl
    have s2 := cell_of (o := 2) HSZ.out rfl
    have s3 := cell_of (o := 3) HSZ.out rfl
    have sf := fun o => free_of HSZ.out o
    have g0 := cell_of (o := 0) HRZ.out rfl
    have g1 := cell_of (o := 1) HRZ.out rfl
    have g2 := cell_of (o := 2) HRZ.out rfl
    have gf := fun o => free_of HRZ.out o
    have hsr : sb ≠ rb := HNE.out
    have hrs : rb ≠ sb := HNE.out.symm
    have f0 := cell_of (o := 0) HFZ.out rfl
    have f1 := cell_of (o := 1) HFZ.out rfl
    have f2 := cell_of (o := 2) HFZ.out rfl
    have hsf : sb ≠ fb := HSF.out
    have hrf : rb ≠ fb := HRF.out
    have hfs : fb ≠ sb := HSF.out.symm
    have hfr : fb ≠ rb := HRF.out.symm
    go_wp2_with fail
    go_region
    all_goals
      go_wp2_with fail
      clear s0 s1 s2 s3 sf g0 g1 g2 gf hsr hrs f0 f1 f2 hsf hrf hfs hfr
      obtain ⟨hxa, hya, hza⟩ := seven_a HBZ.out HLS.out HLR.out HNE.out HSZ.out HRZ.out (.int .i64 0) (.int .i64 0) (.int .i64 0) (.int .i64 0) (.int .i64 16) (.int .i64 0) (.int .i64 11)
      have HXA := Lib.hid hxa
      have HYA := Lib.hid hya
      have HZA := Lib.hid hza
      clear hxa hya hza
      generalize ((((((w2.setCell ⟨sb, 0, none⟩ (.int .i64 0)).setCell ⟨sb, 1, none⟩ (.int .i64 0)).setCell ⟨sb, 2, none⟩ (.int .i64 0)).setCell ⟨sb, 3, none⟩ (.int .i64 0)).setCell ⟨rb, 0, none⟩ (.int .i64 16)).setCell ⟨rb, 1, none⟩ (.int .i64 0)).setCell ⟨rb, 2, none⟩ (.int .i64 11) = Wa at *
      have a0 := cell_of (o := 0) HYA.out rfl
      have a1 := cell_of (o := 1) HYA.out rfl
      have a2 := cell_of (o := 2) HYA.out rfl
      have a3 := cell_of (o := 3) HYA.out rfl
      have a4 := cell_of (o := 0) HZA.out rfl
      have a5 := cell_of (o := 1) HZA.out rfl
      have a6 := cell_of (o := 2) HZA.out rfl
      refine bodyPost_ret (v := .tuple #[.agg #[.int .i64 0, .int .i64 0, .int .i64 0, .int .i64 0], .agg #[.int .i64 16, .int .i64 0, .int .i64 11]]) ?_ rfl ⟨by first | exact HXA.out | exact HXA.out.drew, .inl ⟨16, by decide, rfl, .inr ⟨l, HCL.out, rfl, .inl HOK.out⟩⟩⟩
      simp [results, Tryz.results31, go_sem, a0, a1, a2, a3, a4, a5, a6]

  · have HCL := Lib.hid hcl
    have HOK := Lib.hid hok
    clear hcl hok
    simp only [flt0]
    obtain ⟨w2, hw2⟩ : ∃ w2, w2 = w1.alloc (.cells #[.int .i64 0, .int .i64 0, .int .i64 0] 56) := ⟨_, rfl⟩
    have HW2 := Lib.hid hw2
    have hbw : Below w1.heap.size w1 w2 := by rw [hw2]; exact below_alloc w1 _
    have HB2 : Hid (Below w.heap.size w w2) := below_trans HB1.out hbw
    have HS2 : Hid (w2.heap[sb]? = some (.cells #[.int .i64 0, .int .i64 0, .int .i64 0, .int .i64 0] 30 (0, 0))) := below_heap hbw (lt_of_heap HS1.out) HS1.out
    have HH2 : Hid (w2.heap[rb]? = some (.cells #[.int .i64 0, .int .i64 0, .int .i64 0] 56 (0, 0))) := below_heap hbw (lt_of_heap HH1.out) HH1.out
    have HF2 : Hid (w2.heap[w1.heap.size]? = some (.cells #[.int .i64 0, .int .i64 0, .int .i64 0] 56 (0, 0))) := by rw [hw2]; exact heap_alloc_new w1 _
    have HSF : Hid (sb ≠ w1.heap.size) := Nat.ne_of_lt (lt_of_heap HS1.out)
    have HRF : Hid (rb ≠ w1.heap.size) := Nat.ne_of_lt (lt_of_heap HH1.out)
    have HR2 := Lib.hid (HR.out.below HB2.out)
    clear hw2 hbw
    go_upto_region 4 with fail
    rw [← HW2.out]
    clear HW2 HR1 HH1 HB1 HS1
    generalize w1.heap.size = fb at *
    go_wp2_with fail
    refine (ref_at' _ w2 HR2.out (by have := HRB.out.len; omega)).mono ?_
    rintro e w3 ⟨rfl, hb3⟩
    have HBZ : Hid (Below w.heap.size w w3) := below_trans HB2.out hb3
    have HSZ : Hid (w3.heap[sb]? = some (.cells #[.int .i64 0, .int .i64 0, .int .i64 0, .int .i64 0] 30 (0, 0))) := below_heap hb3 (lt_of_heap HS2.out) HS2.out
    have HRZ : Hid (w3.heap[rb]? = some (.cells #[.int .i64 0, .int .i64 0, .int .i64 0] 56 (0, 0))) := below_heap hb3 (lt_of_heap HH2.out) HH2.out
    have HFZ : Hid (w3.heap[fb]? = some (.cells #[.int .i64 0, .int .i64 0, .int .i64 0] 56 (0, 0))) := below_heap hb3 (lt_of_heap HF2.out) HF2.out
    have HR3 := Lib.hid (HR.out.below HBZ.out)
    clear hb3 HH2 HB2 HR2 HF2 HS2
    cases hat : entAt R.L (joinB l) with
    | none =>
      have HAT := Lib.hid hat
      clear hat
      simp only [ptrV_none]
      go_wp2_with fail
      refine (ref_fault 16 w3).mono ?_
      rintro e w9 ⟨rfl, hb9⟩
      have HBZ' := Lib.hid (below_trans HBZ.out hb9)
      have HSZ' : Hid (w9.heap[sb]? = some (.cells #[.int .i64 0, .int .i64 0, .int .i64 0, .int .i64 0] 30 (0, 0))) := below_heap hb9 (lt_of_heap HSZ.out) HSZ.out
      have HRZ' : Hid (w9.heap[rb]? = some (.cells #[.int .i64 0, .int .i64 0, .int .i64 0] 56 (0, 0))) := below_heap hb9 (lt_of_heap HRZ.out) HRZ.out
      clear hb9 HBZ HSZ HRZ HFZ
      have HBZ := HBZ'
      have HSZ := HSZ'
      have HRZ := HRZ'
      clear HBZ' HSZ' HRZ'
      have s0 := cell_of (o := 0) HSZ.out rfl
      have s1 := cell_of (o := 1) HSZ.out rfl
      have s2 := cell_of (o := 2) HSZ.out rfl
      have s3 := cell_of (o := 3) HSZ.out rfl
      have sf := fun o => free_of HSZ.out o
      have g0 := cell_of (o := 0) HRZ.out rfl
      have g1 := cell_of (o := 1) HRZ.out rfl
      have g2 := cell_of (o := 2) HRZ.out rfl
      have gf := fun o => free_of HRZ.out o
      have hsr : sb ≠ rb := HNE.out
      have hrs : rb ≠ sb := HNE.out.symm
      simp only [fltV]
      go_wp2_with fail
      clear s0 s1 s2 s3 sf g0 g1 g2 gf hsr hrs
      obtain ⟨hxa, hya, hza⟩ := seven_a HBZ.out HLS.out HLR.out HNE.out HSZ.out HRZ.out (.int .i64 0) (.int .i64 0) (.int .i64 0) (.int .i64 0) (.int .i64 16) (.int .i64 0) (.int .i64 11)
      have HXA := Lib.hid hxa
      have HYA := Lib.hid hya
      have HZA := Lib.hid hza
      clear hxa hya hza
      generalize ((((((w9.setCell ⟨sb, 0, none⟩ (.int .i64 0)).setCell ⟨sb, 1, none⟩ (.int .i64 0)).setCell ⟨sb, 2, none⟩ (.int .i64 0)).setCell ⟨sb, 3, none⟩ (.int .i64 0)).setCell ⟨rb, 0, none⟩ (.int .i64 16)).setCell ⟨rb, 1, none⟩ (.int .i64 0)).setCell ⟨rb, 2, none⟩ (.int .i64 11) = Wa at *
      have a0 := cell_of (o := 0) HYA.out rfl
      have a1 := cell_of (o := 1) HYA.out rfl
      have a2 := cell_of (o := 2) HYA.out rfl
      have a3 := cell_of (o := 3) HYA.out rfl
      have a4 := cell_of (o := 0) HZA.out rfl
      have a5 := cell_of (o := 1) HZA.out rfl
      have a6 := cell_of (o := 2) HZA.out rfl
      refine bodyPost_ret (v := .tuple #[.agg #[.int .i64 0, .int .i64 0, .int .i64 0, .int .i64 0], .agg #[.int .i64 16, .int .i64 0, .int .i64 11]]) ?_ rfl ⟨by first | exact HXA.out | exact HXA.out.drew, .inl ⟨16, by decide, rfl, .inr ⟨l, HCL.out, rfl, .inr ⟨HOK.out, HAT.out⟩⟩⟩⟩
      simp [results, Tryz.results31, go_sem, a0, a1, a2, a3, a4, a5, a6]
    | some k => exact (HNO.out l k HCL.out HOK.out hat).elim
end Go.Proofs.YtjhojohjegkinaaGreatDoor
