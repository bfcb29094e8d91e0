/-
  The document's Stat of a directory.
-/
import Derived.Test.YtjhojohjegkinaaGreatDoorRStatE
import Derived.Deep.RegionHeld3
namespace Go.Proofs.YtjhojohjegkinaaGreatDoor
open Go Go.RowKit

/-- The four blocks that Stat looks at. -/
structure SX (w : World) (sb rb fb k : Nat) (nd : Array Value) (W : World) : Prop where
  below : Below w.heap.size w W
  s : W.heap[sb]? = some (.cells #[.int .i64 0, .int .i64 0, .int .i64 0, .int .i64 0] 30 (0, 0))
  r : W.heap[rb]? = some (.cells #[.int .i64 0, .int .i64 0, .int .i64 0] 56 (0, 0))
  f : W.heap[fb]? = some (.cells #[.int .i64 0, .int .i64 0, .int .i64 0] 56 (0, 0))
  n : W.heap[k]? = some (.cells nd 86 (0, 0))
theorem SX.next {w W W' : World} {sb rb fb k : Nat} {nd : Array Value} (h : SX w sb rb fb k nd W) (hb : Below W.heap.size W W') : SX w sb rb fb k nd W' :=
  ⟨below_trans h.below hb, below_heap hb (lt_of_heap h.s) h.s, below_heap hb (lt_of_heap h.r) h.r, below_heap hb (lt_of_heap h.f) h.f, below_heap hb (lt_of_heap h.n) h.n⟩
theorem SX.drew {w W : World} {sb rb fb k : Nat} {nd : Array Value} (h : SX w sb rb fb k nd W) : SX w sb rb fb k nd W.drew := h.next (Below.refl _ _).drew
theorem SX.set5 {w W : World} {sb rb fb k : Nat} {nd : Array Value} (h : SX w sb rb fb k nd W) (hr : w.heap.size ≤ rb) (h1 : rb ≠ sb) (h2 : rb ≠ fb) (h3 : rb ≠ k) : SX w sb rb fb k nd (((W.setCell ⟨rb, 0, none⟩ (.int .i64 0)).setCell ⟨rb, 1, none⟩ (.int .i64 0)).setCell ⟨rb, 2, none⟩ (.int .i64 0)) := by
  have kp := ((((Kept.refl (fun b => b = rb) W).setCell (p := ⟨rb, 0, none⟩) (.inl rfl) (.int .i64 0)).setCell (p := ⟨rb, 1, none⟩) (.inl rfl) (.int .i64 0)).setCell (p := ⟨rb, 2, none⟩) (.inl rfl) (.int .i64 0))
  exact ⟨h.below.trans (kp.below (B := w.heap.size) (fun b hb => by omega) h.below.size),
    set_ne (Ne.symm h1) (set_ne (Ne.symm h1) (set_ne (Ne.symm h1) h.s 0 _) 1 _) 2 _,
    heap_set_same (heap_set_same (heap_set_same h.r 0 _) 1 _) 2 _,
    set_ne (Ne.symm h2) (set_ne (Ne.symm h2) (set_ne (Ne.symm h2) h.f 0 _) 1 _) 2 _,
    set_ne (Ne.symm h3) (set_ne (Ne.symm h3) (set_ne (Ne.symm h3) h.n 0 _) 1 _) 2 _⟩
section
variable {w W : World} {sb rb fb k : Nat} {nd : Array Value} (h : SX w sb rb fb k nd W) (h1 : w.heap.size ≤ sb) (h2 : w.heap.size ≤ rb) (x y z u p q r : Value)
include h h1
theorem SX.fin3 : Below w.heap.size w ((((W.setCell ⟨sb, 0, none⟩ x).setCell ⟨sb, 1, none⟩ y).setCell ⟨sb, 2, none⟩ z).setCell ⟨sb, 3, none⟩ u) :=
  h.below.trans ((((((Kept.refl (fun b => b = sb) W).setCell (p := ⟨sb, 0, none⟩) (.inl rfl) x).setCell (p := ⟨sb, 1, none⟩) (.inl rfl) y).setCell (p := ⟨sb, 2, none⟩) (.inl rfl) z).setCell (p := ⟨sb, 3, none⟩) (.inl rfl) u).below (B := w.heap.size) (fun b hb => by omega) h.below.size)
include h2
theorem SX.fin : Below w.heap.size w (((((((W.setCell ⟨sb, 0, none⟩ x).setCell ⟨sb, 1, none⟩ y).setCell ⟨sb, 2, none⟩ z).setCell ⟨sb, 3, none⟩ u).setCell ⟨rb, 0, none⟩ p).setCell ⟨rb, 1, none⟩ q).setCell ⟨rb, 2, none⟩ r) :=
  h.below.trans ((((((((Kept.refl (fun b => b = sb ∨ b = rb) W).setCell (p := ⟨sb, 0, none⟩) (.inl (.inl rfl)) x).setCell (p := ⟨sb, 1, none⟩) (.inl (.inl rfl)) y).setCell (p := ⟨sb, 2, none⟩) (.inl (.inl rfl)) z).setCell (p := ⟨sb, 3, none⟩) (.inl (.inl rfl)) u).setCell (p := ⟨rb, 0, none⟩) (.inl (.inr rfl)) p).setCell (p := ⟨rb, 1, none⟩) (.inl (.inr rfl)) q).setCell (p := ⟨rb, 2, none⟩) (.inl (.inr rfl)) r |>.below (B := w.heap.size) (fun b hb => by omega) h.below.size)
theorem SX.fin2 : Below w.heap.size w (((((((W.setCell ⟨rb, 0, none⟩ p).setCell ⟨rb, 1, none⟩ q).setCell ⟨rb, 2, none⟩ r).setCell ⟨sb, 0, none⟩ x).setCell ⟨sb, 1, none⟩ y).setCell ⟨sb, 2, none⟩ z).setCell ⟨sb, 3, none⟩ u) :=
  h.below.trans ((((((((Kept.refl (fun b => b = sb ∨ b = rb) W).setCell (p := ⟨rb, 0, none⟩) (.inl (.inr rfl)) p).setCell (p := ⟨rb, 1, none⟩) (.inl (.inr rfl)) q).setCell (p := ⟨rb, 2, none⟩) (.inl (.inr rfl)) r).setCell (p := ⟨sb, 0, none⟩) (.inl (.inl rfl)) x).setCell (p := ⟨sb, 1, none⟩) (.inl (.inl rfl)) y).setCell (p := ⟨sb, 2, none⟩) (.inl (.inl rfl)) z).setCell (p := ⟨sb, 3, none⟩) (.inl (.inl rfl)) u |>.below (B := w.heap.size) (fun b hb => by omega) h.below.size)
end

set_option maxRecDepth 100000 in
set_option maxHeartbeats 4000000 in
theorem ref_stat_dir {B : Nat} {R : RT} (s : ByteArray) (w : World) (hR : RRep B w R) (hb : RB R) (hsz : s.size ≤ 9223372036854775807) {l : List ByteArray} {k : Nat} {d : RNd} (hcl : clean s = some l) (hok : R.okDirs l) (hat : entAt R.L (joinB l) = some k) (hd : R.nd k = some d) (hdir : d.dir = true) :
    Calls Tryz.prog 31 #[.pointer (some ⟨R.tb, 0, none⟩), .string s] w fun e w' => RStatPost w R s e w' := by
  have HCL := Lib.hid hcl
  have HOK := Lib.hid hok
  have HAT := Lib.hid hat
  have HD := Lib.hid hd
  have HDIR := Lib.hid hdir
  clear hcl hok hat hd hdir
  have HR := Lib.hid hR
  have HRB := Lib.hid hb
  obtain ⟨w0, hw0⟩ : ∃ w0, w0 = (w.alloc (.cells #[.int .i64 0, .int .i64 0, .int .i64 0, .int .i64 0] 30)).alloc (.cells #[.int .i64 0, .int .i64 0, .int .i64 0] 56) := ⟨_, rfl⟩
  have HW0 := Lib.hid hw0
  have HB0 : Hid (Below w.heap.size w w0) := by rw [hw0]; exact below_two w _ _
  have hsz1 : (w.alloc (.cells #[.int .i64 0, .int .i64 0, .int .i64 0, .int .i64 0] 30)).heap.size = w.heap.size + 1 := by simp
  have HS0 : Hid (w0.heap[w.heap.size]? = some (.cells #[.int .i64 0, .int .i64 0, .int .i64 0, .int .i64 0] 30 (0, 0))) := by
    rw [hw0]
    exact (Below.heap_alloc _ _ _ (by rw [hsz1]; exact Nat.lt_succ_self _)).trans (heap_alloc_new w _)
  have HH0 : Hid (w0.heap[w.heap.size + 1]? = some (.cells #[.int .i64 0, .int .i64 0, .int .i64 0] 56 (0, 0))) := by
    rw [hw0, ← hsz1]
    exact heap_alloc_new _ _
  clear hR hb hw0 hsz1
  go_enter Tryz.func31, Tryz.ntmps31
  go_upto_region 1 with fail
  rw [← HW0.out]
  clear HW0
  have HLS : Hid (w.heap.size ≤ w.heap.size) := Nat.le_refl _
  have HLR : Hid (w.heap.size ≤ w.heap.size + 1) := Nat.le_succ _
  have HNE : Hid (w.heap.size ≠ w.heap.size + 1) := Nat.ne_of_lt (Nat.lt_succ_self _)
  generalize hrb : w.heap.size + 1 = rb at *
  obtain ⟨sb, hsb⟩ : ∃ sb, sb = w.heap.size := ⟨_, rfl⟩
  have HSB := Lib.hid hsb
  have HS0' : Hid (w0.heap[sb]? = some (.cells #[.int .i64 0, .int .i64 0, .int .i64 0, .int .i64 0] 30 (0, 0))) := by rw [hsb]; exact HS0.out
  have HLS' : Hid (w.heap.size ≤ sb) := by rw [hsb]; exact Nat.le_refl _
  have HNE' : Hid (sb ≠ rb) := by rw [hsb]; exact HNE.out
  rw [← hsb]
  clear HS0 HLS HNE hrb hsb
  have HLS := HLS'
  have HNE := HNE'
  have HS0 := HS0'
  clear HLS' HNE' HS0'
  go_wp2_with fail
  refine (ref_place s w0 (HR.out.below HB0.out) (by have := HRB.out.len; omega) hsz).mono ?_
  intro e w1 hp
  obtain ⟨hb1, hp⟩ := hp
  have HB1 := Lib.hid (below_trans HB0.out hb1)
  have HS1 : Hid (w1.heap[sb]? = some (.cells #[.int .i64 0, .int .i64 0, .int .i64 0, .int .i64 0] 30 (0, 0))) := below_heap hb1 (lt_of_heap HS0.out) HS0.out
  have HH1 : Hid (w1.heap[rb]? = some (.cells #[.int .i64 0, .int .i64 0, .int .i64 0] 56 (0, 0))) := below_heap hb1 (lt_of_heap HH0.out) HH0.out
  have HR1 := Lib.hid (HR.out.below HB1.out)
  clear hb1 HS0 HH0 HB0
  rcases hp with ⟨hcl, rfl⟩ | ⟨l2, hcl, hok, rfl⟩ | ⟨l2, hcl, hok, rfl⟩
  · have := hcl.symm.trans HCL.out; cases this
  · have h2 := hcl.symm.trans HCL.out; cases h2; exact absurd HOK.out hok
  · have h2 := hcl.symm.trans HCL.out
    cases h2
    clear hcl hok
    simp only [flt0]
    obtain ⟨w2, hw2⟩ : ∃ w2, w2 = w1.alloc (.cells #[.int .i64 0, .int .i64 0, .int .i64 0] 56) := ⟨_, rfl⟩
    have HW2 := Lib.hid hw2
    have hbw : Below w1.heap.size w1 w2 := by rw [hw2]; exact below_alloc w1 _
    have HB2 : Hid (Below w.heap.size w w2) := below_trans HB1.out hbw
    have HS2 : Hid (w2.heap[sb]? = some (.cells #[.int .i64 0, .int .i64 0, .int .i64 0, .int .i64 0] 30 (0, 0))) := below_heap hbw (lt_of_heap HS1.out) HS1.out
    have HH2 : Hid (w2.heap[rb]? = some (.cells #[.int .i64 0, .int .i64 0, .int .i64 0] 56 (0, 0))) := below_heap hbw (lt_of_heap HH1.out) HH1.out
    have HF2 : Hid (w2.heap[w1.heap.size]? = some (.cells #[.int .i64 0, .int .i64 0, .int .i64 0] 56 (0, 0))) := by rw [hw2]; exact heap_alloc_new w1 _
    have HSF : Hid (sb ≠ w1.heap.size) := Nat.ne_of_lt (lt_of_heap HS1.out)
    have HRF : Hid (rb ≠ w1.heap.size) := Nat.ne_of_lt (lt_of_heap HH1.out)
    have HR2 := Lib.hid (HR.out.below HB2.out)
    clear hw2 hbw
    go_upto_region 4 with fail
    rw [← HW2.out]
    clear HW2 HR1 HH1 HB1 HS1
    generalize w1.heap.size = fb at *
    go_wp2_with fail
    refine (ref_at' _ w2 HR2.out (by have := HRB.out.len; omega)).mono ?_
    rintro e w3 ⟨rfl, hb3⟩
    have HBZ : Hid (Below w.heap.size w w3) := below_trans HB2.out hb3
    have HSZ : Hid (w3.heap[sb]? = some (.cells #[.int .i64 0, .int .i64 0, .int .i64 0, .int .i64 0] 30 (0, 0))) := below_heap hb3 (lt_of_heap HS2.out) HS2.out
    have HRZ : Hid (w3.heap[rb]? = some (.cells #[.int .i64 0, .int .i64 0, .int .i64 0] 56 (0, 0))) := below_heap hb3 (lt_of_heap HH2.out) HH2.out
    have HFZ : Hid (w3.heap[fb]? = some (.cells #[.int .i64 0, .int .i64 0, .int .i64 0] 56 (0, 0))) := below_heap hb3 (lt_of_heap HF2.out) HF2.out
    have HR3 := Lib.hid (HR.out.below HBZ.out)
    clear hb3 HH2 HB2 HR2 HF2 HS2
    rw [HAT.out]
    obtain ⟨da, dc, hdv⟩ := owns_form (HR3.out.node k d HD.out).2
    have hnd := (HR3.out.node k d HD.out).1
    simp only [ptrV_some]
    rw [HDIR.out] at hnd
    clear hdv
    have HSV : Hid (rStatV R (joinB l) k d = .agg #[.int .i64 2, .int .i64 (kidsOf R.L (joinB l)).length, .int .i64 1, .int .i64 d.tick]) := by show _ = _; unfold rStatV; rw [HDIR.out]; rfl
    have HPL : Hid ((mkB (joinB l)).size ≤ 100000) := by
      have h1 := HRB.out.paths _ (entAt_mem HAT.out)
      show (joinB l).toArray.size ≤ _
      rw [List.size_toArray]
      exact h1
    have HX : Hid (SX w sb rb fb k #[.bool true, d.dv, .int .i64 d.tick] w3) := ⟨HBZ.out, HSZ.out, HRZ.out, HFZ.out, hnd⟩
    have HKD : Hid (∀ W, SX w sb rb fb k #[.bool true, d.dv, .int .i64 d.tick] W → Calls Tryz.prog 79 #[.pointer (some ⟨R.tb, 0, none⟩), .string ⟨(joinB l).toArray⟩] W fun e W' => (∃ va vc, e = .returned (.slice va (kidsOf R.L (joinB l)).length vc)) ∧ W'.cell? ⟨fb, 0, none⟩ = some (.int .i64 0) ∧ W'.cell? ⟨fb, 1, none⟩ = some (.int .i64 0) ∧ W'.cell? ⟨fb, 2, none⟩ = some (.int .i64 0) ∧ W'.cell? ⟨k, 2, none⟩ = some (.int .i64 d.tick) ∧ Hid (SX w sb rb fb k #[.bool true, d.dv, .int .i64 d.tick] W')) := fun W hW => by
      have h := ref_kids (mkB (joinB l)) W (HR.out.below hW.below) (by have := HRB.out.len; omega) HRB.out.paths HPL.out
      rw [bl_mkB] at h
      refine h.mono fun e W' ⟨hbk, v, he, hrow⟩ => ?_
      obtain ⟨va, vc, rfl⟩ := owns_form hrow.1
      have hx := hW.next hbk
      exact ⟨⟨va, vc, he⟩, cell_of hx.f rfl, cell_of hx.f rfl, cell_of hx.f rfl, cell_of hx.n rfl, hx⟩
    clear hnd HBZ HSZ HRZ HFZ HR3
    have k0 := cell_of (o := 0) HX.out.n rfl
    have k2 := cell_of (o := 2) HX.out.n rfl
    go_upto_region 8 with fail
    clear k0
    have f0 := cell_of (o := 0) HX.out.f rfl
    have f1 := cell_of (o := 1) HX.out.f rfl
    have f2 := cell_of (o := 2) HX.out.f rfl
    have g0 := cell_of (o := 0) HX.out.r rfl
    have g1 := cell_of (o := 1) HX.out.r rfl
    have g2 := cell_of (o := 2) HX.out.r rfl
    have gf := fun o => free_of HX.out.r o
    have n1 : rb ≠ sb := HNE.out.symm
    have n2 : sb ≠ rb := HNE.out
    have n3 : rb ≠ fb := HRF.out
    have n4 : sb ≠ fb := HSF.out
    have n5 : rb ≠ k := cells_ne_type HX.out.r HX.out.n (by decide)
    have n6 : sb ≠ k := cells_ne_type HX.out.s HX.out.n (by decide)
    have HN1 := Lib.hid n1
    have HN3 := Lib.hid n3
    have HN5 := Lib.hid n5
    go_region_held3 (fun W => W.cell? ⟨fb, 0, none⟩ = some (.int .i64 0) ∧ W.cell? ⟨fb, 1, none⟩ = some (.int .i64 0) ∧ W.cell? ⟨fb, 2, none⟩ = some (.int .i64 0) ∧ W.cell? ⟨k, 2, none⟩ = some (.int .i64 d.tick)) (first | with_reducible exact ⟨f0, f1, f2, k2⟩ | with_reducible exact ⟨by assumption, by assumption, by assumption, by assumption⟩ | go_keep)
      (first
        | (go_at_call 79; refine (HKD.out _ (by first | with_reducible exact HX.out | with_reducible exact HX.out.drew | with_reducible exact HX.out.set5 HLR.out HN1.out HN3.out HN5.out | with_reducible exact HX.out.drew.set5 HLR.out HN1.out HN3.out HN5.out)).mono ?_; rintro e w' ⟨⟨va, vc, rfl⟩, c0, c1, c2, c3, hx⟩; have s0 := cell_of (o := 0) hx.out.s rfl; have s1 := cell_of (o := 1) hx.out.s rfl; have s2 := cell_of (o := 2) hx.out.s rfl; have s3 := cell_of (o := 3) hx.out.s rfl; have sf := fun o => free_of hx.out.s o; have h0 := cell_of (o := 0) hx.out.r rfl; have h1 := cell_of (o := 1) hx.out.r rfl; have h2 := cell_of (o := 2) hx.out.r rfl; have hf := fun o => free_of hx.out.r o))
    all_goals
      have HY : Hid (SX w sb rb fb k #[.bool true, d.dv, .int .i64 d.tick] w') := by assumption
      go_wp2_with fail
      refine bodyPost_ret (v := .tuple #[.agg #[.int .i64 2, .int .i64 (kidsOf R.L (joinB l)).length, .int .i64 1, .int .i64 d.tick], .agg #[.int .i64 0, .int .i64 0, .int .i64 0]]) ?_ rfl ⟨by first | with_reducible exact HY.out.fin HLS.out HLR.out _ _ _ _ _ _ _ | with_reducible exact HY.out.fin2 HLS.out HLR.out _ _ _ _ _ _ _ | with_reducible exact HY.out.fin3 HLS.out _ _ _ _, .inr ⟨l, k, d, HCL.out, HOK.out, HAT.out, HD.out, by rw [HSV.out]; rfl⟩⟩
      simp [results, Tryz.results31, go_sem, *]
end Go.Proofs.YtjhojohjegkinaaGreatDoor
