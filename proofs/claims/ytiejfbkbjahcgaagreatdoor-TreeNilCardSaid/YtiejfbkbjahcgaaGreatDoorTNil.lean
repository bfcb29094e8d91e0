/-
  A tree, an open file that there isn't: their calls; the law TreeNil.
-/
import Derived.Test.YtiejfbkbjahcgaaGreatDoorMkdir
import Derived.Test.YtiejfbkbjahcgaaGreatDoorTell
import Derived.Test.YtiejfbkbjahcgaaGreatDoorAwake16
import Derived.Deep.RegionHeld3
namespace Go.Proofs.YtiejfbkbjahcgaaGreatDoor
open Go Go.RowKit

/-- What a call leaves that hands back values and an error of tree's of code 1. -/
def FArgNo (E : Nat → Addr) (w : World) (f : Value → Value) (e : Ending) (w' : World) : Prop :=
  ∃ a, e = .returned (f (failV a)) ∧ Failed E w.heap.size w' a 1 ∧ Below w.heap.size w w'

set_option maxRecDepth 100000 in
set_option maxHeartbeats 1000000 in
theorem find_nil {E : Nat → Addr} {B : Nat} (p : ByteArray) (w : World) (hE : Env E B w) :
    Calls Tryz.prog 73 #[.pointer none, .string p] w fun e w' => FArgNo E w (fun x => .tuple #[spotV spot0, x]) e w' := by
  have HE := Lib.hid hE
  clear hE
  have HB0 := Lib.hid (below_alloc w (.cells #[.pointer none, .string ByteArray.empty, .pointer none] 141))
  have HH0 := Lib.hid (heap_alloc_new w (.cells #[.pointer none, .string ByteArray.empty, .pointer none] 141))
  go_enter Tryz.func73, Tryz.ntmps73
  go_wp2_with fail
  refine (tree_fail _ (HE.out.below HB0.out) 1 (by unfold Used; omega)).mono ?_
  rintro e w2 ⟨a, rfl, hfail, hb2⟩
  have HF := Lib.hid (hfail.mono HB0.out.size)
  have HB2 := Lib.hid (below_trans HB0.out hb2)
  have HR2 : Hid (w2.heap[w.heap.size]? = some (.cells #[.pointer none, .string ByteArray.empty, .pointer none] 141 (0, 0))) := below_heap hb2 (lt_of_heap HH0.out) HH0.out
  have HF1 : Hid (∃ L, w.heap.size < L ∧ Failed E L w2 a 1) := ⟨_, lt_of_heap HH0.out, hfail⟩
  clear hfail hb2
  have g0 : w2.cell? ⟨w.heap.size, 0, none⟩ = some (.pointer none) := cell_of HR2.out rfl
  have g1 : w2.cell? ⟨w.heap.size, 1, none⟩ = some (.string ByteArray.empty) := cell_of HR2.out rfl
  have g2 : w2.cell? ⟨w.heap.size, 2, none⟩ = some (.pointer none) := cell_of HR2.out rfl
  have f0 : ∀ o, w2.frozen? ⟨w.heap.size, o, none⟩ = false := fun o => free_of HR2.out o
  go_wp2_with fail
  have HW : Hid (Kept (fun b => b = w.heap.size) w2 (((w2.setCell ⟨w.heap.size, 0, none⟩ (.pointer none)).setCell ⟨w.heap.size, 1, none⟩ (.string ⟨#[]⟩)).setCell ⟨w.heap.size, 2, none⟩ (.pointer none))) :=
    three_sets w2 w.heap.size _ _ _
  refine bodyPost_ret (v := .tuple #[spotV spot0, failV a]) ?_ rfl ?_
  · simp [results, Tryz.results73, go_sem, g0, g1, g2, spotV, spot0, ptrV]
    rfl
  · obtain ⟨L, hL, hf⟩ := HF1.out
    exact ⟨a, rfl, (hf.kept HW.out (fun b hb => by omega)).mono (by omega), HB2.out.trans (HW.out.below (fun b hb => by omega) HB2.out.size)⟩


set_option maxRecDepth 100000 in
theorem tfile_nil {E : Nat → Addr} {B : Nat} (p : ByteArray) (w : World) (hE : Env E B w) :
    Calls Tryz.prog 77 #[.pointer none, .string p] w fun e w' => FArgNo E w (fun x => .tuple #[.pointer none, x]) e w' := by
  have HF := Lib.hid (find_nil p w hE)
  clear hE
  go_enter Tryz.func77, Tryz.ntmps77
  go_wp2_with fail
  refine HF.out.mono ?_
  rintro e w1 ⟨a, rfl, hfl, hb⟩
  have HX : Hid (∀ o, FArgNo E w (fun x => .tuple #[.pointer none, x]) (.returned ((fun x => .tuple #[.pointer none, x]) (failV a))) (w1.alloc o)) := fun o => ⟨a, rfl, hfl.below (below_alloc w1 _), below_trans hb (below_alloc w1 _)⟩
  clear hfl hb
  simp only [spotV, spot0, ptrV_none]
  go_wp2_with fail
  go_ret2
  exact HX.out _


set_option maxRecDepth 100000 in
theorem tmkdir_nil {E : Nat → Addr} {B : Nat} (p : ByteArray) (w : World) (hE : Env E B w) :
    Calls Tryz.prog 22 #[.pointer none, .string p] w fun e w' => FArgNo E w (fun x => x) e w' := by
  have HF := Lib.hid (find_nil p w hE)
  clear hE
  go_enter Tryz.func22, Tryz.ntmps22
  go_wp2_with fail
  refine HF.out.mono ?_
  rintro e w1 ⟨a, rfl, hfl, hb⟩
  have HX : Hid (∀ o, FArgNo E w (fun x => x) (.returned ((fun x => x) (failV a))) (w1.alloc o)) := fun o => ⟨a, rfl, hfl.below (below_alloc w1 _), below_trans hb (below_alloc w1 _)⟩
  clear hfl hb
  simp only [spotV, spot0, ptrV_none]
  go_wp2_with fail
  go_ret
  exact HX.out _


set_option maxRecDepth 100000 in
theorem tread_nil {E : Nat → Addr} {B : Nat} (p : ByteArray) (w : World) (hE : Env E B w) :
    Calls Tryz.prog 25 #[.pointer none, .string p] w fun e w' => FArgNo E w (fun x => .tuple #[.slice none 0 0, x]) e w' := by
  have HF := Lib.hid (tfile_nil p w hE)
  clear hE
  go_enter Tryz.func25, Tryz.ntmps25
  go_wp2_with fail
  refine HF.out.mono ?_
  rintro e w1 ⟨a, rfl, hfl, hb⟩
  have HX : Hid (FArgNo E w (fun x => .tuple #[.slice none 0 0, x]) (.returned ((fun x => .tuple #[.slice none 0 0, x]) (failV a))) w1) := ⟨a, rfl, hfl, hb⟩
  clear hfl hb
  go_wp2_with fail
  go_ret2
  exact HX.out

set_option maxRecDepth 100000 in
theorem topen_nil {E : Nat → Addr} {B : Nat} (p : ByteArray) (way : Int) (w : World) (hE : Env E B w) :
    Calls Tryz.prog 28 #[.pointer none, .string p, .int .i64 way] w fun e w' => FArgNo E w (fun x => .tuple #[.pointer none, x]) e w' := by
  have HE := Lib.hid hE
  clear hE
  go_enter Tryz.func28, Tryz.ntmps28
  go_wp2_with fail
  refine (tree_fail _ HE.out 1 (by unfold Used; omega)).mono ?_
  rintro e w2 ⟨a, rfl, hf, hb⟩
  have HX : Hid (FArgNo E w (fun x => .tuple #[.pointer none, x]) (.returned ((fun x => .tuple #[.pointer none, x]) (failV a))) w2) := ⟨a, rfl, hf, hb⟩
  clear hf hb
  go_wp2_with fail
  go_ret2
  exact HX.out

set_option maxRecDepth 100000 in
theorem writeAt_nil {E : Nat → Addr} {B : Nat} (w : World) (hE : Env E B w) :
    Calls Tryz.prog 33 #[.pointer none, .int .i64 0, .slice none 0 0] w fun e w' => FArgNo E w (fun x => x) e w' := by
  have HE := Lib.hid hE
  clear hE
  go_enter Tryz.func33, Tryz.ntmps33
  go_wp2_with fail
  refine (tree_fail _ HE.out 1 (by unfold Used; omega)).mono ?_
  rintro e w2 ⟨a, rfl, hf, hb⟩
  have HX : Hid (FArgNo E w (fun x => x) (.returned ((fun x => x) (failV a))) w2) := ⟨a, rfl, hf, hb⟩
  clear hf hb
  go_wp2_with fail
  go_ret
  exact HX.out

theorem ttext_nil (w : World) : Calls Tryz.prog 16 #[.pointer none] w fun e w' => e = .returned (.string ⟨#[]⟩) ∧ w' = w := by
  go_enter Tryz.func16, Tryz.ntmps16
  go_wp2_with fail
  go_ret
  exact ⟨rfl, rfl⟩

theorem tnow_nil (w : World) : Calls Tryz.prog 17 #[.pointer none] w fun e w' => e = .returned (.int .i64 0) ∧ w' = w := by
  go_enter Tryz.func17, Tryz.ntmps17
  go_wp2_with fail
  go_ret
  exact ⟨rfl, rfl⟩

theorem tcopy_nil (w : World) : Calls Tryz.prog 30 #[.pointer none] w fun e w' => e = .returned (.pointer none) ∧ w' = w := by
  go_enter Tryz.func30, Tryz.ntmps30
  go_wp2_with fail
  go_ret
  exact ⟨rfl, rfl⟩

theorem fsize_nil (w : World) : Calls Tryz.prog 31 #[.pointer none] w fun e w' => e = .returned (.int .i64 0) ∧ w' = w := by
  go_enter Tryz.func31, Tryz.ntmps31
  go_wp2_with fail
  go_ret
  exact ⟨rfl, rfl⟩

theorem fread_nil (w : World) : Calls Tryz.prog 32 #[.pointer none, .int .i64 0, .int .i64 5] w fun e w' => e = .returned (.slice none 0 0) ∧ w' = w := by
  go_enter Tryz.func32, Tryz.ntmps32
  go_wp2_with fail
  go_ret
  exact ⟨rfl, rfl⟩


/-- The law's Fault, and what is kept while its calls are made. -/
def NS (E : Nat → Addr) (w0 : World) (b a1 a2 : Nat) (W : World) : Prop :=
  W.cell? ⟨b, 0, none⟩ = some (.int .i64 1) ∧ W.cell? ⟨b, 1, none⟩ = some (.int .i64 0) ∧ W.cell? ⟨b, 2, none⟩ = some (.int .i64 11) ∧ Hid (Below w0.heap.size w0 W) ∧ Hid (∃ L, Failed E L W a1 1) ∧ Hid (∃ L, Failed E L W a2 1)
theorem NS.at {E : Nat → Addr} {w0 W : World} {b a1 a2 : Nat} (hb : w0.heap[b]? = some (.cells #[.int .i64 1, .int .i64 0, .int .i64 11] 54 (0, 0))) (h1 : ∃ L, Failed E L w0 a1 1) (h2 : ∃ L, Failed E L w0 a2 1) (h : Below w0.heap.size w0 W) : NS E w0 b a1 a2 W := by
  obtain ⟨L1, h1⟩ := h1
  obtain ⟨L2, h2⟩ := h2
  exact ⟨cell_of (below_heap h (lt_of_heap hb) hb) rfl, cell_of (below_heap h (lt_of_heap hb) hb) rfl, cell_of (below_heap h (lt_of_heap hb) hb) rfl, h, ⟨L1, h1.below h⟩, ⟨L2, h2.below h⟩⟩

set_option maxRecDepth 100000 in
set_option maxHeartbeats 4000000 in
theorem treeNil_any {E : Nat → Addr} {B : Nat} (w : World) (hE : Ctx E B w) (hY : Ety B w) (s : ByteArray) (_hs : s.size ≤ 9223372036854775807) (way : Int) (_hway : -9223372036854775808 ≤ way ∧ way ≤ 9223372036854775807) :
    Calls Tryz.prog 6 #[.string s, .int .i64 way] w fun e w' => AwPost w e w' := by
  have HE := Lib.hid hE
  have HY := Lib.hid hY
  clear hE hY
  have heq : ∀ w' : World, (binOp .eql 54 (.agg #[.int .i64 1, .int .i64 0, .int .i64 11]) (.agg #[.int .i64 1, .int .i64 0, .int .i64 11])).run Tryz.prog w' = .ok (.bool true) w' := fun w' => by kernel_rfl
  have hnp : ∀ w' : World, (binOp .eql 23 (.pointer none) (.pointer none)).run Tryz.prog w' = .ok (.bool true) w' := fun w' => by kernel_rfl
  go_enter Tryz.func6, Tryz.ntmps6
  go_wp2_with fail
  refine (tread_nil s w HE.out.env).mono ?_
  rintro e w1 ⟨a1, rfl, hf1, hb1⟩
  have HF1 := Lib.hid hf1
  have HB1 := Lib.hid hb1
  clear hf1 hb1
  go_wp2_with fail
  refine (topen_nil s way w1 (HE.out.env.below HB1.out)).mono ?_
  rintro e w2 ⟨a2, rfl, hf2, hb2⟩
  have HF2 := Lib.hid hf2
  have HF12 := Lib.hid (HF1.out.below hb2)
  have HB2 := Lib.hid (below_trans HB1.out hb2)
  clear hf2 hb2 HF1 HB1
  go_wp2_with fail
  have HB3 := Lib.hid (below_trans HB2.out (below_alloc w2 (.cells #[.int .i64 1, .int .i64 0, .int .i64 11] 54)))
  have HH3 := Lib.hid (heap_alloc_new w2 (.cells #[.int .i64 1, .int .i64 0, .int .i64 11] 54))
  have HG1 := Lib.hid (HF12.out.below (below_alloc w2 (.cells #[.int .i64 1, .int .i64 0, .int .i64 11] 54)))
  have HG2 := Lib.hid (HF2.out.below (below_alloc w2 (.cells #[.int .i64 1, .int .i64 0, .int .i64 11] 54)))
  clear HF12 HF2 HB2
  generalize w2.alloc (.cells #[.int .i64 1, .int .i64 0, .int .i64 11] 54) = W0 at *
  generalize w2.heap.size = b at *
  have HX := Lib.hid (fun (W : World) (hW : Hid (Below W0.heap.size W0 W)) => HE.out.below (below_trans HB3.out hW.out))
  have HZ := Lib.hid (fun (W : World) (hW : Hid (Below W0.heap.size W0 W)) => HY.out.below (below_trans HB3.out hW.out))
  have HNS := Lib.hid (fun (W : World) (hW : Below W0.heap.size W0 W) => NS.at (E := E) HH3.out ⟨_, HG1.out⟩ ⟨_, HG2.out⟩ hW)
  have HT3 : Hid (∀ W a, Hid (Below W0.heap.size W0 W) → Hid (∃ L, Failed E L W a 1) → Calls Tryz.prog 29 #[failV a] W fun e w' => e = .returned (.agg #[.int .i64 1, .int .i64 0, .int .i64 11]) ∧ NS E W0 b a1 a2 w') := fun W a hW hF => by
    obtain ⟨L, hF⟩ := hF.out
    exact (tell_failed W (HX.out W hW).env (HZ.out W hW) a 1 (by omega) (by omega) hF).mono fun e w' ⟨he, hb⟩ => ⟨he, HNS.out _ (below_trans hW.out hb)⟩
  have HMK : Hid (∀ W, Hid (Below W0.heap.size W0 W) → Calls Tryz.prog 22 #[.pointer none, .string s] W fun e w' => (∃ a, e = .returned (failV a) ∧ Hid (∃ L, Failed E L w' a 1)) ∧ NS E W0 b a1 a2 w') := fun W hW =>
    (tmkdir_nil s W (HX.out W hW).env).mono fun e w' ⟨a, he, hf, hb⟩ => ⟨⟨a, he, _, hf⟩, HNS.out _ (below_trans hW.out hb)⟩
  have HWA : Hid (∀ W, Hid (Below W0.heap.size W0 W) → Calls Tryz.prog 33 #[.pointer none, .int .i64 0, .slice none 0 0] W fun e w' => (∃ a, e = .returned (failV a) ∧ Hid (∃ L, Failed E L w' a 1)) ∧ NS E W0 b a1 a2 w') := fun W hW =>
    (writeAt_nil W (HX.out W hW).env).mono fun e w' ⟨a, he, hf, hb⟩ => ⟨⟨a, he, _, hf⟩, HNS.out _ (below_trans hW.out hb)⟩
  have HAW : Hid (∀ W, Hid (Below W0.heap.size W0 W) → Calls Tryz.prog 19 #[] W fun e w' => e = .returned (.bool true) ∧ NS E W0 b a1 a2 w') := fun W hW =>
    (awake16_any W (HX.out W hW)).mono fun e w' ⟨he, hb⟩ => ⟨he, HNS.out _ (below_trans hW.out hb)⟩
  obtain ⟨d0, d1, d2, d3, d4, d5⟩ := HNS.out W0.drew (Below.refl _ _).drew
  clear HH3 HG1 HG2 HX HZ HNS
  unfold NS at HT3 HMK HWA HAW
  go_region_held3 (fun W => W.cell? ⟨b, 0, none⟩ = some (.int .i64 1) ∧ W.cell? ⟨b, 1, none⟩ = some (.int .i64 0) ∧ W.cell? ⟨b, 2, none⟩ = some (.int .i64 11) ∧ Hid (Below W0.heap.size W0 W) ∧ Hid (∃ L, Failed E L W a1 1) ∧ Hid (∃ L, Failed E L W a2 1)) (first | exact ⟨d0, d1, d2, d3, d4, d5⟩ | exact ⟨by assumption, by assumption, by assumption, by assumption, by assumption, by assumption⟩)
    (first
      | (go_at_call 29; refine (HT3.out _ _ ?_ ?_).mono ?_; assumption; assumption; rintro e w' ⟨rfl, c0, c1, c2, hb, hc, hd⟩)
      | (go_at_call 22; refine (HMK.out _ ?_).mono ?_; assumption; rintro e w' ⟨⟨a, rfl, hf⟩, c0, c1, c2, hb, hc, hd⟩)
      | (go_at_call 33; refine (HWA.out _ ?_).mono ?_; assumption; rintro e w' ⟨⟨a, rfl, hf⟩, c0, c1, c2, hb, hc, hd⟩)
      | (go_at_call 19; refine (HAW.out _ ?_).mono ?_; assumption; rintro e w' ⟨rfl, c0, c1, c2, hb, hc, hd⟩)
      | (go_at_call 16; refine (ttext_nil _).mono ?_; rintro e w' ⟨rfl, rfl⟩)
      | (go_at_call 17; refine (tnow_nil _).mono ?_; rintro e w' ⟨rfl, rfl⟩)
      | (go_at_call 30; refine (tcopy_nil _).mono ?_; rintro e w' ⟨rfl, rfl⟩)
      | (go_at_call 31; refine (fsize_nil _).mono ?_; rintro e w' ⟨rfl, rfl⟩)
      | (go_at_call 32; refine (fread_nil _).mono ?_; rintro e w' ⟨rfl, rfl⟩))
  all_goals
    have hz : Hid (Below W0.heap.size W0 w') := by assumption
    have HZZ := Lib.hid (below_trans HB3.out hz.out)
    clear hz
    go_wp2_with fail
    go_ret
    exact ⟨rfl, HZZ.out⟩
end Go.Proofs.YtiejfbkbjahcgaaGreatDoor
