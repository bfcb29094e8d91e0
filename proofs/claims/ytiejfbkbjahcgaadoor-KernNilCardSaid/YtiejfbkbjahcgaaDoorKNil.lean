/-
  A kern that there isn't: its calls; pidginlaw17.do; the law KernNil. (Written by wip/gen/gen_knil.py.)
-/
import Derived.Test.YtiejfbkbjahcgaaDoorTell
import Derived.Test.YtiejfbkbjahcgaaDoorAwake
import Derived.Test.YtiejfbkbjahcgaaDoorStr
namespace Go.Proofs.YtiejfbkbjahcgaaDoor
open Go Go.RowKit

theorem used_nil (fd : Int) (w : World) : Calls Tryd.prog 37 #[.pointer none, .int .i64 fd] w fun e w' => UsedPost w false e w' := by
  go_enter Tryd.func37, Tryd.ntmps37
  go_wp2_with fail
  go_ret
  exact ⟨rfl, rfl⟩
theorem ktree_nil (w : World) : Calls Tryd.prog 20 #[.pointer none] w fun e w' => e = .returned (.pointer none) ∧ w' = w := by
  go_enter Tryd.func20, Tryd.ntmps20
  go_wp2_with fail
  go_ret
  exact ⟨rfl, rfl⟩

theorem kOut_nil (w : World) : Calls Tryd.prog 33 #[.pointer none] w fun e w' => e = .returned (.slice none 0 0) ∧ w' = w := by
  go_enter Tryd.func33, Tryd.ntmps33
  go_wp2_with fail
  go_ret
  exact ⟨rfl, rfl⟩

theorem kErr_nil (w : World) : Calls Tryd.prog 34 #[.pointer none] w fun e w' => e = .returned (.slice none 0 0) ∧ w' = w := by
  go_enter Tryd.func34, Tryd.ntmps34
  go_wp2_with fail
  go_ret
  exact ⟨rfl, rfl⟩

theorem kUsed_nil (w : World) : Calls Tryd.prog 15 #[.pointer none] w fun e w' => e = .returned (.slice none 0 0) ∧ w' = w := by
  go_enter Tryd.func15, Tryd.ntmps15
  go_wp2_with fail
  go_ret
  exact ⟨rfl, rfl⟩

/-- What a call leaves that hands back values and an error of code 1. -/
def ArgNo (E : Nat → Addr) (w : World) (f : Value → Value) (e : Ending) (w' : World) : Prop :=
  ∃ a, e = .returned (f (refV a)) ∧ Refused E w.heap.size w' a 1 ∧ Below w.heap.size w w'

set_option maxRecDepth 100000 in
theorem kopen_nil {E : Nat → Addr} {B : Nat} (p : ByteArray) (way : Int) (w : World) (hE : Env E B w) :
    Calls Tryd.prog 17 #[.pointer none, .string p, .int .i64 way] w fun e w' => ArgNo E w (fun x => .tuple #[.int .i64 0, x]) e w' := by
  have HE := Lib.hid hE
  clear hE
  go_enter Tryd.func17, Tryd.ntmps17
  go_wp2_with fail
  refine (kern_fail _ HE.out 1 (by unfold Used; omega)).mono ?_
  rintro e w2 ⟨a, rfl, hf, hb⟩
  have HF : Hid (ArgNo E w (fun x => .tuple #[.int .i64 0, x]) (.returned ((fun x => .tuple #[.int .i64 0, x]) (refV a))) w2) := ⟨a, rfl, hf, hb⟩
  clear hf hb
  go_wp2_with fail
  go_ret2
  exact HF.out

set_option maxRecDepth 100000 in
theorem kpipe_nil {E : Nat → Addr} {B : Nat} (w : World) (hE : Env E B w) :
    Calls Tryd.prog 35 #[.pointer none] w fun e w' => ArgNo E w (fun x => .tuple #[.int .i64 0, .int .i64 0, x]) e w' := by
  have HE := Lib.hid hE
  clear hE
  go_enter Tryd.func35, Tryd.ntmps35
  go_wp2_with fail
  refine (kern_fail _ HE.out 1 (by unfold Used; omega)).mono ?_
  rintro e w2 ⟨a, rfl, hf, hb⟩
  have HF : Hid (ArgNo E w (fun x => .tuple #[.int .i64 0, .int .i64 0, x]) (.returned ((fun x => .tuple #[.int .i64 0, .int .i64 0, x]) (refV a))) w2) := ⟨a, rfl, hf, hb⟩
  clear hf hb
  go_wp2_with fail
  go_ret3
  exact HF.out

set_option maxRecDepth 100000 in
theorem kdup_nil {E : Nat → Addr} {B : Nat} (fd : Int) (w : World) (hE : Env E B w) :
    Calls Tryd.prog 13 #[.pointer none, .int .i64 fd] w fun e w' => ArgNo E w (fun x => .tuple #[.int .i64 0, x]) e w' := by
  have HE := Lib.hid hE
  clear hE
  go_enter Tryd.func13, Tryd.ntmps13
  go_wp2_with fail
  refine (used_nil fd w).mono ?_
  rintro e w1 ⟨rfl, rfl⟩
  go_wp2_with fail
  refine (kern_fail _ HE.out 1 (by unfold Used; omega)).mono ?_
  rintro e w2 ⟨a, rfl, hf, hb⟩
  have HF : Hid (ArgNo E w1 (fun x => .tuple #[.int .i64 0, x]) (.returned ((fun x => .tuple #[.int .i64 0, x]) (refV a))) w2) := ⟨a, rfl, hf, hb⟩
  clear hf hb
  go_wp2_with fail
  go_ret2
  exact HF.out

set_option maxRecDepth 100000 in
theorem kmove_nil {E : Nat → Addr} {B : Nat} (fd onto : Int) (w : World) (hE : Env E B w) :
    Calls Tryd.prog 18 #[.pointer none, .int .i64 fd, .int .i64 onto] w fun e w' => ArgNo E w (fun x => x) e w' := by
  have HE := Lib.hid hE
  clear hE
  go_enter Tryd.func18, Tryd.ntmps18
  go_wp2_with fail
  refine (used_nil fd w).mono ?_
  rintro e w1 ⟨rfl, rfl⟩
  go_wp2_with fail
  refine (kern_fail _ HE.out 1 (by unfold Used; omega)).mono ?_
  rintro e w2 ⟨a, rfl, hf, hb⟩
  have HF : Hid (ArgNo E w1 (fun x => x) (.returned ((fun x => x) (refV a))) w2) := ⟨a, rfl, hf, hb⟩
  clear hf hb
  go_wp2_with fail
  go_ret
  exact HF.out

set_option maxRecDepth 100000 in
theorem kclose_nil {E : Nat → Addr} {B : Nat} (fd : Int) (w : World) (hE : Env E B w) :
    Calls Tryd.prog 14 #[.pointer none, .int .i64 fd] w fun e w' => ArgNo E w (fun x => x) e w' := by
  have HE := Lib.hid hE
  clear hE
  go_enter Tryd.func14, Tryd.ntmps14
  go_wp2_with fail
  refine (used_nil fd w).mono ?_
  rintro e w1 ⟨rfl, rfl⟩
  go_wp2_with fail
  refine (kern_fail _ HE.out 1 (by unfold Used; omega)).mono ?_
  rintro e w2 ⟨a, rfl, hf, hb⟩
  have HF : Hid (ArgNo E w1 (fun x => x) (.returned ((fun x => x) (refV a))) w2) := ⟨a, rfl, hf, hb⟩
  clear hf hb
  go_wp2_with fail
  go_ret
  exact HF.out

set_option maxRecDepth 100000 in
theorem kread_nil {E : Nat → Addr} {B : Nat} (fd n : Int) (w : World) (hE : Env E B w) :
    Calls Tryd.prog 31 #[.pointer none, .int .i64 fd, .int .i64 n] w fun e w' => ArgNo E w (fun x => .tuple #[.slice none 0 0, x]) e w' := by
  have HE := Lib.hid hE
  clear hE
  go_enter Tryd.func31, Tryd.ntmps31
  go_wp2_with fail
  refine (used_nil fd w).mono ?_
  rintro e w1 ⟨rfl, rfl⟩
  go_wp2_with fail
  refine (kern_fail _ HE.out 1 (by unfold Used; omega)).mono ?_
  rintro e w2 ⟨a, rfl, hf, hb⟩
  have HF : Hid (ArgNo E w1 (fun x => .tuple #[.slice none 0 0, x]) (.returned ((fun x => .tuple #[.slice none 0 0, x]) (refV a))) w2) := ⟨a, rfl, hf, hb⟩
  clear hf hb
  go_wp2_with fail
  go_ret2
  exact HF.out

set_option maxRecDepth 100000 in
theorem kwrite_nil {E : Nat → Addr} {B : Nat} (fd : Int) (bv : Value) (w : World) (hE : Env E B w) :
    Calls Tryd.prog 19 #[.pointer none, .int .i64 fd, bv] w fun e w' => ArgNo E w (fun x => x) e w' := by
  have HE := Lib.hid hE
  clear hE
  go_enter Tryd.func19, Tryd.ntmps19
  go_wp2_with fail
  refine (used_nil fd w).mono ?_
  rintro e w1 ⟨rfl, rfl⟩
  go_wp2_with fail
  refine (kern_fail _ HE.out 1 (by unfold Used; omega)).mono ?_
  rintro e w2 ⟨a, rfl, hf, hb⟩
  have HF : Hid (ArgNo E w1 (fun x => x) (.returned ((fun x => x) (refV a))) w2) := ⟨a, rfl, hf, hb⟩
  clear hf hb
  go_wp2_with fail
  go_ret
  exact HF.out

/-- The answer that says 'argument'. -/
def argAns : Value := .agg #[.int .i64 0, .int .i64 0, .string ByteArray.empty, .int .i64 1, .int .i64 0, .int .i64 11]
def AnsPost (w : World) (v : Value) (e : Ending) (w' : World) : Prop := e = .returned v ∧ Below w.heap.size w w'
def callObj (i fd n : Int) (s : ByteArray) : Obj := .cells #[.int .i64 i, .int .i64 fd, .int .i64 n, .string s, .slice none 0 0] 72
def ansObj : Obj := .cells #[.int .i64 0, .int .i64 0, .string ByteArray.empty, .int .i64 0, .int .i64 0, .int .i64 0] 69
theorem ans_at (w : World) (o : Obj) : ((w.alloc o).alloc ansObj).heap[w.heap.size + 1]? = some (.cells #[.int .i64 0, .int .i64 0, .string ByteArray.empty, .int .i64 0, .int .i64 0, .int .i64 0] 69 (0, 0)) := by
  have h := heap_alloc_new (w.alloc o) ansObj
  have e : (w.alloc o).heap.size = w.heap.size + 1 := by simp
  rw [e] at h
  exact h
theorem six_below {w w2 : World} {b : Nat} (h : Below w.heap.size w w2) (hb : w.heap.size ≤ b) (x0 x1 x2 x3 x4 x5 : Value) :
    Below w.heap.size w ((((((w2.setCell ⟨b, 0, none⟩ x0).setCell ⟨b, 1, none⟩ x1).setCell ⟨b, 2, none⟩ x2).setCell ⟨b, 3, none⟩ x3).setCell ⟨b, 4, none⟩ x4).setCell ⟨b, 5, none⟩ x5) :=
  h.trans ((((((((Kept.refl (fun k => k = b) w2).setCell (p := ⟨b, 0, none⟩) (.inl rfl) _).setCell (p := ⟨b, 1, none⟩) (.inl rfl) _).setCell (p := ⟨b, 2, none⟩) (.inl rfl) _).setCell (p := ⟨b, 3, none⟩) (.inl rfl) _).setCell (p := ⟨b, 4, none⟩) (.inl rfl) _).setCell (p := ⟨b, 5, none⟩) (.inl rfl) _).below (B := w.heap.size) (fun k hk => by omega) h.size)

set_option maxRecDepth 100000 in
set_option maxHeartbeats 1000000 in
theorem do_nil0 {E : Nat → Addr} {B : Nat} (fd n : Int) (s : ByteArray) (w : World) (hE : Env E B w) (hY : Ety B w) :
    Calls Tryd.prog 36 #[.pointer none, .agg #[.int .i64 0, .int .i64 fd, .int .i64 n, .string s, .slice none 0 0]] w fun e w' => AnsPost w argAns e w' := by
  have HE1 : Hid (Env E B ((w.alloc (callObj 0 fd n s)).alloc ansObj)) := hE.below (below_two w _ _)
  have HY := Lib.hid hY
  have HE := Lib.hid hE
  have HA := Lib.hid (ans_at w (callObj 0 fd n s))
  have HB0 := Lib.hid (below_two w (callObj 0 fd n s) ansObj)
  clear hE hY
  go_enter Tryd.func36, Tryd.ntmps36
  go_wp2_with fail
  refine (kopen_nil s n _ HE1.out).mono ?_
  rintro e w1 ⟨a, rfl, hf, hb⟩
  have HB1 : Hid (Below w.heap.size w w1) := HB0.out.trans (hb.mono HB0.out.size)
  have HA1 : Hid (w1.heap[w.heap.size + 1]? = some (.cells #[.int .i64 0, .int .i64 0, .string ByteArray.empty, .int .i64 0, .int .i64 0, .int .i64 0] 69 (0, 0))) := below_heap hb (lt_of_heap HA.out) HA.out
  have HT := Lib.hid (fun (W : World) (hW : Below w1.heap.size w1 W) => tell_refused W (HE.out.below (below_trans HB1.out hW)) (HY.out.below (below_trans HB1.out hW)) a 1 (by omega) (by omega) (hf.below hW))
  clear hf hb HE1
  go_wp2_with fail
  refine (HT.out _ (Below.refl _ _)).mono ?_
  rintro e w2 ⟨rfl, hb2⟩
  have HB2 : Hid (Below w.heap.size w w2) := below_trans HB1.out hb2
  have HA2 : Hid (w2.heap[w.heap.size + 1]? = _) := below_heap hb2 (lt_of_heap HA1.out) HA1.out
  clear hb2
  simp only [faultV]
  have r0 := cell_of (o := 0) HA2.out rfl
  have r1 := cell_of (o := 1) HA2.out rfl
  have r2 := cell_of (o := 2) HA2.out rfl
  have r3 := cell_of (o := 3) HA2.out rfl
  have r4 := cell_of (o := 4) HA2.out rfl
  have r5 := cell_of (o := 5) HA2.out rfl
  have rf' := fun o => free_of HA2.out o
  go_wp2_with fail
  refine bodyPost_ret (v := argAns) ?_ rfl ⟨rfl, six_below HB2.out (by omega) _ _ _ _ _ _⟩
  simp [results, Tryd.results36, go_sem, r0, r1, r2, r3, r4, r5, argAns]
  rfl

set_option maxRecDepth 100000 in
set_option maxHeartbeats 1000000 in
theorem do_nil1 {E : Nat → Addr} {B : Nat} (fd n : Int) (s : ByteArray) (w : World) (hE : Env E B w) (hY : Ety B w) :
    Calls Tryd.prog 36 #[.pointer none, .agg #[.int .i64 1, .int .i64 fd, .int .i64 n, .string s, .slice none 0 0]] w fun e w' => AnsPost w argAns e w' := by
  have HE1 : Hid (Env E B ((w.alloc (callObj 1 fd n s)).alloc ansObj)) := hE.below (below_two w _ _)
  have HY := Lib.hid hY
  have HE := Lib.hid hE
  have HA := Lib.hid (ans_at w (callObj 1 fd n s))
  have HB0 := Lib.hid (below_two w (callObj 1 fd n s) ansObj)
  clear hE hY
  go_enter Tryd.func36, Tryd.ntmps36
  go_wp2_with fail
  refine (kpipe_nil _ HE1.out).mono ?_
  rintro e w1 ⟨a, rfl, hf, hb⟩
  have HB1 : Hid (Below w.heap.size w w1) := HB0.out.trans (hb.mono HB0.out.size)
  have HA1 : Hid (w1.heap[w.heap.size + 1]? = some (.cells #[.int .i64 0, .int .i64 0, .string ByteArray.empty, .int .i64 0, .int .i64 0, .int .i64 0] 69 (0, 0))) := below_heap hb (lt_of_heap HA.out) HA.out
  have HT := Lib.hid (fun (W : World) (hW : Below w1.heap.size w1 W) => tell_refused W (HE.out.below (below_trans HB1.out hW)) (HY.out.below (below_trans HB1.out hW)) a 1 (by omega) (by omega) (hf.below hW))
  clear hf hb HE1
  go_wp2_with fail
  refine (HT.out _ (Below.refl _ _)).mono ?_
  rintro e w2 ⟨rfl, hb2⟩
  have HB2 : Hid (Below w.heap.size w w2) := below_trans HB1.out hb2
  have HA2 : Hid (w2.heap[w.heap.size + 1]? = _) := below_heap hb2 (lt_of_heap HA1.out) HA1.out
  clear hb2
  simp only [faultV]
  have r0 := cell_of (o := 0) HA2.out rfl
  have r1 := cell_of (o := 1) HA2.out rfl
  have r2 := cell_of (o := 2) HA2.out rfl
  have r3 := cell_of (o := 3) HA2.out rfl
  have r4 := cell_of (o := 4) HA2.out rfl
  have r5 := cell_of (o := 5) HA2.out rfl
  have rf' := fun o => free_of HA2.out o
  go_wp2_with fail
  refine bodyPost_ret (v := argAns) ?_ rfl ⟨rfl, six_below HB2.out (by omega) _ _ _ _ _ _⟩
  simp [results, Tryd.results36, go_sem, r0, r1, r2, r3, r4, r5, argAns]
  rfl

set_option maxRecDepth 100000 in
set_option maxHeartbeats 1000000 in
theorem do_nil2 {E : Nat → Addr} {B : Nat} (fd n : Int) (s : ByteArray) (w : World) (hE : Env E B w) (hY : Ety B w) :
    Calls Tryd.prog 36 #[.pointer none, .agg #[.int .i64 2, .int .i64 fd, .int .i64 n, .string s, .slice none 0 0]] w fun e w' => AnsPost w argAns e w' := by
  have HE1 : Hid (Env E B ((w.alloc (callObj 2 fd n s)).alloc ansObj)) := hE.below (below_two w _ _)
  have HY := Lib.hid hY
  have HE := Lib.hid hE
  have HA := Lib.hid (ans_at w (callObj 2 fd n s))
  have HB0 := Lib.hid (below_two w (callObj 2 fd n s) ansObj)
  clear hE hY
  go_enter Tryd.func36, Tryd.ntmps36
  go_wp2_with fail
  refine (kdup_nil fd _ HE1.out).mono ?_
  rintro e w1 ⟨a, rfl, hf, hb⟩
  have HB1 : Hid (Below w.heap.size w w1) := HB0.out.trans (hb.mono HB0.out.size)
  have HA1 : Hid (w1.heap[w.heap.size + 1]? = some (.cells #[.int .i64 0, .int .i64 0, .string ByteArray.empty, .int .i64 0, .int .i64 0, .int .i64 0] 69 (0, 0))) := below_heap hb (lt_of_heap HA.out) HA.out
  have HT := Lib.hid (fun (W : World) (hW : Below w1.heap.size w1 W) => tell_refused W (HE.out.below (below_trans HB1.out hW)) (HY.out.below (below_trans HB1.out hW)) a 1 (by omega) (by omega) (hf.below hW))
  clear hf hb HE1
  go_wp2_with fail
  refine (HT.out _ (Below.refl _ _)).mono ?_
  rintro e w2 ⟨rfl, hb2⟩
  have HB2 : Hid (Below w.heap.size w w2) := below_trans HB1.out hb2
  have HA2 : Hid (w2.heap[w.heap.size + 1]? = _) := below_heap hb2 (lt_of_heap HA1.out) HA1.out
  clear hb2
  simp only [faultV]
  have r0 := cell_of (o := 0) HA2.out rfl
  have r1 := cell_of (o := 1) HA2.out rfl
  have r2 := cell_of (o := 2) HA2.out rfl
  have r3 := cell_of (o := 3) HA2.out rfl
  have r4 := cell_of (o := 4) HA2.out rfl
  have r5 := cell_of (o := 5) HA2.out rfl
  have rf' := fun o => free_of HA2.out o
  go_wp2_with fail
  refine bodyPost_ret (v := argAns) ?_ rfl ⟨rfl, six_below HB2.out (by omega) _ _ _ _ _ _⟩
  simp [results, Tryd.results36, go_sem, r0, r1, r2, r3, r4, r5, argAns]
  rfl

set_option maxRecDepth 100000 in
set_option maxHeartbeats 1000000 in
theorem do_nil3 {E : Nat → Addr} {B : Nat} (fd n : Int) (s : ByteArray) (w : World) (hE : Env E B w) (hY : Ety B w) :
    Calls Tryd.prog 36 #[.pointer none, .agg #[.int .i64 3, .int .i64 fd, .int .i64 n, .string s, .slice none 0 0]] w fun e w' => AnsPost w argAns e w' := by
  have HE1 : Hid (Env E B ((w.alloc (callObj 3 fd n s)).alloc ansObj)) := hE.below (below_two w _ _)
  have HY := Lib.hid hY
  have HE := Lib.hid hE
  have HA := Lib.hid (ans_at w (callObj 3 fd n s))
  have HB0 := Lib.hid (below_two w (callObj 3 fd n s) ansObj)
  clear hE hY
  go_enter Tryd.func36, Tryd.ntmps36
  go_wp2_with fail
  refine (kmove_nil fd n _ HE1.out).mono ?_
  rintro e w1 ⟨a, rfl, hf, hb⟩
  have HB1 : Hid (Below w.heap.size w w1) := HB0.out.trans (hb.mono HB0.out.size)
  have HA1 : Hid (w1.heap[w.heap.size + 1]? = some (.cells #[.int .i64 0, .int .i64 0, .string ByteArray.empty, .int .i64 0, .int .i64 0, .int .i64 0] 69 (0, 0))) := below_heap hb (lt_of_heap HA.out) HA.out
  have HT := Lib.hid (fun (W : World) (hW : Below w1.heap.size w1 W) => tell_refused W (HE.out.below (below_trans HB1.out hW)) (HY.out.below (below_trans HB1.out hW)) a 1 (by omega) (by omega) (hf.below hW))
  clear hf hb HE1
  go_wp2_with fail
  refine (HT.out _ (Below.refl _ _)).mono ?_
  rintro e w2 ⟨rfl, hb2⟩
  have HB2 : Hid (Below w.heap.size w w2) := below_trans HB1.out hb2
  have HA2 : Hid (w2.heap[w.heap.size + 1]? = _) := below_heap hb2 (lt_of_heap HA1.out) HA1.out
  clear hb2
  simp only [faultV]
  have r0 := cell_of (o := 0) HA2.out rfl
  have r1 := cell_of (o := 1) HA2.out rfl
  have r2 := cell_of (o := 2) HA2.out rfl
  have r3 := cell_of (o := 3) HA2.out rfl
  have r4 := cell_of (o := 4) HA2.out rfl
  have r5 := cell_of (o := 5) HA2.out rfl
  have rf' := fun o => free_of HA2.out o
  go_wp2_with fail
  refine bodyPost_ret (v := argAns) ?_ rfl ⟨rfl, six_below HB2.out (by omega) _ _ _ _ _ _⟩
  simp [results, Tryd.results36, go_sem, r0, r1, r2, r3, r4, r5, argAns]
  rfl

set_option maxRecDepth 100000 in
set_option maxHeartbeats 1000000 in
theorem do_nil4 {E : Nat → Addr} {B : Nat} (fd n : Int) (s : ByteArray) (w : World) (hE : Env E B w) (hY : Ety B w) :
    Calls Tryd.prog 36 #[.pointer none, .agg #[.int .i64 4, .int .i64 fd, .int .i64 n, .string s, .slice none 0 0]] w fun e w' => AnsPost w argAns e w' := by
  have HE1 : Hid (Env E B ((w.alloc (callObj 4 fd n s)).alloc ansObj)) := hE.below (below_two w _ _)
  have HY := Lib.hid hY
  have HE := Lib.hid hE
  have HA := Lib.hid (ans_at w (callObj 4 fd n s))
  have HB0 := Lib.hid (below_two w (callObj 4 fd n s) ansObj)
  clear hE hY
  go_enter Tryd.func36, Tryd.ntmps36
  go_wp2_with fail
  refine (kclose_nil fd _ HE1.out).mono ?_
  rintro e w1 ⟨a, rfl, hf, hb⟩
  have HB1 : Hid (Below w.heap.size w w1) := HB0.out.trans (hb.mono HB0.out.size)
  have HA1 : Hid (w1.heap[w.heap.size + 1]? = some (.cells #[.int .i64 0, .int .i64 0, .string ByteArray.empty, .int .i64 0, .int .i64 0, .int .i64 0] 69 (0, 0))) := below_heap hb (lt_of_heap HA.out) HA.out
  have HT := Lib.hid (fun (W : World) (hW : Below w1.heap.size w1 W) => tell_refused W (HE.out.below (below_trans HB1.out hW)) (HY.out.below (below_trans HB1.out hW)) a 1 (by omega) (by omega) (hf.below hW))
  clear hf hb HE1
  go_wp2_with fail
  refine (HT.out _ (Below.refl _ _)).mono ?_
  rintro e w2 ⟨rfl, hb2⟩
  have HB2 : Hid (Below w.heap.size w w2) := below_trans HB1.out hb2
  have HA2 : Hid (w2.heap[w.heap.size + 1]? = _) := below_heap hb2 (lt_of_heap HA1.out) HA1.out
  clear hb2
  simp only [faultV]
  have r0 := cell_of (o := 0) HA2.out rfl
  have r1 := cell_of (o := 1) HA2.out rfl
  have r2 := cell_of (o := 2) HA2.out rfl
  have r3 := cell_of (o := 3) HA2.out rfl
  have r4 := cell_of (o := 4) HA2.out rfl
  have r5 := cell_of (o := 5) HA2.out rfl
  have rf' := fun o => free_of HA2.out o
  go_wp2_with fail
  refine bodyPost_ret (v := argAns) ?_ rfl ⟨rfl, six_below HB2.out (by omega) _ _ _ _ _ _⟩
  simp [results, Tryd.results36, go_sem, r0, r1, r2, r3, r4, r5, argAns]
  rfl

set_option maxRecDepth 100000 in
set_option maxHeartbeats 1000000 in
theorem do_nil5 {E : Nat → Addr} {B : Nat} (fd n : Int) (s : ByteArray) (w : World) (hE : Env E B w) (hY : Ety B w) :
    Calls Tryd.prog 36 #[.pointer none, .agg #[.int .i64 5, .int .i64 fd, .int .i64 n, .string s, .slice none 0 0]] w fun e w' => AnsPost w argAns e w' := by
  have HE1 : Hid (Env E B ((w.alloc (callObj 5 fd n s)).alloc ansObj)) := hE.below (below_two w _ _)
  have HY := Lib.hid hY
  have HE := Lib.hid hE
  have HA := Lib.hid (ans_at w (callObj 5 fd n s))
  have HB0 := Lib.hid (below_two w (callObj 5 fd n s) ansObj)
  clear hE hY
  have kc : ∀ w' : World, (convert 33 9 (.slice none 0 0)).run Tryd.prog w' = .ok (.string ByteArray.empty) w' := fun w' => run_str_src (Src.nil w')
  go_enter Tryd.func36, Tryd.ntmps36
  go_wp2_with fail
  refine (kread_nil fd n _ HE1.out).mono ?_
  rintro e w1 ⟨a, rfl, hf, hb⟩
  have HB1 : Hid (Below w.heap.size w w1) := HB0.out.trans (hb.mono HB0.out.size)
  have HA1 : Hid (w1.heap[w.heap.size + 1]? = some (.cells #[.int .i64 0, .int .i64 0, .string ByteArray.empty, .int .i64 0, .int .i64 0, .int .i64 0] 69 (0, 0))) := below_heap hb (lt_of_heap HA.out) HA.out
  have HT := Lib.hid (fun (W : World) (hW : Below w1.heap.size w1 W) => tell_refused W (HE.out.below (below_trans HB1.out hW)) (HY.out.below (below_trans HB1.out hW)) a 1 (by omega) (by omega) (hf.below hW))
  clear hf hb HE1
  go_wp2_with fail
  go_region_with (go_at_call 43; refine (HT.out _ (by first | exact Below.refl _ _ | exact (Below.refl _ _).drew | exact ((Below.refl _ _).drew).drew)).mono ?_; rintro e w2 ⟨rfl, hb2⟩; have HB2 := Lib.hid hb2; have r0 := cell_of (o := 0) (below_heap ((((Below.refl _ w1).drew).trans hb2)) (lt_of_heap HA1.out) HA1.out) rfl; have r1 := cell_of (o := 1) (below_heap ((((Below.refl _ w1).drew).trans hb2)) (lt_of_heap HA1.out) HA1.out) rfl; have r2 := cell_of (o := 2) (below_heap ((((Below.refl _ w1).drew).trans hb2)) (lt_of_heap HA1.out) HA1.out) rfl; have r3 := cell_of (o := 3) (below_heap ((((Below.refl _ w1).drew).trans hb2)) (lt_of_heap HA1.out) HA1.out) rfl; have r4 := cell_of (o := 4) (below_heap ((((Below.refl _ w1).drew).trans hb2)) (lt_of_heap HA1.out) HA1.out) rfl; have r5 := cell_of (o := 5) (below_heap ((((Below.refl _ w1).drew).trans hb2)) (lt_of_heap HA1.out) HA1.out) rfl; have rf' := fun o => free_of (below_heap ((((Below.refl _ w1).drew).trans hb2)) (lt_of_heap HA1.out) HA1.out) o; clear hb2; simp only [faultV])
  all_goals
    go_wp2_with fail
    refine bodyPost_ret (v := argAns) ?_ rfl ⟨rfl, six_below (below_trans HB1.out ((((Below.refl _ w1).drew).trans HB2.out))) (by omega) _ _ _ _ _ _⟩
    simp [results, Tryd.results36, go_sem, r0, r1, r2, r3, r4, r5, argAns]

set_option maxRecDepth 100000 in
set_option maxHeartbeats 1000000 in
theorem do_nil6 {E : Nat → Addr} {B : Nat} (fd n : Int) (s : ByteArray) (w : World) (hE : Env E B w) (hY : Ety B w) :
    Calls Tryd.prog 36 #[.pointer none, .agg #[.int .i64 6, .int .i64 fd, .int .i64 n, .string s, .slice none 0 0]] w fun e w' => AnsPost w argAns e w' := by
  have HE1 : Hid (Env E B ((w.alloc (callObj 6 fd n s)).alloc ansObj)) := hE.below (below_two w _ _)
  have HY := Lib.hid hY
  have HE := Lib.hid hE
  have HA := Lib.hid (ans_at w (callObj 6 fd n s))
  have HB0 := Lib.hid (below_two w (callObj 6 fd n s) ansObj)
  clear hE hY
  go_enter Tryd.func36, Tryd.ntmps36
  go_wp2_with fail
  refine (kwrite_nil fd _ _ HE1.out).mono ?_
  rintro e w1 ⟨a, rfl, hf, hb⟩
  have HB1 : Hid (Below w.heap.size w w1) := HB0.out.trans (hb.mono HB0.out.size)
  have HA1 : Hid (w1.heap[w.heap.size + 1]? = some (.cells #[.int .i64 0, .int .i64 0, .string ByteArray.empty, .int .i64 0, .int .i64 0, .int .i64 0] 69 (0, 0))) := below_heap hb (lt_of_heap HA.out) HA.out
  have HT := Lib.hid (fun (W : World) (hW : Below w1.heap.size w1 W) => tell_refused W (HE.out.below (below_trans HB1.out hW)) (HY.out.below (below_trans HB1.out hW)) a 1 (by omega) (by omega) (hf.below hW))
  clear hf hb HE1
  go_wp2_with fail
  refine (HT.out _ (Below.refl _ _)).mono ?_
  rintro e w2 ⟨rfl, hb2⟩
  have HB2 : Hid (Below w.heap.size w w2) := below_trans HB1.out hb2
  have HA2 : Hid (w2.heap[w.heap.size + 1]? = _) := below_heap hb2 (lt_of_heap HA1.out) HA1.out
  clear hb2
  simp only [faultV]
  have r0 := cell_of (o := 0) HA2.out rfl
  have r1 := cell_of (o := 1) HA2.out rfl
  have r2 := cell_of (o := 2) HA2.out rfl
  have r3 := cell_of (o := 3) HA2.out rfl
  have r4 := cell_of (o := 4) HA2.out rfl
  have r5 := cell_of (o := 5) HA2.out rfl
  have rf' := fun o => free_of HA2.out o
  go_wp2_with fail
  refine bodyPost_ret (v := argAns) ?_ rfl ⟨rfl, six_below HB2.out (by omega) _ _ _ _ _ _⟩
  simp [results, Tryd.results36, go_sem, r0, r1, r2, r3, r4, r5, argAns]
  rfl

theorem do_nil {E : Nat → Addr} {B : Nat} (i : Nat) (hi : i < 7) (fd n : Int) (s : ByteArray) (w : World) (hE : Env E B w) (hY : Ety B w) :
    Calls Tryd.prog 36 #[.pointer none, .agg #[.int .i64 i, .int .i64 fd, .int .i64 n, .string s, .slice none 0 0]] w fun e w' => AnsPost w argAns e w' := by
  match i, hi with
  | 0, _ => exact do_nil0 fd n s w hE hY
  | 1, _ => exact do_nil1 fd n s w hE hY
  | 2, _ => exact do_nil2 fd n s w hE hY
  | 3, _ => exact do_nil3 fd n s w hE hY
  | 4, _ => exact do_nil4 fd n s w hE hY
  | 5, _ => exact do_nil5 fd n s w hE hY
  | 6, _ => exact do_nil6 fd n s w hE hY

set_option maxRecDepth 100000 in
set_option maxHeartbeats 2000000 in
theorem kernNil_any {E : Nat → Addr} {B : Nat} (w : World) (hE : Ctx E B w) (hY : Ety B w) (fd : Int) (_hfd : -9223372036854775808 ≤ fd ∧ fd ≤ 9223372036854775807) (n : Int) (_hn : -9223372036854775808 ≤ n ∧ n ≤ 9223372036854775807) (s : ByteArray) (_hs : s.size ≤ 9223372036854775807) :
    Calls Tryd.prog 11 #[.int .i64 fd, .int .i64 n, .string s] w fun e w' => AwPost w e w' := by
  have HE := Lib.hid hE
  have HY := Lib.hid hY
  clear hE hY
  have hne : ∀ w' : World, (binOp .neq 69 argAns argAns).run Tryd.prog w' = .ok (.bool false) w' := fun w' => by kernel_rfl
  simp only [argAns] at hne
  go_enter Tryd.func11, Tryd.ntmps11
  go_wp2_with fail
  have HF0 : Hid ((w.alloc (.cells #[.int .i64 1, .int .i64 0, .int .i64 11] 67)).heap[w.heap.size]? = some (.cells #[.int .i64 1, .int .i64 0, .int .i64 11] 67 (0, 0))) := heap_alloc_new w _
  have HB0 : Hid (Below w.heap.size w (w.alloc (.cells #[.int .i64 1, .int .i64 0, .int .i64 11] 67))) := below_alloc w _
  go_loopw [11] (fun i wr => ∃ k : Nat, k ≤ 7 ∧ i = .int .i64 k ∧ Hid (wr.heap[w.heap.size]? = some (.cells #[.int .i64 1, .int .i64 0, .int .i64 11] 67 (0, 0))) ∧ Hid (Below w.heap.size w wr)) (fun i _ => 7 - (intOf i).toNat)
  case atStart => exact ⟨0, by omega, rfl, HF0.out, HB0.out⟩
  case round =>
    clear HF0 HB0
    obtain ⟨k, hk, rfl, hf, hb⟩ := hrel
    by_cases hlt : k < 7
    · have hki : (k : Int) < 7 := by omega
      have HD := Lib.hid (fun (W : World) (hW : Below wr.heap.size wr W) => do_nil k hlt fd n s W (HE.out.env.below (below_trans hb.out hW)) (HY.out.below (below_trans hb.out hW)))
      have c0 := cell_of (o := 0) hf.out rfl
      have c1 := cell_of (o := 1) hf.out rfl
      have c2 := cell_of (o := 2) hf.out rfl
      go_wp2_with fail
      go_region_with (go_at_call 36; refine (HD.out _ (by first | exact Below.refl _ _ | exact (Below.refl _ _).drew | exact ((Below.refl _ _).drew).drew)).mono ?_; rintro e w2 ⟨rfl, hb2⟩; have HB2 := Lib.hid hb2; have q0 := cell_of (o := 0) (below_heap ((((Below.refl _ wr).drew).trans hb2)) (lt_of_heap hf.out) hf.out) rfl; have q1 := cell_of (o := 1) (below_heap ((((Below.refl _ wr).drew).trans hb2)) (lt_of_heap hf.out) hf.out) rfl; have q2 := cell_of (o := 2) (below_heap ((((Below.refl _ wr).drew).trans hb2)) (lt_of_heap hf.out) hf.out) rfl; clear hb2; simp only [argAns])
      all_goals
        go_wp2_with fail
        go_roundw
        case rel => exact ⟨k + 1, by omega, by go_num, below_heap (((Below.refl _ wr).drew).trans HB2.out) (lt_of_heap hf.out) hf.out, below_trans hb.out (((Below.refl _ wr).drew).trans HB2.out)⟩
        case measure => simp [intOf]; omega
    · obtain rfl : k = 7 := by omega
      have HAW := Lib.hid (awake_any wr (HE.out.below hb.out))
      have HB := hb
      clear hf hb
      go_wp2_with fail
      refine (kOut_nil _).mono ?_
      rintro e w2 ⟨rfl, rfl⟩
      go_wp2_with fail
      refine (kErr_nil _).mono ?_
      rintro e w2 ⟨rfl, rfl⟩
      go_wp2_with fail
      refine (kUsed_nil _).mono ?_
      rintro e w2 ⟨rfl, rfl⟩
      go_wp2_with fail
      refine (ktree_nil _).mono ?_
      rintro e w2 ⟨rfl, rfl⟩
      go_wp2_with fail
      refine HAW.out.mono ?_
      rintro e w2 ⟨rfl, hb2⟩
      have HB2 := Lib.hid (below_trans HB.out hb2)
      clear hb2
      go_wp2_with fail
      go_ret
      exact ⟨rfl, HB2.out⟩
end Go.Proofs.YtiejfbkbjahcgaaDoor
