/-
 pidginlaw17.do: what it tells, out of what the kern's call does.
 pidginlaw17.do: Remove, of the tree.
 pidginlaw17.model: what it tells, out of what the document's kern's call does.
 pidginlaw17.model: Remove, of the tree.
-/
import Derived.Test.YteeeaeiafdgpkaaGreatDoorKOpsX
import Derived.Test.YteeeaeiafdgpkaaGreatDoorStrA
import Derived.Deep.RegionHeld3
namespace Go.Proofs.YteeeaeiafdgpkaaGreatDoor
open Go Go.RowKit
open Go.Lib (hid)
section
def lgOf (c : Nat) : Int := if c = 0 then 0 else 11
theorem zbv (c : Nat) : zck c = .agg #[.int .i64 (c : Int), .int .i64 0, .int .i64 (lgOf c)] := by
 unfold zck lgOf
 split
 ·rename_i h
  subst h
  rfl
 ·rfl
def ansV (a b : Nat) (l : List UInt8) (c : Nat) : Value := .agg #[.int .i64 (a : Int), .int .i64 (b : Int), .string (strOf l), .int .i64 (c : Int), .int .i64 0, .int .i64 (lgOf c)]
def zcq : Obj := .cells #[.int .i64 0, .int .i64 0, .string ByteArray.empty, .int .i64 0, .int .i64 0, .int .i64 0] 34
def callObj (i fd n : Int) (s : ByteArray) (da : Option Addr) (dl dc : Nat) : Obj := .cells #[.int .i64 i, .int .i64 fd, .int .i64 n, .string s, .slice da dl dc] 30
theorem zc7 (w : World) (o : Obj) : ((w.alloc o).alloc zcq).heap[w.heap.size + 1]? = some (.cells #[.int .i64 0, .int .i64 0, .string ByteArray.empty, .int .i64 0, .int .i64 0, .int .i64 0] 34 (0, 0)) := by
 have h := heap_alloc_new (w.alloc o) zcq
 have e : (w.alloc o).heap.size = w.heap.size + 1 := by simp
 rw [e] at h
 exact h
theorem call_at (w : World) (i fd n : Int) (s : ByteArray) (da : Option Addr) (dl dc : Nat) : ((w.alloc (callObj i fd n s da dl dc)).alloc zcq).heap[w.heap.size]? = some (.cells #[.int .i64 i, .int .i64 fd, .int .i64 n, .string s, .slice da dl dc] 30 (0, 0)) := by
 have h := heap_alloc_new w (callObj i fd n s da dl dc)
 exact zae (zad _ _) (zab h) h
theorem zbm (w2 : World) (b : Nat) (x0 x1 x2 x3 x4 x5 : Value) :
  Kept (fun k => k = b) w2 ((((((w2.setCell ⟨b, 0, none⟩ x0).setCell ⟨b, 1, none⟩ x1).setCell ⟨b, 2, none⟩ x2).setCell ⟨b, 3, none⟩ x3).setCell ⟨b, 4, none⟩ x4).setCell ⟨b, 5, none⟩ x5) :=
 (((((((Kept.refl (fun k => k = b) w2).setCell (p := ⟨b, 0, none⟩) (.inl rfl) _).setCell (p := ⟨b, 1, none⟩) (.inl rfl) _).setCell (p := ⟨b, 2, none⟩) (.inl rfl) _).setCell (p := ⟨b, 3, none⟩) (.inl rfl) _).setCell (p := ⟨b, 4, none⟩) (.inl rfl) _).setCell (p := ⟨b, 5, none⟩) (.inl rfl) _)
def zed (B : Nat) (w : World) (K : Ks) (Q : Nat → Nat → List UInt8 → Nat → Ks → Prop) (e : Ending) (w' : World) : Prop := ∃ a b l c, e = .returned (ansV a b l c) ∧ POk B w K (Q a b l c) w'
structure AfterP (E : Nat → Addr) (B : Nat) (w : World) (K : Ks) (x : Value) (c : Nat) (Q : Ks → Prop) (w1 : World) : Prop where
 ok : ∃ W, Below w.heap.size w W ∧ w.heap.size + 1 < W.heap.size ∧ POk B W K Q w1
 ans : w1.heap[w.heap.size + 1]? = some (.cells #[.int .i64 0, .int .i64 0, .string ByteArray.empty, .int .i64 0, .int .i64 0, .int .i64 0] 34 (0, 0))
 tell : ∀ W, Below w1.heap.size w1 W → Calls Tryz.prog 22 #[x] W fun e w' => VPost W (zck c) e w'
theorem AfterP.mk' {E : Nat → Addr} {B : Nat} {w W w1 : World} {K : Ks} {x : Value} {c : Nat} {Q : Ks → Prop} (hE : Env E B w) (hY : Ety B w) (hK : KRep B w K) (hW : Below w.heap.size w W) (hA : W.heap[w.heap.size + 1]? = some (.cells #[.int .i64 0, .int .i64 0, .string ByteArray.empty, .int .i64 0, .int .i64 0, .int .i64 0] 34 (0, 0))) (he : ErrV E w1 c x) (hp : POk B W K Q w1) : AfterP E B w K x c Q w1 :=
 have q := hp.env (hK.below hW) (hE.below hW) (hY.below hW)
 ⟨⟨W, hW, zab hA, hp⟩, hp.ans (hK.below hW) hA, fun _ hb => errv_tell he hb (q.1.below hb) (q.2.below hb)⟩
theorem AfterP.below {E : Nat → Addr} {B : Nat} {w w1 w2 : World} {K : Ks} {x : Value} {c : Nat} {Q : Ks → Prop} (h : AfterP E B w K x c Q w1) (hb : Below w1.heap.size w1 w2) : AfterP E B w K x c Q w2 := by
 obtain ⟨W, h1, h2, h3⟩ := h.ok
 exact ⟨⟨W, h1, h2, h3.below hb⟩, zae hb (zab h.ans) h.ans, fun W' hW => h.tell W' (zaf hb hW)⟩
theorem AfterP.done {E : Nat → Addr} {B : Nat} {w w1 w2 : World} {K : Ks} {x : Value} {c : Nat} {Q : Ks → Prop} (h : AfterP E B w K x c Q w1) (k : Kept (fun b => b = w.heap.size + 1) w1 w2) : POk B w K Q w2 := by
 obtain ⟨W, h1, h2, h3⟩ := h.ok
 exact h3.back h1 (by omega) h.ans k
set_option maxRecDepth 100000 in
set_option maxHeartbeats 1000000 in
theorem do_0 {E : Nat → Addr} {B : Nat} {w : World} {K : Ks} {P : Nat → Nat → Ks → Prop} (hE : Env E B w) (hY : Ety B w) (hK : KRep B w K) (fd n : Int) (s : ByteArray) (da : Option Addr) (dl dc : Nat) (hcall : ∀ W, Below w.heap.size w W → Calls Tryz.prog 21 #[.pointer (some ⟨K.kb, 0, none⟩), .string s, .int .i64 n] W fun e w' => ∃ a c x, e = .returned (.tuple #[.int .i64 (a : Nat), x]) ∧ ErrV E w' c x ∧ POk B W K (P a c) w') :
  Calls Tryz.prog 8 #[.pointer (some ⟨K.kb, 0, none⟩), .agg #[.int .i64 0, .int .i64 fd, .int .i64 n, .string s, .slice da dl dc]] w fun e w' => zed B w K (fun a b l c K' => b = 0 ∧ l = [] ∧ P a c K') e w' := by
 have HA := hid (zc7 w (.cells #[.int .i64 0, .int .i64 fd, .int .i64 n, .string s, .slice da dl dc] 30))
 have HB0 := hid (zar w (.cells #[.int .i64 0, .int .i64 fd, .int .i64 n, .string s, .slice da dl dc] 30) zcq)
 have HM := hid (fun (W w1 : World) (x : Value) (c : Nat) (Q : Ks → Prop) => AfterP.mk' (W := W) (w1 := w1) (x := x) (c := c) (Q := Q) hE hY hK)
 have HC := hid hcall
 clear hE hY hK hcall
 go_enter Tryz.func8, Tryz.ntmps8
 go_wp2_with fail
 refine (HC.out _ HB0.out).mono ?_
 rintro e w1 ⟨a, c, x, rfl, herr, hpo⟩
 have HP1 := hid (HM.out _ _ _ _ _ HB0.out HA.out herr hpo)
 clear herr hpo
 go_wp2_with fail
 refine (HP1.out.tell _ (Below.refl _ _)).mono ?_
 rintro e w2 ⟨rfl, hb2⟩
 have HP2 := hid (HP1.out.below hb2)
 clear hb2 HP1
 simp only [zbv]
 have r0 := zaa (o := 0) HP2.out.ans rfl
 have r1 := zaa (o := 1) HP2.out.ans rfl
 have r2 := zaa (o := 2) HP2.out.ans rfl
 have r3 := zaa (o := 3) HP2.out.ans rfl
 have r4 := zaa (o := 4) HP2.out.ans rfl
 have r5 := zaa (o := 5) HP2.out.ans rfl
 have rf' := fun o => zah HP2.out.ans o
 go_wp2_with fail
 refine bodyPost_ret (v := ansV a 0 [] c) ?_ rfl ⟨a, 0, [], c, rfl, ((HP2.out.done (zbm w2 _ _ _ _ _ _ _)).mono (fun _ h => ⟨rfl, rfl, h⟩))⟩
 simp [results, Tryz.results8, go_sem, r0, r1, r2, r3, r4, r5, ansV, strOf]
set_option maxRecDepth 100000 in
set_option maxHeartbeats 1000000 in
theorem do_1 {E : Nat → Addr} {B : Nat} {w : World} {K : Ks} {P : Nat → Nat → Nat → Ks → Prop} (hE : Env E B w) (hY : Ety B w) (hK : KRep B w K) (fd n : Int) (s : ByteArray) (da : Option Addr) (dl dc : Nat) (hcall : ∀ W, Below w.heap.size w W → Calls Tryz.prog 23 #[.pointer (some ⟨K.kb, 0, none⟩)] W fun e w' => ∃ a b c x, e = .returned (.tuple #[.int .i64 (a : Nat), .int .i64 (b : Nat), x]) ∧ ErrV E w' c x ∧ POk B W K (P a b c) w') :
  Calls Tryz.prog 8 #[.pointer (some ⟨K.kb, 0, none⟩), .agg #[.int .i64 1, .int .i64 fd, .int .i64 n, .string s, .slice da dl dc]] w fun e w' => zed B w K (fun a b l c K' => l = [] ∧ P a b c K') e w' := by
 have HA := hid (zc7 w (.cells #[.int .i64 1, .int .i64 fd, .int .i64 n, .string s, .slice da dl dc] 30))
 have HB0 := hid (zar w (.cells #[.int .i64 1, .int .i64 fd, .int .i64 n, .string s, .slice da dl dc] 30) zcq)
 have HM := hid (fun (W w1 : World) (x : Value) (c : Nat) (Q : Ks → Prop) => AfterP.mk' (W := W) (w1 := w1) (x := x) (c := c) (Q := Q) hE hY hK)
 have HC := hid hcall
 clear hE hY hK hcall
 go_enter Tryz.func8, Tryz.ntmps8
 go_wp2_with fail
 refine (HC.out _ HB0.out).mono ?_
 rintro e w1 ⟨a, b, c, x, rfl, herr, hpo⟩
 have HP1 := hid (HM.out _ _ _ _ _ HB0.out HA.out herr hpo)
 clear herr hpo
 go_wp2_with fail
 refine (HP1.out.tell _ (Below.refl _ _)).mono ?_
 rintro e w2 ⟨rfl, hb2⟩
 have HP2 := hid (HP1.out.below hb2)
 clear hb2 HP1
 simp only [zbv]
 have r0 := zaa (o := 0) HP2.out.ans rfl
 have r1 := zaa (o := 1) HP2.out.ans rfl
 have r2 := zaa (o := 2) HP2.out.ans rfl
 have r3 := zaa (o := 3) HP2.out.ans rfl
 have r4 := zaa (o := 4) HP2.out.ans rfl
 have r5 := zaa (o := 5) HP2.out.ans rfl
 have rf' := fun o => zah HP2.out.ans o
 go_wp2_with fail
 refine bodyPost_ret (v := ansV a b [] c) ?_ rfl ⟨a, b, [], c, rfl, ((HP2.out.done (zbm w2 _ _ _ _ _ _ _)).mono (fun _ h => ⟨rfl, h⟩))⟩
 simp [results, Tryz.results8, go_sem, r0, r1, r2, r3, r4, r5, ansV, strOf]
set_option maxRecDepth 100000 in
set_option maxHeartbeats 1000000 in
theorem do_2 {E : Nat → Addr} {B : Nat} {w : World} {K : Ks} {P : Nat → Nat → Ks → Prop} (hE : Env E B w) (hY : Ety B w) (hK : KRep B w K) (fd n : Int) (s : ByteArray) (da : Option Addr) (dl dc : Nat) (hcall : ∀ W, Below w.heap.size w W → Calls Tryz.prog 24 #[.pointer (some ⟨K.kb, 0, none⟩), .int .i64 fd] W fun e w' => ∃ a c x, e = .returned (.tuple #[.int .i64 (a : Nat), x]) ∧ ErrV E w' c x ∧ POk B W K (P a c) w') :
  Calls Tryz.prog 8 #[.pointer (some ⟨K.kb, 0, none⟩), .agg #[.int .i64 2, .int .i64 fd, .int .i64 n, .string s, .slice da dl dc]] w fun e w' => zed B w K (fun a b l c K' => b = 0 ∧ l = [] ∧ P a c K') e w' := by
 have HA := hid (zc7 w (.cells #[.int .i64 2, .int .i64 fd, .int .i64 n, .string s, .slice da dl dc] 30))
 have HB0 := hid (zar w (.cells #[.int .i64 2, .int .i64 fd, .int .i64 n, .string s, .slice da dl dc] 30) zcq)
 have HM := hid (fun (W w1 : World) (x : Value) (c : Nat) (Q : Ks → Prop) => AfterP.mk' (W := W) (w1 := w1) (x := x) (c := c) (Q := Q) hE hY hK)
 have HC := hid hcall
 clear hE hY hK hcall
 go_enter Tryz.func8, Tryz.ntmps8
 go_wp2_with fail
 refine (HC.out _ HB0.out).mono ?_
 rintro e w1 ⟨a, c, x, rfl, herr, hpo⟩
 have HP1 := hid (HM.out _ _ _ _ _ HB0.out HA.out herr hpo)
 clear herr hpo
 go_wp2_with fail
 refine (HP1.out.tell _ (Below.refl _ _)).mono ?_
 rintro e w2 ⟨rfl, hb2⟩
 have HP2 := hid (HP1.out.below hb2)
 clear hb2 HP1
 simp only [zbv]
 have r0 := zaa (o := 0) HP2.out.ans rfl
 have r1 := zaa (o := 1) HP2.out.ans rfl
 have r2 := zaa (o := 2) HP2.out.ans rfl
 have r3 := zaa (o := 3) HP2.out.ans rfl
 have r4 := zaa (o := 4) HP2.out.ans rfl
 have r5 := zaa (o := 5) HP2.out.ans rfl
 have rf' := fun o => zah HP2.out.ans o
 go_wp2_with fail
 refine bodyPost_ret (v := ansV a 0 [] c) ?_ rfl ⟨a, 0, [], c, rfl, ((HP2.out.done (zbm w2 _ _ _ _ _ _ _)).mono (fun _ h => ⟨rfl, rfl, h⟩))⟩
 simp [results, Tryz.results8, go_sem, r0, r1, r2, r3, r4, r5, ansV, strOf]
set_option maxRecDepth 100000 in
set_option maxHeartbeats 1000000 in
theorem do_3 {E : Nat → Addr} {B : Nat} {w : World} {K : Ks} {P : Nat → Ks → Prop} (hE : Env E B w) (hY : Ety B w) (hK : KRep B w K) (fd n : Int) (s : ByteArray) (da : Option Addr) (dl dc : Nat) (hcall : ∀ W, Below w.heap.size w W → Calls Tryz.prog 25 #[.pointer (some ⟨K.kb, 0, none⟩), .int .i64 fd, .int .i64 n] W fun e w' => ∃  c x, e = .returned (x) ∧ ErrV E w' c x ∧ POk B W K (P c) w') :
  Calls Tryz.prog 8 #[.pointer (some ⟨K.kb, 0, none⟩), .agg #[.int .i64 3, .int .i64 fd, .int .i64 n, .string s, .slice da dl dc]] w fun e w' => zed B w K (fun a b l c K' => a = 0 ∧ b = 0 ∧ l = [] ∧ P c K') e w' := by
 have HA := hid (zc7 w (.cells #[.int .i64 3, .int .i64 fd, .int .i64 n, .string s, .slice da dl dc] 30))
 have HB0 := hid (zar w (.cells #[.int .i64 3, .int .i64 fd, .int .i64 n, .string s, .slice da dl dc] 30) zcq)
 have HM := hid (fun (W w1 : World) (x : Value) (c : Nat) (Q : Ks → Prop) => AfterP.mk' (W := W) (w1 := w1) (x := x) (c := c) (Q := Q) hE hY hK)
 have HC := hid hcall
 clear hE hY hK hcall
 go_enter Tryz.func8, Tryz.ntmps8
 go_wp2_with fail
 refine (HC.out _ HB0.out).mono ?_
 rintro e w1 ⟨c, x, rfl, herr, hpo⟩
 have HP1 := hid (HM.out _ _ _ _ _ HB0.out HA.out herr hpo)
 clear herr hpo
 go_wp2_with fail
 refine (HP1.out.tell _ (Below.refl _ _)).mono ?_
 rintro e w2 ⟨rfl, hb2⟩
 have HP2 := hid (HP1.out.below hb2)
 clear hb2 HP1
 simp only [zbv]
 have r0 := zaa (o := 0) HP2.out.ans rfl
 have r1 := zaa (o := 1) HP2.out.ans rfl
 have r2 := zaa (o := 2) HP2.out.ans rfl
 have r3 := zaa (o := 3) HP2.out.ans rfl
 have r4 := zaa (o := 4) HP2.out.ans rfl
 have r5 := zaa (o := 5) HP2.out.ans rfl
 have rf' := fun o => zah HP2.out.ans o
 go_wp2_with fail
 refine bodyPost_ret (v := ansV 0 0 [] c) ?_ rfl ⟨0, 0, [], c, rfl, ((HP2.out.done (zbm w2 _ _ _ _ _ _ _)).mono (fun _ h => ⟨rfl, rfl, rfl, h⟩))⟩
 simp [results, Tryz.results8, go_sem, r0, r1, r2, r3, r4, r5, ansV, strOf]
set_option maxRecDepth 100000 in
set_option maxHeartbeats 1000000 in
theorem do_4 {E : Nat → Addr} {B : Nat} {w : World} {K : Ks} {P : Nat → Ks → Prop} (hE : Env E B w) (hY : Ety B w) (hK : KRep B w K) (fd n : Int) (s : ByteArray) (da : Option Addr) (dl dc : Nat) (hcall : ∀ W, Below w.heap.size w W → Calls Tryz.prog 26 #[.pointer (some ⟨K.kb, 0, none⟩), .int .i64 fd] W fun e w' => ∃  c x, e = .returned (x) ∧ ErrV E w' c x ∧ POk B W K (P c) w') :
  Calls Tryz.prog 8 #[.pointer (some ⟨K.kb, 0, none⟩), .agg #[.int .i64 4, .int .i64 fd, .int .i64 n, .string s, .slice da dl dc]] w fun e w' => zed B w K (fun a b l c K' => a = 0 ∧ b = 0 ∧ l = [] ∧ P c K') e w' := by
 have HA := hid (zc7 w (.cells #[.int .i64 4, .int .i64 fd, .int .i64 n, .string s, .slice da dl dc] 30))
 have HB0 := hid (zar w (.cells #[.int .i64 4, .int .i64 fd, .int .i64 n, .string s, .slice da dl dc] 30) zcq)
 have HM := hid (fun (W w1 : World) (x : Value) (c : Nat) (Q : Ks → Prop) => AfterP.mk' (W := W) (w1 := w1) (x := x) (c := c) (Q := Q) hE hY hK)
 have HC := hid hcall
 clear hE hY hK hcall
 go_enter Tryz.func8, Tryz.ntmps8
 go_wp2_with fail
 refine (HC.out _ HB0.out).mono ?_
 rintro e w1 ⟨c, x, rfl, herr, hpo⟩
 have HP1 := hid (HM.out _ _ _ _ _ HB0.out HA.out herr hpo)
 clear herr hpo
 go_wp2_with fail
 refine (HP1.out.tell _ (Below.refl _ _)).mono ?_
 rintro e w2 ⟨rfl, hb2⟩
 have HP2 := hid (HP1.out.below hb2)
 clear hb2 HP1
 simp only [zbv]
 have r0 := zaa (o := 0) HP2.out.ans rfl
 have r1 := zaa (o := 1) HP2.out.ans rfl
 have r2 := zaa (o := 2) HP2.out.ans rfl
 have r3 := zaa (o := 3) HP2.out.ans rfl
 have r4 := zaa (o := 4) HP2.out.ans rfl
 have r5 := zaa (o := 5) HP2.out.ans rfl
 have rf' := fun o => zah HP2.out.ans o
 go_wp2_with fail
 refine bodyPost_ret (v := ansV 0 0 [] c) ?_ rfl ⟨0, 0, [], c, rfl, ((HP2.out.done (zbm w2 _ _ _ _ _ _ _)).mono (fun _ h => ⟨rfl, rfl, rfl, h⟩))⟩
 simp [results, Tryz.results8, go_sem, r0, r1, r2, r3, r4, r5, ansV, strOf]
set_option maxRecDepth 100000 in
set_option maxHeartbeats 1000000 in
theorem do_6 {E : Nat → Addr} {B : Nat} {w : World} {K : Ks} {P : Nat → Ks → Prop} (hE : Env E B w) (hY : Ety B w) (hK : KRep B w K) (fd n : Int) (s : ByteArray) (da : Option Addr) (dl dc : Nat) (hcall : ∀ W, Below w.heap.size w W → Calls Tryz.prog 28 #[.pointer (some ⟨K.kb, 0, none⟩), .int .i64 fd, .slice da dl dc] W fun e w' => ∃  c x, e = .returned (x) ∧ ErrV E w' c x ∧ POk B W K (P c) w') :
  Calls Tryz.prog 8 #[.pointer (some ⟨K.kb, 0, none⟩), .agg #[.int .i64 6, .int .i64 fd, .int .i64 n, .string s, .slice da dl dc]] w fun e w' => zed B w K (fun a b l c K' => a = 0 ∧ b = 0 ∧ l = [] ∧ P c K') e w' := by
 have HA := hid (zc7 w (.cells #[.int .i64 6, .int .i64 fd, .int .i64 n, .string s, .slice da dl dc] 30))
 have HB0 := hid (zar w (.cells #[.int .i64 6, .int .i64 fd, .int .i64 n, .string s, .slice da dl dc] 30) zcq)
 have HM := hid (fun (W w1 : World) (x : Value) (c : Nat) (Q : Ks → Prop) => AfterP.mk' (W := W) (w1 := w1) (x := x) (c := c) (Q := Q) hE hY hK)
 have HC := hid hcall
 clear hE hY hK hcall
 go_enter Tryz.func8, Tryz.ntmps8
 go_wp2_with fail
 refine (HC.out _ HB0.out).mono ?_
 rintro e w1 ⟨c, x, rfl, herr, hpo⟩
 have HP1 := hid (HM.out _ _ _ _ _ HB0.out HA.out herr hpo)
 clear herr hpo
 go_wp2_with fail
 refine (HP1.out.tell _ (Below.refl _ _)).mono ?_
 rintro e w2 ⟨rfl, hb2⟩
 have HP2 := hid (HP1.out.below hb2)
 clear hb2 HP1
 simp only [zbv]
 have r0 := zaa (o := 0) HP2.out.ans rfl
 have r1 := zaa (o := 1) HP2.out.ans rfl
 have r2 := zaa (o := 2) HP2.out.ans rfl
 have r3 := zaa (o := 3) HP2.out.ans rfl
 have r4 := zaa (o := 4) HP2.out.ans rfl
 have r5 := zaa (o := 5) HP2.out.ans rfl
 have rf' := fun o => zah HP2.out.ans o
 go_wp2_with fail
 refine bodyPost_ret (v := ansV 0 0 [] c) ?_ rfl ⟨0, 0, [], c, rfl, ((HP2.out.done (zbm w2 _ _ _ _ _ _ _)).mono (fun _ h => ⟨rfl, rfl, rfl, h⟩))⟩
 simp [results, Tryz.results8, go_sem, r0, r1, r2, r3, r4, r5, ansV, strOf]
set_option maxRecDepth 100000 in
set_option maxHeartbeats 1000000 in
theorem do_5 {E : Nat → Addr} {B : Nat} {w : World} {K : Ks} {P : List UInt8 → Nat → Ks → Prop} (hE : Env E B w) (hY : Ety B w) (hK : KRep B w K) (fd n : Int) (s : ByteArray) (da : Option Addr) (dl dc : Nat) (hcall : ∀ W, Below w.heap.size w W → Calls Tryz.prog 27 #[.pointer (some ⟨K.kb, 0, none⟩), .int .i64 fd, .int .i64 n] W fun e w' => ∃ v l c x, e = .returned (.tuple #[v, x]) ∧ w'.ownsRow W.heap.size 5 1 v l.length (u8s l) ∧ ErrV E w' c x ∧ POk B W K (P l c) w') :
  Calls Tryz.prog 8 #[.pointer (some ⟨K.kb, 0, none⟩), .agg #[.int .i64 5, .int .i64 fd, .int .i64 n, .string s, .slice da dl dc]] w fun e w' => zed B w K (fun a b l c K' => a = 0 ∧ b = 0 ∧ P l c K') e w' := by
 have HA := hid (zc7 w (.cells #[.int .i64 5, .int .i64 fd, .int .i64 n, .string s, .slice da dl dc] 30))
 have HB0 := hid (zar w (.cells #[.int .i64 5, .int .i64 fd, .int .i64 n, .string s, .slice da dl dc] 30) zcq)
 have HM := hid (fun (W w1 : World) (x : Value) (c : Nat) (Q : Ks → Prop) => AfterP.mk' (W := W) (w1 := w1) (x := x) (c := c) (Q := Q) hE hY hK)
 have HC := hid hcall
 clear hE hY hK hcall
 go_enter Tryz.func8, Tryz.ntmps8
 go_wp2_with fail
 refine (HC.out _ HB0.out).mono ?_
 rintro e w1 ⟨v, l, c, x, rfl, hrow, herr, hpo⟩
 have HP1 := hid (HM.out _ _ _ _ _ HB0.out HA.out herr hpo)
 have HS : Hid (∀ W, Hid (Below w1.heap.size w1 W) → (convert 28 9 v).run Tryz.prog W = .ok (.string (strOf l)) W) := fun W hW => zdd ((Src.of_owns hrow).kept (Kept.of_below hW.out (fun _ => False)) (fun _ _ h => h))
 obtain ⟨va, vc, rfl⟩ := zak hrow
 clear herr hpo hrow
 have HTL : Hid (∀ W, Hid (Below w1.heap.size w1 W) → Calls Tryz.prog 22 #[x] W fun e w2 => e = .returned (zck c) ∧ Hid (AfterP E B w K x c (P l c) w2) ∧ (convert 28 9 (.slice va l.length vc)).run Tryz.prog w2 = .ok (.string (strOf l)) w2) := fun W hW => (HP1.out.tell W hW.out).mono fun e w2 ⟨he, hb⟩ => ⟨he, HP1.out.below (hW.out.trans (hb.mono hW.out.size)), HS.out w2 (hW.out.trans (hb.mono hW.out.size))⟩
 have HBR : Hid (Below w1.heap.size w1 w1) := Below.refl _ _
 have HBD : Hid (Below w1.heap.size w1 w1.drew) := (Below.refl _ _).drew
 have s0 := HS.out w1 HBR
 have s1 := HS.out w1.drew HBD
 clear HS HP1 HC HM HA HB0
 go_wp2_with fail
 go_region_with (go_at_call 22; refine (HTL.out _ (by first | with_reducible exact HBR | with_reducible exact HBD)).mono ?_; rintro e w2 ⟨rfl, HP2, s2⟩; simp only [zbv]; have r0 := zaa (o := 0) HP2.out.ans rfl; have r1 := zaa (o := 1) HP2.out.ans rfl; have r2 := zaa (o := 2) HP2.out.ans rfl; have r3 := zaa (o := 3) HP2.out.ans rfl; have r4 := zaa (o := 4) HP2.out.ans rfl; have r5 := zaa (o := 5) HP2.out.ans rfl; have rf' := fun o => zah HP2.out.ans o)
 all_goals
  go_wp2_with fail
  refine bodyPost_ret (v := ansV 0 0 l c) ?_ rfl ⟨0, 0, l, c, rfl, ((HP2.out.done (zbm w2 _ _ _ _ _ _ _)).mono (fun _ h => ⟨rfl, rfl, h⟩))⟩
  simp [results, Tryz.results8, go_sem, r0, r1, r2, r3, r4, r5, ansV, strOf]
end
section
set_option maxRecDepth 100000 in
set_option maxHeartbeats 4000000 in
theorem do_7 {E : Nat → Addr} {B : Nat} {w : World} {K : Ks} {P : Nat → Ks → Prop} (hE : Env E B w) (hY : Ety B w) (hK : KRep B w K) (i : Int) (hi : i < 0 ∨ 6 < i) (fd n : Int) (s : ByteArray) (da : Option Addr) (dl dc : Nat) (hcall : ∀ W, Below w.heap.size w W → Calls Tryz.prog 29 #[.pointer (some ⟨K.T.tb, 0, none⟩), .string s] W fun e w' => ∃ c x, e = .returned x ∧ ErrV E w' c x ∧ POk B W K (P c) w') :
  Calls Tryz.prog 8 #[.pointer (some ⟨K.kb, 0, none⟩), .agg #[.int .i64 i, .int .i64 fd, .int .i64 n, .string s, .slice da dl dc]] w fun e w' => zed B w K (fun a b l c K' => a = 0 ∧ b = 0 ∧ l = [] ∧ P c K') e w' := by
 have HA := hid (zc7 w (.cells #[.int .i64 i, .int .i64 fd, .int .i64 n, .string s, .slice da dl dc] 30))
 have HB0 := hid (zar w (.cells #[.int .i64 i, .int .i64 fd, .int .i64 n, .string s, .slice da dl dc] 30) zcq)
 have HM := hid (fun (W w1 : World) (x : Value) (c : Nat) (Q : Ks → Prop) => AfterP.mk' (W := W) (w1 := w1) (x := x) (c := c) (Q := Q) hE hY hK)
 have HC := hid hcall
 have HCL := hid (call_at w i fd n s da dl dc)
 have HT : Hid (∀ W, Hid (Below w.heap.size w W ∧ W.heap[w.heap.size]? = some (.cells #[.int .i64 i, .int .i64 fd, .int .i64 n, .string s, .slice da dl dc] 30 (0, 0)) ∧ W.heap[w.heap.size + 1]? = some (.cells #[.int .i64 0, .int .i64 0, .string ByteArray.empty, .int .i64 0, .int .i64 0, .int .i64 0] 34 (0, 0))) → Calls Tryz.prog 12 #[.pointer (some ⟨K.kb, 0, none⟩)] W fun e w' => (e = .returned (.pointer (some ⟨K.T.tb, 0, none⟩)) ∧ Hid (Below w.heap.size w w' ∧ w'.heap[w.heap.size]? = some (.cells #[.int .i64 i, .int .i64 fd, .int .i64 n, .string s, .slice da dl dc] 30 (0, 0)) ∧ w'.heap[w.heap.size + 1]? = some (.cells #[.int .i64 0, .int .i64 0, .string ByteArray.empty, .int .i64 0, .int .i64 0, .int .i64 0] 34 (0, 0)))) ∧ w'.cell? ⟨w.heap.size, 3, none⟩ = some (.string s)) := fun W hW => (kern_Tree (hK.below hW.out.1).kern).mono fun e w' ⟨he, hw⟩ => by
  subst hw
  exact ⟨⟨he, hW⟩, zaa hW.out.2.1 rfl⟩
 have HRM : Hid (∀ W, Hid (Below w.heap.size w W ∧ W.heap[w.heap.size]? = some (.cells #[.int .i64 i, .int .i64 fd, .int .i64 n, .string s, .slice da dl dc] 30 (0, 0)) ∧ W.heap[w.heap.size + 1]? = some (.cells #[.int .i64 0, .int .i64 0, .string ByteArray.empty, .int .i64 0, .int .i64 0, .int .i64 0] 34 (0, 0))) → Calls Tryz.prog 29 #[.pointer (some ⟨K.T.tb, 0, none⟩), .string s] W fun e w' => (∃ c x, e = .returned x ∧ Hid (AfterP E B w K x c (P c) w' ∧ w'.heap[w.heap.size]? = some (.cells #[.int .i64 i, .int .i64 fd, .int .i64 n, .string s, .slice da dl dc] 30 (0, 0)))) ∧ w'.cell? ⟨w.heap.size, 3, none⟩ = some (.string s)) := fun W hW => (hcall W hW.out.1).mono fun e w' ⟨c, x, he, herr, hpo⟩ => by
  have hcb : w'.heap[w.heap.size]? = some (.cells #[.int .i64 i, .int .i64 fd, .int .i64 n, .string s, .slice da dl dc] 30 (0, 0)) := by
   obtain ⟨K', _, a2, _⟩ := hpo.ex
   exact (a2.block _ (zab hW.out.2.1) ((hK.below hW.out.1).not_foot hW.out.2.1 (by decide) (by decide))).trans hW.out.2.1
  exact ⟨⟨c, x, he, AfterP.mk' hE hY hK hW.out.1 hW.out.2.2 herr hpo, hcb⟩, zaa hcb rfl⟩
 have HTL : Hid (∀ x c W, Hid (AfterP E B w K x c (P c) W ∧ W.heap[w.heap.size]? = some (.cells #[.int .i64 i, .int .i64 fd, .int .i64 n, .string s, .slice da dl dc] 30 (0, 0))) → Calls Tryz.prog 22 #[x] W fun e w' => (e = .returned (zck c) ∧ Hid (AfterP E B w K x c (P c) w')) ∧ w'.cell? ⟨w.heap.size, 3, none⟩ = some (.string s)) := fun x c W hW => (hW.out.1.tell W (Below.refl _ _)).mono fun e w' ⟨he, hb⟩ => ⟨⟨he, hW.out.1.below hb⟩, zaa (zae hb (zab hW.out.2) hW.out.2) rfl⟩
 have e0 : (i == 0) = false := beq_eq_false_iff_ne.2 (by omega)
 have e1 : (i == 1) = false := beq_eq_false_iff_ne.2 (by omega)
 have e2 : (i == 2) = false := beq_eq_false_iff_ne.2 (by omega)
 have e3 : (i == 3) = false := beq_eq_false_iff_ne.2 (by omega)
 have e4 : (i == 4) = false := beq_eq_false_iff_ne.2 (by omega)
 have e5 : (i == 5) = false := beq_eq_false_iff_ne.2 (by omega)
 have e6 : (i == 6) = false := beq_eq_false_iff_ne.2 (by omega)
 clear hE hY hK hcall HM HC hi
 go_enter Tryz.func8, Tryz.ntmps8
 go_wp2_with fail
 have HBR : Hid (Below w.heap.size w ((w.alloc (.cells #[.int .i64 i, .int .i64 fd, .int .i64 n, .string s, .slice da dl dc] 30)).alloc (.cells #[.int .i64 0, .int .i64 0, .string ⟨#[]⟩, .int .i64 0, .int .i64 0, .int .i64 0] 34)) ∧ ((w.alloc (.cells #[.int .i64 i, .int .i64 fd, .int .i64 n, .string s, .slice da dl dc] 30)).alloc (.cells #[.int .i64 0, .int .i64 0, .string ⟨#[]⟩, .int .i64 0, .int .i64 0, .int .i64 0] 34)).heap[w.heap.size]? = some (.cells #[.int .i64 i, .int .i64 fd, .int .i64 n, .string s, .slice da dl dc] 30 (0, 0)) ∧ ((w.alloc (.cells #[.int .i64 i, .int .i64 fd, .int .i64 n, .string s, .slice da dl dc] 30)).alloc (.cells #[.int .i64 0, .int .i64 0, .string ⟨#[]⟩, .int .i64 0, .int .i64 0, .int .i64 0] 34)).heap[w.heap.size + 1]? = some (.cells #[.int .i64 0, .int .i64 0, .string ByteArray.empty, .int .i64 0, .int .i64 0, .int .i64 0] 34 (0, 0))) := ⟨HB0.out, HCL.out, HA.out⟩
 have HBD : Hid (Below w.heap.size w ((w.alloc (.cells #[.int .i64 i, .int .i64 fd, .int .i64 n, .string s, .slice da dl dc] 30)).alloc (.cells #[.int .i64 0, .int .i64 0, .string ⟨#[]⟩, .int .i64 0, .int .i64 0, .int .i64 0] 34)).drew ∧ ((w.alloc (.cells #[.int .i64 i, .int .i64 fd, .int .i64 n, .string s, .slice da dl dc] 30)).alloc (.cells #[.int .i64 0, .int .i64 0, .string ⟨#[]⟩, .int .i64 0, .int .i64 0, .int .i64 0] 34)).drew.heap[w.heap.size]? = some (.cells #[.int .i64 i, .int .i64 fd, .int .i64 n, .string s, .slice da dl dc] 30 (0, 0)) ∧ ((w.alloc (.cells #[.int .i64 i, .int .i64 fd, .int .i64 n, .string s, .slice da dl dc] 30)).alloc (.cells #[.int .i64 0, .int .i64 0, .string ⟨#[]⟩, .int .i64 0, .int .i64 0, .int .i64 0] 34)).drew.heap[w.heap.size + 1]? = some (.cells #[.int .i64 0, .int .i64 0, .string ByteArray.empty, .int .i64 0, .int .i64 0, .int .i64 0] 34 (0, 0))) := ⟨HB0.out.drew, HCL.out, HA.out⟩
 have c3 : ((w.alloc (.cells #[.int .i64 i, .int .i64 fd, .int .i64 n, .string s, .slice da dl dc] 30)).alloc (.cells #[.int .i64 0, .int .i64 0, .string ⟨#[]⟩, .int .i64 0, .int .i64 0, .int .i64 0] 34)).cell? ⟨w.heap.size, 3, none⟩ = some (.string s) := zaa HCL.out rfl
 have c3d : ((w.alloc (.cells #[.int .i64 i, .int .i64 fd, .int .i64 n, .string s, .slice da dl dc] 30)).alloc (.cells #[.int .i64 0, .int .i64 0, .string ⟨#[]⟩, .int .i64 0, .int .i64 0, .int .i64 0] 34)).drew.cell? ⟨w.heap.size, 3, none⟩ = some (.string s) := zaa HCL.out rfl
 clear HB0 HCL HA
 generalize ((w.alloc (.cells #[.int .i64 i, .int .i64 fd, .int .i64 n, .string s, .slice da dl dc] 30)).alloc (.cells #[.int .i64 0, .int .i64 0, .string ⟨#[]⟩, .int .i64 0, .int .i64 0, .int .i64 0] 34)) = W0 at *
 go_region_held3 (fun W => W.cell? ⟨w.heap.size, 3, none⟩ = some (.string s)) (with_reducible assumption)
  (first
   | (go_at_call 12; refine (HT.out _ (by with_reducible assumption)).mono ?_; rintro e w' ⟨⟨rfl, HX1⟩, d3⟩)
   | (go_at_call 29; refine (HRM.out _ HX1).mono ?_; rintro e w' ⟨⟨c, x, rfl, HX2⟩, d3⟩)
   | (go_at_call 22; refine (HTL.out _ _ _ HX2).mono ?_; rintro e w' ⟨⟨rfl, HP2⟩, d3⟩; simp only [zbv]; have s3 := ((zbm w' (w.heap.size + 1) (.int .i64 0) (.int .i64 0) (.string ⟨#[]⟩) (.int .i64 (c : Int)) (.int .i64 0) (.int .i64 (lgOf c))).cell (p := ⟨w.heap.size, 3, none⟩) (World.block_lt_of_cell? _ _ d3) (fun e => by have e : w.heap.size = w.heap.size + 1 := e; omega)).trans d3; have r0 := zaa (o := 0) HP2.out.ans rfl; have r1 := zaa (o := 1) HP2.out.ans rfl; have r2 := zaa (o := 2) HP2.out.ans rfl; have r3 := zaa (o := 3) HP2.out.ans rfl; have r4 := zaa (o := 4) HP2.out.ans rfl; have r5 := zaa (o := 5) HP2.out.ans rfl; have rf' := fun o => zah HP2.out.ans o))
 all_goals
  go_wp2_with fail
  refine bodyPost_ret (v := ansV 0 0 [] c) ?_ rfl ⟨0, 0, [], c, rfl, ((HP2.out.done (zbm w' _ _ _ _ _ _ _)).mono (fun _ h => ⟨rfl, rfl, rfl, h⟩))⟩
  simp [results, Tryz.results8, go_sem, r0, r1, r2, r3, r4, r5, ansV, strOf]
end
section
theorem ROk.mono {B : Nat} {W w1 : World} {X : Rk} {P Q : Rk → Prop} (h : ROk B W X P w1) (hPQ : ∀ X', P X' → Q X') : ROk B W X Q w1 := by
 obtain ⟨X', a1, a2, a3, a4, a5, a6, a7, a8⟩ := h.ex
 exact ⟨X', a1, a2, a3, a4, a5, a6, a7, hPQ X' a8⟩
def MdPost (B : Nat) (w : World) (X : Rk) (Q : Rk → Prop) (v : Value) (e : Ending) (w' : World) : Prop := e = .returned v ∧ ROk B w X Q w'
structure AfterR (B : Nat) (w : World) (X : Rk) (Q : Rk → Prop) (w1 : World) : Prop where
 ok : ∃ W, Below w.heap.size w W ∧ w.heap.size + 1 < W.heap.size ∧ ROk B W X Q w1
 ans : w1.heap[w.heap.size + 1]? = some (.cells #[.int .i64 0, .int .i64 0, .string ByteArray.empty, .int .i64 0, .int .i64 0, .int .i64 0] 34 (0, 0))
theorem AfterR.mk' {B : Nat} {w W w1 : World} {X : Rk} {Q : Rk → Prop} (hX : RkRep B w X) (hW : Below w.heap.size w W) (hA : W.heap[w.heap.size + 1]? = some (.cells #[.int .i64 0, .int .i64 0, .string ByteArray.empty, .int .i64 0, .int .i64 0, .int .i64 0] 34 (0, 0))) (hp : ROk B W X Q w1) : AfterR B w X Q w1 :=
 ⟨⟨W, hW, zab hA, hp⟩, hp.ans (hX.below hW) hA⟩
theorem AfterR.below {B : Nat} {w w1 w2 : World} {X : Rk} {Q : Rk → Prop} (h : AfterR B w X Q w1) (hb : Below w1.heap.size w1 w2) : AfterR B w X Q w2 := by
 obtain ⟨W, h1, h2, h3⟩ := h.ok
 exact ⟨⟨W, h1, h2, h3.below hb⟩, zae hb (zab h.ans) h.ans⟩
theorem AfterR.done {B : Nat} {w w1 w2 : World} {X : Rk} {Q : Rk → Prop} (h : AfterR B w X Q w1) (k : Kept (fun b => b = w.heap.size + 1) w1 w2) : ROk B w X Q w2 := by
 obtain ⟨W, h1, h2, h3⟩ := h.ok
 exact h3.back h1 (by omega) h.ans k
set_option maxRecDepth 100000 in
set_option maxHeartbeats 1000000 in
theorem md_0 {B : Nat} {w : World} {X : Rk} {P : Rk → Prop} {a c : Nat} (hX : RkRep B w X) (fd n : Int) (s : ByteArray) (da : Option Addr) (dl dc : Nat) (hcall : ∀ W, Below w.heap.size w W → Calls Tryz.prog 30 #[.pointer (some ⟨X.kb, 0, none⟩), .string s, .int .i64 n] W fun e w' => e = .returned (.tuple #[.int .i64 (a : Nat), zck c]) ∧ ROk B W X P w') :
  Calls Tryz.prog 9 #[.pointer (some ⟨X.kb, 0, none⟩), .agg #[.int .i64 0, .int .i64 fd, .int .i64 n, .string s, .slice da dl dc]] w fun e w' => MdPost B w X P (ansV a 0 [] c) e w' := by
 have HA := hid (zc7 w (.cells #[.int .i64 0, .int .i64 fd, .int .i64 n, .string s, .slice da dl dc] 30))
 have HB0 := hid (zar w (.cells #[.int .i64 0, .int .i64 fd, .int .i64 n, .string s, .slice da dl dc] 30) zcq)
 have HM := hid (fun (W w1 : World) => AfterR.mk' (W := W) (w1 := w1) (Q := P) hX)
 have HC := hid hcall
 clear hX hcall
 go_enter Tryz.func9, Tryz.ntmps9
 go_wp2_with fail
 refine (HC.out _ HB0.out).mono ?_
 rintro e w1 ⟨rfl, hpo⟩
 have HP1 := hid (HM.out _ _ HB0.out HA.out hpo)
 clear hpo
 simp only [zbv]
 obtain ⟨w2, hw2⟩ : ∃ w2, w2 = w1.alloc (.cells #[.int .i64 (c : Int), .int .i64 0, .int .i64 (lgOf c)] 32) := ⟨_, rfl⟩
 have HP2 : Hid (AfterR B w X P w2) := by rw [hw2]; exact HP1.out.below (zad _ _)
 have HF2 : Hid (w2.heap[w1.heap.size]? = some (.cells #[.int .i64 (c : Int), .int .i64 0, .int .i64 (lgOf c)] 32 (0, 0))) := by rw [hw2]; exact heap_alloc_new w1 _
 have HB2 : Hid (Below w1.heap.size w1 w2) := by rw [hw2]; exact zad _ _
 have HW2 := hid hw2
 clear hw2
 go_upto_region 4 with fail
 rw [← HW2.out]
 clear HW2
 have f0 := zaa (o := 0) HF2.out rfl
 have f1 := zaa (o := 1) HF2.out rfl
 have f2 := zaa (o := 2) HF2.out rfl
 have r0 := zaa (o := 0) HP2.out.ans rfl
 have r1 := zaa (o := 1) HP2.out.ans rfl
 have r2 := zaa (o := 2) HP2.out.ans rfl
 have r3 := zaa (o := 3) HP2.out.ans rfl
 have r4 := zaa (o := 4) HP2.out.ans rfl
 have r5 := zaa (o := 5) HP2.out.ans rfl
 have rf' := fun o => zah HP2.out.ans o
 go_wp2_with fail
 refine bodyPost_ret (v := ansV a 0 [] c) ?_ rfl ⟨rfl, HP2.out.done (zbm w2 _ _ _ _ _ _ _)⟩
 simp [results, Tryz.results9, go_sem, r0, r1, r2, r3, r4, r5, ansV, strOf]
set_option maxRecDepth 100000 in
set_option maxHeartbeats 1000000 in
theorem md_1 {B : Nat} {w : World} {X : Rk} {P : Rk → Prop} {a b c : Nat} (hX : RkRep B w X) (fd n : Int) (s : ByteArray) (da : Option Addr) (dl dc : Nat) (hcall : ∀ W, Below w.heap.size w W → Calls Tryz.prog 31 #[.pointer (some ⟨X.kb, 0, none⟩)] W fun e w' => e = .returned (.tuple #[.int .i64 (a : Nat), .int .i64 (b : Nat), zck c]) ∧ ROk B W X P w') :
  Calls Tryz.prog 9 #[.pointer (some ⟨X.kb, 0, none⟩), .agg #[.int .i64 1, .int .i64 fd, .int .i64 n, .string s, .slice da dl dc]] w fun e w' => MdPost B w X P (ansV a b [] c) e w' := by
 have HA := hid (zc7 w (.cells #[.int .i64 1, .int .i64 fd, .int .i64 n, .string s, .slice da dl dc] 30))
 have HB0 := hid (zar w (.cells #[.int .i64 1, .int .i64 fd, .int .i64 n, .string s, .slice da dl dc] 30) zcq)
 have HM := hid (fun (W w1 : World) => AfterR.mk' (W := W) (w1 := w1) (Q := P) hX)
 have HC := hid hcall
 clear hX hcall
 go_enter Tryz.func9, Tryz.ntmps9
 go_wp2_with fail
 refine (HC.out _ HB0.out).mono ?_
 rintro e w1 ⟨rfl, hpo⟩
 have HP1 := hid (HM.out _ _ HB0.out HA.out hpo)
 clear hpo
 simp only [zbv]
 obtain ⟨w2, hw2⟩ : ∃ w2, w2 = w1.alloc (.cells #[.int .i64 (c : Int), .int .i64 0, .int .i64 (lgOf c)] 32) := ⟨_, rfl⟩
 have HP2 : Hid (AfterR B w X P w2) := by rw [hw2]; exact HP1.out.below (zad _ _)
 have HF2 : Hid (w2.heap[w1.heap.size]? = some (.cells #[.int .i64 (c : Int), .int .i64 0, .int .i64 (lgOf c)] 32 (0, 0))) := by rw [hw2]; exact heap_alloc_new w1 _
 have HB2 : Hid (Below w1.heap.size w1 w2) := by rw [hw2]; exact zad _ _
 have HW2 := hid hw2
 clear hw2
 go_upto_region 7 with fail
 rw [← HW2.out]
 clear HW2
 have f0 := zaa (o := 0) HF2.out rfl
 have f1 := zaa (o := 1) HF2.out rfl
 have f2 := zaa (o := 2) HF2.out rfl
 have r0 := zaa (o := 0) HP2.out.ans rfl
 have r1 := zaa (o := 1) HP2.out.ans rfl
 have r2 := zaa (o := 2) HP2.out.ans rfl
 have r3 := zaa (o := 3) HP2.out.ans rfl
 have r4 := zaa (o := 4) HP2.out.ans rfl
 have r5 := zaa (o := 5) HP2.out.ans rfl
 have rf' := fun o => zah HP2.out.ans o
 go_wp2_with fail
 refine bodyPost_ret (v := ansV a b [] c) ?_ rfl ⟨rfl, HP2.out.done (zbm w2 _ _ _ _ _ _ _)⟩
 simp [results, Tryz.results9, go_sem, r0, r1, r2, r3, r4, r5, ansV, strOf]
set_option maxRecDepth 100000 in
set_option maxHeartbeats 1000000 in
theorem md_2 {B : Nat} {w : World} {X : Rk} {P : Rk → Prop} {a c : Nat} (hX : RkRep B w X) (fd n : Int) (s : ByteArray) (da : Option Addr) (dl dc : Nat) (hcall : ∀ W, Below w.heap.size w W → Calls Tryz.prog 32 #[.pointer (some ⟨X.kb, 0, none⟩), .int .i64 fd] W fun e w' => e = .returned (.tuple #[.int .i64 (a : Nat), zck c]) ∧ ROk B W X P w') :
  Calls Tryz.prog 9 #[.pointer (some ⟨X.kb, 0, none⟩), .agg #[.int .i64 2, .int .i64 fd, .int .i64 n, .string s, .slice da dl dc]] w fun e w' => MdPost B w X P (ansV a 0 [] c) e w' := by
 have HA := hid (zc7 w (.cells #[.int .i64 2, .int .i64 fd, .int .i64 n, .string s, .slice da dl dc] 30))
 have HB0 := hid (zar w (.cells #[.int .i64 2, .int .i64 fd, .int .i64 n, .string s, .slice da dl dc] 30) zcq)
 have HM := hid (fun (W w1 : World) => AfterR.mk' (W := W) (w1 := w1) (Q := P) hX)
 have HC := hid hcall
 clear hX hcall
 go_enter Tryz.func9, Tryz.ntmps9
 go_wp2_with fail
 refine (HC.out _ HB0.out).mono ?_
 rintro e w1 ⟨rfl, hpo⟩
 have HP1 := hid (HM.out _ _ HB0.out HA.out hpo)
 clear hpo
 simp only [zbv]
 obtain ⟨w2, hw2⟩ : ∃ w2, w2 = w1.alloc (.cells #[.int .i64 (c : Int), .int .i64 0, .int .i64 (lgOf c)] 32) := ⟨_, rfl⟩
 have HP2 : Hid (AfterR B w X P w2) := by rw [hw2]; exact HP1.out.below (zad _ _)
 have HF2 : Hid (w2.heap[w1.heap.size]? = some (.cells #[.int .i64 (c : Int), .int .i64 0, .int .i64 (lgOf c)] 32 (0, 0))) := by rw [hw2]; exact heap_alloc_new w1 _
 have HB2 : Hid (Below w1.heap.size w1 w2) := by rw [hw2]; exact zad _ _
 have HW2 := hid hw2
 clear hw2
 go_upto_region 10 with fail
 rw [← HW2.out]
 clear HW2
 have f0 := zaa (o := 0) HF2.out rfl
 have f1 := zaa (o := 1) HF2.out rfl
 have f2 := zaa (o := 2) HF2.out rfl
 have r0 := zaa (o := 0) HP2.out.ans rfl
 have r1 := zaa (o := 1) HP2.out.ans rfl
 have r2 := zaa (o := 2) HP2.out.ans rfl
 have r3 := zaa (o := 3) HP2.out.ans rfl
 have r4 := zaa (o := 4) HP2.out.ans rfl
 have r5 := zaa (o := 5) HP2.out.ans rfl
 have rf' := fun o => zah HP2.out.ans o
 go_wp2_with fail
 refine bodyPost_ret (v := ansV a 0 [] c) ?_ rfl ⟨rfl, HP2.out.done (zbm w2 _ _ _ _ _ _ _)⟩
 simp [results, Tryz.results9, go_sem, r0, r1, r2, r3, r4, r5, ansV, strOf]
set_option maxRecDepth 100000 in
set_option maxHeartbeats 1000000 in
theorem md_3 {B : Nat} {w : World} {X : Rk} {P : Rk → Prop} {c : Nat} (hX : RkRep B w X) (fd n : Int) (s : ByteArray) (da : Option Addr) (dl dc : Nat) (hcall : ∀ W, Below w.heap.size w W → Calls Tryz.prog 33 #[.pointer (some ⟨X.kb, 0, none⟩), .int .i64 fd, .int .i64 n] W fun e w' => e = .returned (zck c) ∧ ROk B W X P w') :
  Calls Tryz.prog 9 #[.pointer (some ⟨X.kb, 0, none⟩), .agg #[.int .i64 3, .int .i64 fd, .int .i64 n, .string s, .slice da dl dc]] w fun e w' => MdPost B w X P (ansV 0 0 [] c) e w' := by
 have HA := hid (zc7 w (.cells #[.int .i64 3, .int .i64 fd, .int .i64 n, .string s, .slice da dl dc] 30))
 have HB0 := hid (zar w (.cells #[.int .i64 3, .int .i64 fd, .int .i64 n, .string s, .slice da dl dc] 30) zcq)
 have HM := hid (fun (W w1 : World) => AfterR.mk' (W := W) (w1 := w1) (Q := P) hX)
 have HC := hid hcall
 clear hX hcall
 go_enter Tryz.func9, Tryz.ntmps9
 go_wp2_with fail
 refine (HC.out _ HB0.out).mono ?_
 rintro e w1 ⟨rfl, hpo⟩
 have HP1 := hid (HM.out _ _ HB0.out HA.out hpo)
 clear hpo
 simp only [zbv]
 have r0 := zaa (o := 0) HP1.out.ans rfl
 have r1 := zaa (o := 1) HP1.out.ans rfl
 have r2 := zaa (o := 2) HP1.out.ans rfl
 have r3 := zaa (o := 3) HP1.out.ans rfl
 have r4 := zaa (o := 4) HP1.out.ans rfl
 have r5 := zaa (o := 5) HP1.out.ans rfl
 have rf' := fun o => zah HP1.out.ans o
 go_wp2_with fail
 refine bodyPost_ret (v := ansV 0 0 [] c) ?_ rfl ⟨rfl, HP1.out.done (zbm w1 _ _ _ _ _ _ _)⟩
 simp [results, Tryz.results9, go_sem, r0, r1, r2, r3, r4, r5, ansV, strOf]
set_option maxRecDepth 100000 in
set_option maxHeartbeats 1000000 in
theorem md_4 {B : Nat} {w : World} {X : Rk} {P : Rk → Prop} {c : Nat} (hX : RkRep B w X) (fd n : Int) (s : ByteArray) (da : Option Addr) (dl dc : Nat) (hcall : ∀ W, Below w.heap.size w W → Calls Tryz.prog 34 #[.pointer (some ⟨X.kb, 0, none⟩), .int .i64 fd] W fun e w' => e = .returned (zck c) ∧ ROk B W X P w') :
  Calls Tryz.prog 9 #[.pointer (some ⟨X.kb, 0, none⟩), .agg #[.int .i64 4, .int .i64 fd, .int .i64 n, .string s, .slice da dl dc]] w fun e w' => MdPost B w X P (ansV 0 0 [] c) e w' := by
 have HA := hid (zc7 w (.cells #[.int .i64 4, .int .i64 fd, .int .i64 n, .string s, .slice da dl dc] 30))
 have HB0 := hid (zar w (.cells #[.int .i64 4, .int .i64 fd, .int .i64 n, .string s, .slice da dl dc] 30) zcq)
 have HM := hid (fun (W w1 : World) => AfterR.mk' (W := W) (w1 := w1) (Q := P) hX)
 have HC := hid hcall
 clear hX hcall
 go_enter Tryz.func9, Tryz.ntmps9
 go_wp2_with fail
 refine (HC.out _ HB0.out).mono ?_
 rintro e w1 ⟨rfl, hpo⟩
 have HP1 := hid (HM.out _ _ HB0.out HA.out hpo)
 clear hpo
 simp only [zbv]
 have r0 := zaa (o := 0) HP1.out.ans rfl
 have r1 := zaa (o := 1) HP1.out.ans rfl
 have r2 := zaa (o := 2) HP1.out.ans rfl
 have r3 := zaa (o := 3) HP1.out.ans rfl
 have r4 := zaa (o := 4) HP1.out.ans rfl
 have r5 := zaa (o := 5) HP1.out.ans rfl
 have rf' := fun o => zah HP1.out.ans o
 go_wp2_with fail
 refine bodyPost_ret (v := ansV 0 0 [] c) ?_ rfl ⟨rfl, HP1.out.done (zbm w1 _ _ _ _ _ _ _)⟩
 simp [results, Tryz.results9, go_sem, r0, r1, r2, r3, r4, r5, ansV, strOf]
set_option maxRecDepth 100000 in
set_option maxHeartbeats 1000000 in
theorem md_6 {B : Nat} {w : World} {X : Rk} {P : Rk → Prop} {c : Nat} (hX : RkRep B w X) (fd n : Int) (s : ByteArray) (da : Option Addr) (dl dc : Nat) (hcall : ∀ W, Below w.heap.size w W → Calls Tryz.prog 36 #[.pointer (some ⟨X.kb, 0, none⟩), .int .i64 fd, .slice da dl dc] W fun e w' => e = .returned (zck c) ∧ ROk B W X P w') :
  Calls Tryz.prog 9 #[.pointer (some ⟨X.kb, 0, none⟩), .agg #[.int .i64 6, .int .i64 fd, .int .i64 n, .string s, .slice da dl dc]] w fun e w' => MdPost B w X P (ansV 0 0 [] c) e w' := by
 have HA := hid (zc7 w (.cells #[.int .i64 6, .int .i64 fd, .int .i64 n, .string s, .slice da dl dc] 30))
 have HB0 := hid (zar w (.cells #[.int .i64 6, .int .i64 fd, .int .i64 n, .string s, .slice da dl dc] 30) zcq)
 have HM := hid (fun (W w1 : World) => AfterR.mk' (W := W) (w1 := w1) (Q := P) hX)
 have HC := hid hcall
 clear hX hcall
 go_enter Tryz.func9, Tryz.ntmps9
 go_wp2_with fail
 refine (HC.out _ HB0.out).mono ?_
 rintro e w1 ⟨rfl, hpo⟩
 have HP1 := hid (HM.out _ _ HB0.out HA.out hpo)
 clear hpo
 simp only [zbv]
 have r0 := zaa (o := 0) HP1.out.ans rfl
 have r1 := zaa (o := 1) HP1.out.ans rfl
 have r2 := zaa (o := 2) HP1.out.ans rfl
 have r3 := zaa (o := 3) HP1.out.ans rfl
 have r4 := zaa (o := 4) HP1.out.ans rfl
 have r5 := zaa (o := 5) HP1.out.ans rfl
 have rf' := fun o => zah HP1.out.ans o
 go_wp2_with fail
 refine bodyPost_ret (v := ansV 0 0 [] c) ?_ rfl ⟨rfl, HP1.out.done (zbm w1 _ _ _ _ _ _ _)⟩
 simp [results, Tryz.results9, go_sem, r0, r1, r2, r3, r4, r5, ansV, strOf]
set_option maxRecDepth 100000 in
set_option maxHeartbeats 1000000 in
theorem md_5 {B : Nat} {w : World} {X : Rk} {P : Rk → Prop} {l : List UInt8} {c : Nat} (hX : RkRep B w X) (fd n : Int) (s : ByteArray) (da : Option Addr) (dl dc : Nat) (hcall : ∀ W, Below w.heap.size w W → Calls Tryz.prog 35 #[.pointer (some ⟨X.kb, 0, none⟩), .int .i64 fd, .int .i64 n] W fun e w' => ∃ v, e = .returned (.tuple #[v, zck c]) ∧ w'.ownsRow W.heap.size 5 1 v l.length (u8s l) ∧ ROk B W X P w') :
  Calls Tryz.prog 9 #[.pointer (some ⟨X.kb, 0, none⟩), .agg #[.int .i64 5, .int .i64 fd, .int .i64 n, .string s, .slice da dl dc]] w fun e w' => MdPost B w X P (ansV 0 0 l c) e w' := by
 have HA := hid (zc7 w (.cells #[.int .i64 5, .int .i64 fd, .int .i64 n, .string s, .slice da dl dc] 30))
 have HB0 := hid (zar w (.cells #[.int .i64 5, .int .i64 fd, .int .i64 n, .string s, .slice da dl dc] 30) zcq)
 have HM := hid (fun (W w1 : World) => AfterR.mk' (W := W) (w1 := w1) (Q := P) hX)
 have HC := hid hcall
 clear hX hcall
 go_enter Tryz.func9, Tryz.ntmps9
 go_wp2_with fail
 refine (HC.out _ HB0.out).mono ?_
 rintro e w1 ⟨v, rfl, hrow, hpo⟩
 have HP1 := hid (HM.out _ _ HB0.out HA.out hpo)
 have HS : Hid (∀ W, Hid (Below w1.heap.size w1 W) → (convert 28 9 v).run Tryz.prog W = .ok (.string (strOf l)) W) := fun W hW => zdd ((Src.of_owns hrow).kept (Kept.of_below hW.out (fun _ => False)) (fun _ _ h => h))
 obtain ⟨va, vc, rfl⟩ := zak hrow
 clear hpo hrow
 simp only [zbv]
 obtain ⟨w2, hw2⟩ : ∃ w2, w2 = w1.alloc (.cells #[.int .i64 (c : Int), .int .i64 0, .int .i64 (lgOf c)] 32) := ⟨_, rfl⟩
 have HP2 : Hid (AfterR B w X P w2) := by rw [hw2]; exact HP1.out.below (zad _ _)
 have HF2 : Hid (w2.heap[w1.heap.size]? = some (.cells #[.int .i64 (c : Int), .int .i64 0, .int .i64 (lgOf c)] 32 (0, 0))) := by rw [hw2]; exact heap_alloc_new w1 _
 have HB2 : Hid (Below w1.heap.size w1 w2) := by rw [hw2]; exact zad _ _
 have HW2 := hid hw2
 clear hw2
 go_upto_region 17 with fail
 rw [← HW2.out]
 clear HW2
 have f0 := zaa (o := 0) HF2.out rfl
 have f1 := zaa (o := 1) HF2.out rfl
 have f2 := zaa (o := 2) HF2.out rfl
 have s2 := HS.out w2 HB2
 have r0 := zaa (o := 0) HP2.out.ans rfl
 have r1 := zaa (o := 1) HP2.out.ans rfl
 have r2 := zaa (o := 2) HP2.out.ans rfl
 have r3 := zaa (o := 3) HP2.out.ans rfl
 have r4 := zaa (o := 4) HP2.out.ans rfl
 have r5 := zaa (o := 5) HP2.out.ans rfl
 have rf' := fun o => zah HP2.out.ans o
 go_wp2_with fail
 refine bodyPost_ret (v := ansV 0 0 l c) ?_ rfl ⟨rfl, HP2.out.done (zbm w2 _ _ _ _ _ _ _)⟩
 simp [results, Tryz.results9, go_sem, r0, r1, r2, r3, r4, r5, ansV, strOf]
end
section
set_option maxRecDepth 100000 in
set_option maxHeartbeats 1000000 in
theorem md_7 {B : Nat} {w : World} {X : Rk} {P : Rk → Prop} {c : Nat} (hX : RkRep B w X) (i : Int) (hi : i < 0 ∨ 6 < i) (fd n : Int) (s : ByteArray) (da : Option Addr) (dl dc : Nat) (hcall : ∀ W, Below w.heap.size w W → Calls Tryz.prog 37 #[.pointer (some ⟨X.R.tb, 0, none⟩), .string s] W fun e w' => e = .returned (zck c) ∧ ROk B W X P w') :
  Calls Tryz.prog 9 #[.pointer (some ⟨X.kb, 0, none⟩), .agg #[.int .i64 i, .int .i64 fd, .int .i64 n, .string s, .slice da dl dc]] w fun e w' => MdPost B w X P (ansV 0 0 [] c) e w' := by
 have HA := hid (zc7 w (.cells #[.int .i64 i, .int .i64 fd, .int .i64 n, .string s, .slice da dl dc] 30))
 have HB0 := hid (zar w (.cells #[.int .i64 i, .int .i64 fd, .int .i64 n, .string s, .slice da dl dc] 30) zcq)
 have HM := hid (fun (W w1 : World) => AfterR.mk' (W := W) (w1 := w1) (Q := P) hX)
 have HC := hid hcall
 have HCL := hid (call_at w i fd n s da dl dc)
 have HRM : Hid (∀ W, Hid (Below w.heap.size w W ∧ W.heap[w.heap.size]? = some (.cells #[.int .i64 i, .int .i64 fd, .int .i64 n, .string s, .slice da dl dc] 30 (0, 0)) ∧ W.heap[w.heap.size + 1]? = some (.cells #[.int .i64 0, .int .i64 0, .string ByteArray.empty, .int .i64 0, .int .i64 0, .int .i64 0] 34 (0, 0))) → Calls Tryz.prog 37 #[.pointer (some ⟨X.R.tb, 0, none⟩), .string s] W fun e w' => (e = .returned (zck c) ∧ Hid (AfterR B w X P w')) ∧ w'.cell? ⟨w.heap.size, 3, none⟩ = some (.string s) ∧ w'.cell? ⟨X.kb, 0, none⟩ = some (.pointer (some ⟨X.R.tb, 0, none⟩))) := fun W hW => (hcall W hW.out.1).mono fun e w' ⟨he, hpo⟩ => by
  have hcb : w'.heap[w.heap.size]? = some (.cells #[.int .i64 i, .int .i64 fd, .int .i64 n, .string s, .slice da dl dc] 30 (0, 0)) := by
   obtain ⟨X', _, a2, _⟩ := hpo.ex
   exact (a2.block _ (zab hW.out.2.1) ((hX.below hW.out.1).not_foot hW.out.2.1 (by decide) (by decide) (by decide) (by decide) (by decide) (by decide))).trans hW.out.2.1
  have hkt : w'.cell? ⟨X.kb, 0, none⟩ = some (.pointer (some ⟨X.R.tb, 0, none⟩)) := by
   obtain ⟨X', a1, _, _, a4, a5, _⟩ := hpo.ex
   have := a1.kern.tree
   rw [a4, a5] at this
   exact this
  exact ⟨⟨he, AfterR.mk' hX hW.out.1 hW.out.2.2 hpo⟩, zaa hcb rfl, hkt⟩
 have HKC := hid (hX.below HB0.out).kern.tree
 have HKL := hid hX.kern.lt
 have e0 : (i == 0) = false := beq_eq_false_iff_ne.2 (by omega)
 have e1 : (i == 1) = false := beq_eq_false_iff_ne.2 (by omega)
 have e2 : (i == 2) = false := beq_eq_false_iff_ne.2 (by omega)
 have e3 : (i == 3) = false := beq_eq_false_iff_ne.2 (by omega)
 have e4 : (i == 4) = false := beq_eq_false_iff_ne.2 (by omega)
 have e5 : (i == 5) = false := beq_eq_false_iff_ne.2 (by omega)
 have e6 : (i == 6) = false := beq_eq_false_iff_ne.2 (by omega)
 clear hX hcall HM HC hi
 go_enter Tryz.func9, Tryz.ntmps9
 go_wp2_with fail
 have HBR : Hid (Below w.heap.size w ((w.alloc (.cells #[.int .i64 i, .int .i64 fd, .int .i64 n, .string s, .slice da dl dc] 30)).alloc (.cells #[.int .i64 0, .int .i64 0, .string ⟨#[]⟩, .int .i64 0, .int .i64 0, .int .i64 0] 34)) ∧ ((w.alloc (.cells #[.int .i64 i, .int .i64 fd, .int .i64 n, .string s, .slice da dl dc] 30)).alloc (.cells #[.int .i64 0, .int .i64 0, .string ⟨#[]⟩, .int .i64 0, .int .i64 0, .int .i64 0] 34)).heap[w.heap.size]? = some (.cells #[.int .i64 i, .int .i64 fd, .int .i64 n, .string s, .slice da dl dc] 30 (0, 0)) ∧ ((w.alloc (.cells #[.int .i64 i, .int .i64 fd, .int .i64 n, .string s, .slice da dl dc] 30)).alloc (.cells #[.int .i64 0, .int .i64 0, .string ⟨#[]⟩, .int .i64 0, .int .i64 0, .int .i64 0] 34)).heap[w.heap.size + 1]? = some (.cells #[.int .i64 0, .int .i64 0, .string ByteArray.empty, .int .i64 0, .int .i64 0, .int .i64 0] 34 (0, 0))) := ⟨HB0.out, HCL.out, HA.out⟩
 have HBD : Hid (Below w.heap.size w ((w.alloc (.cells #[.int .i64 i, .int .i64 fd, .int .i64 n, .string s, .slice da dl dc] 30)).alloc (.cells #[.int .i64 0, .int .i64 0, .string ⟨#[]⟩, .int .i64 0, .int .i64 0, .int .i64 0] 34)).drew ∧ ((w.alloc (.cells #[.int .i64 i, .int .i64 fd, .int .i64 n, .string s, .slice da dl dc] 30)).alloc (.cells #[.int .i64 0, .int .i64 0, .string ⟨#[]⟩, .int .i64 0, .int .i64 0, .int .i64 0] 34)).drew.heap[w.heap.size]? = some (.cells #[.int .i64 i, .int .i64 fd, .int .i64 n, .string s, .slice da dl dc] 30 (0, 0)) ∧ ((w.alloc (.cells #[.int .i64 i, .int .i64 fd, .int .i64 n, .string s, .slice da dl dc] 30)).alloc (.cells #[.int .i64 0, .int .i64 0, .string ⟨#[]⟩, .int .i64 0, .int .i64 0, .int .i64 0] 34)).drew.heap[w.heap.size + 1]? = some (.cells #[.int .i64 0, .int .i64 0, .string ByteArray.empty, .int .i64 0, .int .i64 0, .int .i64 0] 34 (0, 0))) := ⟨HB0.out.drew, HCL.out, HA.out⟩
 have c3 : ((w.alloc (.cells #[.int .i64 i, .int .i64 fd, .int .i64 n, .string s, .slice da dl dc] 30)).alloc (.cells #[.int .i64 0, .int .i64 0, .string ⟨#[]⟩, .int .i64 0, .int .i64 0, .int .i64 0] 34)).cell? ⟨w.heap.size, 3, none⟩ = some (.string s) := zaa HCL.out rfl
 have c4 : ((w.alloc (.cells #[.int .i64 i, .int .i64 fd, .int .i64 n, .string s, .slice da dl dc] 30)).alloc (.cells #[.int .i64 0, .int .i64 0, .string ⟨#[]⟩, .int .i64 0, .int .i64 0, .int .i64 0] 34)).cell? ⟨X.kb, 0, none⟩ = some (.pointer (some ⟨X.R.tb, 0, none⟩)) := HKC.out
 have c3d : ((w.alloc (.cells #[.int .i64 i, .int .i64 fd, .int .i64 n, .string s, .slice da dl dc] 30)).alloc (.cells #[.int .i64 0, .int .i64 0, .string ⟨#[]⟩, .int .i64 0, .int .i64 0, .int .i64 0] 34)).drew.cell? ⟨w.heap.size, 3, none⟩ = some (.string s) := zaa HCL.out rfl
 have c4d : ((w.alloc (.cells #[.int .i64 i, .int .i64 fd, .int .i64 n, .string s, .slice da dl dc] 30)).alloc (.cells #[.int .i64 0, .int .i64 0, .string ⟨#[]⟩, .int .i64 0, .int .i64 0, .int .i64 0] 34)).drew.cell? ⟨X.kb, 0, none⟩ = some (.pointer (some ⟨X.R.tb, 0, none⟩)) := HKC.out
 clear HB0 HCL HA HKC
 generalize ((w.alloc (.cells #[.int .i64 i, .int .i64 fd, .int .i64 n, .string s, .slice da dl dc] 30)).alloc (.cells #[.int .i64 0, .int .i64 0, .string ⟨#[]⟩, .int .i64 0, .int .i64 0, .int .i64 0] 34)) = W0 at *
 go_region_held3 (fun W => W.cell? ⟨w.heap.size, 3, none⟩ = some (.string s) ∧ W.cell? ⟨X.kb, 0, none⟩ = some (.pointer (some ⟨X.R.tb, 0, none⟩))) (with_reducible exact ⟨by assumption, by assumption⟩)
  (first
   | (go_at_call 37; refine (HRM.out _ (by with_reducible assumption)).mono ?_; rintro e w' ⟨⟨rfl, HP1⟩, d3, d4⟩; simp only [zbv]; have s3 := ((zbm w' (w.heap.size + 1) (.int .i64 0) (.int .i64 0) (.string ⟨#[]⟩) (.int .i64 (c : Int)) (.int .i64 0) (.int .i64 (lgOf c))).cell (p := ⟨w.heap.size, 3, none⟩) (World.block_lt_of_cell? _ _ d3) (fun e => by have e : w.heap.size = w.heap.size + 1 := e; omega)).trans d3; have s4 := ((zbm w' (w.heap.size + 1) (.int .i64 0) (.int .i64 0) (.string ⟨#[]⟩) (.int .i64 (c : Int)) (.int .i64 0) (.int .i64 (lgOf c))).cell (p := ⟨X.kb, 0, none⟩) (World.block_lt_of_cell? _ _ d4) (fun e => by have e : X.kb = w.heap.size + 1 := e; have := HKL.out; omega)).trans d4; have r0 := zaa (o := 0) HP1.out.ans rfl; have r1 := zaa (o := 1) HP1.out.ans rfl; have r2 := zaa (o := 2) HP1.out.ans rfl; have r3 := zaa (o := 3) HP1.out.ans rfl; have r4 := zaa (o := 4) HP1.out.ans rfl; have r5 := zaa (o := 5) HP1.out.ans rfl; have rf' := fun o => zah HP1.out.ans o))
 all_goals
  go_wp2_with fail
  refine bodyPost_ret (v := ansV 0 0 [] c) ?_ rfl ⟨rfl, HP1.out.done (zbm w' _ _ _ _ _ _ _)⟩
  simp [results, Tryz.results9, go_sem, r0, r1, r2, r3, r4, r5, ansV, strOf]
end
end Go.Proofs.YteeeaeiafdgpkaaGreatDoor
