/-
 The document's tree: Write.
 The document's tree: file, Read, Link.
 pidginref1.Put; the document's tree: kids.
 The document's tree: Remove.
-/
import Derived.Test.YteeeaeiafdgpkaaGreatDoorRefA
namespace Go.Proofs.YteeeaeiafdgpkaaGreatDoor
open Go Go.RowKit
open Go.Lib (hid)
section
def RT.setData (R : RT) (n : Nat) (dn : RNd) (dv : Value) (D : List UInt8) : RT := R.setNd n { dn with dv := dv, data := D }
theorem RRep.dataed {B : Nat} {w : World} {R : RT} (h : RRep B w R) {n : Nat} {dn : RNd} (hn : R.nd n = some dn) {dv : Value} {D : List UInt8} (hown : w.ownsRow B 5 1 dv D.length (u8s D))
  (hfree : ∀ b, dv.ownBlock = some b → ∀ n' d', R.nd n' = some d' → d'.dv.ownBlock ≠ some b) : RRep B (w.setCell ⟨n, 1, none⟩ dv) (R.setData n dn dv D) := by
 have k : Kept (fun b => b = n) w (w.setCell ⟨n, 1, none⟩ dv) := (Kept.refl (fun b => b = n) w).setCell (p := ⟨n, 1, none⟩) (.inl rfl) dv
 have hnt := h.nd_ne hn
 have hrow : ∀ (e : TypeId) (size m : Nat) (v : Value) (xs : List Value), w.ownsRow B e size v m xs → e ≠ 41 → (w.setCell ⟨n, 1, none⟩ dv).ownsRow B e size v m xs := fun e size m v xs ho he => by
  refine zai ho k (fun b hb hf => ?_)
  obtain ⟨cur, hc⟩ := zaq ho hb
  have hf : b = n := hf
  subst hf
  exact zac hc (h.node _ dn hn).1 he rfl
 have hcase : ∀ x d, (R.setData n dn dv D).nd x = some d → (x = n ∧ d = { dn with dv := dv, data := D }) ∨ (x ≠ n ∧ R.nd x = some d) := fun x d hx => by
  have hx : (if x = n then some { dn with dv := dv, data := D } else R.nd x) = some d := hx
  by_cases e : x = n
  ·rw [if_pos e] at hx; cases hx; exact .inl ⟨e, rfl⟩
  ·rw [if_neg e] at hx; exact .inr ⟨e, hx⟩
 refine ⟨?_, ?_, hrow _ _ _ _ _ h.rows (by decide), ?_, ?_, ?_⟩
 ·rintro b (rfl | hb | ⟨d, hd⟩ | ⟨x, d, hd, hb⟩)
  ·exact h.low _ (.inl rfl)
  ·exact h.low _ (.inr (.inl hb))
  ·rcases hcase b d hd with ⟨rfl, _⟩ | ⟨_, h1⟩
   ·exact h.low _ (.inr (.inr (.inl ⟨dn, hn⟩)))
   ·exact h.low _ (.inr (.inr (.inl ⟨d, h1⟩)))
  ·rcases hcase x d hd with ⟨rfl, rfl⟩ | ⟨_, h1⟩
   ·exact (hown.lt b hb).1
   ·exact h.low _ (.inr (.inr (.inr ⟨x, d, h1, hb⟩)))
 ·exact (zag w _ _ (Ne.symm hnt)).trans h.tree
 ·intro x d hx
  rcases hcase x d hx with ⟨rfl, rfl⟩ | ⟨h1, h2⟩
  ·exact ⟨zaj (h.node _ dn hn).1 1 _, hrow _ _ _ _ _ hown (by decide)⟩
  ·exact ⟨(zag w _ _ h1).trans (h.node x d h2).1, hrow _ _ _ _ _ (h.node x d h2).2 (by decide)⟩
 ·intro e he
  obtain ⟨d, hd⟩ := h.ents e he
  show ∃ d, (if e.2 = n then some { dn with dv := dv, data := D } else R.nd e.2) = some d
  by_cases e1 : e.2 = n
  ·exact ⟨_, if_pos e1⟩
  ·exact ⟨d, by rw [if_neg e1]; exact hd⟩
 ·intro x d y e b hx hy hb hb2
  rcases hcase x d hx with ⟨h1, rfl⟩ | ⟨h1, h2⟩
  ·rcases hcase y e hy with ⟨h3, rfl⟩ | ⟨h3, h4⟩
   ·rw [h1, h3]
   ·exact absurd hb2 (hfree b hb y e h4)
  ·rcases hcase y e hy with ⟨h3, rfl⟩ | ⟨h3, h4⟩
   ·exact absurd hb (hfree b hb2 x d h2)
   ·exact h.apart x d y e b h2 h4 hb hb2
def za5 (n : Nat) (R R' : RT) : Prop := ∀ x d b, R'.nd x = some d → d.dv.ownBlock = some b → n ≤ b ∨ ∃ y e, R.nd y = some e ∧ e.dv.ownBlock = some b
theorem za5.mono {n m : Nat} {R R' : RT} (h : za5 m R R') (hm : n ≤ m) : za5 n R R' := fun x d b h1 h2 => (h x d b h1 h2).imp (Nat.le_trans hm) id
theorem za5.same (n : Nat) (R : RT) : za5 n R R := fun x d _ h1 h2 => .inr ⟨x, d, h1, h2⟩
def Came (R R' : RT) : Prop := ∀ n' d', R'.nd n' = some d' → d'.dv.ownBlock = none ∨ ∃ m d, R.nd m = some d ∧ d.dv = d'.dv
theorem za5.of_came {R R' : RT} (n : Nat) (h : Came R R') : za5 n R R' := by
 intro x d b h1 h2
 rcases h x d h1 with h3 | ⟨m, e, h3, h4⟩
 ·rw [h3] at h2; cases h2
 ·exact .inr ⟨m, e, h3, by rw [h4]; exact h2⟩
theorem za5.data {W : World} {R R' : RT} {dv : Value} {n m k : Nat} {d0 : RNd} {D : List UInt8} {xs : List Value} (hown : W.ownsRow n 5 1 dv m xs) (h : Came R R') : za5 n R (R'.setData k d0 dv D) := by
 intro x d b h1 h2
 have h1 : (if x = k then some { d0 with dv := dv, data := D } else R'.nd x) = some d := h1
 by_cases e : x = k
 ·rw [if_pos e] at h1
  cases h1
  exact .inl (hown.lt b h2).1
 ·rw [if_neg e] at h1
  exact za5.of_came n h x d b h1 h2
theorem zeu {B : Nat} {w W : World} {R R' : RT} (hR : RRep B w R) {dv : Value} {n : Nat} {xs : List Value} (hown : W.ownsRow w.heap.size 5 1 dv n xs)
  (h : ∀ n' d', R'.nd n' = some d' → d'.dv.ownBlock = none ∨ ∃ m d, R.nd m = some d ∧ d.dv = d'.dv) : ∀ b, dv.ownBlock = some b → ∀ n' d', R'.nd n' = some d' → d'.dv.ownBlock ≠ some b := by
 intro b hb n' d' hn' he
 have h1 := (hown.lt b hb).1
 rcases h n' d' hn' with h2 | ⟨m, d, h2, h3⟩
 ·rw [h2] at he; cases he
 ·rw [← h3] at he
  have := ((hR.node m d h2).2.lt b he).2
  omega
def zcs (old : List UInt8) (add : Bool) (b : List UInt8) : List UInt8 := (if add then old else []) ++ b
structure WritePost (B : Nat) (w : World) (R : RT) (s : ByteArray) (b : List UInt8) (add : Bool) (e : Ending) (w' : World) : Prop where
 kept : Kept R.foot w w'
 case : (∃ c, c ≠ 0 ∧ e = .returned (fltV c) ∧ RRep B w' R ∧ ((c = 15 ∧ zbh s = none) ∨ ∃ l, zbh s = some l ∧ ((c = 16 ∧ ¬ R.okDirs l) ∨ (R.okDirs l ∧
   ((c = 17 ∧ ∃ k d, zaw R.L (zal l) = some k ∧ R.nd k = some d ∧ d.dir = true) ∨
    (c = 19 ∧ zaw R.L (zal l) = none ∧ (200 ≤ zbq R.L ∨ 65536 < b.length)) ∨
    (c = 19 ∧ ∃ k d, zaw R.L (zal l) = some k ∧ R.nd k = some d ∧ d.dir = false ∧ 65536 < (zcs d.data add b).length)))))) ∨
  (e = .returned flt0 ∧ ∃ l R' i m ri rk, zbh s = some l ∧ R.okDirs l ∧ zaw R.L (zal l) = none ∧ zbq R.L < 200 ∧ b.length ≤ 65536 ∧ RRep B w' R' ∧ R'.tb = R.tb ∧ zaw R.L (zal l.dropLast) = some i ∧ R.nd i = some ri ∧ R.nd m = none ∧
   RGrown R R' (zal l) i m ri rk ∧ rk.dir = false ∧ rk.data = b ∧ za5 w.heap.size R R') ∨
  (e = .returned flt0 ∧ ∃ l R' k d, zbh s = some l ∧ R.okDirs l ∧ zaw R.L (zal l) = some k ∧ R.nd k = some d ∧ d.dir = false ∧ (zcs d.data add b).length ≤ 65536 ∧ RRep B w' R' ∧ R'.tb = R.tb ∧ RTurned R R' k d (zcs d.data add b) ∧ za5 w.heap.size R R')
set_option maxRecDepth 100000 in
set_option maxHeartbeats 1000000 in
theorem ref_write {B : Nat} {R : RT} (s : ByteArray) (bv : Value) (b : List UInt8) (add : Bool) (w : World) (hR : RRep B w R) (hb : RB R) (hsz : s.size ≤ 9223372036854775807)
  (hs : Src w bv b) (hbl : b.length ≤ 180000000000000) (hdl : ∀ n d, R.nd n = some d → d.data.length + b.length ≤ 180000000000000) :
  Calls Tryz.prog 110 #[.pointer (some ⟨R.tb, 0, none⟩), .string s, bv, .bool add] w fun e w' => WritePost B w R s b add e w' := by
 have hbv : ∃ ba bc, bv = .slice ba b.length bc := by
  rcases hs with ⟨h1, h2⟩ | ⟨ad, c, h1, _⟩
  ·exact ⟨none, 0, by rw [h1, h2]; rfl⟩
  ·exact ⟨_, _, h1⟩
 obtain ⟨ba, bc, rfl⟩ := hbv
 have HS := hid hs
 have HDL := hid hdl
 have HR := hid hR
 have HRB := hid hb
 have HB0 := hid (zad w (.cells #[.int .i64 0, .int .i64 0, .int .i64 0] 32))
 have HH0 := hid (heap_alloc_new w (.cells #[.int .i64 0, .int .i64 0, .int .i64 0] 32))
 clear hR hb hs hdl
 go_enter Tryz.func110, Tryz.ntmps110
 go_wp2_with fail
 generalize w.alloc (.cells #[.int .i64 0, .int .i64 0, .int .i64 0] 32) = w0 at *
 refine (ref_place s w0 (HR.out.below HB0.out) (by have := HRB.out.len; omega) hsz).mono ?_
 intro e w1 hp
 obtain ⟨hb1, hp⟩ := hp
 have HB1 := hid (zaf HB0.out hb1)
 have HH1 : Hid (w1.heap[w.heap.size]? = some (.cells #[.int .i64 0, .int .i64 0, .int .i64 0] 32 (0, 0))) := zae hb1 (zab HH0.out) HH0.out
 have HR1 := hid (HR.out.below HB1.out)
 clear hb1
 rcases hp with ⟨hcl, rfl⟩ | ⟨l, hcl, hok, rfl⟩ | ⟨l, hcl, hok, rfl⟩
 ·have HCL := hid hcl
  clear hcl
  simp only [fltV]
  obtain ⟨w2, hw2⟩ : ∃ w2, w2 = w1.alloc (.cells #[.int .i64 15, .int .i64 0, .int .i64 11] 32) := ⟨_, rfl⟩
  have HW2 := hid hw2
  have HB2 : Hid (Below w.heap.size w w2) := by rw [hw2]; exact HB1.out.alloc HB1.out.size _
  have HH2 : Hid (w2.heap[w.heap.size]? = some (.cells #[.int .i64 0, .int .i64 0, .int .i64 0] 32 (0, 0))) := by
   rw [hw2]; exact zae (zad w1 _) (zab HH1.out) HH1.out
  have HF2 : Hid (w2.heap[w1.heap.size]? = some (.cells #[.int .i64 15, .int .i64 0, .int .i64 11] 32 (0, 0))) := by
   rw [hw2]; exact heap_alloc_new w1 _
  clear hw2
  go_upto_region 3 with fail
  rw [← HW2.out]
  clear HW2
  generalize w1.heap.size = fb at *
  obtain ⟨g0, g1, g2⟩ := zz3 HH2.out
  have gf := fun o => zah HH2.out o
  have f0 := zaa (o := 0) HF2.out rfl
  have f1 := zaa (o := 1) HF2.out rfl
  have f2 := zaa (o := 2) HF2.out rfl
  obtain ⟨hx, hy⟩ := zat HB2.out (Nat.le_refl _) HH2.out (.int .i64 15) (.int .i64 0) (.int .i64 11)
  have HX := hid hx
  have HY := hid hy
  clear hx hy
  go_wp2_with fail
  clear g0 g1 g2 gf f0 f1 f2
  generalize ((w2.setCell ⟨w.heap.size, 0, none⟩ (.int .i64 15)).setCell ⟨w.heap.size, 1, none⟩ (.int .i64 0)).setCell ⟨w.heap.size, 2, none⟩ (.int .i64 11) = W at *
  obtain ⟨r0, r1, r2⟩ := zz3 HY.out
  refine bodyPost_ret (v := fltV 15) ?_ rfl ⟨Kept.of_below HX.out _, .inl ⟨15, by decide, rfl, HR.out.below HX.out, .inl ⟨rfl, HCL.out⟩⟩⟩
  simp [results, Tryz.results110, go_sem, r0, r1, r2, fltV]
 ·have HCL := hid hcl
  have HOK := hid hok
  clear hcl hok
  simp only [fltV]
  obtain ⟨w2, hw2⟩ : ∃ w2, w2 = w1.alloc (.cells #[.int .i64 16, .int .i64 0, .int .i64 11] 32) := ⟨_, rfl⟩
  have HW2 := hid hw2
  have HB2 : Hid (Below w.heap.size w w2) := by rw [hw2]; exact HB1.out.alloc HB1.out.size _
  have HH2 : Hid (w2.heap[w.heap.size]? = some (.cells #[.int .i64 0, .int .i64 0, .int .i64 0] 32 (0, 0))) := by
   rw [hw2]; exact zae (zad w1 _) (zab HH1.out) HH1.out
  have HF2 : Hid (w2.heap[w1.heap.size]? = some (.cells #[.int .i64 16, .int .i64 0, .int .i64 11] 32 (0, 0))) := by
   rw [hw2]; exact heap_alloc_new w1 _
  clear hw2
  go_upto_region 3 with fail
  rw [← HW2.out]
  clear HW2
  generalize w1.heap.size = fb at *
  obtain ⟨g0, g1, g2⟩ := zz3 HH2.out
  have gf := fun o => zah HH2.out o
  have f0 := zaa (o := 0) HF2.out rfl
  have f1 := zaa (o := 1) HF2.out rfl
  have f2 := zaa (o := 2) HF2.out rfl
  obtain ⟨hx, hy⟩ := zat HB2.out (Nat.le_refl _) HH2.out (.int .i64 16) (.int .i64 0) (.int .i64 11)
  have HX := hid hx
  have HY := hid hy
  clear hx hy
  go_wp2_with fail
  clear g0 g1 g2 gf f0 f1 f2
  generalize ((w2.setCell ⟨w.heap.size, 0, none⟩ (.int .i64 16)).setCell ⟨w.heap.size, 1, none⟩ (.int .i64 0)).setCell ⟨w.heap.size, 2, none⟩ (.int .i64 11) = W at *
  obtain ⟨r0, r1, r2⟩ := zz3 HY.out
  refine bodyPost_ret (v := fltV 16) ?_ rfl ⟨Kept.of_below HX.out _, .inl ⟨16, by decide, rfl, HR.out.below HX.out, .inr ⟨l, HCL.out, .inl ⟨rfl, HOK.out⟩⟩⟩⟩
  simp [results, Tryz.results110, go_sem, r0, r1, r2, fltV]
 ·have HCL := hid hcl
  have HOK := hid hok
  clear hcl hok
  simp only [flt0]
  obtain ⟨w2, hw2⟩ : ∃ w2, w2 = w1.alloc (.cells #[.int .i64 0, .int .i64 0, .int .i64 0] 32) := ⟨_, rfl⟩
  have HW2 := hid hw2
  have HB2 : Hid (Below w.heap.size w w2) := by rw [hw2]; exact HB1.out.alloc HB1.out.size _
  have HH2 : Hid (w2.heap[w.heap.size]? = some (.cells #[.int .i64 0, .int .i64 0, .int .i64 0] 32 (0, 0))) := by
   rw [hw2]; exact zae (zad w1 _) (zab HH1.out) HH1.out
  have HR2 := hid (HR.out.below HB2.out)
  clear hw2
  go_upto_region 4 with fail
  rw [← HW2.out]
  clear HW2 HR1 HH1 HB1
  go_wp2_with fail
  refine (ze9 _ w2 HR2.out (by have := HRB.out.len; omega)).mono ?_
  rintro e w3 ⟨rfl, hb3⟩
  have HB3 := hid (zaf HB2.out hb3)
  have HH3 : Hid (w3.heap[w.heap.size]? = some (.cells #[.int .i64 0, .int .i64 0, .int .i64 0] 32 (0, 0))) := zae hb3 (zab HH2.out) HH2.out
  have HR3 := hid (HR.out.below HB3.out)
  clear hb3 HH2 HB2 HR2
  cases hat : zaw R.L (zal l) with
  | some k =>
   have HAT := hid hat
   obtain ⟨d, hd⟩ := HR.out.ents _ (zcf hat)
   have HD := hid hd
   have c0 := zaa (o := 0) (HR3.out.node k d hd).1 rfl
   clear hat hd
   simp only [zau]
   cases hdir : d.dir with
   | true =>
    rw [hdir] at c0
    have HDIR := hid hdir
    clear hdir
    go_wp2_with fail
    refine (zax 17 w3).mono ?_
    rintro e w9 ⟨rfl, hb9⟩
    have HB9 := hid (zaf HB3.out hb9)
    have HH9 : Hid (w9.heap[w.heap.size]? = some (.cells #[.int .i64 0, .int .i64 0, .int .i64 0] 32 (0, 0))) := zae hb9 (zab HH3.out) HH3.out
    clear hb9
    obtain ⟨g0, g1, g2⟩ := zz3 HH9.out
    have gf := fun o => zah HH9.out o
    obtain ⟨hx, hy⟩ := zat HB9.out (Nat.le_refl _) HH9.out (.int .i64 17) (.int .i64 0) (.int .i64 11)
    have HX := hid hx
    have HY := hid hy
    clear hx hy
    simp only [fltV]
    go_wp2_with fail
    clear g0 g1 g2 gf
    generalize ((w9.setCell ⟨w.heap.size, 0, none⟩ (.int .i64 17)).setCell ⟨w.heap.size, 1, none⟩ (.int .i64 0)).setCell ⟨w.heap.size, 2, none⟩ (.int .i64 11) = W at *
    obtain ⟨r0, r1, r2⟩ := zz3 HY.out
    refine bodyPost_ret (v := fltV 17) ?_ rfl ⟨Kept.of_below HX.out _, .inl ⟨17, by decide, rfl, HR.out.below HX.out, .inr ⟨l, HCL.out, .inr ⟨HOK.out, .inl ⟨rfl, k, d, HAT.out, HD.out, HDIR.out⟩⟩⟩⟩⟩
    simp [results, Tryz.results110, go_sem, r0, r1, r2, fltV]
   | false =>
    rw [hdir] at c0
    have HDIR := hid hdir
    clear hdir
    cases add with
    | true =>
     have HS3 : Hid (Src w3 (.slice ba b.length bc) b) := HS.out.kept (Kept.of_below HB3.out (fun _ => False)) (fun _ _ h => h)
     have c1 := zaa (o := 1) (HR3.out.node k d HD.out).1 rfl
     obtain ⟨oa, oc, hof⟩ := zak (HR.out.node k d HD.out).2
     have HSD : Hid (Src w3 (.slice oa d.data.length oc) d.data) := by rw [← hof]; exact Src.of_owns (HR3.out.node k d HD.out).2
     replace c1 : w3.cell? ⟨k, 1, none⟩ = some (.slice oa d.data.length oc) := by rw [← hof]; exact c1
     have hdd : d.data.length ≤ 180000000000000 := by have := HDL.out k d HD.out; omega
     clear hof
     go_wp2_with (at_builtin; refine zas rfl _ _ rfl w.heap.size (.slice none 0 0) 0 [] rfl (World.ownsRow_nil _ _ _ _) (.slice oa d.data.length oc) d.data rfl HSD.out (by omega) HB3.out.size ?_)
     intro v4 w4 hown4 hgrow4
     have hown4 : w4.ownsRow w.heap.size 5 1 v4 d.data.length (u8s d.data) := by simpa using hown4
     obtain ⟨va4, vc4, rfl⟩ := zak hown4
     have HO4 := hid hown4
     have HB4 := hid (HB3.out.grown hgrow4 HB3.out.size (fun q hq => by cases hq))
     have HH4 : Hid (w4.heap[w.heap.size]? = some (.cells #[.int .i64 0, .int .i64 0, .int .i64 0] 32 (0, 0))) := (hgrow4.block _ (zab HH3.out) (fun h => by cases h)).trans HH3.out
     have HS4 : Hid (Src w4 (.slice ba b.length bc) b) := HS.out.kept (Kept.of_below HB4.out (fun _ => False)) (fun _ _ h => h)
     have hdb := HDL.out k d HD.out
     clear hgrow4 hown4 HS3 HSD HH3 HB3 HR3 c0 c1 hdd
     go_wp2_with (at_builtin; refine zas rfl _ _ rfl w.heap.size (.slice va4 d.data.length vc4) d.data.length (u8s d.data) rfl HO4.out (.slice ba b.length bc) b rfl HS4.out (by omega) HB4.out.size ?_)
     intro v' w5 hown5 hgrow
     have HB5 := hid (HB4.out.grown hgrow HB4.out.size (fun q hq => (HO4.out.lt q hq).1))
     have HH5 : Hid (w5.heap[w.heap.size]? = some (.cells #[.int .i64 0, .int .i64 0, .int .i64 0] 32 (0, 0))) := (hgrow.block _ (zab HH4.out) (fun h => by
      obtain ⟨cur, hc⟩ := zaq HO4.out h.symm
      exact zac HH4.out hc (by decide) rfl)).trans HH4.out
     have hvl : d.data.length + b.length = d.data.length + b.length := rfl
     clear hgrow HS4 HH4 HB4 HO4 hdb
     obtain ⟨D, hD⟩ : ∃ D, D = zcs d.data true b := ⟨_, rfl⟩
     have hown : w5.ownsRow w.heap.size 5 1 v' D.length (u8s D) := by
      rw [hD]
      simpa [zcs, u8s] using hown5
     have hlen : d.data.length + b.length = D.length := by rw [hD]; simp [zcs]
     rw [hlen] at hvl
     have HDW := hid hD
     have hDl : D.length ≤ 180000000000000 := by rw [← hlen]; have := HDL.out k d HD.out; omega
     clear hown5 hD hlen
     obtain ⟨va, vc, rfl⟩ := zak hown
     have HO5 := hid hown
     clear hown
     have HR5 := hid (HR.out.below HB5.out)
     have HKL : Hid (k < w.heap.size) := zab (HR.out.node k d HD.out).1
     by_cases hbig : 65536 < D.length
     ·have hbi : (65536 : Int) < D.length := by omega
      have HBIG : Hid (65536 < (zcs d.data true b).length) := by rw [← HDW.out]; exact hbig
      clear hbig
      go_wp2_with fail
      refine (zax 19 w5).mono ?_
      rintro e w9 ⟨rfl, hb9⟩
      have HB9 := hid (zaf HB5.out hb9)
      have HH9 : Hid (w9.heap[w.heap.size]? = some (.cells #[.int .i64 0, .int .i64 0, .int .i64 0] 32 (0, 0))) := zae hb9 (zab HH5.out) HH5.out
      clear hb9
      obtain ⟨g0, g1, g2⟩ := zz3 HH9.out
      have gf := fun o => zah HH9.out o
      obtain ⟨hx, hy⟩ := zat HB9.out (Nat.le_refl _) HH9.out (.int .i64 19) (.int .i64 0) (.int .i64 11)
      have HX := hid hx
      have HY := hid hy
      clear hx hy
      simp only [fltV]
      go_wp2_with fail
      clear g0 g1 g2 gf
      generalize ((w9.setCell ⟨w.heap.size, 0, none⟩ (.int .i64 19)).setCell ⟨w.heap.size, 1, none⟩ (.int .i64 0)).setCell ⟨w.heap.size, 2, none⟩ (.int .i64 11) = W at *
      obtain ⟨r0, r1, r2⟩ := zz3 HY.out
      refine bodyPost_ret (v := fltV 19) ?_ rfl ⟨Kept.of_below HX.out _, .inl ⟨19, by decide, rfl, HR.out.below HX.out, .inr ⟨l, HCL.out, .inr ⟨HOK.out, .inr (.inr ⟨rfl, k, d, HAT.out, HD.out, HDIR.out, HBIG.out⟩)⟩⟩⟩⟩
      simp [results, Tryz.results110, go_sem, r0, r1, r2, fltV]
     ·have hbi : ¬ (65536 : Int) < D.length := by omega
      have HBIG : Hid ((zcs d.data true b).length ≤ 65536) := by rw [← HDW.out]; exact Nat.le_of_not_lt hbig
      clear hbig
      have htb : w.heap.size ≠ R.tb := by have := zab HR.out.tree; omega
      have HTB := hid htb
      have HBA := hid (zad w5 (.cells #[.pointer (some ⟨k, 0, none⟩)] 42))
      have HSA := hid (heap_alloc_new w5 (.cells #[.pointer (some ⟨k, 0, none⟩)] 42))
      clear htb
      go_wp2_with fail
      generalize w5.alloc (.cells #[.pointer (some ⟨k, 0, none⟩)] 42) = wA at *
      have HRA := hid (HR5.out.below HBA.out)
      have HHA : Hid (wA.heap[w.heap.size]? = some (.cells #[.int .i64 0, .int .i64 0, .int .i64 0] 32 (0, 0))) := zae HBA.out (zab HH5.out) HH5.out
      refine (stamp1 HRB.out.now0 HRB.out.now1 HRA.out.tree (HRA.out.node k _ HD.out).1 HSA.out).mono ?_
      intro e w9 hp9
      have HR9 := hid (HRA.out.stamped1 HD.out hp9)
      have HK9 : Hid (Kept (fun b => b = R.tb ∨ b = k) wA w9) := hp9.kept
      obtain rfl := hp9.ret
      have HNB : Hid (w.heap.size ≠ k) := hid (by have := HKL.out; omega)
      have HH9 : Hid (w9.heap[w.heap.size]? = some (.cells #[.int .i64 0, .int .i64 0, .int .i64 0] 32 (0, 0))) := (HK9.out.block _ (zab HHA.out) (fun h => by
       rcases h with h | h
       ·exact HTB.out h
       ·exact HNB.out h)).trans HHA.out
      have HK49 : Hid (Kept (fun b => b = R.tb ∨ b = k) w5 w9) := (Kept.of_below HBA.out (fun b => b = R.tb ∨ b = k)).trans HK9.out (fun b h => .inl h)
      have HKK : Hid (Kept R.foot w w9) := (Kept.of_below HB5.out R.foot).trans HK49.out (fun b h => by
       rcases h with h | h
       ·exact .inl (.inl h)
       ·exact .inl (.inr (.inr (.inl ⟨d, by rw [h]; exact HD.out⟩))))
      have HO9 : Hid (w9.ownsRow w.heap.size 5 1 (.slice va D.length vc) D.length (u8s D)) := zai HO5.out HK49.out (fun x hx h => by
       have h1 := HO5.out.lt x hx
       rcases h with h | h
       ·have := zab HR.out.tree; omega
       ·have := HKL.out; omega)
      have HN9 : Hid ((R.stamp1 k d).nd k = some { d with tick := R.now + 1 }) := if_pos rfl
      clear hp9 HK9 HHA HRA HBA HSA HK49 HO5
      have c1 := zaa (o := 1) (HR9.out.node _ _ HN9.out).1 rfl
      have cf := fun o => zah (HR9.out.node _ _ HN9.out).1 o
      have hdv := d.dv
      have HND : Hid (Came R (R.stamp1 k d)) := (by
       intro x d' hx
       have hx : (if x = k then some { d with tick := R.now + 1 } else R.nd x) = some d' := hx
       by_cases e1 : x = k
       ·rw [if_pos e1] at hx; cases hx; exact .inr ⟨k, d, HD.out, rfl⟩
       ·rw [if_neg e1] at hx; exact .inr ⟨x, d', hx, rfl⟩)
      have HFD := hid (zeu (R' := R.stamp1 k d) HR.out HO9.out HND.out)
      have HFR := hid (fun k d0 D => za5.data (k := k) (d0 := d0) (D := D) HO9.out HND.out)
      have HR10 := hid (HR9.out.dataed HN9.out (zb4 HO9.out HR.out.base) HFD.out)
      have HH10 : Hid ((w9.setCell ⟨k, 1, none⟩ (.slice va D.length vc)).heap[w.heap.size]? = some (.cells #[.int .i64 0, .int .i64 0, .int .i64 0] 32 (0, 0))) := (zag w9 _ _ HNB.out).trans HH9.out
      have HK10 : Hid (Kept R.foot w (w9.setCell ⟨k, 1, none⟩ (.slice va D.length vc))) := HKK.out.setCell (p := ⟨k, 1, none⟩) (.inl (.inr (.inr (.inl ⟨d, HD.out⟩)))) _
      obtain ⟨oa, oc, hof⟩ := zak (HR.out.node k d HD.out).2
      replace c1 : w9.cell? ⟨k, 1, none⟩ = some (.slice oa d.data.length oc) := by rw [← hof]; exact c1
      clear hdv hof
      go_upto_region 19 with fail
      clear c1 cf
      generalize w9.setCell ⟨k, 1, none⟩ (.slice va D.length vc) = w10 at *
      obtain ⟨g0, g1, g2⟩ := zz3 HH10.out
      have gf := fun o => zah HH10.out o
      have HY := hid (zap HH10.out (.int .i64 0) (.int .i64 0) (.int .i64 0))
      have HKS := hid (zao w10 w.heap.size (.int .i64 0) (.int .i64 0) (.int .i64 0))
      go_wp2_with fail
      clear g0 g1 g2 gf
      generalize ((w10.setCell ⟨w.heap.size, 0, none⟩ (.int .i64 0)).setCell ⟨w.heap.size, 1, none⟩ (.int .i64 0)).setCell ⟨w.heap.size, 2, none⟩ (.int .i64 0) = W at *
      obtain ⟨r0, r1, r2⟩ := zz3 HY.out
      refine bodyPost_ret (v := flt0) ?_ rfl ⟨HK10.out.trans HKS.out (fun b h => .inr (by rw [h]; exact Nat.le_refl _)), .inr (.inr ⟨rfl, l, _, k, d, HCL.out, HOK.out, HAT.out, HD.out, HDIR.out, HBIG.out, HR10.out.kept HKS.out (fun b hb hf => HR10.out.not_foot HH10.out (by decide) (by decide) (by decide) (by decide) (by rw [← hf]; exact hb)), rfl, ⟨rfl, rfl, ⟨_, (if_pos rfl).trans (by rw [HDW.out])⟩, ?_⟩, HFR.out _ _ _⟩)⟩
      ·simp [results, Tryz.results110, go_sem, r0, r1, r2, flt0]
      ·intro x h1
       exact (if_neg h1).trans (if_neg h1)
    | false =>
     have HS3 : Hid (Src w3 (.slice ba b.length bc) b) := HS.out.kept (Kept.of_below HB3.out (fun _ => False)) (fun _ _ h => h)
     go_wp2_with (at_builtin; refine zas rfl _ _ rfl w.heap.size (.slice none 0 0) 0 [] rfl (World.ownsRow_nil _ _ _ _) (.slice ba b.length bc) b rfl HS3.out (by omega) HB3.out.size ?_)
     intro v' w5 hown5 hgrow
     have HB5 := hid (HB3.out.grown hgrow HB3.out.size (fun q hq => by cases hq))
     have HH5 : Hid (w5.heap[w.heap.size]? = some (.cells #[.int .i64 0, .int .i64 0, .int .i64 0] 32 (0, 0))) := (hgrow.block _ (zab HH3.out) (fun h => by cases h)).trans HH3.out
     have hvl : b.length = b.length := rfl
     clear hgrow HS3 HH3 HB3 HR3 c0
     obtain ⟨D, hD⟩ : ∃ D, D = zcs d.data false b := ⟨_, rfl⟩
     have hown : w5.ownsRow w.heap.size 5 1 v' D.length (u8s D) := by
      rw [hD]
      simpa [zcs, u8s] using hown5
     have hlen : b.length = D.length := by rw [hD]; simp [zcs]
     rw [hlen] at hvl
     have HDW := hid hD
     have hDl : D.length ≤ 180000000000000 := by rw [← hlen]; have := HDL.out k d HD.out; omega
     clear hown5 hD hlen
     obtain ⟨va, vc, rfl⟩ := zak hown
     have HO5 := hid hown
     clear hown
     have HR5 := hid (HR.out.below HB5.out)
     have HKL : Hid (k < w.heap.size) := zab (HR.out.node k d HD.out).1
     by_cases hbig : 65536 < D.length
     ·have hbi : (65536 : Int) < D.length := by omega
      have HBIG : Hid (65536 < (zcs d.data false b).length) := by rw [← HDW.out]; exact hbig
      clear hbig
      go_wp2_with fail
      refine (zax 19 w5).mono ?_
      rintro e w9 ⟨rfl, hb9⟩
      have HB9 := hid (zaf HB5.out hb9)
      have HH9 : Hid (w9.heap[w.heap.size]? = some (.cells #[.int .i64 0, .int .i64 0, .int .i64 0] 32 (0, 0))) := zae hb9 (zab HH5.out) HH5.out
      clear hb9
      obtain ⟨g0, g1, g2⟩ := zz3 HH9.out
      have gf := fun o => zah HH9.out o
      obtain ⟨hx, hy⟩ := zat HB9.out (Nat.le_refl _) HH9.out (.int .i64 19) (.int .i64 0) (.int .i64 11)
      have HX := hid hx
      have HY := hid hy
      clear hx hy
      simp only [fltV]
      go_wp2_with fail
      clear g0 g1 g2 gf
      generalize ((w9.setCell ⟨w.heap.size, 0, none⟩ (.int .i64 19)).setCell ⟨w.heap.size, 1, none⟩ (.int .i64 0)).setCell ⟨w.heap.size, 2, none⟩ (.int .i64 11) = W at *
      obtain ⟨r0, r1, r2⟩ := zz3 HY.out
      refine bodyPost_ret (v := fltV 19) ?_ rfl ⟨Kept.of_below HX.out _, .inl ⟨19, by decide, rfl, HR.out.below HX.out, .inr ⟨l, HCL.out, .inr ⟨HOK.out, .inr (.inr ⟨rfl, k, d, HAT.out, HD.out, HDIR.out, HBIG.out⟩)⟩⟩⟩⟩
      simp [results, Tryz.results110, go_sem, r0, r1, r2, fltV]
     ·have hbi : ¬ (65536 : Int) < D.length := by omega
      have HBIG : Hid ((zcs d.data false b).length ≤ 65536) := by rw [← HDW.out]; exact Nat.le_of_not_lt hbig
      clear hbig
      have htb : w.heap.size ≠ R.tb := by have := zab HR.out.tree; omega
      have HTB := hid htb
      have HBA := hid (zad w5 (.cells #[.pointer (some ⟨k, 0, none⟩)] 42))
      have HSA := hid (heap_alloc_new w5 (.cells #[.pointer (some ⟨k, 0, none⟩)] 42))
      clear htb
      go_wp2_with fail
      generalize w5.alloc (.cells #[.pointer (some ⟨k, 0, none⟩)] 42) = wA at *
      have HRA := hid (HR5.out.below HBA.out)
      have HHA : Hid (wA.heap[w.heap.size]? = some (.cells #[.int .i64 0, .int .i64 0, .int .i64 0] 32 (0, 0))) := zae HBA.out (zab HH5.out) HH5.out
      refine (stamp1 HRB.out.now0 HRB.out.now1 HRA.out.tree (HRA.out.node k _ HD.out).1 HSA.out).mono ?_
      intro e w9 hp9
      have HR9 := hid (HRA.out.stamped1 HD.out hp9)
      have HK9 : Hid (Kept (fun b => b = R.tb ∨ b = k) wA w9) := hp9.kept
      obtain rfl := hp9.ret
      have HNB : Hid (w.heap.size ≠ k) := hid (by have := HKL.out; omega)
      have HH9 : Hid (w9.heap[w.heap.size]? = some (.cells #[.int .i64 0, .int .i64 0, .int .i64 0] 32 (0, 0))) := (HK9.out.block _ (zab HHA.out) (fun h => by
       rcases h with h | h
       ·exact HTB.out h
       ·exact HNB.out h)).trans HHA.out
      have HK49 : Hid (Kept (fun b => b = R.tb ∨ b = k) w5 w9) := (Kept.of_below HBA.out (fun b => b = R.tb ∨ b = k)).trans HK9.out (fun b h => .inl h)
      have HKK : Hid (Kept R.foot w w9) := (Kept.of_below HB5.out R.foot).trans HK49.out (fun b h => by
       rcases h with h | h
       ·exact .inl (.inl h)
       ·exact .inl (.inr (.inr (.inl ⟨d, by rw [h]; exact HD.out⟩))))
      have HO9 : Hid (w9.ownsRow w.heap.size 5 1 (.slice va D.length vc) D.length (u8s D)) := zai HO5.out HK49.out (fun x hx h => by
       have h1 := HO5.out.lt x hx
       rcases h with h | h
       ·have := zab HR.out.tree; omega
       ·have := HKL.out; omega)
      have HN9 : Hid ((R.stamp1 k d).nd k = some { d with tick := R.now + 1 }) := if_pos rfl
      clear hp9 HK9 HHA HRA HBA HSA HK49 HO5
      have c1 := zaa (o := 1) (HR9.out.node _ _ HN9.out).1 rfl
      have cf := fun o => zah (HR9.out.node _ _ HN9.out).1 o
      have hdv := d.dv
      have HND : Hid (Came R (R.stamp1 k d)) := (by
       intro x d' hx
       have hx : (if x = k then some { d with tick := R.now + 1 } else R.nd x) = some d' := hx
       by_cases e1 : x = k
       ·rw [if_pos e1] at hx; cases hx; exact .inr ⟨k, d, HD.out, rfl⟩
       ·rw [if_neg e1] at hx; exact .inr ⟨x, d', hx, rfl⟩)
      have HFD := hid (zeu (R' := R.stamp1 k d) HR.out HO9.out HND.out)
      have HFR := hid (fun k d0 D => za5.data (k := k) (d0 := d0) (D := D) HO9.out HND.out)
      have HR10 := hid (HR9.out.dataed HN9.out (zb4 HO9.out HR.out.base) HFD.out)
      have HH10 : Hid ((w9.setCell ⟨k, 1, none⟩ (.slice va D.length vc)).heap[w.heap.size]? = some (.cells #[.int .i64 0, .int .i64 0, .int .i64 0] 32 (0, 0))) := (zag w9 _ _ HNB.out).trans HH9.out
      have HK10 : Hid (Kept R.foot w (w9.setCell ⟨k, 1, none⟩ (.slice va D.length vc))) := HKK.out.setCell (p := ⟨k, 1, none⟩) (.inl (.inr (.inr (.inl ⟨d, HD.out⟩)))) _
      obtain ⟨oa, oc, hof⟩ := zak (HR.out.node k d HD.out).2
      replace c1 : w9.cell? ⟨k, 1, none⟩ = some (.slice oa d.data.length oc) := by rw [← hof]; exact c1
      clear hdv hof
      go_upto_region 19 with fail
      clear c1 cf
      generalize w9.setCell ⟨k, 1, none⟩ (.slice va D.length vc) = w10 at *
      obtain ⟨g0, g1, g2⟩ := zz3 HH10.out
      have gf := fun o => zah HH10.out o
      have HY := hid (zap HH10.out (.int .i64 0) (.int .i64 0) (.int .i64 0))
      have HKS := hid (zao w10 w.heap.size (.int .i64 0) (.int .i64 0) (.int .i64 0))
      go_wp2_with fail
      clear g0 g1 g2 gf
      generalize ((w10.setCell ⟨w.heap.size, 0, none⟩ (.int .i64 0)).setCell ⟨w.heap.size, 1, none⟩ (.int .i64 0)).setCell ⟨w.heap.size, 2, none⟩ (.int .i64 0) = W at *
      obtain ⟨r0, r1, r2⟩ := zz3 HY.out
      refine bodyPost_ret (v := flt0) ?_ rfl ⟨HK10.out.trans HKS.out (fun b h => .inr (by rw [h]; exact Nat.le_refl _)), .inr (.inr ⟨rfl, l, _, k, d, HCL.out, HOK.out, HAT.out, HD.out, HDIR.out, HBIG.out, HR10.out.kept HKS.out (fun b hb hf => HR10.out.not_foot HH10.out (by decide) (by decide) (by decide) (by decide) (by rw [← hf]; exact hb)), rfl, ⟨rfl, rfl, ⟨_, (if_pos rfl).trans (by rw [HDW.out])⟩, ?_⟩, HFR.out _ _ _⟩)⟩
      ·simp [results, Tryz.results110, go_sem, r0, r1, r2, flt0]
      ·intro x h1
       exact (if_neg h1).trans (if_neg h1)
  | none =>
   have HAT := hid hat
   clear hat
   simp only [za0]
   have HS3 : Hid (Src w3 (.slice ba b.length bc) b) := HS.out.kept (Kept.of_below HB3.out (fun _ => False)) (fun _ _ h => h)
   go_wp2_with (at_builtin; refine zas rfl _ _ rfl w.heap.size (.slice none 0 0) 0 [] rfl (World.ownsRow_nil _ _ _ _) (.slice ba b.length bc) b rfl HS3.out (by omega) HB3.out.size ?_)
   intro v' w4 hown hgrow
   skip
   obtain ⟨va, vc, rfl⟩ := zak hown
   have HO4 := hid hown
   have HB4 := hid (HB3.out.grown hgrow HB3.out.size (fun q hq => by cases hq))
   have HH4 : Hid (w4.heap[w.heap.size]? = some (.cells #[.int .i64 0, .int .i64 0, .int .i64 0] 32 (0, 0))) := (hgrow.block _ (zab HH3.out) (fun h => by cases h)).trans HH3.out
   have HR4 := hid (HR.out.below HB4.out)
   clear hown hgrow HS3 HH3 HB3 HR3
   go_wp2_with fail
   refine (ref_nodes w4 HR4.out (by have := HRB.out.len; omega)).mono ?_
   rintro e w5 ⟨rfl, hb5⟩
   have HB45 := hid hb5
   have HB5 := hid (zaf HB4.out hb5)
   have HH5 : Hid (w5.heap[w.heap.size]? = some (.cells #[.int .i64 0, .int .i64 0, .int .i64 0] 32 (0, 0))) := zae hb5 (zab HH4.out) HH4.out
   have HR5 := hid (HR.out.below HB5.out)
   clear hb5 HR4 HH4
   by_cases hcnt : 200 ≤ zbq R.L
   ·have hci : (200 : Int) ≤ zbq R.L := by omega
    have HCN := hid hcnt
    clear hcnt
    go_wp2_with fail
    refine (zax 19 w5).mono ?_
    rintro e w9 ⟨rfl, hb9⟩
    have HB9 := hid (zaf HB5.out hb9)
    have HH9 : Hid (w9.heap[w.heap.size]? = some (.cells #[.int .i64 0, .int .i64 0, .int .i64 0] 32 (0, 0))) := zae hb9 (zab HH5.out) HH5.out
    clear hb9
    obtain ⟨g0, g1, g2⟩ := zz3 HH9.out
    have gf := fun o => zah HH9.out o
    obtain ⟨hx, hy⟩ := zat HB9.out (Nat.le_refl _) HH9.out (.int .i64 19) (.int .i64 0) (.int .i64 11)
    have HX := hid hx
    have HY := hid hy
    clear hx hy
    simp only [fltV]
    go_wp2_with fail
    clear g0 g1 g2 gf
    generalize ((w9.setCell ⟨w.heap.size, 0, none⟩ (.int .i64 19)).setCell ⟨w.heap.size, 1, none⟩ (.int .i64 0)).setCell ⟨w.heap.size, 2, none⟩ (.int .i64 11) = W at *
    obtain ⟨r0, r1, r2⟩ := zz3 HY.out
    refine bodyPost_ret (v := fltV 19) ?_ rfl ⟨Kept.of_below HX.out _, .inl ⟨19, by decide, rfl, HR.out.below HX.out, .inr ⟨l, HCL.out, .inr ⟨HOK.out, .inr (.inl ⟨rfl, HAT.out, .inl HCN.out⟩)⟩⟩⟩⟩
    simp [results, Tryz.results110, go_sem, r0, r1, r2, fltV]
   ·have hci : ¬ (200 : Int) ≤ zbq R.L := by omega
    have HCN : Hid (zbq R.L < 200) := hid (Nat.lt_of_not_le hcnt)
    clear hcnt
    by_cases hbig : 65536 < b.length
    ·have hbi : (65536 : Int) < b.length := by omega
     have HBIG := hid hbig
     clear hbig
     go_wp2_with fail
     refine (zax 19 w5).mono ?_
     rintro e w9 ⟨rfl, hb9⟩
     have HB9 := hid (zaf HB5.out hb9)
     have HH9 : Hid (w9.heap[w.heap.size]? = some (.cells #[.int .i64 0, .int .i64 0, .int .i64 0] 32 (0, 0))) := zae hb9 (zab HH5.out) HH5.out
     clear hb9
     obtain ⟨g0, g1, g2⟩ := zz3 HH9.out
     have gf := fun o => zah HH9.out o
     obtain ⟨hx, hy⟩ := zat HB9.out (Nat.le_refl _) HH9.out (.int .i64 19) (.int .i64 0) (.int .i64 11)
     have HX := hid hx
     have HY := hid hy
     clear hx hy
     simp only [fltV]
     go_wp2_with fail
     clear g0 g1 g2 gf
     generalize ((w9.setCell ⟨w.heap.size, 0, none⟩ (.int .i64 19)).setCell ⟨w.heap.size, 1, none⟩ (.int .i64 0)).setCell ⟨w.heap.size, 2, none⟩ (.int .i64 11) = W at *
     obtain ⟨r0, r1, r2⟩ := zz3 HY.out
     refine bodyPost_ret (v := fltV 19) ?_ rfl ⟨Kept.of_below HX.out _, .inl ⟨19, by decide, rfl, HR.out.below HX.out, .inr ⟨l, HCL.out, .inr ⟨HOK.out, .inr (.inl ⟨rfl, HAT.out, .inr HBIG.out⟩)⟩⟩⟩⟩
     simp [results, Tryz.results110, go_sem, r0, r1, r2, fltV]
    ·have hbi : ¬ (65536 : Int) < b.length := by omega
     have HBIG : Hid (b.length ≤ 65536) := hid (Nat.le_of_not_lt hbig)
     clear hbig
     obtain ⟨w6, hw6⟩ : ∃ w6, w6 = w5.alloc (.cells #[.bool false, .slice none 0 0, .int .i64 0] 41) := ⟨_, rfl⟩
     have HW6 := hid hw6
     have hb6 : Below w5.heap.size w5 w6 := by rw [hw6]; exact zad w5 _
     have HN6 : Hid (w6.heap[w5.heap.size]? = some (.cells #[.bool false, .slice none 0 0, .int .i64 0] 41 (0, 0))) := by rw [hw6]; exact heap_alloc_new w5 _
     have HB46 := hid (zaf HB45.out hb6)
     have HB6 := hid (zaf HB5.out hb6)
     have HH6 : Hid (w6.heap[w.heap.size]? = some (.cells #[.int .i64 0, .int .i64 0, .int .i64 0] 32 (0, 0))) := zae hb6 (zab HH5.out) HH5.out
     have HR6 : Hid (RRep B w6 (R.setNd w5.heap.size (zbt false))) := HR5.out.newNode hb6 false HN6.out
     have HM0 : Hid (R.nd w5.heap.size = none) := HR5.out.no_nd
     have HML : Hid (w4.heap.size ≤ w5.heap.size) := HB45.out.size
     clear hw6 hb6
     go_upto_region 15 with fail
     rw [← HW6.out]
     clear HW6 HN6 HB5 HH5 HR5 HB45
     generalize w5.heap.size = m at *
     go_wp2_with fail
     refine (ref_add (R := R.setNd m (zbt false)) (dn := zbt false) (zal l) m w6 HR6.out (by have := HRB.out.len; show R.L.length ≤ _; omega) HRB.out.pos HRB.out.paths (if_pos rfl)).mono ?_
     rintro e w7 hp6
     have HP6 := hid hp6
     obtain ⟨lv, hr6⟩ := hp6.rep
     obtain rfl := hp6.ret
     have HR7 := hid hr6
     have HK7 : Hid (Kept (fun b => b = R.tb) w6 w7) := hp6.kept
     clear hp6 hr6 HP6
     obtain ⟨i, ri, hi, hri, hrd, hdp⟩ := dir_there HRB.out HOK.out HAT.out
     have HI := hid hi
     have HRI := hid hri
     have HIL : Hid (i < w.heap.size) := zab (HR.out.node i ri hri).1
     have hmi : i ≠ m := fun e => by
      have h := HM0.out
      rw [← e, hri] at h
      cases h
     have HE7 : Hid (zaw (zci R.L (zal l) m) (zal l.dropLast) = some i) := by
      show _ = _
      rw [zb5 m HAT.out, if_neg hdp, hi]
     have HMI := hid hmi
     clear hi hri hrd hdp hmi
     have htb : w.heap.size ≠ R.tb := by have := zab HR.out.tree; omega
     have HTB := hid htb
     have HH7 : Hid (w7.heap[w.heap.size]? = some (.cells #[.int .i64 0, .int .i64 0, .int .i64 0] 32 (0, 0))) := (HK7.out.block _ (zab HH6.out) htb).trans HH6.out
     clear HH6 htb HR6
     go_wp2_with fail
     refine (ze9 (R := { R.setNd m (zbt false) with lv := lv, L := zci R.L (zal l) m }) _ w7 HR7.out (by have := HRB.out.len; have := zcn R.L (zal l) m; have := this.length_eq; show (zci R.L (zal l) m).length ≤ _; rw [this, List.length_cons]; omega)).mono ?_
     rintro e w8 ⟨rfl, hb8⟩
     rw [HE7.out]
     simp only [zau]
     have HB8 := hid hb8
     have HR8 := hid (HR7.out.below hb8)
     have HH8 : Hid (w8.heap[w.heap.size]? = some (.cells #[.int .i64 0, .int .i64 0, .int .i64 0] 32 (0, 0))) := zae hb8 (zab HH7.out) HH7.out
     clear hb8 HH7 HR7 HE7
     have HBA := hid (zad w8 (.cells #[.pointer (some ⟨m, 0, none⟩), .pointer (some ⟨i, 0, none⟩)] 42))
     have HSA := hid (heap_alloc_new w8 (.cells #[.pointer (some ⟨m, 0, none⟩), .pointer (some ⟨i, 0, none⟩)] 42))
     go_wp2_with fail
     generalize w8.alloc (.cells #[.pointer (some ⟨m, 0, none⟩), .pointer (some ⟨i, 0, none⟩)] 42) = wA at *
     have HRA := hid (HR8.out.below HBA.out)
     have HHA : Hid (wA.heap[w.heap.size]? = some (.cells #[.int .i64 0, .int .i64 0, .int .i64 0] 32 (0, 0))) := zae HBA.out (zab HH8.out) HH8.out
     have HNM : Hid (({ R.setNd m (zbt false) with lv := lv, L := zci R.L (zal l) m } : RT).nd m = some (zbt false)) := if_pos rfl
     have HNI : Hid (({ R.setNd m (zbt false) with lv := lv, L := zci R.L (zal l) m } : RT).nd i = some ri) := (if_neg HMI.out).trans HRI.out
     refine (stamp2 HRB.out.now0 HRB.out.now1 HRA.out.tree (HRA.out.node m _ HNM.out).1 (HRA.out.node i _ HNI.out).1 HSA.out (fun e => HMI.out e.symm)).mono ?_
     intro e w9 hp9
     have HR9 := hid (HRA.out.stamped2 HNM.out HNI.out hp9)
     have HK9 : Hid (Kept (fun b => b = R.tb ∨ b = m ∨ b = i) wA w9) := hp9.kept
     obtain rfl := hp9.ret
     have HNB : Hid (w.heap.size ≠ m) := fun h => zac HHA.out (HRA.out.node _ _ HNM.out).1 (by decide) h
     have HH9 : Hid (w9.heap[w.heap.size]? = some (.cells #[.int .i64 0, .int .i64 0, .int .i64 0] 32 (0, 0))) := (HK9.out.block _ (zab HHA.out) (fun h => by
      rcases h with h | h | h
      ·exact HTB.out h
      ·exact HNB.out h
      ·have := HIL.out; omega)).trans HHA.out
     have HK49 : Hid (Kept (fun b => b = R.tb ∨ b = m ∨ b = i) w4 w9) := (((Kept.of_below HB46.out (fun b => b = R.tb ∨ b = m ∨ b = i)).trans HK7.out (fun b h => .inl (.inl h))).then_below ((HB8.out.trans (HBA.out.mono HB8.out.size)).mono (Nat.le_refl _))).trans HK9.out (fun b h => .inl h)
     have HKK : Hid (Kept R.foot w w9) := (Kept.of_below HB4.out R.foot).trans HK49.out (fun b h => by
      rcases h with h | h | h
      ·exact .inl (.inl h)
      ·exact .inr (by rw [h]; have := HB4.out.size; have := HML.out; omega)
      ·exact .inl (.inr (.inr (.inl ⟨ri, by rw [h]; exact HRI.out⟩))))
     have HO9 : Hid (w9.ownsRow w.heap.size 5 1 (.slice va b.length vc) b.length (u8s b)) := zai HO4.out HK49.out (fun x hx h => by
      have h1 := HO4.out.lt x hx
      rcases h with h | h | h
      ·have := zab HR.out.tree; omega
      ·have := HML.out; omega
      ·have := HIL.out; omega)
     have HN9 : Hid ((({ R.setNd m (zbt false) with lv := lv, L := zci R.L (zal l) m } : RT).stamp2 m i (zbt false) ri).nd m = some { zbt false with tick := R.now + 1 }) := if_pos rfl
     clear hp9 HK9 HHA HRA HBA HSA HH8 HR8 HB8 HK7 HNM HNI HK49 HO4
     have c1 := zaa (o := 1) (HR9.out.node _ _ HN9.out).1 rfl
     have cf := fun o => zah (HR9.out.node _ _ HN9.out).1 o
     have HND : Hid (Came R (({ R.setNd m (zbt false) with lv := lv, L := zci R.L (zal l) m } : RT).stamp2 m i (zbt false) ri)) := (by
      intro x d' hx
      have hx : (if x = m then some { zbt false with tick := R.now + 1 } else if x = i then some { ri with tick := R.now + 1 } else if x = m then some (zbt false) else R.nd x) = some d' := hx
      by_cases e1 : x = m
      ·rw [if_pos e1] at hx; cases hx; exact .inl rfl
      ·rw [if_neg e1] at hx
       by_cases e2 : x = i
       ·rw [if_pos e2] at hx; cases hx; exact .inr ⟨i, ri, HRI.out, rfl⟩
       ·rw [if_neg e2, if_neg e1] at hx; exact .inr ⟨x, d', hx, rfl⟩)
     have HFD := hid (zeu (R' := ({ R.setNd m (zbt false) with lv := lv, L := zci R.L (zal l) m } : RT).stamp2 m i (zbt false) ri) HR.out HO9.out HND.out)
     have HFR := hid (fun k d0 D => za5.data (k := k) (d0 := d0) (D := D) HO9.out HND.out)
     have HR10 := hid (HR9.out.dataed HN9.out (zb4 HO9.out HR.out.base) HFD.out)
     have HH10 : Hid ((w9.setCell ⟨m, 1, none⟩ (.slice va b.length vc)).heap[w.heap.size]? = some (.cells #[.int .i64 0, .int .i64 0, .int .i64 0] 32 (0, 0))) := (zag w9 _ _ HNB.out).trans HH9.out
     have HK10 : Hid (Kept R.foot w (w9.setCell ⟨m, 1, none⟩ (.slice va b.length vc))) := HKK.out.setCell (p := ⟨m, 1, none⟩) (.inr (by show w.heap.size ≤ m; have := HB4.out.size; have := HML.out; omega)) _
     go_upto_region 19 with fail
     clear c1 cf
     generalize w9.setCell ⟨m, 1, none⟩ (.slice va b.length vc) = w10 at *
     obtain ⟨g0, g1, g2⟩ := zz3 HH10.out
     have gf := fun o => zah HH10.out o
     have HY := hid (zap HH10.out (.int .i64 0) (.int .i64 0) (.int .i64 0))
     have HKS := hid (zao w10 w.heap.size (.int .i64 0) (.int .i64 0) (.int .i64 0))
     go_wp2_with fail
     clear g0 g1 g2 gf
     generalize ((w10.setCell ⟨w.heap.size, 0, none⟩ (.int .i64 0)).setCell ⟨w.heap.size, 1, none⟩ (.int .i64 0)).setCell ⟨w.heap.size, 2, none⟩ (.int .i64 0) = W at *
     obtain ⟨r0, r1, r2⟩ := zz3 HY.out
     refine bodyPost_ret (v := flt0) ?_ rfl ⟨HK10.out.trans HKS.out (fun b h => .inr (by rw [h]; exact Nat.le_refl _)), .inr (.inl ⟨rfl, l, _, i, m, ri, _, HCL.out, HOK.out, HAT.out, HCN.out, HBIG.out, HR10.out.kept HKS.out (fun b hb hf => HR10.out.not_foot HH10.out (by decide) (by decide) (by decide) (by decide) (by rw [← hf]; exact hb)), rfl, HI.out, HRI.out, HM0.out, ⟨rfl, rfl, if_pos rfl, rfl, ?_, ?_⟩, rfl, rfl, HFR.out _ _ _⟩)⟩
     ·simp [results, Tryz.results110, go_sem, r0, r1, r2, flt0]
     ·exact (if_neg HMI.out).trans ((if_neg HMI.out).trans (if_pos rfl))
     ·intro x h1 h2
      exact (if_neg h2).trans ((if_neg h2).trans ((if_neg h1).trans (if_neg h2)))
end
section
def NoFile (R : RT) (s : ByteArray) (c : Nat) : Prop := (c = 15 ∧ zbh s = none) ∨ ∃ l, zbh s = some l ∧ ((c = 16 ∧ ¬ R.okDirs l) ∨ (R.okDirs l ∧ ((c = 16 ∧ zaw R.L (zal l) = none) ∨ (c = 17 ∧ ∃ k d, zaw R.L (zal l) = some k ∧ R.nd k = some d ∧ d.dir = true))))
def ze5 (R : RT) (s : ByteArray) (k : Nat) (d : RNd) : Prop := ∃ l, zbh s = some l ∧ R.okDirs l ∧ zaw R.L (zal l) = some k ∧ R.nd k = some d ∧ d.dir = false
structure RFilePost (w : World) (R : RT) (s : ByteArray) (e : Ending) (w' : World) : Prop where
 below : Below w.heap.size w w'
 case : (∃ c, c ≠ 0 ∧ e = .returned (.tuple #[.pointer none, fltV c]) ∧ NoFile R s c) ∨ ∃ k d, ze5 R s k d ∧ e = .returned (.tuple #[.pointer (some ⟨k, 0, none⟩), flt0])
set_option maxRecDepth 100000 in
set_option maxHeartbeats 1000000 in
theorem ref_file {B : Nat} {R : RT} (s : ByteArray) (w : World) (hR : RRep B w R) (hb : RB R) (hsz : s.size ≤ 9223372036854775807) :
  Calls Tryz.prog 109 #[.pointer (some ⟨R.tb, 0, none⟩), .string s] w fun e w' => RFilePost w R s e w' := by
 have HR := hid hR
 have HRB := hid hb
 have HB0 := hid (zad w (.cells #[.int .i64 0, .int .i64 0, .int .i64 0] 32))
 have HH0 := hid (heap_alloc_new w (.cells #[.int .i64 0, .int .i64 0, .int .i64 0] 32))
 clear hR hb
 go_enter Tryz.func109, Tryz.ntmps109
 go_wp2_with fail
 generalize w.alloc (.cells #[.int .i64 0, .int .i64 0, .int .i64 0] 32) = w0 at *
 refine (ref_place s w0 (HR.out.below HB0.out) (by have := HRB.out.len; omega) hsz).mono ?_
 intro e w1 hp
 obtain ⟨hb1, hp⟩ := hp
 have HB1 := hid (zaf HB0.out hb1)
 have HH1 : Hid (w1.heap[w.heap.size]? = some (.cells #[.int .i64 0, .int .i64 0, .int .i64 0] 32 (0, 0))) := zae hb1 (zab HH0.out) HH0.out
 have HR1 := hid (HR.out.below HB1.out)
 clear hb1
 rcases hp with ⟨hcl, rfl⟩ | ⟨l, hcl, hok, rfl⟩ | ⟨l, hcl, hok, rfl⟩
 ·have HCL := hid hcl
  clear hcl
  simp only [fltV]
  obtain ⟨w2, hw2⟩ : ∃ w2, w2 = w1.alloc (.cells #[.int .i64 15, .int .i64 0, .int .i64 11] 32) := ⟨_, rfl⟩
  have HW2 := hid hw2
  have HB2 : Hid (Below w.heap.size w w2) := by rw [hw2]; exact HB1.out.alloc HB1.out.size _
  have HH2 : Hid (w2.heap[w.heap.size]? = some (.cells #[.int .i64 0, .int .i64 0, .int .i64 0] 32 (0, 0))) := by
   rw [hw2]; exact zae (zad w1 _) (zab HH1.out) HH1.out
  have HF2 : Hid (w2.heap[w1.heap.size]? = some (.cells #[.int .i64 15, .int .i64 0, .int .i64 11] 32 (0, 0))) := by
   rw [hw2]; exact heap_alloc_new w1 _
  clear hw2
  go_upto_region 3 with fail
  rw [← HW2.out]
  clear HW2
  generalize w1.heap.size = fb at *
  obtain ⟨g0, g1, g2⟩ := zz3 HH2.out
  have gf := fun o => zah HH2.out o
  have f0 := zaa (o := 0) HF2.out rfl
  have f1 := zaa (o := 1) HF2.out rfl
  have f2 := zaa (o := 2) HF2.out rfl
  obtain ⟨hx, hy⟩ := zat HB2.out (Nat.le_refl _) HH2.out (.int .i64 15) (.int .i64 0) (.int .i64 11)
  have HX := hid hx
  have HY := hid hy
  clear hx hy
  go_wp2_with fail
  go_region
  all_goals
   go_wp2_with fail
   clear g0 g1 g2 gf f0 f1 f2
   generalize ((w2.setCell ⟨w.heap.size, 0, none⟩ (.int .i64 15)).setCell ⟨w.heap.size, 1, none⟩ (.int .i64 0)).setCell ⟨w.heap.size, 2, none⟩ (.int .i64 11) = W at *
   obtain ⟨r0, r1, r2⟩ := zz3 HY.out
   refine bodyPost_ret (v := .tuple #[.pointer none, fltV 15]) ?_ rfl ⟨HX.out.drew, .inl ⟨15, by decide, rfl, .inl ⟨rfl, HCL.out⟩⟩⟩
   simp [results, Tryz.results109, go_sem, r0, r1, r2, fltV]
 ·have HCL := hid hcl
  have HOK := hid hok
  clear hcl hok
  simp only [fltV]
  obtain ⟨w2, hw2⟩ : ∃ w2, w2 = w1.alloc (.cells #[.int .i64 16, .int .i64 0, .int .i64 11] 32) := ⟨_, rfl⟩
  have HW2 := hid hw2
  have HB2 : Hid (Below w.heap.size w w2) := by rw [hw2]; exact HB1.out.alloc HB1.out.size _
  have HH2 : Hid (w2.heap[w.heap.size]? = some (.cells #[.int .i64 0, .int .i64 0, .int .i64 0] 32 (0, 0))) := by
   rw [hw2]; exact zae (zad w1 _) (zab HH1.out) HH1.out
  have HF2 : Hid (w2.heap[w1.heap.size]? = some (.cells #[.int .i64 16, .int .i64 0, .int .i64 11] 32 (0, 0))) := by
   rw [hw2]; exact heap_alloc_new w1 _
  clear hw2
  go_upto_region 3 with fail
  rw [← HW2.out]
  clear HW2
  generalize w1.heap.size = fb at *
  obtain ⟨g0, g1, g2⟩ := zz3 HH2.out
  have gf := fun o => zah HH2.out o
  have f0 := zaa (o := 0) HF2.out rfl
  have f1 := zaa (o := 1) HF2.out rfl
  have f2 := zaa (o := 2) HF2.out rfl
  obtain ⟨hx, hy⟩ := zat HB2.out (Nat.le_refl _) HH2.out (.int .i64 16) (.int .i64 0) (.int .i64 11)
  have HX := hid hx
  have HY := hid hy
  clear hx hy
  go_wp2_with fail
  go_region
  all_goals
   go_wp2_with fail
   clear g0 g1 g2 gf f0 f1 f2
   generalize ((w2.setCell ⟨w.heap.size, 0, none⟩ (.int .i64 16)).setCell ⟨w.heap.size, 1, none⟩ (.int .i64 0)).setCell ⟨w.heap.size, 2, none⟩ (.int .i64 11) = W at *
   obtain ⟨r0, r1, r2⟩ := zz3 HY.out
   refine bodyPost_ret (v := .tuple #[.pointer none, fltV 16]) ?_ rfl ⟨HX.out.drew, .inl ⟨16, by decide, rfl, .inr ⟨l, HCL.out, .inl ⟨rfl, HOK.out⟩⟩⟩⟩
   simp [results, Tryz.results109, go_sem, r0, r1, r2, fltV]
 ·have HCL := hid hcl
  have HOK := hid hok
  clear hcl hok
  simp only [flt0]
  obtain ⟨w2, hw2⟩ : ∃ w2, w2 = w1.alloc (.cells #[.int .i64 0, .int .i64 0, .int .i64 0] 32) := ⟨_, rfl⟩
  have HW2 := hid hw2
  have HB2 : Hid (Below w.heap.size w w2) := by rw [hw2]; exact HB1.out.alloc HB1.out.size _
  have HH2 : Hid (w2.heap[w.heap.size]? = some (.cells #[.int .i64 0, .int .i64 0, .int .i64 0] 32 (0, 0))) := by
   rw [hw2]; exact zae (zad w1 _) (zab HH1.out) HH1.out
  have HR2 := hid (HR.out.below HB2.out)
  clear hw2
  go_upto_region 4 with fail
  rw [← HW2.out]
  clear HW2 HR1 HH1 HB1
  go_wp2_with fail
  refine (ze9 _ w2 HR2.out (by have := HRB.out.len; omega)).mono ?_
  rintro e w3 ⟨rfl, hb3⟩
  have HB3 := hid (zaf HB2.out hb3)
  have HH3 : Hid (w3.heap[w.heap.size]? = some (.cells #[.int .i64 0, .int .i64 0, .int .i64 0] 32 (0, 0))) := zae hb3 (zab HH2.out) HH2.out
  have HR3 := hid (HR.out.below HB3.out)
  clear hb3 HH2 HB2 HR2
  cases hat : zaw R.L (zal l) with
  | some k =>
   have HAT := hid hat
   obtain ⟨d, hd⟩ := HR.out.ents _ (zcf hat)
   have HD := hid hd
   have c0 := zaa (o := 0) (HR3.out.node k d hd).1 rfl
   clear hat hd
   simp only [zau]
   cases hdir : d.dir with
   | true =>
    rw [hdir] at c0
    have HDIR := hid hdir
    clear hdir
    go_wp2_with fail
    refine (zax 17 w3).mono ?_
    rintro e w9 ⟨rfl, hb9⟩
    have HB9 := hid (zaf HB3.out hb9)
    have HH9 : Hid (w9.heap[w.heap.size]? = some (.cells #[.int .i64 0, .int .i64 0, .int .i64 0] 32 (0, 0))) := zae hb9 (zab HH3.out) HH3.out
    clear hb9
    obtain ⟨g0, g1, g2⟩ := zz3 HH9.out
    have gf := fun o => zah HH9.out o
    obtain ⟨hx, hy⟩ := zat HB9.out (Nat.le_refl _) HH9.out (.int .i64 17) (.int .i64 0) (.int .i64 11)
    have HX := hid hx
    have HY := hid hy
    clear hx hy
    simp only [fltV]
    go_wp2_with fail
    clear g0 g1 g2 gf
    generalize ((w9.setCell ⟨w.heap.size, 0, none⟩ (.int .i64 17)).setCell ⟨w.heap.size, 1, none⟩ (.int .i64 0)).setCell ⟨w.heap.size, 2, none⟩ (.int .i64 11) = W at *
    obtain ⟨r0, r1, r2⟩ := zz3 HY.out
    refine bodyPost_ret (v := .tuple #[.pointer none, fltV 17]) ?_ rfl ⟨HX.out, .inl ⟨17, by decide, rfl, .inr ⟨l, HCL.out, .inr ⟨HOK.out, .inr ⟨rfl, k, d, HAT.out, HD.out, HDIR.out⟩⟩⟩⟩⟩
    simp [results, Tryz.results109, go_sem, r0, r1, r2, fltV]
   | false =>
    rw [hdir] at c0
    have HDIR := hid hdir
    clear hdir
    obtain ⟨g0, g1, g2⟩ := zz3 HH3.out
    have gf := fun o => zah HH3.out o
    obtain ⟨hx, hy⟩ := zat HB3.out (Nat.le_refl _) HH3.out (.int .i64 0) (.int .i64 0) (.int .i64 0)
    have HX := hid hx
    have HY := hid hy
    clear hx hy
    go_wp2_with fail
    clear g0 g1 g2 gf
    generalize ((w3.setCell ⟨w.heap.size, 0, none⟩ (.int .i64 0)).setCell ⟨w.heap.size, 1, none⟩ (.int .i64 0)).setCell ⟨w.heap.size, 2, none⟩ (.int .i64 0) = W at *
    obtain ⟨r0, r1, r2⟩ := zz3 HY.out
    refine bodyPost_ret (v := .tuple #[.pointer (some ⟨k, 0, none⟩), flt0]) ?_ rfl ⟨HX.out, .inr ⟨k, d, ⟨l, HCL.out, HOK.out, HAT.out, HD.out, HDIR.out⟩, rfl⟩⟩
    simp [results, Tryz.results109, go_sem, r0, r1, r2, flt0]
  | none =>
   have HAT := hid hat
   clear hat
   simp only [za0]
   go_wp2_with fail
   refine (zax 16 w3).mono ?_
   rintro e w9 ⟨rfl, hb9⟩
   have HB9 := hid (zaf HB3.out hb9)
   have HH9 : Hid (w9.heap[w.heap.size]? = some (.cells #[.int .i64 0, .int .i64 0, .int .i64 0] 32 (0, 0))) := zae hb9 (zab HH3.out) HH3.out
   clear hb9
   obtain ⟨g0, g1, g2⟩ := zz3 HH9.out
   have gf := fun o => zah HH9.out o
   obtain ⟨hx, hy⟩ := zat HB9.out (Nat.le_refl _) HH9.out (.int .i64 16) (.int .i64 0) (.int .i64 11)
   have HX := hid hx
   have HY := hid hy
   clear hx hy
   simp only [fltV]
   go_wp2_with fail
   clear g0 g1 g2 gf
   generalize ((w9.setCell ⟨w.heap.size, 0, none⟩ (.int .i64 16)).setCell ⟨w.heap.size, 1, none⟩ (.int .i64 0)).setCell ⟨w.heap.size, 2, none⟩ (.int .i64 11) = W at *
   obtain ⟨r0, r1, r2⟩ := zz3 HY.out
   refine bodyPost_ret (v := .tuple #[.pointer none, fltV 16]) ?_ rfl ⟨HX.out, .inl ⟨16, by decide, rfl, .inr ⟨l, HCL.out, .inr ⟨HOK.out, .inl ⟨rfl, HAT.out⟩⟩⟩⟩⟩
   simp [results, Tryz.results109, go_sem, r0, r1, r2, fltV]
end
section
def putS : List ByteArray → ByteArray → List ByteArray
 | [], s => [s]
 | x :: l, s => if Op.bytesLess x.toList s.toList = true then x :: putS l s else if (x.toList == s.toList) = true then x :: l else s :: x :: l
theorem putS_at : ∀ (l : List ByteArray) (s : ByteArray) (k : Nat), k ≤ l.length → (∀ j (h : j < l.length), j < k → Op.bytesLess l[j].toList s.toList = true) → (∀ (h : k < l.length), Op.bytesLess l[k].toList s.toList = false) →
  putS l s = if ∃ h : k < l.length, (l[k].toList == s.toList) = true then l else l.take k ++ s :: l.drop k
 | [], s, k, hk, _, _ => by
  obtain rfl : k = 0 := by simpa using hk
  rw [if_neg (by rintro ⟨h, _⟩; simp at h)]
  rfl
 | x :: l, s, 0, hk, h1, h2 => by
  have h3 := h2 (by simp)
  simp only [List.getElem_cons_zero] at h3
  rw [putS, h3, if_neg (by simp)]
  by_cases e : (x.toList == s.toList) = true
  ·rw [if_pos e, if_pos ⟨by simp, by simpa using e⟩]
  ·rw [if_neg e, if_neg (by rintro ⟨_, h⟩; exact e (by simpa using h))]
   rfl
 | x :: l, s, k + 1, hk, h1, h2 => by
  have h3 := h1 0 (by simp) (by omega)
  simp only [List.getElem_cons_zero] at h3
  have ih := putS_at l s k (by simpa using hk) (fun j h hj => h1 (j + 1) (by simpa using h) (by omega)) (fun h => h2 (by simpa using h))
  rw [putS, if_pos h3, ih]
  by_cases e : ∃ h : k < l.length, (l[k].toList == s.toList) = true
  ·obtain ⟨h, e⟩ := e
   rw [if_pos ⟨h, e⟩, if_pos ⟨by simpa using h, e⟩]
  ·rw [if_neg e, if_neg (by rintro ⟨h, e2⟩; exact e ⟨by simpa using h, e2⟩)]
   rfl
theorem infoStr3 : (Tryz.prog.info? 9).map (fun i => (i.zero, i.size, i.bytes)) = some (some (.string ⟨#[]⟩), 1, 16) := by kernel_rfl
noncomputable def zfi (w : World) (v sv : Value) : Result Value := (Builtin.append_ #[109, 109] 109 #[v, sv]).run Tryz.prog w
noncomputable def saA (w : World) (v sv : Value) : Option Addr := match zfi w v sv with | .ok (.slice a _ _) _ => a | _ => none
noncomputable def saN (w : World) (v sv : Value) : Nat := match zfi w v sv with | .ok (.slice _ n _) _ => n | _ => 0
noncomputable def saC (w : World) (v sv : Value) : Nat := match zfi w v sv with | .ok (.slice _ _ c) _ => c | _ => 0
noncomputable def saW (w : World) (v sv : Value) : World := match zfi w v sv with | .ok _ w' => w' | _ => w
def SaOk (w : World) (v sv : Value) : Prop := ∃ a n c w', zfi w v sv = .ok (.slice a n c) w'
theorem saOk_run {w : World} {v sv : Value} (h : SaOk w v sv) : zfi w v sv = .ok (.slice (saA w v sv) (saN w v sv) (saC w v sv)) (saW w v sv) := by
 obtain ⟨a, n, c, w', h⟩ := h
 unfold saA saN saC saW
 rw [h]
theorem sa_rule {w : World} {a : Act} {d : Option Tmp} {s t : Nat} {pos : String} {af : Array Edge} {g : Option (Nat × Bool)} (h : SaOk w (a.eval (.tmp s)) (a.eval (.tmp t))) :
  (execOp a.eval ⟨d, .call { callee := .builtin .append, args := #[.tmp s, .tmp t], argTypes := #[109, 109] }, 109, pos, af, g⟩).run Tryz.prog w =
   .ok (.value (.slice (saA w (a.eval (.tmp s)) (a.eval (.tmp t))) (saN w (a.eval (.tmp s)) (a.eval (.tmp t))) (saC w (a.eval (.tmp s)) (a.eval (.tmp t))))) (saW w (a.eval (.tmp s)) (a.eval (.tmp t))) := by
 have hr := saOk_run h
 unfold zfi at hr
 unfold execOp
 simp only [resolve, invoke, builtin, Sem.run_bind, Sem.run_pure, Result.andThen_ok, List.map_toArray, List.map_cons, List.map_nil, hr]
theorem zc3 {w : World} {v sv : Value} {a : Option Addr} {n c : Nat} {w' : World} (h : zfi w v sv = .ok (.slice a n c) w') : SaOk w v sv ∧ saA w v sv = a ∧ saN w v sv = n ∧ saC w v sv = c ∧ saW w v sv = w' := by
 refine ⟨⟨_, _, _, _, h⟩, ?_, ?_, ?_, ?_⟩
 ·unfold saA; rw [h]
 ·unfold saN; rw [h]
 ·unfold saC; rw [h]
 ·unfold saW; rw [h]
def SRow (w : World) (base : Nat) (v : Value) (l : List ByteArray) : Prop := w.ownsRow base 9 1 v l.length (l.map .string) ∧ (l = [] → v = .slice none 0 0)
theorem SRow.below {w w' : World} {base : Nat} {v : Value} {l : List ByteArray} (h : SRow w base v l) (hb : Below w.heap.size w w') : SRow w' base v l :=
 ⟨zai h.1 (Kept.of_below hb (fun _ => False)) (fun _ _ h => h), h.2⟩
theorem SRow.ent {w : World} {base : Nat} {v : Value} {l : List ByteArray} (h : SRow w base v l) (h0 : 0 < l.length) : ∃ g c, v = .slice (some ⟨g, 0, none⟩) l.length c ∧ l.length ≤ c ∧ ∀ j (hj : j < l.length), w.cell? ⟨g, j, none⟩ = some (.string l[j]) := by
 rcases h.1.2 with ⟨_, h1⟩ | ⟨g, cap, cur, h1, _, _, h2, _⟩
 ·omega
 ·refine ⟨g, cap, h1, h2, fun j hj => ?_⟩
  have h3 := h.1.cells (g := g) (by rw [h1]; rfl) j (.string l[j]) (by simp [List.getElem?_eq_getElem hj])
  rw [Addr.add_lit, Nat.zero_add] at h3
  exact h3
theorem strs_one (l : List ByteArray) : ∀ u ∈ l.map Value.string, u.oneCell' = true := by
 intro u hu
 obtain ⟨x, _, rfl⟩ := List.mem_map.1 hu
 rfl
theorem put_runs {w : World} {base : Nat} {l : List ByteArray} {g c : Nat} (hs : SRow w base (.slice (some ⟨g, 0, none⟩) l.length c) l) (hl : l.length ≤ 100000) (s : ByteArray) (k : Nat) (hk : k ≤ l.length) (off m cc : Nat) (hm : m = l.length - k) (hoff : 0 < m → off = k) :
  ∃ a1 N1 c1 W2 a2 N2 c2 W3,
   zfi (w.alloc (.cells #[.string s] 9)).drew (.slice (some ⟨w.heap.size, 0, none⟩) 1 1) (.slice (some ⟨g, off, none⟩) m cc) = .ok (.slice a1 N1 c1) W2 ∧
   zfi W2 (.slice (some ⟨g, 0, none⟩) k k) (.slice a1 N1 c1) = .ok (.slice a2 N2 c2) W3 ∧ Below w.heap.size w W3 ∧ N2 = l.length + 1 ∧
   W3.ownsRow w.heap.size 9 1 (.slice a2 N2 c2) (l.length + 1) ((l.take k ++ s :: l.drop k).map .string) := by
 obtain ⟨i, hi, hz0, hz1, hz2⟩ := info_parts infoStr3
 obtain ⟨W1, hW1⟩ : ∃ W1, W1 = (w.alloc (.cells #[.string s] 9)).drew := ⟨_, rfl⟩
 rw [← hW1]
 have hB1 : Below w.heap.size w W1 := by rw [hW1]; exact (zad w _).drew
 have hs1 : W1.heap.size = w.heap.size + 1 := by rw [hW1]; simp [World.drew]
 have hhead : W1.heap[w.heap.size]? = some (.cells #[.string s] 9 (0, 0)) := by rw [hW1]; exact heap_alloc_new w _
 have hown1 : W1.ownsRow w.heap.size 9 1 (.slice (some ⟨w.heap.size, 0, none⟩) 1 1) 1 ([s].map .string) := ⟨rfl, .inr ⟨w.heap.size, 1, _, rfl, Nat.le_refl _, hhead, Nat.le_refl _, by decide, rfl, rfl⟩⟩
 have hcells : ∀ (W : World), Below w.heap.size w W → ∀ j u, (l.map Value.string)[j]? = some u → W.cell? ⟨g, j, none⟩ = some u := fun W hW j u hj => by
  have h1 := hs.1.cells (g := g) rfl j u hj
  rw [Addr.add_lit, Nat.zero_add] at h1
  exact (hW.cell (World.block_lt_of_cell? _ _ h1)).trans h1
 obtain ⟨v1, W2, r1, o1, g1, _⟩ := run_append_own (P := Tryz.prog) W1 w.heap.size 109 109 9 i _ 1 16 Tryz.underlying109 hi hz0 hz1 hz2 rfl (by decide) _ 1 _ hown1 ⟨g, off, none⟩ m cc ((l.drop k).map .string) (by rw [List.length_map, List.length_drop, hm, Nat.mul_one])
  (fun j u hj => by
   have hj2 := (List.getElem?_eq_some_iff.1 hj).1
   rw [List.length_map, List.length_drop] at hj2
   rw [Addr.add_lit, hoff (by omega)]
   refine hcells W1 hB1 _ u ?_
   rw [List.map_drop, List.getElem?_drop] at hj
   exact hj) (strs_one _) (by unfold maxLen; omega) (by omega) (by omega)
 have hB2 : Below w.heap.size w W2 := hB1.trans ⟨g1.os, g1.tape, g1.output, g1.size, fun x hx => g1.block x (Nat.lt_of_lt_of_le hx hB1.size) (fun e => by
  have h1 : some x = some w.heap.size := e
  injection h1 with h1
  omega)⟩
 rw [hm] at o1
 obtain ⟨a1, c1, rfl⟩ := zak o1
 obtain ⟨g2, ha1⟩ : ∃ g2, a1 = some ⟨g2, 0, none⟩ := by
  rcases o1.2 with ⟨_, h0⟩ | ⟨g2, cap, cur, h1, _⟩
  ·omega
  ·cases h1; exact ⟨g2, rfl⟩
 obtain ⟨v2, W3, r2, o2, g3⟩ := run_append_arg_grows (P := Tryz.prog) W2 109 109 9 i _ 1 16 Tryz.underlying109 hi hz0 hz1 hz2 rfl (by decide) ⟨g, 0, none⟩ k k ((l.take k).map .string) (by rw [List.length_map, List.length_take, Nat.min_eq_left hk, Nat.mul_one])
  (fun j u hj => by
   rw [Addr.add_lit, Nat.zero_add]
   refine hcells W2 hB2 _ u ?_
   rw [List.map_take] at hj
   have hjk : j < k := by
    have h1 := (List.getElem?_eq_some_iff.1 hj).1
    simp only [List.length_take] at h1
    omega
   rw [List.getElem?_take, if_pos hjk] at hj
   exact hj) ⟨g2, 0, none⟩ (1 + (l.length - k)) c1 ([s].map .string ++ (l.drop k).map .string) (by simp; omega)
  (fun j u hj => o1.cells (g := g2) (by rw [ha1]; rfl) j u hj) (by omega) (by unfold maxLen; omega) (by omega)
 have hB3 : Below w.heap.size w W3 := hB2.trans ⟨g3.os, g3.tape, g3.output, g3.size, fun x hx => g3.block x (Nat.lt_of_lt_of_le hx hB2.size) (by simp)⟩
 obtain ⟨a2, c2, rfl⟩ := zak o2
 refine ⟨a1, 1 + (l.length - k), c1, W2, a2, k + (1 + (l.length - k)), c2, W3, r1, ?_, hB3, by omega, ?_⟩
 ·unfold zfi; rw [ha1]; exact r2
 ·have h1 := zb4 o2 hB2.size
  have e1 : k + (1 + (l.length - k)) = l.length + 1 := by omega
  have e2 : (l.take k).map Value.string ++ ([s].map .string ++ (l.drop k).map .string) = (l.take k ++ s :: l.drop k).map .string := by simp
  rw [e2] at h1
  rw [e1] at h1 ⊢
  exact h1
theorem put_runs0 (w : World) (s : ByteArray) :
  ∃ a1 N1 c1 W2 a2 N2 c2 W3,
   zfi (w.alloc (.cells #[.string s] 9)).drew (.slice (some ⟨w.heap.size, 0, none⟩) 1 1) (.slice none 0 0) = .ok (.slice a1 N1 c1) W2 ∧
   zfi W2 (.slice none 0 0) (.slice a1 N1 c1) = .ok (.slice a2 N2 c2) W3 ∧ Below w.heap.size w W3 ∧ N2 = 1 ∧
   W3.ownsRow w.heap.size 9 1 (.slice a2 N2 c2) 1 ([s].map .string) := by
 obtain ⟨i, hi, hz0, hz1, hz2⟩ := info_parts infoStr3
 obtain ⟨W1, hW1⟩ : ∃ W1, W1 = (w.alloc (.cells #[.string s] 9)).drew := ⟨_, rfl⟩
 rw [← hW1]
 have hB1 : Below w.heap.size w W1 := by rw [hW1]; exact (zad w _).drew
 have hhead : W1.heap[w.heap.size]? = some (.cells #[.string s] 9 (0, 0)) := by rw [hW1]; exact heap_alloc_new w _
 have hown1 : W1.ownsRow w.heap.size 9 1 (.slice (some ⟨w.heap.size, 0, none⟩) 1 1) 1 ([s].map .string) := ⟨rfl, .inr ⟨w.heap.size, 1, _, rfl, Nat.le_refl _, hhead, Nat.le_refl _, by decide, rfl, rfl⟩⟩
 have r1 := run_append_owned_none (P := Tryz.prog) (w := W1) w.heap.size 109 109 9 i 1 Tryz.underlying109 hi _ 1 _ hown1
 obtain ⟨v2, W3, r2, o2, g3, _⟩ := run_append_own (P := Tryz.prog) W1 w.heap.size 109 109 9 i _ 1 16 Tryz.underlying109 hi hz0 hz1 hz2 rfl (by decide) (.slice none 0 0) 0 [] (World.ownsRow_nil _ _ _ _) ⟨w.heap.size, 0, none⟩ 1 1 ([s].map .string) rfl
  (fun j u hj => hown1.cells (g := w.heap.size) rfl j u hj) (strs_one _) (by unfold maxLen; omega) (by omega) hB1.size
 obtain ⟨a2, c2, rfl⟩ := zak o2
 refine ⟨_, _, _, W1, a2, 1, c2, W3, r1, by unfold zfi; exact r2, hB1.trans ⟨g3.os, g3.tape, g3.output, g3.size, fun x hx => g3.block x (Nat.lt_of_lt_of_le hx hB1.size) (fun e => by cases e)⟩, rfl, by simpa using o2⟩
structure PutPost (w : World) (base : Nat) (l : List ByteArray) (s : ByteArray) (e : Ending) (w' : World) : Prop where
 below : Below w.heap.size w w'
 row : ∃ v, e = .returned v ∧ SRow w' base v (putS l s)
theorem putS_new {w w' : World} {base : Nat} (hB : base ≤ w.heap.size) {l m : List ByteArray} {s : ByteArray} {v : Value} (hm : putS l s = m) (h0 : m ≠ []) (hn : m.length = l.length + 1) (hb : Below w.heap.size w w') (ho : w'.ownsRow w.heap.size 9 1 v (l.length + 1) (m.map .string)) :
  PutPost w base l s (.returned v) w' := ⟨hb, v, rfl, by rw [hm]; exact ⟨by rw [hn]; exact zb4 ho hB, fun h => absurd h h0⟩⟩
section
attribute [local go_sem ↓] sa_rule
set_option maxRecDepth 100000 in
set_option maxHeartbeats 1000000 in
theorem ref_put {base : Nat} {l : List ByteArray} (v : Value) (s : ByteArray) (w : World) (hB : base ≤ w.heap.size) (hv : SRow w base v l) (hl : l.length ≤ 100000) :
  Calls Tryz.prog 92 #[v, .string s] w fun e w' => PutPost w base l s e w' := by
 rcases Nat.eq_zero_or_pos l.length with h0 | h0
 ·obtain rfl : l = [] := List.eq_nil_of_length_eq_zero h0
  obtain rfl := hv.2 rfl
  clear hv h0 hl
  go_enter Tryz.func92, Tryz.ntmps92
  go_wp2_with fail
  refine wp_loop_rounds 1 ?_
  rw [rounds_succ]
  go_wp2_with fail
  obtain ⟨a1, N1, c1, W2, a2, N2, c2, W3, r1, r2, hB3, hN, hown⟩ := put_runs0 w s
  have HR1 := hid r1
  have HR2 := hid r2
  subst hN
  clear r1 r2
  obtain ⟨ok1, eA1, eN1, eC1, eW1⟩ := zc3 HR1.out
  obtain ⟨ok2, eA2, eN2, eC2, eW2⟩ := zc3 HR2.out
  have HB3 := hid hB3
  have HO := hid hown
  clear hB3 hown
  go_region
  all_goals
   go_wp2_with fail
   go_ret
   exact putS_new (m := [s]) hB rfl (by simp) rfl HB3.out HO.out
 ·obtain ⟨g, c, rfl, hlc, hent⟩ := hv.ent h0
  have HE := hid hent
  have HV := hid hv
  clear hv hent
  go_enter Tryz.func92, Tryz.ntmps92
  go_wp2_with fail
  go_loop [5] (fun idx => ∃ k : Nat, k ≤ l.length ∧ idx = .int .i64 k ∧ Hid (∀ j (h : j < l.length), j < k → Op.bytesLess l[j].toList s.toList = true)) (fun idx => l.length - (intOf idx).toNat)
  case atStart => exact ⟨0, Nat.zero_le _, rfl, fun j _ h => absurd h (by omega)⟩
  case round =>
   obtain ⟨k, hk, rfl, hbf⟩ := hrel
   by_cases hlt : k < l.length
   ·have c1 := HE.out k hlt
    have hki : (k : Int) < l.length := by omega
    have hkc : (k : Int) ≤ c := by omega
    have HS : Hid (Op.bytesLess l[k].toList s.toList = true → ∀ j (h : j < l.length), j < k + 1 → Op.bytesLess l[j].toList s.toList = true) := fun hx j hj hjk => by
     by_cases hjk' : j < k
     ·exact hbf.out j hj hjk'
     ·obtain rfl : j = k := by omega
      exact hx
    have HT : Hid (Op.bytesLess l[k].toList s.toList = false → putS l s = if (l[k].toList == s.toList) = true then l else l.take k ++ s :: l.drop k) := fun hx => by
     rw [putS_at l s k hk hbf.out (fun _ => hx)]
     by_cases e : (l[k].toList == s.toList) = true
     ·rw [if_pos e, if_pos ⟨hlt, e⟩]
     ·rw [if_neg e, if_neg (by rintro ⟨_, h⟩; exact e h)]
    generalize l[k] = x at *
    cases hx : Op.bytesLess x.toList s.toList with
    | true =>
     have HS3 := hid (HS.out hx)
     clear HS HT
     go_wp2_with fail
     go_round
     case rel => exact ⟨k + 1, by omega, by go_num, HS3.out⟩
     case measure => simp [intOf]; omega
    | false =>
     have HT3 := hid (HT.out hx)
     clear HS HT
     cases hq : (x.toList == s.toList) with
     | true =>
      have HT4 : Hid (putS l s = l) := HT3.out.trans (if_pos hq)
      clear HT3
      go_wp2_with fail
      go_ret
      exact ⟨Below.refl _ _, _, rfl, by rw [HT4.out]; exact HV.out⟩
     | false =>
      have HT4 : Hid (putS l s = l.take k ++ s :: l.drop k) := HT3.out.trans (if_neg (by rw [hq]; simp))
      clear HT3
      go_wp2_with fail
      obtain ⟨a1, N1, c1, W2, a2, N2, c2, W3, r1, r2, hB3, hN, hown⟩ := put_runs HV.out hl s k hk k (l.length - k) (c - k) rfl (fun _ => rfl)
      have HR1 := hid r1
      have HR2 := hid r2
      have HN := hid hN
      clear r1 r2 hN
      obtain ⟨ok1, eA1, eN1, eC1, eW1⟩ := zc3 HR1.out
      obtain ⟨ok2, eA2, eN2, eC2, eW2⟩ := zc3 HR2.out
      have HB3 := hid hB3
      have HO := hid hown
      clear hB3 hown
      go_region
      all_goals
       go_wp2_with fail
       go_ret
       exact putS_new hB HT4.out (by simp) (by rw [List.length_append, List.length_cons, List.length_take, List.length_drop]; omega) HB3.out (by have h := HO.out; exact h)
   ·obtain rfl : k = l.length := by omega
    have hki : ¬ (l.length : Int) < l.length := by omega
    have HT4 : Hid (putS l s = l.take l.length ++ s :: l.drop l.length) := by
     show _ = _
     rw [putS_at l s l.length (Nat.le_refl _) hbf.out (fun h => absurd h (by omega)), if_neg (by rintro ⟨h, _⟩; omega)]
    have hkc : (l.length : Int) ≤ c := by omega
    by_cases hcl : c = l.length
    ·subst hcl
     go_wp2_with fail
     obtain ⟨a1, N1, c1, W2, a2, N2, c2, W3, r1, r2, hB3, hN, hown⟩ := put_runs HV.out hl s l.length (Nat.le_refl _) 0 0 0 (by omega) (fun h => absurd h (by omega))
     have HR1 := hid r1
     have HR2 := hid r2
     have HN := hid hN
     clear r1 r2 hN
     obtain ⟨ok1, eA1, eN1, eC1, eW1⟩ := zc3 HR1.out
     obtain ⟨ok2, eA2, eN2, eC2, eW2⟩ := zc3 HR2.out
     have HB3 := hid hB3
     have HO := hid hown
     clear hB3 hown
     go_region
     all_goals
      go_wp2_with fail
      go_ret
      exact putS_new hB HT4.out (by simp) (by rw [List.length_append, List.length_cons, List.length_take, List.length_drop]; omega) HB3.out (by have h := HO.out; exact h)
    ·have hcl2 : ¬ (c : Int) = l.length := by omega
     go_wp2_with fail
     obtain ⟨a1, N1, c1, W2, a2, N2, c2, W3, r1, r2, hB3, hN, hown⟩ := put_runs HV.out hl s l.length (Nat.le_refl _) l.length 0 (c - l.length) (by omega) (fun h => absurd h (by omega))
     have HR1 := hid r1
     have HR2 := hid r2
     have HN := hid hN
     clear r1 r2 hN
     obtain ⟨ok1, eA1, eN1, eC1, eW1⟩ := zc3 HR1.out
     obtain ⟨ok2, eA2, eN2, eC2, eW2⟩ := zc3 HR2.out
     have HB3 := hid hB3
     have HO := hid hown
     clear hB3 hown
     go_region
     all_goals
      go_wp2_with fail
      go_ret
      exact putS_new hB HT4.out (by simp) (by rw [List.length_append, List.length_cons, List.length_take, List.length_drop]; omega) HB3.out (by have h := HO.out; exact h)
end
def kidOf (p : List UInt8) (x : List UInt8) : Option (List UInt8) :=
 if p.length + 1 < x.length ∧ x.take (p.length + 1) = p ++ [47] ∧ (47 : UInt8) ∉ x.drop (p.length + 1) then some (x.drop (p.length + 1)) else none
def zdi (p : List UInt8) (acc : List ByteArray) (e : Ent) : List ByteArray := match kidOf p e.1 with
 | some s => putS acc (mkB s)
 | none => acc
def zb0 (L : List Ent) (p : List UInt8) : List ByteArray := L.foldl (zdi p) []
theorem putS_len : ∀ (l : List ByteArray) (s : ByteArray), (putS l s).length ≤ l.length + 1
 | [], s => by simp [putS]
 | x :: l, s => by
  have ih := putS_len l s
  rw [putS]
  split
  ·simp; omega
  ·split <;> simp
theorem kidsOf_take (L : List Ent) (p : List UInt8) (k : Nat) (h : k < L.length) : zb0 (L.take (k + 1)) p = zdi p (zb0 (L.take k) p) L[k] := by
 rw [List.take_succ_eq_append_getElem h]
 unfold zb0
 rw [List.foldl_append]
 rfl
theorem kidsOf_len (L : List Ent) (p : List UInt8) : ∀ k, k ≤ L.length → (zb0 (L.take k) p).length ≤ k
 | 0, _ => by simp [zb0]
 | k + 1, h => by
  have ih := kidsOf_len L p k (by omega)
  rw [kidsOf_take L p k (by omega)]
  unfold zdi
  split
  ·have := putS_len (zb0 (L.take k) p)
   exact Nat.le_trans (this _) (by omega)
  ·omega
theorem kid_none {p : List UInt8} {acc : List ByteArray} {X : ByteArray} {xp : List UInt8} {xn : Nat} (hX : bl X = xp) (h : ¬ (p.length + 1 < (bl X).length ∧ (bl X).take (p.length + 1) = p ++ [47] ∧ (47 : UInt8) ∉ (bl X).drop (p.length + 1))) : zdi p acc (xp, xn) = acc := by
 unfold zdi kidOf
 rw [← hX, if_neg h]
theorem bl_extract_drop (X : ByteArray) (n : Nat) : bl (X.extract n X.size) = (bl X).drop n := by
 unfold bl
 rw [ByteArray.data_extract, Array.toList_extract]
 show (X.data.toList.drop n).take (X.size - n) = _
 exact List.take_of_length_le (by rw [List.length_drop, ← Lib.size_eq]; exact Nat.le_refl _)
theorem bl_extract_take (X : ByteArray) (n : Nat) : bl (X.extract 0 n) = (bl X).take n := by
 unfold bl
 rw [ByteArray.data_extract, Array.toList_extract]
 simp [List.extract]
theorem pre_same (X P : ByteArray) (_h : P.size + 1 ≤ X.size) : ((X.extract 0 (P.size + 1)).toList == (P ++ ⟨#[47]⟩).toList) = true ↔ (bl X).take ((bl P).length + 1) = bl P ++ [47] := by
 rw [beq_iff_eq, ByteArray.toList_eq, ByteArray.toList_eq]
 show bl (X.extract 0 (P.size + 1)) = bl (P ++ ⟨#[47]⟩) ↔ _
 rw [bl_extract_take, zeq, zcd]
 rfl
theorem bl_take_succ {p : ByteArray} {k : Nat} (h : k < p.size) : (bl p).take (k + 1) = (bl p).take k ++ [p[k]] := by
 have h' : k < (bl p).length := by rw [zcd]; exact h
 rw [List.take_succ_eq_append_getElem h']
 rfl
structure KidsPost (w : World) (L : List Ent) (p : List UInt8) (e : Ending) (w' : World) : Prop where
 below : Below w.heap.size w w'
 row : ∃ v, e = .returned v ∧ SRow w' w.heap.size v (zb0 L p)
set_option maxRecDepth 100000 in
set_option maxHeartbeats 1000000 in
theorem ref_kids {B : Nat} {R : RT} (P : ByteArray) (w : World) (hR : RRep B w R) (hl : R.L.length ≤ 90000) (hps : ∀ e ∈ R.L, e.1.length ≤ 100000) (hp : P.size ≤ 100000) :
  Calls Tryz.prog 66 #[.pointer (some ⟨R.tb, 0, none⟩), .string P] w fun e w' => KidsPost w R.L (bl P) e w' := by
 obtain ⟨a, c, hlv, hent⟩ := hR.ent
 have hc0 : w.cell? ⟨R.tb, 0, none⟩ = some (.slice a R.L.length c) := by
  have h := zaa (o := 0) hR.tree rfl
  rw [hlv] at h
  exact h
 have HE := hid hent
 have HPS := hid hps
 clear hR hlv hent hps
 go_enter Tryz.func66, Tryz.ntmps66
 go_wp2_with fail
 go_loopw [5, 16] (fun lv idx wr => ∃ k : Nat, k ≤ R.L.length ∧ idx = .int .i64 k ∧ Hid (SRow wr w.heap.size lv (zb0 (R.L.take k) (bl P))) ∧ Hid (Below w.heap.size w wr)) (fun _ idx _ => R.L.length - (intOf idx).toNat)
 case atStart => exact ⟨0, Nat.zero_le _, rfl, ⟨World.ownsRow_nil _ _ _ _, fun _ => rfl⟩, Below.refl _ _⟩
 case round =>
  obtain ⟨k, hk, rfl, hrow, hb⟩ := hrel
  by_cases hlt : k < R.L.length
  ·obtain ⟨g, rfl, q1, q2⟩ := HE.out k hlt
   have c1 := (hb.out.cell (World.block_lt_of_cell? _ _ q1)).trans q1
   have c2 := (hb.out.cell (World.block_lt_of_cell? _ _ q2)).trans q2
   have hki : (k : Int) < R.L.length := by omega
   have HX : Hid (R.L[k].1.length ≤ 100000) := HPS.out _ (List.getElem_mem hlt)
   have HKS := hid (kidsOf_take R.L (bl P) k hlt)
   have HKL := hid (kidsOf_len R.L (bl P) k hk)
   clear q1 q2
   generalize R.L[k] = x at *
   obtain ⟨xp, xn⟩ := x
   simp only [zb2, zau] at c1 c2
   obtain ⟨X, hX⟩ : ∃ X : ByteArray, X = ⟨xp.toArray⟩ := ⟨_, rfl⟩
   rw [← hX] at c1
   have HXB : Hid (bl X = xp) := by rw [hX]; show _ = _; unfold bl; simp
   have hxs : X.size ≤ 100000 := by rw [Lib.size_eq]; show (bl X).length ≤ _; rw [HXB.out]; exact HX.out
   clear hX
   have HB := hid (fun o => hb.out.trans ((Below.refl _ wr).alloc hb.out.size o))
   by_cases hgt : P.size + 1 < X.size
   ·have hgi : (P.size : Int) + 1 < X.size := by omega
    have hle : (P.size : Int) + 1 ≤ X.size := by omega
    cases heq : ((X.extract 0 (P.size + 1)).toList == (P ++ ⟨#[47]⟩).toList) with
    | false =>
     have HF : Hid (zb0 (R.L.take (k + 1)) (bl P) = zb0 (R.L.take k) (bl P)) := by
      show _ = _
      rw [HKS.out, kid_none (X := X) HXB.out (by rintro ⟨_, h, _⟩; rw [(pre_same X P (by omega)).2 h] at heq; cases heq)]
     go_wp2_with fail
     go_roundw
     case rel => exact ⟨k + 1, by omega, by go_num, by rw [HF.out]; exact hrow.out.below (zad wr _), HB.out _⟩
     case measure => simp [intOf]; omega
    | true =>
     obtain ⟨S, hS⟩ : ∃ S, S = X.extract (P.size + 1) X.size := ⟨_, rfl⟩
     have HS := hid hS
     have hSB : bl S = xp.drop ((bl P).length + 1) := by rw [hS, bl_extract_drop, HXB.out, zcd]
     have HSB := hid hSB
     have hss : S.size ≤ 100000 := by
      rw [← zcd, hSB, List.length_drop]
      have h : xp.length ≤ 100000 := HX.out
      omega
     have HPRE : Hid ((bl P).length + 1 < xp.length ∧ xp.take ((bl P).length + 1) = bl P ++ [47]) := by
      refine ⟨?_, ?_⟩
      ·rw [← HXB.out, zcd, zcd]; exact hgt
      ·rw [← HXB.out]; exact (pre_same X P (by omega)).1 heq
     have hsz : X.size - (P.size + 1) = S.size := by
      rw [← zcd S, hSB, List.length_drop, ← HXB.out, zcd, zcd]
     clear hS hSB
     go_wp2_with fail
     rw [← HS.out]
     clear HS heq
     have HBW := hid (HB.out (.cells #[.string X, .pointer (some ⟨xn, 0, none⟩)] 70))
     have HRW := hid (hrow.out.below (zad wr (.cells #[.string X, .pointer (some ⟨xn, 0, none⟩)] 70)))
     clear hrow hb HB c1 c2
     generalize wr.alloc (.cells #[.string X, .pointer (some ⟨xn, 0, none⟩)] 70) = W at *
     go_loopw [9, 46] (fun dv jv wx => Hid (wx = W) ∧ ∃ j : Nat, j ≤ S.size ∧ jv = .int .i64 j ∧ ∃ b : Bool, dv = .bool b ∧ Hid (b = decide ((47 : UInt8) ∈ (bl S).take j))) (fun _ jv _ => S.size - (intOf jv).toNat)
     case atStart => exact ⟨hid rfl, 0, Nat.zero_le _, rfl, false, rfl, by show false = _; simp⟩
     case round =>
      obtain ⟨hwx, j, hj, rfl, b, rfl, hfb⟩ := hrel
      obtain rfl := hwx.out
      clear hwx
      by_cases hjs : j < S.size
      ·have hji : (j : Int) < S.size := by omega
       have HT := hid (bl_take_succ (p := S) (k := j) hjs)
       obtain ⟨y, hy⟩ : ∃ y, S[j] = y := ⟨_, rfl⟩
       rw [hy] at HT
       cases b with
       | true =>
        have HF : Hid (true = decide ((47 : UInt8) ∈ (bl S).take (j + 1))) := by
         have h : (47 : UInt8) ∈ (bl S).take j := by simpa using hfb.out
         show _ = _
         rw [HT.out]
         simp [h]
        go_wp2_with fail
        go_roundw
        case rel => exact ⟨hid trivial, j + 1, by omega, by go_num, true, rfl, HF.out⟩
        case measure => simp [intOf]; omega
       | false =>
        have hn : (47 : UInt8) ∉ (bl S).take j := by simpa using hfb.out
        by_cases hy47 : y = 47
        ·have f47 : ((y.toNat : Int) == 47) = true := by rw [hy47]; rfl
         have HF : Hid (true = decide ((47 : UInt8) ∈ (bl S).take (j + 1))) := by
          show _ = _
          rw [HT.out, hy47]
          simp
         clear hy47 hn
         go_wp2_with fail
         go_roundw
         case rel => exact ⟨hid trivial, j + 1, by omega, by go_num, true, rfl, HF.out⟩
         case measure => simp [intOf]; omega
        ·have f47 : ((y.toNat : Int) == 47) = false := by
          have : ¬ y.toNat = 47 := fun h => hy47 (UInt8.toNat_inj.1 h)
          have h2 : ¬ (y.toNat : Int) = 47 := by omega
          simpa using h2
         have HF : Hid (false = decide ((47 : UInt8) ∈ (bl S).take (j + 1))) := by
          show _ = _
          rw [HT.out, eq_comm, decide_eq_false_iff_not, List.mem_append, List.mem_singleton]
          rintro (h | h)
          ·exact hn h
          ·exact hy47 h.symm
         clear hy47 hn
         go_wp2_with fail
         go_roundw
         case rel => exact ⟨hid trivial, j + 1, by omega, by go_num, false, rfl, HF.out⟩
         case measure => simp [intOf]; omega
      ·obtain rfl : j = S.size := by omega
       have hji : ¬ (S.size : Int) < S.size := by omega
       have HALL : Hid (b = decide ((47 : UInt8) ∈ bl S)) := by
        have h := hfb.out
        rw [List.take_of_length_le (by rw [zcd]; exact Nat.le_refl _)] at h
        exact h
       clear hfb
       cases b with
       | true =>
        have HF : Hid (zb0 (R.L.take (k + 1)) (bl P) = zb0 (R.L.take k) (bl P)) := by
         have h : (47 : UInt8) ∈ bl S := by simpa using HALL.out
         show _ = _
         rw [HKS.out, kid_none (X := X) HXB.out (by rintro ⟨_, _, h2⟩; rw [HXB.out, ← HSB.out] at h2; exact h2 h)]
        go_wp2_with fail
        go_roundw
        case rel => exact ⟨k + 1, by omega, by go_num, by rw [HF.out]; exact HRW.out, HBW.out⟩
        case measure => simp [intOf]; omega
       | false =>
        have HF : Hid (zb0 (R.L.take (k + 1)) (bl P) = putS (zb0 (R.L.take k) (bl P)) S) := by
         have h : (47 : UInt8) ∉ bl S := by simpa using HALL.out
         show _ = _
         rw [HKS.out]
         unfold zdi kidOf
         rw [if_pos ⟨HPRE.out.1, HPRE.out.2, by rw [← HSB.out]; exact h⟩]
         show putS _ (mkB (xp.drop ((bl P).length + 1))) = _
         rw [← HSB.out]
         unfold mkB
         rw [mk_bl']
        go_wp2_with fail
        refine (ref_put _ S _ HBW.out.size HRW.out (by have := HKL.out; omega)).mono ?_
        rintro e w2 ⟨hb2, v2, rfl, hv2⟩
        have HB2 := hid (HBW.out.trans (hb2.mono HBW.out.size))
        have HV2 := hid hv2
        clear hb2 hv2
        go_wp2_with fail
        go_roundw
        case rel => exact ⟨k + 1, by omega, by go_num, by rw [HF.out]; exact HV2.out, HB2.out⟩
        case measure => simp [intOf]; omega
   ·have hgi : ¬ (P.size : Int) + 1 < X.size := by omega
    have HF : Hid (zb0 (R.L.take (k + 1)) (bl P) = zb0 (R.L.take k) (bl P)) := by
     show _ = _
     rw [HKS.out, kid_none (X := X) HXB.out (by rintro ⟨h, _, _⟩; rw [zcd, zcd] at h; exact hgt h)]
    go_wp2_with fail
    go_roundw
    case rel => exact ⟨k + 1, by omega, by go_num, by rw [HF.out]; exact hrow.out.below (zad wr _), HB.out _⟩
    case measure => simp [intOf]; omega
  ·obtain rfl : k = R.L.length := by omega
   have hki : ¬ (R.L.length : Int) < R.L.length := by omega
   have HF := hid hrow.out
   rw [List.take_length] at HF
   go_wp2_with fail
   go_ret
   exact ⟨hb.out, _, rfl, HF.out⟩
end
section
def ORow (w : World) (base : Nat) (v : Value) (L : List Ent) : Prop := w.ownsRow base 70 2 v L.length (zav L)
theorem ORow.alloc {w : World} {base : Nat} {v : Value} {L : List Ent} (h : ORow w base v L) (o : Obj) : ORow (w.alloc o) base v L := World.ownsRow.alloc h o
theorem remAt_take (L : List Ent) (p : List UInt8) (k : Nat) (h : k < L.length) : zbb (L.take (k + 1)) p = if L[k].1 = p then zbb (L.take k) p else zbb (L.take k) p ++ [L[k]] := by
 rw [List.take_succ_eq_append_getElem h]
 unfold zbb
 rw [List.filter_append]
 by_cases e : L[k].1 = p
 ·rw [if_pos e]; simp [e]
 ·rw [if_neg e]; simp [e]
theorem zfk (L : List Ent) (p : List UInt8) : (zbb L p).length ≤ L.length := List.length_filter_le _ _
theorem dir_of_ok {R : RT} {l : List ByteArray} (hok : R.okDirs l) (hl : l ≠ []) :
  ∃ i ri, zaw R.L (zal l.dropLast) = some i ∧ R.nd i = some ri ∧ ri.dir = true ∧ zal l.dropLast ≠ zal l := by
 rcases zb3 l with rfl | ⟨m, x, rfl⟩
 ·exact absurd rfl hl
 ·have h := hok m.length (by simp)
  rw [List.take_left' rfl] at h
  rw [List.dropLast_concat]
  obtain ⟨i, ri, h1, h2, h3⟩ := dir_of h
  refine ⟨i, ri, h1, h2, h3, fun e => ?_⟩
  have h4 := congrArg List.length e
  rw [zcv] at h4
  simp at h4
theorem rem_done {B : Nat} {R : RT} {w W : World} (hR : RRep B w R) (hb : Below w.heap.size w W) (p : List UInt8) {v : Value} (ho : ORow W w.heap.size v (zbb R.L p)) :
  RRep B (W.setCell ⟨R.tb, 0, none⟩ v) { R with lv := v, L := zbb R.L p } ∧ Kept (fun b => b = R.tb) w (W.setCell ⟨R.tb, 0, none⟩ v) := by
 have k : Kept (fun b => b = R.tb) w (W.setCell ⟨R.tb, 0, none⟩ v) := (Kept.of_below hb (fun b => b = R.tb)).setCell (p := ⟨R.tb, 0, none⟩) (.inl rfl) _
 refine ⟨hR.change hR.base k (fun b hb => .inl hb) 0 rfl (zaj (zae hb (zab hR.tree) hR.tree) 0 _) (.inr ?_) (fun m d hm => .inl ⟨hm, hR.nd_ne hm⟩) (fun e he => hR.ents e (zfo.1 he).1), k⟩
 refine zai ho ((Kept.refl (fun b => b = R.tb) W).setCell (p := ⟨R.tb, 0, none⟩) (.inl rfl) _) (fun b hb2 => ?_)
 have h1 := (ho.lt b hb2).1
 have h2 := zab hR.tree
 show ¬ b = R.tb
 omega
structure RemovePost (B : Nat) (w : World) (R : RT) (s : ByteArray) (e : Ending) (w' : World) : Prop where
 kept : Kept R.foot w w'
 case : (∃ c, c ≠ 0 ∧ e = .returned (fltV c) ∧ RRep B w' R ∧ ((c = 15 ∧ zbh s = none) ∨ ∃ l, zbh s = some l ∧ ((c = 16 ∧ ¬ R.okDirs l) ∨ (R.okDirs l ∧ ((c = 16 ∧ zaw R.L (zal l) = none) ∨ (c = 17 ∧ ∃ k d, zaw R.L (zal l) = some k ∧ R.nd k = some d ∧ (l = [] ∨ (d.dir = true ∧ zb0 R.L (zal l) ≠ []))))))) ) ∨
  (e = .returned flt0 ∧ ∃ l R' k d i ri, zbh s = some l ∧ R.okDirs l ∧ l ≠ [] ∧ zaw R.L (zal l) = some k ∧ R.nd k = some d ∧ (d.dir = true → zb0 R.L (zal l) = []) ∧ RRep B w' R' ∧ R'.tb = R.tb ∧ zaw R.L (zal l.dropLast) = some i ∧ R.nd i = some ri ∧ RPruned R R' (zal l) i ri)
set_option maxRecDepth 100000 in
set_option maxHeartbeats 6000000 in
theorem ref_remove {B : Nat} {R : RT} (s : ByteArray) (w : World) (hR : RRep B w R) (hb : RB R) (hsz : s.size ≤ 9223372036854775807) :
  Calls Tryz.prog 37 #[.pointer (some ⟨R.tb, 0, none⟩), .string s] w fun e w' => RemovePost B w R s e w' := by
 have HR := hid hR
 have HRB := hid hb
 have HB0 := hid (zad w (.cells #[.int .i64 0, .int .i64 0, .int .i64 0] 32))
 have HH0 := hid (heap_alloc_new w (.cells #[.int .i64 0, .int .i64 0, .int .i64 0] 32))
 clear hR hb
 go_enter Tryz.func37, Tryz.ntmps37
 go_wp2_with fail
 generalize w.alloc (.cells #[.int .i64 0, .int .i64 0, .int .i64 0] 32) = w0 at *
 refine (ref_place s w0 (HR.out.below HB0.out) (by have := HRB.out.len; omega) hsz).mono ?_
 intro e w1 hp
 obtain ⟨hb1, hp⟩ := hp
 have HB1 := hid (zaf HB0.out hb1)
 have HH1 : Hid (w1.heap[w.heap.size]? = some (.cells #[.int .i64 0, .int .i64 0, .int .i64 0] 32 (0, 0))) := zae hb1 (zab HH0.out) HH0.out
 have HR1 := hid (HR.out.below HB1.out)
 clear hb1
 rcases hp with ⟨hcl, rfl⟩ | ⟨l, hcl, hok, rfl⟩ | ⟨l, hcl, hok, rfl⟩
 ·have HCL := hid hcl
  clear hcl
  simp only [fltV]
  obtain ⟨w2, hw2⟩ : ∃ w2, w2 = w1.alloc (.cells #[.int .i64 15, .int .i64 0, .int .i64 11] 32) := ⟨_, rfl⟩
  have HW2 := hid hw2
  have HB2 : Hid (Below w.heap.size w w2) := by rw [hw2]; exact HB1.out.alloc HB1.out.size _
  have HH2 : Hid (w2.heap[w.heap.size]? = some (.cells #[.int .i64 0, .int .i64 0, .int .i64 0] 32 (0, 0))) := by
   rw [hw2]; exact zae (zad w1 _) (zab HH1.out) HH1.out
  have HF2 : Hid (w2.heap[w1.heap.size]? = some (.cells #[.int .i64 15, .int .i64 0, .int .i64 11] 32 (0, 0))) := by
   rw [hw2]; exact heap_alloc_new w1 _
  clear hw2
  go_upto_region 3 with fail
  rw [← HW2.out]
  clear HW2
  generalize w1.heap.size = fb at *
  obtain ⟨g0, g1, g2⟩ := zz3 HH2.out
  have gf := fun o => zah HH2.out o
  have f0 := zaa (o := 0) HF2.out rfl
  have f1 := zaa (o := 1) HF2.out rfl
  have f2 := zaa (o := 2) HF2.out rfl
  obtain ⟨hx, hy⟩ := zat HB2.out (Nat.le_refl _) HH2.out (.int .i64 15) (.int .i64 0) (.int .i64 11)
  have HX := hid hx
  have HY := hid hy
  clear hx hy
  go_wp2_with fail
  clear g0 g1 g2 gf f0 f1 f2
  generalize ((w2.setCell ⟨w.heap.size, 0, none⟩ (.int .i64 15)).setCell ⟨w.heap.size, 1, none⟩ (.int .i64 0)).setCell ⟨w.heap.size, 2, none⟩ (.int .i64 11) = W at *
  obtain ⟨r0, r1, r2⟩ := zz3 HY.out
  refine bodyPost_ret (v := fltV 15) ?_ rfl ⟨Kept.of_below HX.out _, .inl ⟨15, by decide, rfl, HR.out.below HX.out, .inl ⟨rfl, HCL.out⟩⟩⟩
  simp [results, Tryz.results37, go_sem, r0, r1, r2, fltV]
 ·have HCL := hid hcl
  have HOK := hid hok
  clear hcl hok
  simp only [fltV]
  obtain ⟨w2, hw2⟩ : ∃ w2, w2 = w1.alloc (.cells #[.int .i64 16, .int .i64 0, .int .i64 11] 32) := ⟨_, rfl⟩
  have HW2 := hid hw2
  have HB2 : Hid (Below w.heap.size w w2) := by rw [hw2]; exact HB1.out.alloc HB1.out.size _
  have HH2 : Hid (w2.heap[w.heap.size]? = some (.cells #[.int .i64 0, .int .i64 0, .int .i64 0] 32 (0, 0))) := by
   rw [hw2]; exact zae (zad w1 _) (zab HH1.out) HH1.out
  have HF2 : Hid (w2.heap[w1.heap.size]? = some (.cells #[.int .i64 16, .int .i64 0, .int .i64 11] 32 (0, 0))) := by
   rw [hw2]; exact heap_alloc_new w1 _
  clear hw2
  go_upto_region 3 with fail
  rw [← HW2.out]
  clear HW2
  generalize w1.heap.size = fb at *
  obtain ⟨g0, g1, g2⟩ := zz3 HH2.out
  have gf := fun o => zah HH2.out o
  have f0 := zaa (o := 0) HF2.out rfl
  have f1 := zaa (o := 1) HF2.out rfl
  have f2 := zaa (o := 2) HF2.out rfl
  obtain ⟨hx, hy⟩ := zat HB2.out (Nat.le_refl _) HH2.out (.int .i64 16) (.int .i64 0) (.int .i64 11)
  have HX := hid hx
  have HY := hid hy
  clear hx hy
  go_wp2_with fail
  clear g0 g1 g2 gf f0 f1 f2
  generalize ((w2.setCell ⟨w.heap.size, 0, none⟩ (.int .i64 16)).setCell ⟨w.heap.size, 1, none⟩ (.int .i64 0)).setCell ⟨w.heap.size, 2, none⟩ (.int .i64 11) = W at *
  obtain ⟨r0, r1, r2⟩ := zz3 HY.out
  refine bodyPost_ret (v := fltV 16) ?_ rfl ⟨Kept.of_below HX.out _, .inl ⟨16, by decide, rfl, HR.out.below HX.out, .inr ⟨l, HCL.out, .inl ⟨rfl, HOK.out⟩⟩⟩⟩
  simp [results, Tryz.results37, go_sem, r0, r1, r2, fltV]
 ·have HCL := hid hcl
  have HOK := hid hok
  clear hcl hok
  simp only [flt0]
  obtain ⟨w2, hw2⟩ : ∃ w2, w2 = w1.alloc (.cells #[.int .i64 0, .int .i64 0, .int .i64 0] 32) := ⟨_, rfl⟩
  have HW2 := hid hw2
  have HB2 : Hid (Below w.heap.size w w2) := by rw [hw2]; exact HB1.out.alloc HB1.out.size _
  have HH2 : Hid (w2.heap[w.heap.size]? = some (.cells #[.int .i64 0, .int .i64 0, .int .i64 0] 32 (0, 0))) := by
   rw [hw2]; exact zae (zad w1 _) (zab HH1.out) HH1.out
  have HR2 := hid (HR.out.below HB2.out)
  clear hw2
  go_upto_region 4 with fail
  rw [← HW2.out]
  clear HW2 HR1 HH1 HB1
  go_wp2_with fail
  refine (ze9 _ w2 HR2.out (by have := HRB.out.len; omega)).mono ?_
  rintro e w3 ⟨rfl, hb3⟩
  have HB3 := hid (zaf HB2.out hb3)
  have HH3 : Hid (w3.heap[w.heap.size]? = some (.cells #[.int .i64 0, .int .i64 0, .int .i64 0] 32 (0, 0))) := zae hb3 (zab HH2.out) HH2.out
  have HR3 := hid (HR.out.below HB3.out)
  clear hb3 HH2 HB2 HR2
  cases hat : zaw R.L (zal l) with
  | none =>
   have HAT := hid hat
   clear hat
   simp only [za0]
   go_wp2_with fail
   refine (zax 16 w3).mono ?_
   rintro e w9 ⟨rfl, hb9⟩
   have HB9 := hid (zaf HB3.out hb9)
   have HH9 : Hid (w9.heap[w.heap.size]? = some (.cells #[.int .i64 0, .int .i64 0, .int .i64 0] 32 (0, 0))) := zae hb9 (zab HH3.out) HH3.out
   clear hb9
   obtain ⟨g0, g1, g2⟩ := zz3 HH9.out
   have gf := fun o => zah HH9.out o
   obtain ⟨hx, hy⟩ := zat HB9.out (Nat.le_refl _) HH9.out (.int .i64 16) (.int .i64 0) (.int .i64 11)
   have HX := hid hx
   have HY := hid hy
   clear hx hy
   simp only [fltV]
   go_wp2_with fail
   clear g0 g1 g2 gf
   generalize ((w9.setCell ⟨w.heap.size, 0, none⟩ (.int .i64 16)).setCell ⟨w.heap.size, 1, none⟩ (.int .i64 0)).setCell ⟨w.heap.size, 2, none⟩ (.int .i64 11) = W at *
   obtain ⟨r0, r1, r2⟩ := zz3 HY.out
   refine bodyPost_ret (v := fltV 16) ?_ rfl ⟨Kept.of_below HX.out _, .inl ⟨16, by decide, rfl, HR.out.below HX.out, .inr ⟨l, HCL.out, .inr ⟨HOK.out, .inl ⟨rfl, HAT.out⟩⟩⟩⟩⟩
   simp [results, Tryz.results37, go_sem, r0, r1, r2, fltV]
  | some k =>
   have HAT := hid hat
   obtain ⟨d, hd⟩ := HR.out.ents _ (zcf hat)
   have HD := hid hd
   have c0 := zaa (o := 0) (HR3.out.node k d hd).1 rfl
   clear hat hd
   simp only [zau]
   obtain ⟨P, hP⟩ : ∃ P : ByteArray, P = ⟨(zal l).toArray⟩ := ⟨_, rfl⟩
   have HPV : Hid (zb2 (zal l) = .string P) := by rw [hP]; rfl
   have HPB : Hid (bl P = zal l) := by rw [hP]; show _ = _; unfold bl; simp
   have hps : P.size ≤ 100000 := by
    rw [← zcd, HPB.out]
    exact HRB.out.paths _ (zcf HAT.out)
   have HPS := hid hps
   clear hP hps
   rw [HPV.out]
   by_cases hl0 : l = []
   ·have HL0 := hid hl0
    have hpe : P = ⟨#[]⟩ := bl_inj (by rw [HPB.out, hl0]; rfl)
    have HPE := hid hpe
    clear hl0
    rw [hpe]
    clear hpe
    go_wp2_with fail
    refine (zax 17 w3).mono ?_
    rintro e w9 ⟨rfl, hb9⟩
    have HB9 := hid (zaf HB3.out hb9)
    have HH9 : Hid (w9.heap[w.heap.size]? = some (.cells #[.int .i64 0, .int .i64 0, .int .i64 0] 32 (0, 0))) := zae hb9 (zab HH3.out) HH3.out
    clear hb9
    obtain ⟨g0, g1, g2⟩ := zz3 HH9.out
    have gf := fun o => zah HH9.out o
    obtain ⟨hx, hy⟩ := zat HB9.out (Nat.le_refl _) HH9.out (.int .i64 17) (.int .i64 0) (.int .i64 11)
    have HX := hid hx
    have HY := hid hy
    clear hx hy
    simp only [fltV]
    go_wp2_with fail
    clear g0 g1 g2 gf
    generalize ((w9.setCell ⟨w.heap.size, 0, none⟩ (.int .i64 17)).setCell ⟨w.heap.size, 1, none⟩ (.int .i64 0)).setCell ⟨w.heap.size, 2, none⟩ (.int .i64 11) = W at *
    obtain ⟨r0, r1, r2⟩ := zz3 HY.out
    refine bodyPost_ret (v := fltV 17) ?_ rfl ⟨Kept.of_below HX.out _, .inl ⟨17, by decide, rfl, HR.out.below HX.out, .inr ⟨l, HCL.out, .inr ⟨HOK.out, .inr ⟨rfl, k, d, HAT.out, HD.out, .inl HL0.out⟩⟩⟩⟩⟩
    simp [results, Tryz.results37, go_sem, r0, r1, r2, fltV]
   ·have hpe : (P.toList == []) = false := by
     rw [ByteArray.toList_eq]
     show (bl P == []) = false
     rw [HPB.out]
     rcases zb3 l with rfl | ⟨m, x, rfl⟩
     ·exact absurd rfl hl0
     ·rw [zcv]; simp
    have HL0 := hid hl0
    clear hl0
    cases hdir : d.dir with
    | true =>
     rw [hdir] at c0
     have HDIR := hid hdir
     clear hdir
     go_wp2_with fail
     refine (ref_kids P w3 HR3.out HRB.out.len HRB.out.paths HPS.out).mono ?_
     rintro e w4 ⟨hb4, v4, rfl, hv4⟩
     have HB4 := hid (zaf HB3.out hb4)
     have HH4 : Hid (w4.heap[w.heap.size]? = some (.cells #[.int .i64 0, .int .i64 0, .int .i64 0] 32 (0, 0))) := zae hb4 (zab HH3.out) HH3.out
     have HR4 := hid (HR.out.below HB4.out)
     rw [HPB.out] at hv4
     by_cases hk0 : zb0 R.L (zal l) = []
     ·have HK0 := hid hk0
      rw [hk0] at hv4
      obtain rfl := hv4.2 rfl
      clear hv4 hk0 hb4 HH3 HB3 HR3 c0
      obtain ⟨ra, rc, hlv, hent⟩ := HR.out.ent
      have hpos := HRB.out.pos
      have hl9 : R.L.length ≤ 90000 := HRB.out.len
      obtain ⟨rg, rfl, -⟩ := hent 0 hpos
      have cr : w4.cell? ⟨R.tb, 0, none⟩ = some (.slice (some ⟨rg, 0, none⟩) R.L.length rc) := by
       have h := zaa (o := 0) HR4.out.tree rfl
       rw [hlv] at h
       exact h
      have HE : Hid (∀ j (hj : j < R.L.length), w4.cell? ⟨rg, j * 2, none⟩ = some (zb2 R.L[j].1) ∧ w4.cell? ⟨rg, j * 2 + 1, none⟩ = some (ptrV (some R.L[j].2))) := fun j hj => by
       obtain ⟨g', hg, h1, h2⟩ := hent j hj
       cases hg
       exact ⟨(HB4.out.cell (World.block_lt_of_cell? _ _ h1)).trans h1, (HB4.out.cell (World.block_lt_of_cell? _ _ h2)).trans h2⟩
      clear hent hlv hpos
      go_wp2_with fail
      go_loopw [9, 50] (fun lv idx wr => ∃ k2 : Nat, k2 ≤ R.L.length ∧ idx = .int .i64 k2 ∧ Hid (ORow wr w4.heap.size lv (zbb (R.L.take k2) (zal l))) ∧ Hid (Below w4.heap.size w4 wr)) (fun _ idx _ => R.L.length - (intOf idx).toNat)
      case atStart => exact ⟨0, Nat.zero_le _, rfl, World.ownsRow_nil _ _ _ _, Below.refl _ _⟩
      case round =>
       obtain ⟨k2, hk2, rfl, hrow, hb⟩ := hrel
       by_cases hlt : k2 < R.L.length
       ·obtain ⟨q1, q2⟩ := HE.out k2 hlt
        have c1 := (hb.out.cell (World.block_lt_of_cell? _ _ q1)).trans q1
        have c2 := (hb.out.cell (World.block_lt_of_cell? _ _ q2)).trans q2
        have hki : (k2 : Int) < R.L.length := by omega
        have HTS := hid (remAt_take R.L (zal l) k2 hlt)
        have HTL := hid (zfk (R.L.take k2) (zal l))
        clear q1 q2
        generalize R.L[k2] = x at *
        obtain ⟨xp, xn⟩ := x
        simp only [zb2, zau] at c1 c2
        have HB := hid (fun o => hb.out.trans ((Below.refl _ wr).alloc hb.out.size o))
        by_cases hxp : xp = zal l
        ·have he := path_same (p := P) (hxp.trans HPB.out.symm)
         have HF : Hid (zbb (R.L.take (k2 + 1)) (zal l) = zbb (R.L.take k2) (zal l)) := HTS.out.trans (if_pos hxp)
         clear hxp
         go_wp2_with fail
         go_roundw
         case rel => exact ⟨k2 + 1, by omega, by go_num, by rw [HF.out]; exact hrow.out.alloc _, HB.out _⟩
         case measure => simp [intOf]; omega
        ·have he := path_other (p := P) (fun h => hxp (h.trans HPB.out))
         have HF : Hid (zbb (R.L.take (k2 + 1)) (zal l) = zbb (R.L.take k2) (zal l) ++ [(xp, xn)]) := HTS.out.trans (if_neg hxp)
         clear hxp
         obtain ⟨la, lc, rfl⟩ := zak hrow.out
         obtain ⟨i0, hi9, hz0, hz1, hz2⟩ := info_parts infoEnt3
         have HWS : Hid (w.heap.size ≤ wr.heap.size) := Nat.le_trans HB4.out.size hb.out.size
         have hlen : (zbb (R.L.take k2) (zal l)).length ≤ 90000 := by
          have h1 := HTL.out
          rw [List.length_take] at h1
          have := HRB.out.len
          omega
         go_wp2_with (at_builtin; refine wpList_append_own _ rfl _ _ 71 rfl w4.heap.size 70 i0 _ 2 24 Tryz.underlying71 hi9 hz0 hz1 hz2 rfl (by decide) _ _ _ rfl ((hrow.out.alloc _).alloc _) ⟨wr.heap.size + 1, 0, none⟩ 1 1 [.string ⟨xp.toArray⟩, .pointer (some ⟨xn, 0, none⟩)] rfl rfl ?c1 ?c2 ?c3 ?c4 ?c5 ?_)
         case c2 => exact ⟨rfl, rfl⟩
         case c3 => unfold maxLen; omega
         case c4 => omega
         case c5 => have := hb.out.size; simp; omega
         intro v' w7 hown7 hgrow _
         have HO : Hid (ORow w7 w4.heap.size v' (zbb (R.L.take (k2 + 1)) (zal l))) := by
          show ORow _ _ _ _
          rw [HF.out]
          unfold ORow
          rw [List.length_append, zdk]
          exact hown7
         have HN : Hid (Below w4.heap.size w4 w7) := ((hb.out.alloc hb.out.size _).alloc (by have := hb.out.size; simp; omega) _).grown hgrow (by have := hb.out.size; simp; omega) (fun q hq => (hrow.out.lt q hq).1)
         clear hown7 hgrow
         go_wp2_with fail
         go_roundw
         case rel => exact ⟨k2 + 1, by omega, by go_num, HO.out, HN.out⟩
         case measure => simp [intOf]; omega
       ·obtain rfl : k2 = R.L.length := by omega
        have hki : ¬ (R.L.length : Int) < R.L.length := by omega
        rw [List.take_length] at hrow
        have cr2 : wr.cell? ⟨R.tb, 0, none⟩ = some (.slice (some ⟨rg, 0, none⟩) R.L.length rc) := (hb.out.cell (World.block_lt_of_cell? _ _ cr)).trans cr
        have fr2 : wr.frozen? ⟨R.tb, 0, none⟩ = false := (hb.out.frozen (p := ⟨R.tb, 0, none⟩) (World.block_lt_of_cell? _ _ cr)).trans (zah HR4.out.tree 0)
        obtain ⟨la, lc, rfl⟩ := zak hrow.out
        obtain ⟨hr5, hk5⟩ := rem_done HR4.out hb.out (zal l) hrow.out
        have HR5 := hid hr5
        have HK5 := hid hk5
        obtain ⟨i, ri, hi, hri, hrd, hdp⟩ := dir_of_ok HOK.out HL0.out
        have HI := hid hi
        have HRI := hid hri
        have HE5 : Hid (zaw (zbb R.L (zal l)) (zal l.dropLast) = some i) := by
         show _ = _
         rw [zdl, if_neg hdp, hi]
        have HIL : Hid (i < w.heap.size) := zab (HR.out.node i ri hri).1
        have htb : w.heap.size ≠ R.tb := by have := zab HR.out.tree; omega
        have HTB := hid htb
        have HH5 : Hid ((wr.setCell ⟨R.tb, 0, none⟩ (.slice la (zbb R.L (zal l)).length lc)).heap[w.heap.size]? = some (.cells #[.int .i64 0, .int .i64 0, .int .i64 0] 32 (0, 0))) := (hk5.block _ (zab HH4.out) htb).trans HH4.out
        clear hr5 hk5 hi hri hrd hdp htb hrow hb
        go_upto_region 17 with fail
        clear cr2 fr2 cr
        generalize wr.setCell ⟨R.tb, 0, none⟩ (.slice la (zbb R.L (zal l)).length lc) = w5 at *
        go_wp2_with fail
        refine (ze9 (R := { R with lv := .slice la (zbb R.L (zal l)).length lc, L := zbb R.L (zal l) }) _ w5 HR5.out (by have := zfk R.L (zal l); show (zbb R.L (zal l)).length ≤ _; omega)).mono ?_
        rintro e w8 ⟨rfl, hb8⟩
        rw [HE5.out]
        simp only [zau]
        have HB8 := hid hb8
        have HR8 := hid (HR5.out.below hb8)
        have HH8 : Hid (w8.heap[w.heap.size]? = some (.cells #[.int .i64 0, .int .i64 0, .int .i64 0] 32 (0, 0))) := zae hb8 (zab HH5.out) HH5.out
        clear hb8 HH5 HR5 HE5
        have HBA := hid (zad w8 (.cells #[.pointer (some ⟨i, 0, none⟩)] 42))
        have HSA := hid (heap_alloc_new w8 (.cells #[.pointer (some ⟨i, 0, none⟩)] 42))
        go_wp2_with fail
        generalize w8.alloc (.cells #[.pointer (some ⟨i, 0, none⟩)] 42) = wA at *
        have HRA := hid (HR8.out.below HBA.out)
        have HHA : Hid (wA.heap[w.heap.size]? = some (.cells #[.int .i64 0, .int .i64 0, .int .i64 0] 32 (0, 0))) := zae HBA.out (zab HH8.out) HH8.out
        have HNI : Hid (({ R with lv := .slice la (zbb R.L (zal l)).length lc, L := zbb R.L (zal l) } : RT).nd i = some ri) := HRI.out
        refine (stamp1 HRB.out.now0 HRB.out.now1 HRA.out.tree (HRA.out.node i _ HNI.out).1 HSA.out).mono ?_
        intro e w9 hp9
        have HR9 := hid (HRA.out.stamped1 HNI.out hp9)
        have HK9 : Hid (Kept (fun b => b = R.tb ∨ b = i) wA w9) := hp9.kept
        obtain rfl := hp9.ret
        have HH9 : Hid (w9.heap[w.heap.size]? = some (.cells #[.int .i64 0, .int .i64 0, .int .i64 0] 32 (0, 0))) := (HK9.out.block _ (zab HHA.out) (fun h => by
         rcases h with h | h
         ·exact HTB.out h
         ·have := HIL.out; omega)).trans HHA.out
        have HKK : Hid (Kept R.foot w w9) := (((Kept.of_below HB4.out R.foot).trans HK5.out (fun b h => .inl (.inl h))).then_below (HB8.out.trans (HBA.out.mono HB8.out.size))).trans HK9.out (fun b h => by
         rcases h with h | h
         ·exact .inl (.inl h)
         ·exact .inl (.inr (.inr (.inl ⟨ri, by rw [h]; exact HRI.out⟩))))
        clear hp9 HK9 HHA HRA HBA HSA HH8 HR8 HB8 HK5
        obtain ⟨g0, g1, g2⟩ := zz3 HH9.out
        have gf := fun o => zah HH9.out o
        have HY := hid (zap HH9.out (.int .i64 0) (.int .i64 0) (.int .i64 0))
        have HKS := hid (zao w9 w.heap.size (.int .i64 0) (.int .i64 0) (.int .i64 0))
        go_wp2_with fail
        clear g0 g1 g2 gf
        generalize ((w9.setCell ⟨w.heap.size, 0, none⟩ (.int .i64 0)).setCell ⟨w.heap.size, 1, none⟩ (.int .i64 0)).setCell ⟨w.heap.size, 2, none⟩ (.int .i64 0) = W at *
        obtain ⟨r0, r1, r2⟩ := zz3 HY.out
        refine bodyPost_ret (v := flt0) ?_ rfl ⟨HKK.out.trans HKS.out (fun b h => .inr (by rw [h]; exact Nat.le_refl _)), .inr ⟨rfl, l, _, k, d, i, ri, HCL.out, HOK.out, HL0.out, HAT.out, HD.out, fun _ => HK0.out, HR9.out.kept HKS.out (fun b hb hf => HR9.out.not_foot HH9.out (by decide) (by decide) (by decide) (by decide) (by rw [← hf]; exact hb)), rfl, HI.out, HRI.out, ⟨rfl, rfl, if_pos rfl, ?_⟩⟩⟩
        ·simp [results, Tryz.results37, go_sem, r0, r1, r2, flt0]
        ·intro x h1
         exact if_neg h1
     ·have HK0 := hid hk0
      obtain ⟨gk, ck, rfl, _, _⟩ := hv4.ent (List.length_pos_iff.2 hk0)
      have hkl : (0 : Int) < (zb0 R.L (zal l)).length := by have := List.length_pos_iff.2 hk0; omega
      clear hv4 hk0 hb4
      go_wp2_with fail
      refine (zax 17 w4).mono ?_
      rintro e w9 ⟨rfl, hb9⟩
      have HB9 := hid (zaf HB4.out hb9)
      have HH9 : Hid (w9.heap[w.heap.size]? = some (.cells #[.int .i64 0, .int .i64 0, .int .i64 0] 32 (0, 0))) := zae hb9 (zab HH4.out) HH4.out
      clear hb9
      obtain ⟨g0, g1, g2⟩ := zz3 HH9.out
      have gf := fun o => zah HH9.out o
      obtain ⟨hx, hy⟩ := zat HB9.out (Nat.le_refl _) HH9.out (.int .i64 17) (.int .i64 0) (.int .i64 11)
      have HX := hid hx
      have HY := hid hy
      clear hx hy
      simp only [fltV]
      go_wp2_with fail
      clear g0 g1 g2 gf
      generalize ((w9.setCell ⟨w.heap.size, 0, none⟩ (.int .i64 17)).setCell ⟨w.heap.size, 1, none⟩ (.int .i64 0)).setCell ⟨w.heap.size, 2, none⟩ (.int .i64 11) = W at *
      obtain ⟨r0, r1, r2⟩ := zz3 HY.out
      refine bodyPost_ret (v := fltV 17) ?_ rfl ⟨Kept.of_below HX.out _, .inl ⟨17, by decide, rfl, HR.out.below HX.out, .inr ⟨l, HCL.out, .inr ⟨HOK.out, .inr ⟨rfl, k, d, HAT.out, HD.out, .inr ⟨HDIR.out, HK0.out⟩⟩⟩⟩⟩⟩
      simp [results, Tryz.results37, go_sem, r0, r1, r2, fltV]
    | false =>
     rw [hdir] at c0
     have HDIR := hid hdir
     clear hdir
     obtain ⟨ra, rc, hlv, hent⟩ := HR.out.ent
     have hpos := HRB.out.pos
     have hl9 : R.L.length ≤ 90000 := HRB.out.len
     obtain ⟨rg, rfl, -⟩ := hent 0 hpos
     have cr : w3.cell? ⟨R.tb, 0, none⟩ = some (.slice (some ⟨rg, 0, none⟩) R.L.length rc) := by
      have h := zaa (o := 0) HR3.out.tree rfl
      rw [hlv] at h
      exact h
     have HE : Hid (∀ j (hj : j < R.L.length), w3.cell? ⟨rg, j * 2, none⟩ = some (zb2 R.L[j].1) ∧ w3.cell? ⟨rg, j * 2 + 1, none⟩ = some (ptrV (some R.L[j].2))) := fun j hj => by
      obtain ⟨g', hg, h1, h2⟩ := hent j hj
      cases hg
      exact ⟨(HB3.out.cell (World.block_lt_of_cell? _ _ h1)).trans h1, (HB3.out.cell (World.block_lt_of_cell? _ _ h2)).trans h2⟩
     clear hent hlv hpos
     go_wp2_with fail
     go_loopw [9, 50] (fun lv idx wr => ∃ k2 : Nat, k2 ≤ R.L.length ∧ idx = .int .i64 k2 ∧ Hid (ORow wr w3.heap.size lv (zbb (R.L.take k2) (zal l))) ∧ Hid (Below w3.heap.size w3 wr)) (fun _ idx _ => R.L.length - (intOf idx).toNat)
     case atStart => exact ⟨0, Nat.zero_le _, rfl, World.ownsRow_nil _ _ _ _, Below.refl _ _⟩
     case round =>
      obtain ⟨k2, hk2, rfl, hrow, hb⟩ := hrel
      by_cases hlt : k2 < R.L.length
      ·obtain ⟨q1, q2⟩ := HE.out k2 hlt
       have c1 := (hb.out.cell (World.block_lt_of_cell? _ _ q1)).trans q1
       have c2 := (hb.out.cell (World.block_lt_of_cell? _ _ q2)).trans q2
       have hki : (k2 : Int) < R.L.length := by omega
       have HTS := hid (remAt_take R.L (zal l) k2 hlt)
       have HTL := hid (zfk (R.L.take k2) (zal l))
       clear q1 q2
       generalize R.L[k2] = x at *
       obtain ⟨xp, xn⟩ := x
       simp only [zb2, zau] at c1 c2
       have HB := hid (fun o => hb.out.trans ((Below.refl _ wr).alloc hb.out.size o))
       by_cases hxp : xp = zal l
       ·have he := path_same (p := P) (hxp.trans HPB.out.symm)
        have HF : Hid (zbb (R.L.take (k2 + 1)) (zal l) = zbb (R.L.take k2) (zal l)) := HTS.out.trans (if_pos hxp)
        clear hxp
        go_wp2_with fail
        go_roundw
        case rel => exact ⟨k2 + 1, by omega, by go_num, by rw [HF.out]; exact hrow.out.alloc _, HB.out _⟩
        case measure => simp [intOf]; omega
       ·have he := path_other (p := P) (fun h => hxp (h.trans HPB.out))
        have HF : Hid (zbb (R.L.take (k2 + 1)) (zal l) = zbb (R.L.take k2) (zal l) ++ [(xp, xn)]) := HTS.out.trans (if_neg hxp)
        clear hxp
        obtain ⟨la, lc, rfl⟩ := zak hrow.out
        obtain ⟨i0, hi9, hz0, hz1, hz2⟩ := info_parts infoEnt3
        have HWS : Hid (w.heap.size ≤ wr.heap.size) := Nat.le_trans HB3.out.size hb.out.size
        have hlen : (zbb (R.L.take k2) (zal l)).length ≤ 90000 := by
         have h1 := HTL.out
         rw [List.length_take] at h1
         have := HRB.out.len
         omega
        go_wp2_with (at_builtin; refine wpList_append_own _ rfl _ _ 71 rfl w3.heap.size 70 i0 _ 2 24 Tryz.underlying71 hi9 hz0 hz1 hz2 rfl (by decide) _ _ _ rfl ((hrow.out.alloc _).alloc _) ⟨wr.heap.size + 1, 0, none⟩ 1 1 [.string ⟨xp.toArray⟩, .pointer (some ⟨xn, 0, none⟩)] rfl rfl ?d1 ?d2 ?d3 ?d4 ?d5 ?_)
        case d2 => exact ⟨rfl, rfl⟩
        case d3 => unfold maxLen; omega
        case d4 => omega
        case d5 => have := hb.out.size; simp; omega
        intro v' w7 hown7 hgrow _
        have HO : Hid (ORow w7 w3.heap.size v' (zbb (R.L.take (k2 + 1)) (zal l))) := by
         show ORow _ _ _ _
         rw [HF.out]
         unfold ORow
         rw [List.length_append, zdk]
         exact hown7
        have HN : Hid (Below w3.heap.size w3 w7) := ((hb.out.alloc hb.out.size _).alloc (by have := hb.out.size; simp; omega) _).grown hgrow (by have := hb.out.size; simp; omega) (fun q hq => (hrow.out.lt q hq).1)
        clear hown7 hgrow
        go_wp2_with fail
        go_roundw
        case rel => exact ⟨k2 + 1, by omega, by go_num, HO.out, HN.out⟩
        case measure => simp [intOf]; omega
      ·obtain rfl : k2 = R.L.length := by omega
       have hki : ¬ (R.L.length : Int) < R.L.length := by omega
       rw [List.take_length] at hrow
       have cr2 : wr.cell? ⟨R.tb, 0, none⟩ = some (.slice (some ⟨rg, 0, none⟩) R.L.length rc) := (hb.out.cell (World.block_lt_of_cell? _ _ cr)).trans cr
       have fr2 : wr.frozen? ⟨R.tb, 0, none⟩ = false := (hb.out.frozen (p := ⟨R.tb, 0, none⟩) (World.block_lt_of_cell? _ _ cr)).trans (zah HR3.out.tree 0)
       obtain ⟨la, lc, rfl⟩ := zak hrow.out
       obtain ⟨hr5, hk5⟩ := rem_done HR3.out hb.out (zal l) hrow.out
       have HR5 := hid hr5
       have HK5 := hid hk5
       obtain ⟨i, ri, hi, hri, hrd, hdp⟩ := dir_of_ok HOK.out HL0.out
       have HI := hid hi
       have HRI := hid hri
       have HE5 : Hid (zaw (zbb R.L (zal l)) (zal l.dropLast) = some i) := by
        show _ = _
        rw [zdl, if_neg hdp, hi]
       have HIL : Hid (i < w.heap.size) := zab (HR.out.node i ri hri).1
       have htb : w.heap.size ≠ R.tb := by have := zab HR.out.tree; omega
       have HTB := hid htb
       have HH5 : Hid ((wr.setCell ⟨R.tb, 0, none⟩ (.slice la (zbb R.L (zal l)).length lc)).heap[w.heap.size]? = some (.cells #[.int .i64 0, .int .i64 0, .int .i64 0] 32 (0, 0))) := (hk5.block _ (zab HH3.out) htb).trans HH3.out
       clear hr5 hk5 hi hri hrd hdp htb hrow hb
       go_upto_region 17 with fail
       clear cr2 fr2 cr
       generalize wr.setCell ⟨R.tb, 0, none⟩ (.slice la (zbb R.L (zal l)).length lc) = w5 at *
       go_wp2_with fail
       refine (ze9 (R := { R with lv := .slice la (zbb R.L (zal l)).length lc, L := zbb R.L (zal l) }) _ w5 HR5.out (by have := zfk R.L (zal l); show (zbb R.L (zal l)).length ≤ _; omega)).mono ?_
       rintro e w8 ⟨rfl, hb8⟩
       rw [HE5.out]
       simp only [zau]
       have HB8 := hid hb8
       have HR8 := hid (HR5.out.below hb8)
       have HH8 : Hid (w8.heap[w.heap.size]? = some (.cells #[.int .i64 0, .int .i64 0, .int .i64 0] 32 (0, 0))) := zae hb8 (zab HH5.out) HH5.out
       clear hb8 HH5 HR5 HE5
       have HBA := hid (zad w8 (.cells #[.pointer (some ⟨i, 0, none⟩)] 42))
       have HSA := hid (heap_alloc_new w8 (.cells #[.pointer (some ⟨i, 0, none⟩)] 42))
       go_wp2_with fail
       generalize w8.alloc (.cells #[.pointer (some ⟨i, 0, none⟩)] 42) = wA at *
       have HRA := hid (HR8.out.below HBA.out)
       have HHA : Hid (wA.heap[w.heap.size]? = some (.cells #[.int .i64 0, .int .i64 0, .int .i64 0] 32 (0, 0))) := zae HBA.out (zab HH8.out) HH8.out
       have HNI : Hid (({ R with lv := .slice la (zbb R.L (zal l)).length lc, L := zbb R.L (zal l) } : RT).nd i = some ri) := HRI.out
       refine (stamp1 HRB.out.now0 HRB.out.now1 HRA.out.tree (HRA.out.node i _ HNI.out).1 HSA.out).mono ?_
       intro e w9 hp9
       have HR9 := hid (HRA.out.stamped1 HNI.out hp9)
       have HK9 : Hid (Kept (fun b => b = R.tb ∨ b = i) wA w9) := hp9.kept
       obtain rfl := hp9.ret
       have HH9 : Hid (w9.heap[w.heap.size]? = some (.cells #[.int .i64 0, .int .i64 0, .int .i64 0] 32 (0, 0))) := (HK9.out.block _ (zab HHA.out) (fun h => by
        rcases h with h | h
        ·exact HTB.out h
        ·have := HIL.out; omega)).trans HHA.out
       have HKK : Hid (Kept R.foot w w9) := (((Kept.of_below HB3.out R.foot).trans HK5.out (fun b h => .inl (.inl h))).then_below (HB8.out.trans (HBA.out.mono HB8.out.size))).trans HK9.out (fun b h => by
        rcases h with h | h
        ·exact .inl (.inl h)
        ·exact .inl (.inr (.inr (.inl ⟨ri, by rw [h]; exact HRI.out⟩))))
       clear hp9 HK9 HHA HRA HBA HSA HH8 HR8 HB8 HK5
       obtain ⟨g0, g1, g2⟩ := zz3 HH9.out
       have gf := fun o => zah HH9.out o
       have HY := hid (zap HH9.out (.int .i64 0) (.int .i64 0) (.int .i64 0))
       have HKS := hid (zao w9 w.heap.size (.int .i64 0) (.int .i64 0) (.int .i64 0))
       go_wp2_with fail
       clear g0 g1 g2 gf
       generalize ((w9.setCell ⟨w.heap.size, 0, none⟩ (.int .i64 0)).setCell ⟨w.heap.size, 1, none⟩ (.int .i64 0)).setCell ⟨w.heap.size, 2, none⟩ (.int .i64 0) = W at *
       obtain ⟨r0, r1, r2⟩ := zz3 HY.out
       refine bodyPost_ret (v := flt0) ?_ rfl ⟨HKK.out.trans HKS.out (fun b h => .inr (by rw [h]; exact Nat.le_refl _)), .inr ⟨rfl, l, _, k, d, i, ri, HCL.out, HOK.out, HL0.out, HAT.out, HD.out, (fun h => by rw [HDIR.out] at h; cases h), HR9.out.kept HKS.out (fun b hb hf => HR9.out.not_foot HH9.out (by decide) (by decide) (by decide) (by decide) (by rw [← hf]; exact hb)), rfl, HI.out, HRI.out, ⟨rfl, rfl, if_pos rfl, ?_⟩⟩⟩
       ·simp [results, Tryz.results37, go_sem, r0, r1, r2, flt0]
       ·intro x h1
        exact if_neg h1
end
end Go.Proofs.YteeeaeiafdgpkaaGreatDoor
