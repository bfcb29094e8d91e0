/-
 The document's tree: New, Read.
 The document's tree: Open.
 The law's model: one call of the document's tree.
-/
import Derived.Test.YteeeaeiafdgpkaaGreatDoorRefB
namespace Go.Proofs.YteeeaeiafdgpkaaGreatDoor
open Go Go.RowKit
open Go.Lib (hid)
section
structure RNewPost (B : Nat) (w : World) (e : Ending) (w' : World) : Prop where
 below : Below w.heap.size w w'
 tree : ∃ R i, e = .returned (.pointer (some ⟨R.tb, 0, none⟩)) ∧ RRep B w' R ∧ R.L = [([], i)] ∧ R.now = 0 ∧ R.nd i = some (zbt true) ∧ (∀ n, n ≠ i → R.nd n = none) ∧ ∀ b, R.foot b → w.heap.size ≤ b
def newRT (t i g : Nat) : RT := ⟨t, .slice (some ⟨g, 0, none⟩) 1 1, [([], i)], 0, fun x => if x = i then some (zbt true) else none⟩
theorem newRT_rep {B : Nat} {w : World} {t i g : Nat} (hi : w.heap[i]? = some (.cells #[.bool true, .slice none 0 0, .int .i64 0] 41 (0, 0)))
  (hg : w.heap[g]? = some (.cells #[.string ⟨#[]⟩, .pointer (some ⟨i, 0, none⟩)] 70 (0, 0)))
  (ht : w.heap[t]? = some (.cells #[.slice (some ⟨g, 0, none⟩) 1 1, .int .i64 0, .bool false] 73 (0, 0))) (h1 : B ≤ t) (h2 : B ≤ i) (h3 : B ≤ g) : RRep B w (newRT t i g) ∧ ∀ b, (newRT t i g).foot b → b = t ∨ b = i ∨ b = g := by
 have hnd : ∀ n d, (newRT t i g).nd n = some d → n = i ∧ d = zbt true := fun n d hn => by
  have hn : (if n = i then some (zbt true) else none) = some d := hn
  by_cases e : n = i
  ·rw [if_pos e] at hn; cases hn; exact ⟨e, rfl⟩
  ·rw [if_neg e] at hn; cases hn
 have hf : ∀ b, (newRT t i g).foot b → b = t ∨ b = i ∨ b = g := by
  rintro b (rfl | hb | ⟨d, hd⟩ | ⟨n, d, hd, hv⟩)
  ·exact .inl rfl
  ·cases hb; exact .inr (.inr rfl)
  ·exact .inr (.inl (hnd b d hd).1)
  ·obtain ⟨_, rfl⟩ := hnd n d hd
   cases hv
 refine ⟨⟨fun b hb => ?_, ht, ⟨rfl, .inr ⟨g, 1, _, rfl, h3, hg, Nat.le_refl _, by decide, rfl, rfl⟩⟩, ?_, ?_, ?_⟩, hf⟩
 ·rcases hf b hb with rfl | rfl | rfl <;> assumption
 ·intro n d hn
  obtain ⟨rfl, rfl⟩ := hnd n d hn
  exact ⟨hi, World.ownsRow_nil _ _ _ _⟩
 ·intro e he
  obtain rfl : e = ([], i) := by simpa [newRT] using he
  exact ⟨_, if_pos rfl⟩
 ·intro n d n' d' b hn hn2 _ _
  rw [(hnd n d hn).1, (hnd n' d' hn2).1]
set_option maxRecDepth 100000 in
set_option maxHeartbeats 1000000 in
theorem ref_new (B : Nat) (w : World) (hB : B ≤ w.heap.size) : Calls Tryz.prog 7 #[] w fun e w' => RNewPost B w e w' := by
 have H : Hid (RNewPost B w (.returned (.pointer (some ⟨w.heap.size + 1 + 1, 0, none⟩))) (((w.alloc (.cells #[.bool true, .slice none 0 0, .int .i64 0] 41)).alloc (.cells #[.string ⟨#[]⟩, .pointer (some ⟨w.heap.size, 0, none⟩)] 70)).alloc (.cells #[.slice (some ⟨w.heap.size + 1, 0, none⟩) 1 1, .int .i64 0, .bool false] 73))) := by
  have s1 : (w.alloc (.cells #[.bool true, .slice none 0 0, .int .i64 0] 41)).heap.size = w.heap.size + 1 := by simp
  have b1 := zad w (.cells #[.bool true, .slice none 0 0, .int .i64 0] 41)
  have n1 := heap_alloc_new w (.cells #[.bool true, .slice none 0 0, .int .i64 0] 41)
  generalize w.alloc (.cells #[.bool true, .slice none 0 0, .int .i64 0] 41) = w1 at *
  have s2 : (w1.alloc (.cells #[.string ⟨#[]⟩, .pointer (some ⟨w.heap.size, 0, none⟩)] 70)).heap.size = w.heap.size + 1 + 1 := by rw [← s1]; simp
  have b2 := zad w1 (.cells #[.string ⟨#[]⟩, .pointer (some ⟨w.heap.size, 0, none⟩)] 70)
  have n2 := heap_alloc_new w1 (.cells #[.string ⟨#[]⟩, .pointer (some ⟨w.heap.size, 0, none⟩)] 70)
  rw [s1] at n2
  generalize w1.alloc (.cells #[.string ⟨#[]⟩, .pointer (some ⟨w.heap.size, 0, none⟩)] 70) = w2 at *
  have b3 := zad w2 (.cells #[.slice (some ⟨w.heap.size + 1, 0, none⟩) 1 1, .int .i64 0, .bool false] 73)
  have n3 := heap_alloc_new w2 (.cells #[.slice (some ⟨w.heap.size + 1, 0, none⟩) 1 1, .int .i64 0, .bool false] 73)
  rw [s2] at n3
  generalize w2.alloc (.cells #[.slice (some ⟨w.heap.size + 1, 0, none⟩) 1 1, .int .i64 0, .bool false] 73) = w3 at *
  obtain ⟨hr, hf⟩ := newRT_rep (B := B) (w := w3) (t := w.heap.size + 1 + 1) (i := w.heap.size) (g := w.heap.size + 1) (zae b3 (by omega) (zae b2 (by omega) n1)) (zae b3 (by omega) n2) n3 (by omega) hB (by omega)
  exact ⟨zaf (zaf b1 b2) b3, _, w.heap.size, rfl, hr, rfl, rfl, if_pos rfl, fun n h => if_neg h, fun b hb => by rcases hf b hb with rfl | rfl | rfl <;> omega⟩
 go_enter Tryz.func7, Tryz.ntmps7
 go_wp2_with fail
 go_ret
 exact H.out
end
section
def NoWrite (R : RT) (s : ByteArray) (b : List UInt8) (add : Bool) (c : Nat) : Prop := (c = 15 ∧ zbh s = none) ∨ ∃ l, zbh s = some l ∧ ((c = 16 ∧ ¬ R.okDirs l) ∨ (R.okDirs l ∧
   ((c = 17 ∧ ∃ k d, zaw R.L (zal l) = some k ∧ R.nd k = some d ∧ d.dir = true) ∨
    (c = 19 ∧ zaw R.L (zal l) = none ∧ (200 ≤ zbq R.L ∨ 65536 < b.length)) ∨
    (c = 19 ∧ ∃ k d, zaw R.L (zal l) = some k ∧ R.nd k = some d ∧ d.dir = false ∧ 65536 < (zcs d.data add b).length))))
def zd9 (R R' : RT) (s : ByteArray) (b : List UInt8) (add : Bool) : Prop :=
 (∃ l i m ri rk, zbh s = some l ∧ R.okDirs l ∧ zaw R.L (zal l) = none ∧ zbq R.L < 200 ∧ b.length ≤ 65536 ∧ zaw R.L (zal l.dropLast) = some i ∧ R.nd i = some ri ∧ R.nd m = none ∧ RGrown R R' (zal l) i m ri rk ∧ rk.dir = false ∧ rk.data = b) ∨
 (∃ l k d, zbh s = some l ∧ R.okDirs l ∧ zaw R.L (zal l) = some k ∧ R.nd k = some d ∧ d.dir = false ∧ (zcs d.data add b).length ≤ 65536 ∧ RTurned R R' k d (zcs d.data add b))
theorem WritePost.parts {B : Nat} {w w' : World} {R : RT} {s : ByteArray} {b : List UInt8} {add : Bool} {e : Ending} (h : WritePost B w R s b add e w') :
  (∃ c, c ≠ 0 ∧ e = .returned (fltV c) ∧ RRep B w' R ∧ NoWrite R s b add c) ∨ (e = .returned flt0 ∧ ∃ R', RRep B w' R' ∧ R'.tb = R.tb ∧ za5 w.heap.size R R' ∧ zd9 R R' s b add) := by
 rcases h.case with h | ⟨h1, l, R', i, m, ri, rk, a1, a2, a3, a4, a5, a6, a7, a8, a9, a10, a11, a12, a13, a14⟩ | ⟨h1, l, R', k, d, a1, a2, a3, a4, a5, a6, a7, a8, a9, a10⟩
 ·exact .inl h
 ·exact .inr ⟨h1, R', a6, a7, a14, .inl ⟨l, i, m, ri, rk, a1, a2, a3, a4, a5, a8, a9, a10, a11, a12, a13⟩⟩
 ·exact .inr ⟨h1, R', a7, a8, a10, .inr ⟨l, k, d, a1, a2, a3, a4, a5, a6, a9⟩⟩
theorem dirAt_iff {R : RT} {q : List UInt8} : R.dirAt q = true ↔ ∃ i ri, zaw R.L q = some i ∧ R.nd i = some ri ∧ ri.dir = true := by
 refine ⟨dir_of, ?_⟩
 rintro ⟨i, ri, h1, h2, h3⟩
 unfold RT.dirAt
 rw [h1]
 simp [h2, h3]
theorem zd9.isFile {R R' : RT} {s : ByteArray} {b : List UInt8} {add : Bool} (h : zd9 R R' s b add) : ∃ k d, ze5 R' s k d := by
 rcases h with ⟨l, i, m, ri, rk, a1, a2, a3, a4, a5, a8, a9, a10, a11, a12, a13⟩ | ⟨l, k, d, a1, a2, a3, a4, a5, a6, a9⟩
 ·refine ⟨m, rk, l, a1, fun j hj => ?_, ?_, a11.here, a12⟩
  ·obtain ⟨x, rx, h1, h2, h3⟩ := dir_of (a2 j hj)
   have hne : zal (l.take j) ≠ zal l := fun e => by
    rw [← e, h1] at a3
    cases a3
   rw [dirAt_iff, a11.L, zb5 m a3, if_neg hne]
   have hxm : x ≠ m := fun e => by rw [e, a10] at h2; cases h2
   by_cases hxi : x = i
   ·subst hxi
    rw [a9] at h2
    obtain rfl := Option.some.inj h2
    exact ⟨x, _, h1, a11.up, h3⟩
   ·exact ⟨x, rx, h1, (a11.oth x hxi hxm).trans h2, h3⟩
  ·rw [a11.L, zb5 m a3, if_pos rfl]
 ·obtain ⟨dv, hh⟩ := a9.here
  refine ⟨k, _, l, a1, fun j hj => ?_, by rw [a9.L]; exact a3, hh, a5⟩
  obtain ⟨x, rx, h1, h2, h3⟩ := dir_of (a2 j hj)
  rw [dirAt_iff, a9.L]
  by_cases hxk : x = k
  ·subst hxk
   rw [a4] at h2
   obtain rfl := Option.some.inj h2
   rw [a5] at h3
   cases h3
  ·exact ⟨x, rx, h1, (a9.oth x hxk).trans h2, h3⟩
theorem zd9.rb {R R' : RT} {s : ByteArray} {b : List UInt8} {add : Bool} (h : zd9 R R' s b add) (hb : RB R) (hl : R.L.length < 90000) (hn : R.now < 1152921504606846976) : RB R' := by
 have h0 := hb.now0
 rcases h with ⟨l, i, m, ri, rk, a1, a2, a3, a4, a5, a8, a9, a10, a11, a12, a13⟩ | ⟨l, k, d, a1, a2, a3, a4, a5, a6, a9⟩
 ·refine ⟨?_, ?_, ?_, by rw [a11.now]; omega, by rw [a11.now]; omega⟩
  ·rw [a11.L, (zcn R.L (zal l) m).length_eq, List.length_cons]; omega
  ·intro e he
   rw [a11.L] at he
   rcases zdf.1 he with rfl | he
   ·show (zal l).length ≤ _
    have := zay a1
    omega
   ·exact hb.paths e he
  ·rw [a11.L, zb5 m a3]
   split
   ·exact fun h => by cases h
   ·exact hb.root
 ·exact ⟨by rw [a9.L]; exact hb.len, by rw [a9.L]; exact hb.paths, by rw [a9.L]; exact hb.root, by rw [a9.now]; omega, by rw [a9.now]; omega⟩
theorem ze5.no {R : RT} {s : ByteArray} {k c : Nat} {d : RNd} (h : ze5 R s k d) (hn : NoFile R s c) : False := by
 obtain ⟨l, h1, h2, h3, h4, h5⟩ := h
 rcases hn with ⟨_, h⟩ | ⟨l', h, h6⟩
 ·rw [h1] at h; cases h
 ·rw [h1] at h
  obtain rfl := Option.some.inj h
  rcases h6 with ⟨_, h⟩ | ⟨_, ⟨_, h⟩ | ⟨_, k2, d2, q1, q2, q3⟩⟩
  ·exact h h2
  ·rw [h3] at h; cases h
  ·rw [h3] at q1
   obtain rfl := Option.some.inj q1
   rw [h4] at q2
   obtain rfl := Option.some.inj q2
   rw [h5] at q3
   cases q3
structure OpenPost (B : Nat) (w : World) (R : RT) (s : ByteArray) (way : Int) (e : Ending) (w' : World) : Prop where
 kept : Kept R.foot w w'
 case : (∃ c, c ≠ 0 ∧ e = .returned (.tuple #[.pointer none, fltV c]) ∧ RRep B w' R ∧ ((c = 1 ∧ way ≠ 0 ∧ way ≠ 1 ∧ way ≠ 2) ∨ (way = 0 ∧ NoFile R s c) ∨ (way = 1 ∧ NoWrite R s [] false c) ∨ (way = 2 ∧ NoWrite R s [] true c))) ∨
  (∃ k d R', e = .returned (.tuple #[.pointer (some ⟨k, 0, none⟩), flt0]) ∧ RRep B w' R' ∧ R'.tb = R.tb ∧ za5 w.heap.size R R' ∧ ze5 R' s k d ∧ ((way = 0 ∧ R' = R) ∨ (way = 1 ∧ zd9 R R' s [] false) ∨ (way = 2 ∧ zd9 R R' s [] true)))
set_option maxRecDepth 100000 in
set_option maxHeartbeats 6000000 in
theorem ref_open {B : Nat} {R : RT} (s : ByteArray) (way : Int) (w : World) (hR : RRep B w R) (hb : RB R) (hl : R.L.length < 90000) (hn : R.now < 1152921504606846976) (hsz : s.size ≤ 9223372036854775807) (hdl : ∀ n d, R.nd n = some d → d.data.length ≤ 180000000000000) :
  Calls Tryz.prog 87 #[.pointer (some ⟨R.tb, 0, none⟩), .string s, .int .i64 way] w fun e w' => OpenPost B w R s way e w' := by
 have HR := hid hR
 have HRB := hid hb
 have HL := hid hl
 have HN := hid hn
 have HDL := hid hdl
 have HB0 := hid (zad w (.cells #[.int .i64 0, .int .i64 0, .int .i64 0] 32))
 have HH0 := hid (heap_alloc_new w (.cells #[.int .i64 0, .int .i64 0, .int .i64 0] 32))
 clear hR hb hl hn hdl
 go_enter Tryz.func87, Tryz.ntmps87
 go_wp2_with fail
 generalize w.alloc (.cells #[.int .i64 0, .int .i64 0, .int .i64 0] 32) = w0 at *
 refine (zax 1 w0).mono ?_
 rintro e w1 ⟨rfl, hb1⟩
 have HB1 := hid (zaf HB0.out hb1)
 have HH1 : Hid (w1.heap[w.heap.size]? = some (.cells #[.int .i64 0, .int .i64 0, .int .i64 0] 32 (0, 0))) := zae hb1 (zab HH0.out) HH0.out
 clear hb1 HB0 HH0
 simp only [fltV]
 obtain ⟨w2, hw2⟩ : ∃ w2, w2 = w1.alloc (.cells #[.int .i64 1, .int .i64 0, .int .i64 11] 32) := ⟨_, rfl⟩
 have HW2 := hid hw2
 have HB2 : Hid (Below w.heap.size w w2) := by rw [hw2]; exact HB1.out.alloc HB1.out.size _
 have HH2 : Hid (w2.heap[w.heap.size]? = some (.cells #[.int .i64 0, .int .i64 0, .int .i64 0] 32 (0, 0))) := by
  rw [hw2]; exact zae (zad w1 _) (zab HH1.out) HH1.out
 have HF2 : Hid (w2.heap[w1.heap.size]? = some (.cells #[.int .i64 1, .int .i64 0, .int .i64 11] 32 (0, 0))) := by
  rw [hw2]; exact heap_alloc_new w1 _
 have HFN : Hid (w.heap.size ≠ w1.heap.size) := hid (by have := zab HH1.out; omega)
 have HFB : Hid (w.heap.size ≤ w1.heap.size) := HB1.out.size
 have HR2 := hid (HR.out.below HB2.out)
 have HK2 : Hid (Kept R.foot w w2) := Kept.of_below HB2.out _
 clear hw2
 by_cases hw0 : way = 0
 ·subst hw0
  go_upto_region 4 with fail
  rw [← HW2.out]
  clear HW2 HH1 HB1
  generalize w1.heap.size = fb at *
  go_wp2_with fail
  refine (ref_file s w2 HR2.out HRB.out hsz).mono ?_
  intro e w3 hp
  obtain ⟨hb3, hp⟩ := hp
  have HB3 := hid (zaf HB2.out hb3)
  have HH3 : Hid (w3.heap[w.heap.size]? = some (.cells #[.int .i64 0, .int .i64 0, .int .i64 0] 32 (0, 0))) := zae hb3 (zab HH2.out) HH2.out
  have HR3 := hid (HR.out.below HB3.out)
  clear hb3 HH2 HB2 HR2
  rcases hp with ⟨c, hc0, rfl, hnf⟩ | ⟨k, d, hif, rfl⟩
  ·have HC0 := hid hc0
   have HNF := hid hnf
   clear hc0 hnf
   simp only [fltV]
   obtain ⟨g0, g1, g2⟩ := zz3 HH3.out
   have gf := fun o => zah HH3.out o
   have HY := hid (zap HH3.out (.int .i64 c) (.int .i64 0) (.int .i64 11))
   have HKS := hid (zao w3 w.heap.size (.int .i64 c) (.int .i64 0) (.int .i64 11))
   have HRW : Hid (RRep B (((w3.setCell ⟨w.heap.size, 0, none⟩ (.int .i64 c)).setCell ⟨w.heap.size, 1, none⟩ (.int .i64 0)).setCell ⟨w.heap.size, 2, none⟩ (.int .i64 11)) R) := HR3.out.kept HKS.out (fun b hb hf => HR3.out.not_foot HH3.out (by decide) (by decide) (by decide) (by decide) (by rw [← hf]; exact hb))
   have HKW : Hid (Kept R.foot w (((w3.setCell ⟨w.heap.size, 0, none⟩ (.int .i64 c)).setCell ⟨w.heap.size, 1, none⟩ (.int .i64 0)).setCell ⟨w.heap.size, 2, none⟩ (.int .i64 11))) := (Kept.of_below HB3.out R.foot).trans HKS.out (fun b h => .inr (by rw [h]; exact Nat.le_refl _))
   go_wp2_with fail
   clear g0 g1 g2 gf
   generalize ((w3.setCell ⟨w.heap.size, 0, none⟩ (.int .i64 c)).setCell ⟨w.heap.size, 1, none⟩ (.int .i64 0)).setCell ⟨w.heap.size, 2, none⟩ (.int .i64 11) = W at *
   obtain ⟨r0, r1, r2⟩ := zz3 HY.out
   refine bodyPost_ret (v := .tuple #[.pointer none, fltV c]) ?_ rfl ⟨HKW.out, .inl ⟨c, HC0.out, rfl, HRW.out, .inr (.inl ⟨rfl, HNF.out⟩)⟩⟩
   simp [results, Tryz.results87, go_sem, r0, r1, r2, fltV]
  ·have HIF := hid hif
   clear hif
   simp only [flt0]
   obtain ⟨g0, g1, g2⟩ := zz3 HH3.out
   have gf := fun o => zah HH3.out o
   have HY := hid (zap HH3.out (.int .i64 0) (.int .i64 0) (.int .i64 0))
   have HKS := hid (zao w3 w.heap.size (.int .i64 0) (.int .i64 0) (.int .i64 0))
   have HRW : Hid (RRep B (((w3.setCell ⟨w.heap.size, 0, none⟩ (.int .i64 0)).setCell ⟨w.heap.size, 1, none⟩ (.int .i64 0)).setCell ⟨w.heap.size, 2, none⟩ (.int .i64 0)) R) := HR3.out.kept HKS.out (fun b hb hf => HR3.out.not_foot HH3.out (by decide) (by decide) (by decide) (by decide) (by rw [← hf]; exact hb))
   have HKW : Hid (Kept R.foot w (((w3.setCell ⟨w.heap.size, 0, none⟩ (.int .i64 0)).setCell ⟨w.heap.size, 1, none⟩ (.int .i64 0)).setCell ⟨w.heap.size, 2, none⟩ (.int .i64 0))) := (Kept.of_below HB3.out R.foot).trans HKS.out (fun b h => .inr (by rw [h]; exact Nat.le_refl _))
   go_wp2_with fail
   clear g0 g1 g2 gf
   generalize ((w3.setCell ⟨w.heap.size, 0, none⟩ (.int .i64 0)).setCell ⟨w.heap.size, 1, none⟩ (.int .i64 0)).setCell ⟨w.heap.size, 2, none⟩ (.int .i64 0) = W at *
   obtain ⟨r0, r1, r2⟩ := zz3 HY.out
   refine bodyPost_ret (v := .tuple #[.pointer (some ⟨k, 0, none⟩), flt0]) ?_ rfl ⟨HKW.out, .inr ⟨k, d, R, rfl, HRW.out, rfl, za5.same _ _, HIF.out, .inl ⟨rfl, rfl⟩⟩⟩
   simp [results, Tryz.results87, go_sem, r0, r1, r2, flt0]
 ·by_cases hw1 : way = 1
  ·clear hw0
   subst hw1
   go_upto_region 6 with fail
   rw [← HW2.out]
   clear HW2 HH1 HB1
   generalize w1.heap.size = fb at *
   go_wp2_with fail
   refine (ref_write s (.slice none 0 0) [] false w2 HR2.out HRB.out hsz (Src.nil _) (by simp) (fun n d h => by have := HDL.out n d h; simpa using this)).mono ?_
   intro e w3 hp
   have HK3 : Hid (Kept R.foot w w3) := HK2.out.trans hp.kept (fun b h => .inl h)
   have HH3 : Hid (w3.heap[w.heap.size]? = some (.cells #[.int .i64 0, .int .i64 0, .int .i64 0] 32 (0, 0))) := (hp.kept.block _ (zab HH2.out) (HR2.out.not_foot HH2.out (by decide) (by decide) (by decide) (by decide))).trans HH2.out
   have HF3 : Hid (w3.heap[fb]? = some (.cells #[.int .i64 1, .int .i64 0, .int .i64 11] 32 (0, 0))) := (hp.kept.block _ (zab HF2.out) (HR2.out.not_foot HF2.out (by decide) (by decide) (by decide) (by decide))).trans HF2.out
   rcases hp.parts with ⟨c, hc0, rfl, hr3, hnw⟩ | ⟨rfl, R', hr3, htb, hfr, hwr⟩
   ·have HC0 := hid hc0
    have HNW := hid hnw
    have HR3 := hid hr3
    have hci : ¬ (c : Int) = 0 := by omega
    clear hc0 hnw hr3 hp HH2 HF2 HB2 HR2
    simp only [fltV]
    have f0 := zaa (o := 0) HF3.out rfl
    have f1 := zaa (o := 1) HF3.out rfl
    have f2 := zaa (o := 2) HF3.out rfl
    have ff := fun o => zah HF3.out o
    have HF4 := hid (zap HF3.out (.int .i64 c) (.int .i64 0) (.int .i64 11))
    have HS4 := hid (zao w3 fb (.int .i64 c) (.int .i64 0) (.int .i64 11))
    have HH4 : Hid ((((w3.setCell ⟨fb, 0, none⟩ (.int .i64 c)).setCell ⟨fb, 1, none⟩ (.int .i64 0)).setCell ⟨fb, 2, none⟩ (.int .i64 11)).heap[w.heap.size]? = some (.cells #[.int .i64 0, .int .i64 0, .int .i64 0] 32 (0, 0))) := (HS4.out.block _ (zab HH3.out) HFN.out).trans HH3.out
    have HR4 : Hid (RRep B (((w3.setCell ⟨fb, 0, none⟩ (.int .i64 c)).setCell ⟨fb, 1, none⟩ (.int .i64 0)).setCell ⟨fb, 2, none⟩ (.int .i64 11)) R) := HR3.out.kept HS4.out (fun b hb hf => HR3.out.not_foot HF3.out (by decide) (by decide) (by decide) (by decide) (by rw [← hf]; exact hb))
    have HK4 : Hid (Kept R.foot w (((w3.setCell ⟨fb, 0, none⟩ (.int .i64 c)).setCell ⟨fb, 1, none⟩ (.int .i64 0)).setCell ⟨fb, 2, none⟩ (.int .i64 11))) := HK3.out.trans HS4.out (fun b h => .inr (by rw [h]; exact HFB.out))
    go_upto_region 9 with fail
    clear f0 f1 f2 ff
    generalize ((w3.setCell ⟨fb, 0, none⟩ (.int .i64 c)).setCell ⟨fb, 1, none⟩ (.int .i64 0)).setCell ⟨fb, 2, none⟩ (.int .i64 11) = w4 at *
    have f0 := zaa (o := 0) HF4.out rfl
    have f1 := zaa (o := 1) HF4.out rfl
    have f2 := zaa (o := 2) HF4.out rfl
    obtain ⟨g0, g1, g2⟩ := zz3 HH4.out
    have gf := fun o => zah HH4.out o
    have HY := hid (zap HH4.out (.int .i64 c) (.int .i64 0) (.int .i64 11))
    have HKS := hid (zao w4 w.heap.size (.int .i64 c) (.int .i64 0) (.int .i64 11))
    have HRW : Hid (RRep B (((w4.setCell ⟨w.heap.size, 0, none⟩ (.int .i64 c)).setCell ⟨w.heap.size, 1, none⟩ (.int .i64 0)).setCell ⟨w.heap.size, 2, none⟩ (.int .i64 11)) R) := HR4.out.kept HKS.out (fun b hb hf => HR4.out.not_foot HH4.out (by decide) (by decide) (by decide) (by decide) (by rw [← hf]; exact hb))
    have HKW : Hid (Kept R.foot w (((w4.setCell ⟨w.heap.size, 0, none⟩ (.int .i64 c)).setCell ⟨w.heap.size, 1, none⟩ (.int .i64 0)).setCell ⟨w.heap.size, 2, none⟩ (.int .i64 11))) := HK4.out.trans HKS.out (fun b h => .inr (by rw [h]; exact Nat.le_refl _))
    go_wp2_with fail
    go_region
    go_wp2_with fail
    clear g0 g1 g2 gf
    generalize ((w4.setCell ⟨w.heap.size, 0, none⟩ (.int .i64 c)).setCell ⟨w.heap.size, 1, none⟩ (.int .i64 0)).setCell ⟨w.heap.size, 2, none⟩ (.int .i64 11) = W at *
    obtain ⟨r0, r1, r2⟩ := zz3 HY.out
    refine bodyPost_ret (v := .tuple #[.pointer none, fltV c]) ?_ rfl ⟨HKW.out.drew, .inl ⟨c, HC0.out, rfl, HRW.out.below ((Below.refl _ W).drew), .inr (.inr (.inl ⟨rfl, HNW.out⟩))⟩⟩
    simp [results, Tryz.results87, go_sem, r0, r1, r2, fltV]
   ·have HR3 := hid hr3
    have HWR := hid hwr
    have HTB := hid htb
    have HFR : Hid (za5 w.heap.size R R') := hfr.mono HB2.out.size
    have HRB' : Hid (RB R') := hwr.rb HRB.out HL.out HN.out
    clear hr3 htb hfr hwr hp HH2 HF2 HB2 HR2
    simp only [flt0]
    have f0 := zaa (o := 0) HF3.out rfl
    have f1 := zaa (o := 1) HF3.out rfl
    have f2 := zaa (o := 2) HF3.out rfl
    have ff := fun o => zah HF3.out o
    have HS4 := hid (zao w3 fb (.int .i64 0) (.int .i64 0) (.int .i64 0))
    have HF4 := hid (zap HF3.out (.int .i64 0) (.int .i64 0) (.int .i64 0))
    have HH4 : Hid ((((w3.setCell ⟨fb, 0, none⟩ (.int .i64 0)).setCell ⟨fb, 1, none⟩ (.int .i64 0)).setCell ⟨fb, 2, none⟩ (.int .i64 0)).heap[w.heap.size]? = some (.cells #[.int .i64 0, .int .i64 0, .int .i64 0] 32 (0, 0))) := (HS4.out.block _ (zab HH3.out) HFN.out).trans HH3.out
    have HR4 : Hid (RRep B (((w3.setCell ⟨fb, 0, none⟩ (.int .i64 0)).setCell ⟨fb, 1, none⟩ (.int .i64 0)).setCell ⟨fb, 2, none⟩ (.int .i64 0)) R') := HR3.out.kept HS4.out (fun b hb hf => HR3.out.not_foot HF3.out (by decide) (by decide) (by decide) (by decide) (by rw [← hf]; exact hb))
    have HK4 : Hid (Kept R.foot w (((w3.setCell ⟨fb, 0, none⟩ (.int .i64 0)).setCell ⟨fb, 1, none⟩ (.int .i64 0)).setCell ⟨fb, 2, none⟩ (.int .i64 0))) := HK3.out.trans HS4.out (fun b h => .inr (by rw [h]; exact HFB.out))
    go_upto_region 9 with fail
    clear f0 f1 f2 ff
    generalize ((w3.setCell ⟨fb, 0, none⟩ (.int .i64 0)).setCell ⟨fb, 1, none⟩ (.int .i64 0)).setCell ⟨fb, 2, none⟩ (.int .i64 0) = w4 at *
    have f0 := zaa (o := 0) HF4.out rfl
    rw [← HTB.out]
    go_wp2_with fail
    refine (ref_file s w4 HR4.out HRB'.out hsz).mono ?_
    intro e w5 hp
    obtain ⟨hb5, hp⟩ := hp
    rcases hp with ⟨c, hc0, rfl, hnf⟩ | ⟨k, d, hif, rfl⟩
    ·obtain ⟨k, d, h⟩ := HWR.out.isFile
     exact (h.no hnf).elim
    ·have HIF := hid hif
     have HH5 : Hid (w5.heap[w.heap.size]? = some (.cells #[.int .i64 0, .int .i64 0, .int .i64 0] 32 (0, 0))) := zae hb5 (zab HH4.out) HH4.out
     have HR15 := hid (HR4.out.below hb5)
     have HK5 : Hid (Kept R.foot w w5) := HK4.out.then_below hb5
     clear hif hb5 f0
     simp only [flt0]
     obtain ⟨g0, g1, g2⟩ := zz3 HH5.out
     have gf := fun o => zah HH5.out o
     have HY := hid (zap HH5.out (.int .i64 0) (.int .i64 0) (.int .i64 0))
     have HKS := hid (zao w5 w.heap.size (.int .i64 0) (.int .i64 0) (.int .i64 0))
     have HRW : Hid (RRep B (((w5.setCell ⟨w.heap.size, 0, none⟩ (.int .i64 0)).setCell ⟨w.heap.size, 1, none⟩ (.int .i64 0)).setCell ⟨w.heap.size, 2, none⟩ (.int .i64 0)) R') := HR15.out.kept HKS.out (fun b hb hf => HR15.out.not_foot HH5.out (by decide) (by decide) (by decide) (by decide) (by rw [← hf]; exact hb))
     have HKW : Hid (Kept R.foot w (((w5.setCell ⟨w.heap.size, 0, none⟩ (.int .i64 0)).setCell ⟨w.heap.size, 1, none⟩ (.int .i64 0)).setCell ⟨w.heap.size, 2, none⟩ (.int .i64 0))) := HK5.out.trans HKS.out (fun b h => .inr (by rw [h]; exact Nat.le_refl _))
     go_wp2_with fail
     clear g0 g1 g2 gf
     generalize ((w5.setCell ⟨w.heap.size, 0, none⟩ (.int .i64 0)).setCell ⟨w.heap.size, 1, none⟩ (.int .i64 0)).setCell ⟨w.heap.size, 2, none⟩ (.int .i64 0) = W at *
     obtain ⟨r0, r1, r2⟩ := zz3 HY.out
     refine bodyPost_ret (v := .tuple #[.pointer (some ⟨k, 0, none⟩), flt0]) ?_ rfl ⟨HKW.out, .inr ⟨k, d, R', rfl, HRW.out, HTB.out, HFR.out, HIF.out, .inr (.inl ⟨rfl, HWR.out⟩)⟩⟩
     simp [results, Tryz.results87, go_sem, r0, r1, r2, flt0]
  ·by_cases hw22 : way = 2
   ·clear hw0 hw1
    subst hw22
    go_upto_region 8 with fail
    rw [← HW2.out]
    clear HW2 HH1 HB1
    generalize w1.heap.size = fb at *
    go_wp2_with fail
    refine (ref_write s (.slice none 0 0) [] true w2 HR2.out HRB.out hsz (Src.nil _) (by simp) (fun n d h => by have := HDL.out n d h; simpa using this)).mono ?_
    intro e w3 hp
    have HK3 : Hid (Kept R.foot w w3) := HK2.out.trans hp.kept (fun b h => .inl h)
    have HH3 : Hid (w3.heap[w.heap.size]? = some (.cells #[.int .i64 0, .int .i64 0, .int .i64 0] 32 (0, 0))) := (hp.kept.block _ (zab HH2.out) (HR2.out.not_foot HH2.out (by decide) (by decide) (by decide) (by decide))).trans HH2.out
    have HF3 : Hid (w3.heap[fb]? = some (.cells #[.int .i64 1, .int .i64 0, .int .i64 11] 32 (0, 0))) := (hp.kept.block _ (zab HF2.out) (HR2.out.not_foot HF2.out (by decide) (by decide) (by decide) (by decide))).trans HF2.out
    rcases hp.parts with ⟨c, hc0, rfl, hr3, hnw⟩ | ⟨rfl, R', hr3, htb, hfr, hwr⟩
    ·have HC0 := hid hc0
     have HNW := hid hnw
     have HR3 := hid hr3
     have hci : ¬ (c : Int) = 0 := by omega
     clear hc0 hnw hr3 hp HH2 HF2 HB2 HR2
     simp only [fltV]
     have f0 := zaa (o := 0) HF3.out rfl
     have f1 := zaa (o := 1) HF3.out rfl
     have f2 := zaa (o := 2) HF3.out rfl
     have ff := fun o => zah HF3.out o
     have HF4 := hid (zap HF3.out (.int .i64 c) (.int .i64 0) (.int .i64 11))
     have HS4 := hid (zao w3 fb (.int .i64 c) (.int .i64 0) (.int .i64 11))
     have HH4 : Hid ((((w3.setCell ⟨fb, 0, none⟩ (.int .i64 c)).setCell ⟨fb, 1, none⟩ (.int .i64 0)).setCell ⟨fb, 2, none⟩ (.int .i64 11)).heap[w.heap.size]? = some (.cells #[.int .i64 0, .int .i64 0, .int .i64 0] 32 (0, 0))) := (HS4.out.block _ (zab HH3.out) HFN.out).trans HH3.out
     have HR4 : Hid (RRep B (((w3.setCell ⟨fb, 0, none⟩ (.int .i64 c)).setCell ⟨fb, 1, none⟩ (.int .i64 0)).setCell ⟨fb, 2, none⟩ (.int .i64 11)) R) := HR3.out.kept HS4.out (fun b hb hf => HR3.out.not_foot HF3.out (by decide) (by decide) (by decide) (by decide) (by rw [← hf]; exact hb))
     have HK4 : Hid (Kept R.foot w (((w3.setCell ⟨fb, 0, none⟩ (.int .i64 c)).setCell ⟨fb, 1, none⟩ (.int .i64 0)).setCell ⟨fb, 2, none⟩ (.int .i64 11))) := HK3.out.trans HS4.out (fun b h => .inr (by rw [h]; exact HFB.out))
     go_upto_region 9 with fail
     clear f0 f1 f2 ff
     generalize ((w3.setCell ⟨fb, 0, none⟩ (.int .i64 c)).setCell ⟨fb, 1, none⟩ (.int .i64 0)).setCell ⟨fb, 2, none⟩ (.int .i64 11) = w4 at *
     have f0 := zaa (o := 0) HF4.out rfl
     have f1 := zaa (o := 1) HF4.out rfl
     have f2 := zaa (o := 2) HF4.out rfl
     obtain ⟨g0, g1, g2⟩ := zz3 HH4.out
     have gf := fun o => zah HH4.out o
     have HY := hid (zap HH4.out (.int .i64 c) (.int .i64 0) (.int .i64 11))
     have HKS := hid (zao w4 w.heap.size (.int .i64 c) (.int .i64 0) (.int .i64 11))
     have HRW : Hid (RRep B (((w4.setCell ⟨w.heap.size, 0, none⟩ (.int .i64 c)).setCell ⟨w.heap.size, 1, none⟩ (.int .i64 0)).setCell ⟨w.heap.size, 2, none⟩ (.int .i64 11)) R) := HR4.out.kept HKS.out (fun b hb hf => HR4.out.not_foot HH4.out (by decide) (by decide) (by decide) (by decide) (by rw [← hf]; exact hb))
     have HKW : Hid (Kept R.foot w (((w4.setCell ⟨w.heap.size, 0, none⟩ (.int .i64 c)).setCell ⟨w.heap.size, 1, none⟩ (.int .i64 0)).setCell ⟨w.heap.size, 2, none⟩ (.int .i64 11))) := HK4.out.trans HKS.out (fun b h => .inr (by rw [h]; exact Nat.le_refl _))
     go_wp2_with fail
     go_region
     go_wp2_with fail
     clear g0 g1 g2 gf
     generalize ((w4.setCell ⟨w.heap.size, 0, none⟩ (.int .i64 c)).setCell ⟨w.heap.size, 1, none⟩ (.int .i64 0)).setCell ⟨w.heap.size, 2, none⟩ (.int .i64 11) = W at *
     obtain ⟨r0, r1, r2⟩ := zz3 HY.out
     refine bodyPost_ret (v := .tuple #[.pointer none, fltV c]) ?_ rfl ⟨HKW.out.drew, .inl ⟨c, HC0.out, rfl, HRW.out.below ((Below.refl _ W).drew), .inr (.inr (.inr ⟨rfl, HNW.out⟩))⟩⟩
     simp [results, Tryz.results87, go_sem, r0, r1, r2, fltV]
    ·have HR3 := hid hr3
     have HWR := hid hwr
     have HTB := hid htb
     have HFR : Hid (za5 w.heap.size R R') := hfr.mono HB2.out.size
     have HRB' : Hid (RB R') := hwr.rb HRB.out HL.out HN.out
     clear hr3 htb hfr hwr hp HH2 HF2 HB2 HR2
     simp only [flt0]
     have f0 := zaa (o := 0) HF3.out rfl
     have f1 := zaa (o := 1) HF3.out rfl
     have f2 := zaa (o := 2) HF3.out rfl
     have ff := fun o => zah HF3.out o
     have HS4 := hid (zao w3 fb (.int .i64 0) (.int .i64 0) (.int .i64 0))
     have HF4 := hid (zap HF3.out (.int .i64 0) (.int .i64 0) (.int .i64 0))
     have HH4 : Hid ((((w3.setCell ⟨fb, 0, none⟩ (.int .i64 0)).setCell ⟨fb, 1, none⟩ (.int .i64 0)).setCell ⟨fb, 2, none⟩ (.int .i64 0)).heap[w.heap.size]? = some (.cells #[.int .i64 0, .int .i64 0, .int .i64 0] 32 (0, 0))) := (HS4.out.block _ (zab HH3.out) HFN.out).trans HH3.out
     have HR4 : Hid (RRep B (((w3.setCell ⟨fb, 0, none⟩ (.int .i64 0)).setCell ⟨fb, 1, none⟩ (.int .i64 0)).setCell ⟨fb, 2, none⟩ (.int .i64 0)) R') := HR3.out.kept HS4.out (fun b hb hf => HR3.out.not_foot HF3.out (by decide) (by decide) (by decide) (by decide) (by rw [← hf]; exact hb))
     have HK4 : Hid (Kept R.foot w (((w3.setCell ⟨fb, 0, none⟩ (.int .i64 0)).setCell ⟨fb, 1, none⟩ (.int .i64 0)).setCell ⟨fb, 2, none⟩ (.int .i64 0))) := HK3.out.trans HS4.out (fun b h => .inr (by rw [h]; exact HFB.out))
     go_upto_region 9 with fail
     clear f0 f1 f2 ff
     generalize ((w3.setCell ⟨fb, 0, none⟩ (.int .i64 0)).setCell ⟨fb, 1, none⟩ (.int .i64 0)).setCell ⟨fb, 2, none⟩ (.int .i64 0) = w4 at *
     have f0 := zaa (o := 0) HF4.out rfl
     rw [← HTB.out]
     go_wp2_with fail
     refine (ref_file s w4 HR4.out HRB'.out hsz).mono ?_
     intro e w5 hp
     obtain ⟨hb5, hp⟩ := hp
     rcases hp with ⟨c, hc0, rfl, hnf⟩ | ⟨k, d, hif, rfl⟩
     ·obtain ⟨k, d, h⟩ := HWR.out.isFile
      exact (h.no hnf).elim
     ·have HIF := hid hif
      have HH5 : Hid (w5.heap[w.heap.size]? = some (.cells #[.int .i64 0, .int .i64 0, .int .i64 0] 32 (0, 0))) := zae hb5 (zab HH4.out) HH4.out
      have HR15 := hid (HR4.out.below hb5)
      have HK5 : Hid (Kept R.foot w w5) := HK4.out.then_below hb5
      clear hif hb5 f0
      simp only [flt0]
      obtain ⟨g0, g1, g2⟩ := zz3 HH5.out
      have gf := fun o => zah HH5.out o
      have HY := hid (zap HH5.out (.int .i64 0) (.int .i64 0) (.int .i64 0))
      have HKS := hid (zao w5 w.heap.size (.int .i64 0) (.int .i64 0) (.int .i64 0))
      have HRW : Hid (RRep B (((w5.setCell ⟨w.heap.size, 0, none⟩ (.int .i64 0)).setCell ⟨w.heap.size, 1, none⟩ (.int .i64 0)).setCell ⟨w.heap.size, 2, none⟩ (.int .i64 0)) R') := HR15.out.kept HKS.out (fun b hb hf => HR15.out.not_foot HH5.out (by decide) (by decide) (by decide) (by decide) (by rw [← hf]; exact hb))
      have HKW : Hid (Kept R.foot w (((w5.setCell ⟨w.heap.size, 0, none⟩ (.int .i64 0)).setCell ⟨w.heap.size, 1, none⟩ (.int .i64 0)).setCell ⟨w.heap.size, 2, none⟩ (.int .i64 0))) := HK5.out.trans HKS.out (fun b h => .inr (by rw [h]; exact Nat.le_refl _))
      go_wp2_with fail
      clear g0 g1 g2 gf
      generalize ((w5.setCell ⟨w.heap.size, 0, none⟩ (.int .i64 0)).setCell ⟨w.heap.size, 1, none⟩ (.int .i64 0)).setCell ⟨w.heap.size, 2, none⟩ (.int .i64 0) = W at *
      obtain ⟨r0, r1, r2⟩ := zz3 HY.out
      refine bodyPost_ret (v := .tuple #[.pointer (some ⟨k, 0, none⟩), flt0]) ?_ rfl ⟨HKW.out, .inr ⟨k, d, R', rfl, HRW.out, HTB.out, HFR.out, HIF.out, .inr (.inr ⟨rfl, HWR.out⟩)⟩⟩
      simp [results, Tryz.results87, go_sem, r0, r1, r2, flt0]
   ·skip
    have HW0 := hid hw0
    go_upto_region 9 with fail
    rw [← HW2.out]
    clear HW2 HH1 HB1
    generalize w1.heap.size = fb at *
    have f0 := zaa (o := 0) HF2.out rfl
    have f1 := zaa (o := 1) HF2.out rfl
    have f2 := zaa (o := 2) HF2.out rfl
    obtain ⟨g0, g1, g2⟩ := zz3 HH2.out
    have gf := fun o => zah HH2.out o
    have HY := hid (zap HH2.out (.int .i64 1) (.int .i64 0) (.int .i64 11))
    have HKS := hid (zao w2 w.heap.size (.int .i64 1) (.int .i64 0) (.int .i64 11))
    have HRW : Hid (RRep B (((w2.setCell ⟨w.heap.size, 0, none⟩ (.int .i64 1)).setCell ⟨w.heap.size, 1, none⟩ (.int .i64 0)).setCell ⟨w.heap.size, 2, none⟩ (.int .i64 11)) R) := HR2.out.kept HKS.out (fun b hb hf => HR2.out.not_foot HH2.out (by decide) (by decide) (by decide) (by decide) (by rw [← hf]; exact hb))
    have HKW : Hid (Kept R.foot w (((w2.setCell ⟨w.heap.size, 0, none⟩ (.int .i64 1)).setCell ⟨w.heap.size, 1, none⟩ (.int .i64 0)).setCell ⟨w.heap.size, 2, none⟩ (.int .i64 11))) := HK2.out.trans HKS.out (fun b h => .inr (by rw [h]; exact Nat.le_refl _))
    go_wp2_with fail
    go_region
    go_wp2_with fail
    clear g0 g1 g2 gf
    generalize ((w2.setCell ⟨w.heap.size, 0, none⟩ (.int .i64 1)).setCell ⟨w.heap.size, 1, none⟩ (.int .i64 0)).setCell ⟨w.heap.size, 2, none⟩ (.int .i64 11) = W at *
    obtain ⟨r0, r1, r2⟩ := zz3 HY.out
    refine bodyPost_ret (v := .tuple #[.pointer none, fltV 1]) ?_ rfl ⟨HKW.out.drew, .inl ⟨1, by decide, rfl, HRW.out.below ((Below.refl _ W).drew), .inl ⟨rfl, HW0.out, hw1, hw22⟩⟩⟩
    simp [results, Tryz.results87, go_sem, r0, r1, r2, fltV]
end
section
structure AOp where
 act : Nat
 path : ByteArray
 other : ByteArray
 data : List UInt8
def Made (R R' : RT) (s : ByteArray) : Prop := ∃ l i m ri rk, zbh s = some l ∧ R.okDirs l ∧ zaw R.L (zal l) = none ∧ zbq R.L < 200 ∧ zaw R.L (zal l.dropLast) = some i ∧ R.nd i = some ri ∧ R.nd m = none ∧ RGrown R R' (zal l) i m ri rk ∧ rk.dir = true ∧ rk.data = [] ∧ rk.dv.ownBlock = none
def NoRemove (R : RT) (s : ByteArray) (c : Nat) : Prop := (c = 15 ∧ zbh s = none) ∨ ∃ l, zbh s = some l ∧ ((c = 16 ∧ ¬ R.okDirs l) ∨ (R.okDirs l ∧ ((c = 16 ∧ zaw R.L (zal l) = none) ∨ (c = 17 ∧ ∃ k d, zaw R.L (zal l) = some k ∧ R.nd k = some d ∧ (l = [] ∨ (d.dir = true ∧ zb0 R.L (zal l) ≠ []))))))
def zea (R R' : RT) (s : ByteArray) : Prop := ∃ l k d i ri, zbh s = some l ∧ R.okDirs l ∧ l ≠ [] ∧ zaw R.L (zal l) = some k ∧ R.nd k = some d ∧ (d.dir = true → zb0 R.L (zal l) = []) ∧ zaw R.L (zal l.dropLast) = some i ∧ R.nd i = some ri ∧ RPruned R R' (zal l) i ri
def LinkedTo (R R' : RT) (old s : ByteArray) : Prop := ∃ k d l i ri, ze5 R old k d ∧ zbh s = some l ∧ R.okDirs l ∧ zaw R.L (zal l) = none ∧ zaw R.L (zal l.dropLast) = some i ∧ R.nd i = some ri ∧ RLinked R R' (zal l) i k ri
theorem zea.fresh (n : Nat) {R R' : RT} {s : ByteArray} (h : zea R R' s) : za5 n R R' := by
 obtain ⟨l, k, d, i, ri, _, _, _, _, _, _, _, h2, h4⟩ := h
 refine za5.of_came n (fun x d hx => ?_)
 by_cases e2 : x = i
 ·subst e2
  rw [h4.up] at hx
  cases hx
  exact .inr ⟨x, ri, h2, rfl⟩
 ·rw [h4.oth x e2] at hx
  exact .inr ⟨x, d, hx, rfl⟩
theorem RemovePost.parts {B : Nat} {w w' : World} {R : RT} {s : ByteArray} {e : Ending} (h : RemovePost B w R s e w') :
  (∃ c, c ≠ 0 ∧ e = .returned (fltV c) ∧ RRep B w' R ∧ NoRemove R s c) ∨ (e = .returned flt0 ∧ ∃ R', RRep B w' R' ∧ R'.tb = R.tb ∧ za5 w.heap.size R R' ∧ zea R R' s) := by
 rcases h.case with h | ⟨h1, l, R', k, d, i, ri, a1, a2, a3, a4, a5, a6, a7, a8, a9, a10, a11⟩
 ·exact .inl h
 ·exact .inr ⟨h1, R', a7, a8, zea.fresh _ ⟨l, k, d, i, ri, a1, a2, a3, a4, a5, a6, a9, a10, a11⟩, l, k, d, i, ri, a1, a2, a3, a4, a5, a6, a9, a10, a11⟩
def MOk (R R' : RT) (o : AOp) : Prop := (o.act = 0 ∧ Made R R' o.path) ∨ (o.act = 1 ∧ zd9 R R' o.path o.data false) ∨ (o.act = 2 ∧ zd9 R R' o.path o.data true) ∨ (o.act = 3 ∧ zea R R' o.path) ∨ (o.act = 4 ∧ LinkedTo R R' o.path o.other) ∨ (o.act = 5 ∧ zd9 R R' o.path [] false) ∨ (o.act = 6 ∧ zd9 R R' o.path [] true)
end
end Go.Proofs.YteeeaeiafdgpkaaGreatDoor
