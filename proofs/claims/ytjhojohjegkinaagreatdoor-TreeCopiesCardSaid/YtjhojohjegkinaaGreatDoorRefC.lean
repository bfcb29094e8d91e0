/-
  The document's tree: New, Read.
  The document's tree: Open.
  The law's model: one call of the document's tree.
-/
import Derived.Test.YtjhojohjegkinaaGreatDoorRefB
namespace Go.Proofs.YtjhojohjegkinaaGreatDoor
open Go Go.RowKit

section
/-- What New leaves. -/
structure RNewPost (B : Nat) (w : World) (e : Ending) (w' : World) : Prop where
  below : Below w.heap.size w w'
  tree : ∃ R i, e = .returned (.pointer (some ⟨R.tb, 0, none⟩)) ∧ RRep B w' R ∧ R.L = [([], i)] ∧ R.now = 0 ∧ R.nd i = some (newRNd true) ∧ (∀ n, n ≠ i → R.nd n = none) ∧ ∀ b, R.foot b → w.heap.size ≤ b

def newRT (t i g : Nat) : RT := ⟨t, .slice (some ⟨g, 0, none⟩) 1 1, [([], i)], 0, fun x => if x = i then some (newRNd true) else none⟩
theorem newRT_rep {B : Nat} {w : World} {t i g : Nat} (hi : w.heap[i]? = some (.cells #[.bool true, .slice none 0 0, .int .i64 0] 86 (0, 0)))
    (hg : w.heap[g]? = some (.cells #[.string ⟨#[]⟩, .pointer (some ⟨i, 0, none⟩)] 163 (0, 0)))
    (ht : w.heap[t]? = some (.cells #[.slice (some ⟨g, 0, none⟩) 1 1, .int .i64 0, .bool false] 75 (0, 0))) (h1 : B ≤ t) (h2 : B ≤ i) (h3 : B ≤ g) : RRep B w (newRT t i g) ∧ ∀ b, (newRT t i g).foot b → b = t ∨ b = i ∨ b = g := by
  have hnd : ∀ n d, (newRT t i g).nd n = some d → n = i ∧ d = newRNd true := fun n d hn => by
    have hn : (if n = i then some (newRNd true) else none) = some d := hn
    by_cases e : n = i
    · rw [if_pos e] at hn; cases hn; exact ⟨e, rfl⟩
    · rw [if_neg e] at hn; cases hn
  have hf : ∀ b, (newRT t i g).foot b → b = t ∨ b = i ∨ b = g := by
    rintro b (rfl | hb | ⟨d, hd⟩ | ⟨n, d, hd, hv⟩)
    · exact .inl rfl
    · cases hb; exact .inr (.inr rfl)
    · exact .inr (.inl (hnd b d hd).1)
    · obtain ⟨_, rfl⟩ := hnd n d hd
      cases hv
  refine ⟨⟨fun b hb => ?_, ht, ⟨rfl, .inr ⟨g, 1, _, rfl, h3, hg, Nat.le_refl _, by decide, rfl, rfl⟩⟩, ?_, ?_, ?_⟩, hf⟩
  · rcases hf b hb with rfl | rfl | rfl <;> assumption
  · intro n d hn
    obtain ⟨rfl, rfl⟩ := hnd n d hn
    exact ⟨hi, World.ownsRow_nil _ _ _ _⟩
  · intro e he
    obtain rfl : e = ([], i) := by simpa [newRT] using he
    exact ⟨_, if_pos rfl⟩
  · intro n d n' d' b hn hn2 _ _
    rw [(hnd n d hn).1, (hnd n' d' hn2).1]

set_option maxRecDepth 100000 in
set_option maxHeartbeats 1000000 in
theorem ref_new (B : Nat) (w : World) (hB : B ≤ w.heap.size) : Calls Tryz.prog 35 #[] w fun e w' => RNewPost B w e w' := by
  have H : Hid (RNewPost B w (.returned (.pointer (some ⟨w.heap.size + 1 + 1, 0, none⟩))) (((w.alloc (.cells #[.bool true, .slice none 0 0, .int .i64 0] 86)).alloc (.cells #[.string ⟨#[]⟩, .pointer (some ⟨w.heap.size, 0, none⟩)] 163)).alloc (.cells #[.slice (some ⟨w.heap.size + 1, 0, none⟩) 1 1, .int .i64 0, .bool false] 75))) := by
    have s1 : (w.alloc (.cells #[.bool true, .slice none 0 0, .int .i64 0] 86)).heap.size = w.heap.size + 1 := by simp
    have b1 := below_alloc w (.cells #[.bool true, .slice none 0 0, .int .i64 0] 86)
    have n1 := heap_alloc_new w (.cells #[.bool true, .slice none 0 0, .int .i64 0] 86)
    generalize w.alloc (.cells #[.bool true, .slice none 0 0, .int .i64 0] 86) = w1 at *
    have s2 : (w1.alloc (.cells #[.string ⟨#[]⟩, .pointer (some ⟨w.heap.size, 0, none⟩)] 163)).heap.size = w.heap.size + 1 + 1 := by rw [← s1]; simp
    have b2 := below_alloc w1 (.cells #[.string ⟨#[]⟩, .pointer (some ⟨w.heap.size, 0, none⟩)] 163)
    have n2 := heap_alloc_new w1 (.cells #[.string ⟨#[]⟩, .pointer (some ⟨w.heap.size, 0, none⟩)] 163)
    rw [s1] at n2
    generalize w1.alloc (.cells #[.string ⟨#[]⟩, .pointer (some ⟨w.heap.size, 0, none⟩)] 163) = w2 at *
    have b3 := below_alloc w2 (.cells #[.slice (some ⟨w.heap.size + 1, 0, none⟩) 1 1, .int .i64 0, .bool false] 75)
    have n3 := heap_alloc_new w2 (.cells #[.slice (some ⟨w.heap.size + 1, 0, none⟩) 1 1, .int .i64 0, .bool false] 75)
    rw [s2] at n3
    generalize w2.alloc (.cells #[.slice (some ⟨w.heap.size + 1, 0, none⟩) 1 1, .int .i64 0, .bool false] 75) = w3 at *
    obtain ⟨hr, hf⟩ := newRT_rep (B := B) (w := w3) (t := w.heap.size + 1 + 1) (i := w.heap.size) (g := w.heap.size + 1) (below_heap b3 (by omega) (below_heap b2 (by omega) n1)) (below_heap b3 (by omega) n2) n3 (by omega) hB (by omega)
    exact ⟨below_trans (below_trans b1 b2) b3, _, w.heap.size, rfl, hr, rfl, rfl, if_pos rfl, fun n h => if_neg h, fun b hb => by rcases hf b hb with rfl | rfl | rfl <;> omega⟩
  go_enter Tryz.func35, Tryz.ntmps35
  go_wp2_with fail
  go_ret
  exact H.out
end

section
def NoWrite (R : RT) (s : ByteArray) (b : List UInt8) (add : Bool) (c : Nat) : Prop := (c = 15 ∧ clean s = none) ∨ ∃ l, clean s = some l ∧ ((c = 16 ∧ ¬ R.okDirs l) ∨ (R.okDirs l ∧
      ((c = 17 ∧ ∃ k d, entAt R.L (joinB l) = some k ∧ R.nd k = some d ∧ d.dir = true) ∨
       (c = 19 ∧ entAt R.L (joinB l) = none ∧ (200 ≤ nodesIn R.L ∨ 65536 < b.length)) ∨
       (c = 19 ∧ ∃ k d, entAt R.L (joinB l) = some k ∧ R.nd k = some d ∧ d.dir = false ∧ 65536 < (wdata d.data add b).length))))
def Wrote (R R' : RT) (s : ByteArray) (b : List UInt8) (add : Bool) : Prop :=
  (∃ l i m ri rk, clean s = some l ∧ R.okDirs l ∧ entAt R.L (joinB l) = none ∧ nodesIn R.L < 200 ∧ b.length ≤ 65536 ∧ entAt R.L (joinB l.dropLast) = some i ∧ R.nd i = some ri ∧ R.nd m = none ∧ RGrown R R' (joinB l) i m ri rk ∧ rk.dir = false ∧ rk.data = b) ∨
  (∃ l k d, clean s = some l ∧ R.okDirs l ∧ entAt R.L (joinB l) = some k ∧ R.nd k = some d ∧ d.dir = false ∧ (wdata d.data add b).length ≤ 65536 ∧ RTurned R R' k d (wdata d.data add b))
theorem WritePost.parts {B : Nat} {w w' : World} {R : RT} {s : ByteArray} {b : List UInt8} {add : Bool} {e : Ending} (h : WritePost B w R s b add e w') :
    (∃ c, c ≠ 0 ∧ e = .returned (fltV c) ∧ RRep B w' R ∧ NoWrite R s b add c) ∨ (e = .returned flt0 ∧ ∃ R', RRep B w' R' ∧ R'.tb = R.tb ∧ RFresh w.heap.size R R' ∧ Wrote R R' s b add) := by
  rcases h.case with h | ⟨h1, l, R', i, m, ri, rk, a1, a2, a3, a4, a5, a6, a7, a8, a9, a10, a11, a12, a13, a14⟩ | ⟨h1, l, R', k, d, a1, a2, a3, a4, a5, a6, a7, a8, a9, a10⟩
  · exact .inl h
  · exact .inr ⟨h1, R', a6, a7, a14, .inl ⟨l, i, m, ri, rk, a1, a2, a3, a4, a5, a8, a9, a10, a11, a12, a13⟩⟩
  · exact .inr ⟨h1, R', a7, a8, a10, .inr ⟨l, k, d, a1, a2, a3, a4, a5, a6, a9⟩⟩

theorem dirAt_iff {R : RT} {q : List UInt8} : R.dirAt q = true ↔ ∃ i ri, entAt R.L q = some i ∧ R.nd i = some ri ∧ ri.dir = true := by
  refine ⟨dir_of, ?_⟩
  rintro ⟨i, ri, h1, h2, h3⟩
  unfold RT.dirAt
  rw [h1]
  simp [h2, h3]
theorem Wrote.isFile {R R' : RT} {s : ByteArray} {b : List UInt8} {add : Bool} (h : Wrote R R' s b add) : ∃ k d, IsFile R' s k d := by
  rcases h with ⟨l, i, m, ri, rk, a1, a2, a3, a4, a5, a8, a9, a10, a11, a12, a13⟩ | ⟨l, k, d, a1, a2, a3, a4, a5, a6, a9⟩
  · refine ⟨m, rk, l, a1, fun j hj => ?_, ?_, a11.here, a12⟩
    · obtain ⟨x, rx, h1, h2, h3⟩ := dir_of (a2 j hj)
      have hne : joinB (l.take j) ≠ joinB l := fun e => by
        rw [← e, h1] at a3
        cases a3
      rw [dirAt_iff, a11.L, entAt_insAt m a3, if_neg hne]
      have hxm : x ≠ m := fun e => by rw [e, a10] at h2; cases h2
      by_cases hxi : x = i
      · subst hxi
        rw [a9] at h2
        obtain rfl := Option.some.inj h2
        exact ⟨x, _, h1, a11.up, h3⟩
      · exact ⟨x, rx, h1, (a11.oth x hxi hxm).trans h2, h3⟩
    · rw [a11.L, entAt_insAt m a3, if_pos rfl]
  · obtain ⟨dv, hh⟩ := a9.here
    refine ⟨k, _, l, a1, fun j hj => ?_, by rw [a9.L]; exact a3, hh, a5⟩
    obtain ⟨x, rx, h1, h2, h3⟩ := dir_of (a2 j hj)
    rw [dirAt_iff, a9.L]
    by_cases hxk : x = k
    · subst hxk
      rw [a4] at h2
      obtain rfl := Option.some.inj h2
      rw [a5] at h3
      cases h3
    · exact ⟨x, rx, h1, (a9.oth x hxk).trans h2, h3⟩
theorem Wrote.rb {R R' : RT} {s : ByteArray} {b : List UInt8} {add : Bool} (h : Wrote R R' s b add) (hb : RB R) (hl : R.L.length < 90000) (hn : R.now < 1152921504606846976) : RB R' := by
  have h0 := hb.now0
  rcases h with ⟨l, i, m, ri, rk, a1, a2, a3, a4, a5, a8, a9, a10, a11, a12, a13⟩ | ⟨l, k, d, a1, a2, a3, a4, a5, a6, a9⟩
  · refine ⟨?_, ?_, ?_, by rw [a11.now]; omega, by rw [a11.now]; omega⟩
    · rw [a11.L, (insAt_perm R.L (joinB l) m).length_eq, List.length_cons]; omega
    · intro e he
      rw [a11.L] at he
      rcases mem_insAt.1 he with rfl | he
      · show (joinB l).length ≤ _
        have := clean_parts a1
        omega
      · exact hb.paths e he
    · rw [a11.L, entAt_insAt m a3]
      split
      · exact fun h => by cases h
      · exact hb.root
  · exact ⟨by rw [a9.L]; exact hb.len, by rw [a9.L]; exact hb.paths, by rw [a9.L]; exact hb.root, by rw [a9.now]; omega, by rw [a9.now]; omega⟩
theorem IsFile.no {R : RT} {s : ByteArray} {k c : Nat} {d : RNd} (h : IsFile R s k d) (hn : NoFile R s c) : False := by
  obtain ⟨l, h1, h2, h3, h4, h5⟩ := h
  rcases hn with ⟨_, h⟩ | ⟨l', h, h6⟩
  · rw [h1] at h; cases h
  · rw [h1] at h
    obtain rfl := Option.some.inj h
    rcases h6 with ⟨_, h⟩ | ⟨_, ⟨_, h⟩ | ⟨_, k2, d2, q1, q2, q3⟩⟩
    · exact h h2
    · rw [h3] at h; cases h
    · rw [h3] at q1
      obtain rfl := Option.some.inj q1
      rw [h4] at q2
      obtain rfl := Option.some.inj q2
      rw [h5] at q3
      cases q3

structure OpenPost (B : Nat) (w : World) (R : RT) (s : ByteArray) (way : Int) (e : Ending) (w' : World) : Prop where
  kept : Kept R.foot w w'
  case : (∃ c, c ≠ 0 ∧ e = .returned (.tuple #[.pointer none, fltV c]) ∧ RRep B w' R ∧ ((c = 1 ∧ way ≠ 0 ∧ way ≠ 1 ∧ way ≠ 2) ∨ (way = 0 ∧ NoFile R s c) ∨ (way = 1 ∧ NoWrite R s [] false c) ∨ (way = 2 ∧ NoWrite R s [] true c))) ∨
    (∃ k d R', e = .returned (.tuple #[.pointer (some ⟨k, 0, none⟩), flt0]) ∧ RRep B w' R' ∧ R'.tb = R.tb ∧ RFresh w.heap.size R R' ∧ IsFile R' s k d ∧ ((way = 0 ∧ R' = R) ∨ (way = 1 ∧ Wrote R R' s [] false) ∨ (way = 2 ∧ Wrote R R' s [] true)))
set_option maxRecDepth 100000 in
set_option maxHeartbeats 6000000 in
theorem ref_open {B : Nat} {R : RT} (s : ByteArray) (way : Int) (w : World) (hR : RRep B w R) (hb : RB R) (hl : R.L.length < 90000) (hn : R.now < 1152921504606846976) (hsz : s.size ≤ 9223372036854775807) (hdl : ∀ n d, R.nd n = some d → d.data.length ≤ 180000000000000) :
    Calls Tryz.prog 42 #[.pointer (some ⟨R.tb, 0, none⟩), .string s, .int .i64 way] w fun e w' => OpenPost B w R s way e w' := by
  have HR := Lib.hid hR
  have HRB := Lib.hid hb
  have HL := Lib.hid hl
  have HN := Lib.hid hn
  have HDL := Lib.hid hdl
  have HB0 := Lib.hid (below_alloc w (.cells #[.int .i64 0, .int .i64 0, .int .i64 0] 56))
  have HH0 := Lib.hid (heap_alloc_new w (.cells #[.int .i64 0, .int .i64 0, .int .i64 0] 56))
  clear hR hb hl hn hdl
  go_enter Tryz.func42, Tryz.ntmps42
  go_wp2_with fail
  generalize w.alloc (.cells #[.int .i64 0, .int .i64 0, .int .i64 0] 56) = w0 at *
  refine (ref_fault 1 w0).mono ?_
  rintro e w1 ⟨rfl, hb1⟩
  have HB1 := Lib.hid (below_trans HB0.out hb1)
  have HH1 : Hid (w1.heap[w.heap.size]? = some (.cells #[.int .i64 0, .int .i64 0, .int .i64 0] 56 (0, 0))) := below_heap hb1 (lt_of_heap HH0.out) HH0.out
  clear hb1 HB0 HH0
  simp only [fltV]
  obtain ⟨w2, hw2⟩ : ∃ w2, w2 = w1.alloc (.cells #[.int .i64 1, .int .i64 0, .int .i64 11] 56) := ⟨_, rfl⟩
  have HW2 := Lib.hid hw2
  have HB2 : Hid (Below w.heap.size w w2) := by rw [hw2]; exact HB1.out.alloc HB1.out.size _
  have HH2 : Hid (w2.heap[w.heap.size]? = some (.cells #[.int .i64 0, .int .i64 0, .int .i64 0] 56 (0, 0))) := by
    rw [hw2]; exact below_heap (below_alloc w1 _) (lt_of_heap HH1.out) HH1.out
  have HF2 : Hid (w2.heap[w1.heap.size]? = some (.cells #[.int .i64 1, .int .i64 0, .int .i64 11] 56 (0, 0))) := by
    rw [hw2]; exact heap_alloc_new w1 _
  have HFN : Hid (w.heap.size ≠ w1.heap.size) := Lib.hid (by have := lt_of_heap HH1.out; omega)
  have HFB : Hid (w.heap.size ≤ w1.heap.size) := HB1.out.size
  have HR2 := Lib.hid (HR.out.below HB2.out)
  have HK2 : Hid (Kept R.foot w w2) := Kept.of_below HB2.out _
  clear hw2
  by_cases hw0 : way = 0
  · subst hw0
    go_upto_region 4 with fail
    rw [← HW2.out]
    clear HW2 HH1 HB1
    generalize w1.heap.size = fb at *
    go_wp2_with fail
    refine (ref_file s w2 HR2.out HRB.out hsz).mono ?_
    intro e w3 hp
    obtain ⟨hb3, hp⟩ := hp
    have HB3 := Lib.hid (below_trans HB2.out hb3)
    have HH3 : Hid (w3.heap[w.heap.size]? = some (.cells #[.int .i64 0, .int .i64 0, .int .i64 0] 56 (0, 0))) := below_heap hb3 (lt_of_heap HH2.out) HH2.out
    have HR3 := Lib.hid (HR.out.below HB3.out)
    clear hb3 HH2 HB2 HR2
    rcases hp with ⟨c, hc0, rfl, hnf⟩ | ⟨k, d, hif, rfl⟩
    · have HC0 := Lib.hid hc0
      have HNF := Lib.hid hnf
      clear hc0 hnf
      simp only [fltV]
      have g0 := cell_of (o := 0) HH3.out rfl
      have g1 := cell_of (o := 1) HH3.out rfl
      have g2 := cell_of (o := 2) HH3.out rfl
      have gf := fun o => free_of HH3.out o
      have HY := Lib.hid (three_heap HH3.out (.int .i64 c) (.int .i64 0) (.int .i64 11))
      have HKS := Lib.hid (three_sets w3 w.heap.size (.int .i64 c) (.int .i64 0) (.int .i64 11))
      have HRW : Hid (RRep B (((w3.setCell ⟨w.heap.size, 0, none⟩ (.int .i64 c)).setCell ⟨w.heap.size, 1, none⟩ (.int .i64 0)).setCell ⟨w.heap.size, 2, none⟩ (.int .i64 11)) R) := HR3.out.kept HKS.out (fun b hb hf => HR3.out.not_foot HH3.out (by decide) (by decide) (by decide) (by decide) (by rw [← hf]; exact hb))
      have HKW : Hid (Kept R.foot w (((w3.setCell ⟨w.heap.size, 0, none⟩ (.int .i64 c)).setCell ⟨w.heap.size, 1, none⟩ (.int .i64 0)).setCell ⟨w.heap.size, 2, none⟩ (.int .i64 11))) := (Kept.of_below HB3.out R.foot).trans HKS.out (fun b h => .inr (by rw [h]; exact Nat.le_refl _))
      go_wp2_with fail
      clear g0 g1 g2 gf
      generalize ((w3.setCell ⟨w.heap.size, 0, none⟩ (.int .i64 c)).setCell ⟨w.heap.size, 1, none⟩ (.int .i64 0)).setCell ⟨w.heap.size, 2, none⟩ (.int .i64 11) = W at *
      have r0 := cell_of (o := 0) HY.out rfl
      have r1 := cell_of (o := 1) HY.out rfl
      have r2 := cell_of (o := 2) HY.out rfl
      refine bodyPost_ret (v := .tuple #[.pointer none, fltV c]) ?_ rfl ⟨HKW.out, .inl ⟨c, HC0.out, rfl, HRW.out, .inr (.inl ⟨rfl, HNF.out⟩)⟩⟩
      simp [results, Tryz.results42, go_sem, r0, r1, r2, fltV]
    · have HIF := Lib.hid hif
      clear hif
      simp only [flt0]
      have g0 := cell_of (o := 0) HH3.out rfl
      have g1 := cell_of (o := 1) HH3.out rfl
      have g2 := cell_of (o := 2) HH3.out rfl
      have gf := fun o => free_of HH3.out o
      have HY := Lib.hid (three_heap HH3.out (.int .i64 0) (.int .i64 0) (.int .i64 0))
      have HKS := Lib.hid (three_sets w3 w.heap.size (.int .i64 0) (.int .i64 0) (.int .i64 0))
      have HRW : Hid (RRep B (((w3.setCell ⟨w.heap.size, 0, none⟩ (.int .i64 0)).setCell ⟨w.heap.size, 1, none⟩ (.int .i64 0)).setCell ⟨w.heap.size, 2, none⟩ (.int .i64 0)) R) := HR3.out.kept HKS.out (fun b hb hf => HR3.out.not_foot HH3.out (by decide) (by decide) (by decide) (by decide) (by rw [← hf]; exact hb))
      have HKW : Hid (Kept R.foot w (((w3.setCell ⟨w.heap.size, 0, none⟩ (.int .i64 0)).setCell ⟨w.heap.size, 1, none⟩ (.int .i64 0)).setCell ⟨w.heap.size, 2, none⟩ (.int .i64 0))) := (Kept.of_below HB3.out R.foot).trans HKS.out (fun b h => .inr (by rw [h]; exact Nat.le_refl _))
      go_wp2_with fail
      clear g0 g1 g2 gf
      generalize ((w3.setCell ⟨w.heap.size, 0, none⟩ (.int .i64 0)).setCell ⟨w.heap.size, 1, none⟩ (.int .i64 0)).setCell ⟨w.heap.size, 2, none⟩ (.int .i64 0) = W at *
      have r0 := cell_of (o := 0) HY.out rfl
      have r1 := cell_of (o := 1) HY.out rfl
      have r2 := cell_of (o := 2) HY.out rfl
      refine bodyPost_ret (v := .tuple #[.pointer (some ⟨k, 0, none⟩), flt0]) ?_ rfl ⟨HKW.out, .inr ⟨k, d, R, rfl, HRW.out, rfl, RFresh.same _ _, HIF.out, .inl ⟨rfl, rfl⟩⟩⟩
      simp [results, Tryz.results42, go_sem, r0, r1, r2, flt0]
  · by_cases hw1 : way = 1
    · clear hw0
      subst hw1
      go_upto_region 6 with fail
      rw [← HW2.out]
      clear HW2 HH1 HB1
      generalize w1.heap.size = fb at *
      go_wp2_with fail
      refine (ref_write s (.slice none 0 0) [] false w2 HR2.out HRB.out hsz (Src.nil _) (by simp) (fun n d h => by have := HDL.out n d h; simpa using this)).mono ?_
      intro e w3 hp
      have HK3 : Hid (Kept R.foot w w3) := HK2.out.trans hp.kept (fun b h => .inl h)
      have HH3 : Hid (w3.heap[w.heap.size]? = some (.cells #[.int .i64 0, .int .i64 0, .int .i64 0] 56 (0, 0))) := (hp.kept.block _ (lt_of_heap HH2.out) (HR2.out.not_foot HH2.out (by decide) (by decide) (by decide) (by decide))).trans HH2.out
      have HF3 : Hid (w3.heap[fb]? = some (.cells #[.int .i64 1, .int .i64 0, .int .i64 11] 56 (0, 0))) := (hp.kept.block _ (lt_of_heap HF2.out) (HR2.out.not_foot HF2.out (by decide) (by decide) (by decide) (by decide))).trans HF2.out
      rcases hp.parts with ⟨c, hc0, rfl, hr3, hnw⟩ | ⟨rfl, R', hr3, htb, hfr, hwr⟩
      · have HC0 := Lib.hid hc0
        have HNW := Lib.hid hnw
        have HR3 := Lib.hid hr3
        have hci : ¬ (c : Int) = 0 := by omega
        clear hc0 hnw hr3 hp HH2 HF2 HB2 HR2
        simp only [fltV]
        have f0 := cell_of (o := 0) HF3.out rfl
        have f1 := cell_of (o := 1) HF3.out rfl
        have f2 := cell_of (o := 2) HF3.out rfl
        have ff := fun o => free_of HF3.out o
        have HF4 := Lib.hid (three_heap HF3.out (.int .i64 c) (.int .i64 0) (.int .i64 11))
        have HS4 := Lib.hid (three_sets w3 fb (.int .i64 c) (.int .i64 0) (.int .i64 11))
        have HH4 : Hid ((((w3.setCell ⟨fb, 0, none⟩ (.int .i64 c)).setCell ⟨fb, 1, none⟩ (.int .i64 0)).setCell ⟨fb, 2, none⟩ (.int .i64 11)).heap[w.heap.size]? = some (.cells #[.int .i64 0, .int .i64 0, .int .i64 0] 56 (0, 0))) := (HS4.out.block _ (lt_of_heap HH3.out) HFN.out).trans HH3.out
        have HR4 : Hid (RRep B (((w3.setCell ⟨fb, 0, none⟩ (.int .i64 c)).setCell ⟨fb, 1, none⟩ (.int .i64 0)).setCell ⟨fb, 2, none⟩ (.int .i64 11)) R) := HR3.out.kept HS4.out (fun b hb hf => HR3.out.not_foot HF3.out (by decide) (by decide) (by decide) (by decide) (by rw [← hf]; exact hb))
        have HK4 : Hid (Kept R.foot w (((w3.setCell ⟨fb, 0, none⟩ (.int .i64 c)).setCell ⟨fb, 1, none⟩ (.int .i64 0)).setCell ⟨fb, 2, none⟩ (.int .i64 11))) := HK3.out.trans HS4.out (fun b h => .inr (by rw [h]; exact HFB.out))
        go_upto_region 9 with fail
        clear f0 f1 f2 ff
        generalize ((w3.setCell ⟨fb, 0, none⟩ (.int .i64 c)).setCell ⟨fb, 1, none⟩ (.int .i64 0)).setCell ⟨fb, 2, none⟩ (.int .i64 11) = w4 at *
        have f0 := cell_of (o := 0) HF4.out rfl
        have f1 := cell_of (o := 1) HF4.out rfl
        have f2 := cell_of (o := 2) HF4.out rfl
        have g0 := cell_of (o := 0) HH4.out rfl
        have g1 := cell_of (o := 1) HH4.out rfl
        have g2 := cell_of (o := 2) HH4.out rfl
        have gf := fun o => free_of HH4.out o
        have HY := Lib.hid (three_heap HH4.out (.int .i64 c) (.int .i64 0) (.int .i64 11))
        have HKS := Lib.hid (three_sets w4 w.heap.size (.int .i64 c) (.int .i64 0) (.int .i64 11))
        have HRW : Hid (RRep B (((w4.setCell ⟨w.heap.size, 0, none⟩ (.int .i64 c)).setCell ⟨w.heap.size, 1, none⟩ (.int .i64 0)).setCell ⟨w.heap.size, 2, none⟩ (.int .i64 11)) R) := HR4.out.kept HKS.out (fun b hb hf => HR4.out.not_foot HH4.out (by decide) (by decide) (by decide) (by decide) (by rw [← hf]; exact hb))
        have HKW : Hid (Kept R.foot w (((w4.setCell ⟨w.heap.size, 0, none⟩ (.int .i64 c)).setCell ⟨w.heap.size, 1, none⟩ (.int .i64 0)).setCell ⟨w.heap.size, 2, none⟩ (.int .i64 11))) := HK4.out.trans HKS.out (fun b h => .inr (by rw [h]; exact Nat.le_refl _))
        go_wp2_with fail
        go_region
        go_wp2_with fail
        clear g0 g1 g2 gf
        generalize ((w4.setCell ⟨w.heap.size, 0, none⟩ (.int .i64 c)).setCell ⟨w.heap.size, 1, none⟩ (.int .i64 0)).setCell ⟨w.heap.size, 2, none⟩ (.int .i64 11) = W at *
        have r0 := cell_of (o := 0) HY.out rfl
        have r1 := cell_of (o := 1) HY.out rfl
        have r2 := cell_of (o := 2) HY.out rfl
        refine bodyPost_ret (v := .tuple #[.pointer none, fltV c]) ?_ rfl ⟨HKW.out.drew, .inl ⟨c, HC0.out, rfl, HRW.out.below ((Below.refl _ W).drew), .inr (.inr (.inl ⟨rfl, HNW.out⟩))⟩⟩
        simp [results, Tryz.results42, go_sem, r0, r1, r2, fltV]
      · have HR3 := Lib.hid hr3
        have HWR := Lib.hid hwr
        have HTB := Lib.hid htb
        have HFR : Hid (RFresh w.heap.size R R') := hfr.mono HB2.out.size
        have HRB' : Hid (RB R') := hwr.rb HRB.out HL.out HN.out
        clear hr3 htb hfr hwr hp HH2 HF2 HB2 HR2
        simp only [flt0]
        have f0 := cell_of (o := 0) HF3.out rfl
        have f1 := cell_of (o := 1) HF3.out rfl
        have f2 := cell_of (o := 2) HF3.out rfl
        have ff := fun o => free_of HF3.out o
        have HS4 := Lib.hid (three_sets w3 fb (.int .i64 0) (.int .i64 0) (.int .i64 0))
        have HF4 := Lib.hid (three_heap HF3.out (.int .i64 0) (.int .i64 0) (.int .i64 0))
        have HH4 : Hid ((((w3.setCell ⟨fb, 0, none⟩ (.int .i64 0)).setCell ⟨fb, 1, none⟩ (.int .i64 0)).setCell ⟨fb, 2, none⟩ (.int .i64 0)).heap[w.heap.size]? = some (.cells #[.int .i64 0, .int .i64 0, .int .i64 0] 56 (0, 0))) := (HS4.out.block _ (lt_of_heap HH3.out) HFN.out).trans HH3.out
        have HR4 : Hid (RRep B (((w3.setCell ⟨fb, 0, none⟩ (.int .i64 0)).setCell ⟨fb, 1, none⟩ (.int .i64 0)).setCell ⟨fb, 2, none⟩ (.int .i64 0)) R') := HR3.out.kept HS4.out (fun b hb hf => HR3.out.not_foot HF3.out (by decide) (by decide) (by decide) (by decide) (by rw [← hf]; exact hb))
        have HK4 : Hid (Kept R.foot w (((w3.setCell ⟨fb, 0, none⟩ (.int .i64 0)).setCell ⟨fb, 1, none⟩ (.int .i64 0)).setCell ⟨fb, 2, none⟩ (.int .i64 0))) := HK3.out.trans HS4.out (fun b h => .inr (by rw [h]; exact HFB.out))
        go_upto_region 9 with fail
        clear f0 f1 f2 ff
        generalize ((w3.setCell ⟨fb, 0, none⟩ (.int .i64 0)).setCell ⟨fb, 1, none⟩ (.int .i64 0)).setCell ⟨fb, 2, none⟩ (.int .i64 0) = w4 at *
        have f0 := cell_of (o := 0) HF4.out rfl
        rw [← HTB.out]
        go_wp2_with fail
        refine (ref_file s w4 HR4.out HRB'.out hsz).mono ?_
        intro e w5 hp
        obtain ⟨hb5, hp⟩ := hp
        rcases hp with ⟨c, hc0, rfl, hnf⟩ | ⟨k, d, hif, rfl⟩
        · obtain ⟨k, d, h⟩ := HWR.out.isFile
          exact (h.no hnf).elim
        · have HIF := Lib.hid hif
          have HH5 : Hid (w5.heap[w.heap.size]? = some (.cells #[.int .i64 0, .int .i64 0, .int .i64 0] 56 (0, 0))) := below_heap hb5 (lt_of_heap HH4.out) HH4.out
          have HR15 := Lib.hid (HR4.out.below hb5)
          have HK5 : Hid (Kept R.foot w w5) := HK4.out.then_below hb5
          clear hif hb5 f0
          simp only [flt0]
          have g0 := cell_of (o := 0) HH5.out rfl
          have g1 := cell_of (o := 1) HH5.out rfl
          have g2 := cell_of (o := 2) HH5.out rfl
          have gf := fun o => free_of HH5.out o
          have HY := Lib.hid (three_heap HH5.out (.int .i64 0) (.int .i64 0) (.int .i64 0))
          have HKS := Lib.hid (three_sets w5 w.heap.size (.int .i64 0) (.int .i64 0) (.int .i64 0))
          have HRW : Hid (RRep B (((w5.setCell ⟨w.heap.size, 0, none⟩ (.int .i64 0)).setCell ⟨w.heap.size, 1, none⟩ (.int .i64 0)).setCell ⟨w.heap.size, 2, none⟩ (.int .i64 0)) R') := HR15.out.kept HKS.out (fun b hb hf => HR15.out.not_foot HH5.out (by decide) (by decide) (by decide) (by decide) (by rw [← hf]; exact hb))
          have HKW : Hid (Kept R.foot w (((w5.setCell ⟨w.heap.size, 0, none⟩ (.int .i64 0)).setCell ⟨w.heap.size, 1, none⟩ (.int .i64 0)).setCell ⟨w.heap.size, 2, none⟩ (.int .i64 0))) := HK5.out.trans HKS.out (fun b h => .inr (by rw [h]; exact Nat.le_refl _))
          go_wp2_with fail
          clear g0 g1 g2 gf
          generalize ((w5.setCell ⟨w.heap.size, 0, none⟩ (.int .i64 0)).setCell ⟨w.heap.size, 1, none⟩ (.int .i64 0)).setCell ⟨w.heap.size, 2, none⟩ (.int .i64 0) = W at *
          have r0 := cell_of (o := 0) HY.out rfl
          have r1 := cell_of (o := 1) HY.out rfl
          have r2 := cell_of (o := 2) HY.out rfl
          refine bodyPost_ret (v := .tuple #[.pointer (some ⟨k, 0, none⟩), flt0]) ?_ rfl ⟨HKW.out, .inr ⟨k, d, R', rfl, HRW.out, HTB.out, HFR.out, HIF.out, .inr (.inl ⟨rfl, HWR.out⟩)⟩⟩
          simp [results, Tryz.results42, go_sem, r0, r1, r2, flt0]
    · by_cases hw22 : way = 2
      · clear hw0 hw1
        subst hw22
        go_upto_region 8 with fail
        rw [← HW2.out]
        clear HW2 HH1 HB1
        generalize w1.heap.size = fb at *
        go_wp2_with fail
        refine (ref_write s (.slice none 0 0) [] true w2 HR2.out HRB.out hsz (Src.nil _) (by simp) (fun n d h => by have := HDL.out n d h; simpa using this)).mono ?_
        intro e w3 hp
        have HK3 : Hid (Kept R.foot w w3) := HK2.out.trans hp.kept (fun b h => .inl h)
        have HH3 : Hid (w3.heap[w.heap.size]? = some (.cells #[.int .i64 0, .int .i64 0, .int .i64 0] 56 (0, 0))) := (hp.kept.block _ (lt_of_heap HH2.out) (HR2.out.not_foot HH2.out (by decide) (by decide) (by decide) (by decide))).trans HH2.out
        have HF3 : Hid (w3.heap[fb]? = some (.cells #[.int .i64 1, .int .i64 0, .int .i64 11] 56 (0, 0))) := (hp.kept.block _ (lt_of_heap HF2.out) (HR2.out.not_foot HF2.out (by decide) (by decide) (by decide) (by decide))).trans HF2.out
        rcases hp.parts with ⟨c, hc0, rfl, hr3, hnw⟩ | ⟨rfl, R', hr3, htb, hfr, hwr⟩
        · have HC0 := Lib.hid hc0
          have HNW := Lib.hid hnw
          have HR3 := Lib.hid hr3
          have hci : ¬ (c : Int) = 0 := by omega
          clear hc0 hnw hr3 hp HH2 HF2 HB2 HR2
          simp only [fltV]
          have f0 := cell_of (o := 0) HF3.out rfl
          have f1 := cell_of (o := 1) HF3.out rfl
          have f2 := cell_of (o := 2) HF3.out rfl
          have ff := fun o => free_of HF3.out o
          have HF4 := Lib.hid (three_heap HF3.out (.int .i64 c) (.int .i64 0) (.int .i64 11))
          have HS4 := Lib.hid (three_sets w3 fb (.int .i64 c) (.int .i64 0) (.int .i64 11))
          have HH4 : Hid ((((w3.setCell ⟨fb, 0, none⟩ (.int .i64 c)).setCell ⟨fb, 1, none⟩ (.int .i64 0)).setCell ⟨fb, 2, none⟩ (.int .i64 11)).heap[w.heap.size]? = some (.cells #[.int .i64 0, .int .i64 0, .int .i64 0] 56 (0, 0))) := (HS4.out.block _ (lt_of_heap HH3.out) HFN.out).trans HH3.out
          have HR4 : Hid (RRep B (((w3.setCell ⟨fb, 0, none⟩ (.int .i64 c)).setCell ⟨fb, 1, none⟩ (.int .i64 0)).setCell ⟨fb, 2, none⟩ (.int .i64 11)) R) := HR3.out.kept HS4.out (fun b hb hf => HR3.out.not_foot HF3.out (by decide) (by decide) (by decide) (by decide) (by rw [← hf]; exact hb))
          have HK4 : Hid (Kept R.foot w (((w3.setCell ⟨fb, 0, none⟩ (.int .i64 c)).setCell ⟨fb, 1, none⟩ (.int .i64 0)).setCell ⟨fb, 2, none⟩ (.int .i64 11))) := HK3.out.trans HS4.out (fun b h => .inr (by rw [h]; exact HFB.out))
          go_upto_region 9 with fail
          clear f0 f1 f2 ff
          generalize ((w3.setCell ⟨fb, 0, none⟩ (.int .i64 c)).setCell ⟨fb, 1, none⟩ (.int .i64 0)).setCell ⟨fb, 2, none⟩ (.int .i64 11) = w4 at *
          have f0 := cell_of (o := 0) HF4.out rfl
          have f1 := cell_of (o := 1) HF4.out rfl
          have f2 := cell_of (o := 2) HF4.out rfl
          have g0 := cell_of (o := 0) HH4.out rfl
          have g1 := cell_of (o := 1) HH4.out rfl
          have g2 := cell_of (o := 2) HH4.out rfl
          have gf := fun o => free_of HH4.out o
          have HY := Lib.hid (three_heap HH4.out (.int .i64 c) (.int .i64 0) (.int .i64 11))
          have HKS := Lib.hid (three_sets w4 w.heap.size (.int .i64 c) (.int .i64 0) (.int .i64 11))
          have HRW : Hid (RRep B (((w4.setCell ⟨w.heap.size, 0, none⟩ (.int .i64 c)).setCell ⟨w.heap.size, 1, none⟩ (.int .i64 0)).setCell ⟨w.heap.size, 2, none⟩ (.int .i64 11)) R) := HR4.out.kept HKS.out (fun b hb hf => HR4.out.not_foot HH4.out (by decide) (by decide) (by decide) (by decide) (by rw [← hf]; exact hb))
          have HKW : Hid (Kept R.foot w (((w4.setCell ⟨w.heap.size, 0, none⟩ (.int .i64 c)).setCell ⟨w.heap.size, 1, none⟩ (.int .i64 0)).setCell ⟨w.heap.size, 2, none⟩ (.int .i64 11))) := HK4.out.trans HKS.out (fun b h => .inr (by rw [h]; exact Nat.le_refl _))
          go_wp2_with fail
          go_region
          go_wp2_with fail
          clear g0 g1 g2 gf
          generalize ((w4.setCell ⟨w.heap.size, 0, none⟩ (.int .i64 c)).setCell ⟨w.heap.size, 1, none⟩ (.int .i64 0)).setCell ⟨w.heap.size, 2, none⟩ (.int .i64 11) = W at *
          have r0 := cell_of (o := 0) HY.out rfl
          have r1 := cell_of (o := 1) HY.out rfl
          have r2 := cell_of (o := 2) HY.out rfl
          refine bodyPost_ret (v := .tuple #[.pointer none, fltV c]) ?_ rfl ⟨HKW.out.drew, .inl ⟨c, HC0.out, rfl, HRW.out.below ((Below.refl _ W).drew), .inr (.inr (.inr ⟨rfl, HNW.out⟩))⟩⟩
          simp [results, Tryz.results42, go_sem, r0, r1, r2, fltV]
        · have HR3 := Lib.hid hr3
          have HWR := Lib.hid hwr
          have HTB := Lib.hid htb
          have HFR : Hid (RFresh w.heap.size R R') := hfr.mono HB2.out.size
          have HRB' : Hid (RB R') := hwr.rb HRB.out HL.out HN.out
          clear hr3 htb hfr hwr hp HH2 HF2 HB2 HR2
          simp only [flt0]
          have f0 := cell_of (o := 0) HF3.out rfl
          have f1 := cell_of (o := 1) HF3.out rfl
          have f2 := cell_of (o := 2) HF3.out rfl
          have ff := fun o => free_of HF3.out o
          have HS4 := Lib.hid (three_sets w3 fb (.int .i64 0) (.int .i64 0) (.int .i64 0))
          have HF4 := Lib.hid (three_heap HF3.out (.int .i64 0) (.int .i64 0) (.int .i64 0))
          have HH4 : Hid ((((w3.setCell ⟨fb, 0, none⟩ (.int .i64 0)).setCell ⟨fb, 1, none⟩ (.int .i64 0)).setCell ⟨fb, 2, none⟩ (.int .i64 0)).heap[w.heap.size]? = some (.cells #[.int .i64 0, .int .i64 0, .int .i64 0] 56 (0, 0))) := (HS4.out.block _ (lt_of_heap HH3.out) HFN.out).trans HH3.out
          have HR4 : Hid (RRep B (((w3.setCell ⟨fb, 0, none⟩ (.int .i64 0)).setCell ⟨fb, 1, none⟩ (.int .i64 0)).setCell ⟨fb, 2, none⟩ (.int .i64 0)) R') := HR3.out.kept HS4.out (fun b hb hf => HR3.out.not_foot HF3.out (by decide) (by decide) (by decide) (by decide) (by rw [← hf]; exact hb))
          have HK4 : Hid (Kept R.foot w (((w3.setCell ⟨fb, 0, none⟩ (.int .i64 0)).setCell ⟨fb, 1, none⟩ (.int .i64 0)).setCell ⟨fb, 2, none⟩ (.int .i64 0))) := HK3.out.trans HS4.out (fun b h => .inr (by rw [h]; exact HFB.out))
          go_upto_region 9 with fail
          clear f0 f1 f2 ff
          generalize ((w3.setCell ⟨fb, 0, none⟩ (.int .i64 0)).setCell ⟨fb, 1, none⟩ (.int .i64 0)).setCell ⟨fb, 2, none⟩ (.int .i64 0) = w4 at *
          have f0 := cell_of (o := 0) HF4.out rfl
          rw [← HTB.out]
          go_wp2_with fail
          refine (ref_file s w4 HR4.out HRB'.out hsz).mono ?_
          intro e w5 hp
          obtain ⟨hb5, hp⟩ := hp
          rcases hp with ⟨c, hc0, rfl, hnf⟩ | ⟨k, d, hif, rfl⟩
          · obtain ⟨k, d, h⟩ := HWR.out.isFile
            exact (h.no hnf).elim
          · have HIF := Lib.hid hif
            have HH5 : Hid (w5.heap[w.heap.size]? = some (.cells #[.int .i64 0, .int .i64 0, .int .i64 0] 56 (0, 0))) := below_heap hb5 (lt_of_heap HH4.out) HH4.out
            have HR15 := Lib.hid (HR4.out.below hb5)
            have HK5 : Hid (Kept R.foot w w5) := HK4.out.then_below hb5
            clear hif hb5 f0
            simp only [flt0]
            have g0 := cell_of (o := 0) HH5.out rfl
            have g1 := cell_of (o := 1) HH5.out rfl
            have g2 := cell_of (o := 2) HH5.out rfl
            have gf := fun o => free_of HH5.out o
            have HY := Lib.hid (three_heap HH5.out (.int .i64 0) (.int .i64 0) (.int .i64 0))
            have HKS := Lib.hid (three_sets w5 w.heap.size (.int .i64 0) (.int .i64 0) (.int .i64 0))
            have HRW : Hid (RRep B (((w5.setCell ⟨w.heap.size, 0, none⟩ (.int .i64 0)).setCell ⟨w.heap.size, 1, none⟩ (.int .i64 0)).setCell ⟨w.heap.size, 2, none⟩ (.int .i64 0)) R') := HR15.out.kept HKS.out (fun b hb hf => HR15.out.not_foot HH5.out (by decide) (by decide) (by decide) (by decide) (by rw [← hf]; exact hb))
            have HKW : Hid (Kept R.foot w (((w5.setCell ⟨w.heap.size, 0, none⟩ (.int .i64 0)).setCell ⟨w.heap.size, 1, none⟩ (.int .i64 0)).setCell ⟨w.heap.size, 2, none⟩ (.int .i64 0))) := HK5.out.trans HKS.out (fun b h => .inr (by rw [h]; exact Nat.le_refl _))
            go_wp2_with fail
            clear g0 g1 g2 gf
            generalize ((w5.setCell ⟨w.heap.size, 0, none⟩ (.int .i64 0)).setCell ⟨w.heap.size, 1, none⟩ (.int .i64 0)).setCell ⟨w.heap.size, 2, none⟩ (.int .i64 0) = W at *
            have r0 := cell_of (o := 0) HY.out rfl
            have r1 := cell_of (o := 1) HY.out rfl
            have r2 := cell_of (o := 2) HY.out rfl
            refine bodyPost_ret (v := .tuple #[.pointer (some ⟨k, 0, none⟩), flt0]) ?_ rfl ⟨HKW.out, .inr ⟨k, d, R', rfl, HRW.out, HTB.out, HFR.out, HIF.out, .inr (.inr ⟨rfl, HWR.out⟩)⟩⟩
            simp [results, Tryz.results42, go_sem, r0, r1, r2, flt0]
      · skip
        have HW0 := Lib.hid hw0
        go_upto_region 9 with fail
        rw [← HW2.out]
        clear HW2 HH1 HB1
        generalize w1.heap.size = fb at *
        have f0 := cell_of (o := 0) HF2.out rfl
        have f1 := cell_of (o := 1) HF2.out rfl
        have f2 := cell_of (o := 2) HF2.out rfl
        have g0 := cell_of (o := 0) HH2.out rfl
        have g1 := cell_of (o := 1) HH2.out rfl
        have g2 := cell_of (o := 2) HH2.out rfl
        have gf := fun o => free_of HH2.out o
        have HY := Lib.hid (three_heap HH2.out (.int .i64 1) (.int .i64 0) (.int .i64 11))
        have HKS := Lib.hid (three_sets w2 w.heap.size (.int .i64 1) (.int .i64 0) (.int .i64 11))
        have HRW : Hid (RRep B (((w2.setCell ⟨w.heap.size, 0, none⟩ (.int .i64 1)).setCell ⟨w.heap.size, 1, none⟩ (.int .i64 0)).setCell ⟨w.heap.size, 2, none⟩ (.int .i64 11)) R) := HR2.out.kept HKS.out (fun b hb hf => HR2.out.not_foot HH2.out (by decide) (by decide) (by decide) (by decide) (by rw [← hf]; exact hb))
        have HKW : Hid (Kept R.foot w (((w2.setCell ⟨w.heap.size, 0, none⟩ (.int .i64 1)).setCell ⟨w.heap.size, 1, none⟩ (.int .i64 0)).setCell ⟨w.heap.size, 2, none⟩ (.int .i64 11))) := HK2.out.trans HKS.out (fun b h => .inr (by rw [h]; exact Nat.le_refl _))
        go_wp2_with fail
        go_region
        go_wp2_with fail
        clear g0 g1 g2 gf
        generalize ((w2.setCell ⟨w.heap.size, 0, none⟩ (.int .i64 1)).setCell ⟨w.heap.size, 1, none⟩ (.int .i64 0)).setCell ⟨w.heap.size, 2, none⟩ (.int .i64 11) = W at *
        have r0 := cell_of (o := 0) HY.out rfl
        have r1 := cell_of (o := 1) HY.out rfl
        have r2 := cell_of (o := 2) HY.out rfl
        refine bodyPost_ret (v := .tuple #[.pointer none, fltV 1]) ?_ rfl ⟨HKW.out.drew, .inl ⟨1, by decide, rfl, HRW.out.below ((Below.refl _ W).drew), .inl ⟨rfl, HW0.out, hw1, hw22⟩⟩⟩
        simp [results, Tryz.results42, go_sem, r0, r1, r2, fltV]
end

section
/-- A call of the laws. -/
structure AOp where
  act : Nat
  path : ByteArray
  other : ByteArray
  data : List UInt8
def opV (o : AOp) (dv : Value) : Value := .agg #[.int .i64 o.act, .string o.path, .string o.other, dv]
def NoMkdir (R : RT) (s : ByteArray) (c : Nat) : Prop := (c = 15 ∧ clean s = none) ∨ ∃ l, clean s = some l ∧ ((c = 16 ∧ ¬ R.okDirs l) ∨ (R.okDirs l ∧ ((c = 18 ∧ entAt R.L (joinB l) ≠ none) ∨ (c = 19 ∧ entAt R.L (joinB l) = none ∧ 200 ≤ nodesIn R.L))))
def Made (R R' : RT) (s : ByteArray) : Prop := ∃ l i m ri rk, clean s = some l ∧ R.okDirs l ∧ entAt R.L (joinB l) = none ∧ nodesIn R.L < 200 ∧ entAt R.L (joinB l.dropLast) = some i ∧ R.nd i = some ri ∧ R.nd m = none ∧ RGrown R R' (joinB l) i m ri rk ∧ rk.dir = true ∧ rk.data = [] ∧ rk.dv.ownBlock = none
def NoRemove (R : RT) (s : ByteArray) (c : Nat) : Prop := (c = 15 ∧ clean s = none) ∨ ∃ l, clean s = some l ∧ ((c = 16 ∧ ¬ R.okDirs l) ∨ (R.okDirs l ∧ ((c = 16 ∧ entAt R.L (joinB l) = none) ∨ (c = 17 ∧ ∃ k d, entAt R.L (joinB l) = some k ∧ R.nd k = some d ∧ (l = [] ∨ (d.dir = true ∧ kidsOf R.L (joinB l) ≠ []))))))
def Removed (R R' : RT) (s : ByteArray) : Prop := ∃ l k d i ri, clean s = some l ∧ R.okDirs l ∧ l ≠ [] ∧ entAt R.L (joinB l) = some k ∧ R.nd k = some d ∧ (d.dir = true → kidsOf R.L (joinB l) = []) ∧ entAt R.L (joinB l.dropLast) = some i ∧ R.nd i = some ri ∧ RPruned R R' (joinB l) i ri
def NoLink (R : RT) (old s : ByteArray) (c : Nat) : Prop := NoFile R old c ∨ ((∃ k d, IsFile R old k d) ∧ NoPlace R s c)
def LinkedTo (R R' : RT) (old s : ByteArray) : Prop := ∃ k d l i ri, IsFile R old k d ∧ clean s = some l ∧ R.okDirs l ∧ entAt R.L (joinB l) = none ∧ entAt R.L (joinB l.dropLast) = some i ∧ R.nd i = some ri ∧ RLinked R R' (joinB l) i k ri
theorem Made.fresh (n : Nat) {R R' : RT} {s : ByteArray} (h : Made R R' s) : RFresh n R R' := by
  obtain ⟨l, i, m, ri, rk, _, _, _, _, _, h2, h3, h4, _, _, h5⟩ := h
  refine RFresh.of_came n (fun x d hx => ?_)
  by_cases e1 : x = m
  · subst e1
    rw [h4.here] at hx
    cases hx
    exact .inl h5
  · by_cases e2 : x = i
    · subst e2
      rw [h4.up] at hx
      cases hx
      exact .inr ⟨x, ri, h2, rfl⟩
    · rw [h4.oth x e2 e1] at hx
      exact .inr ⟨x, d, hx, rfl⟩
theorem Removed.fresh (n : Nat) {R R' : RT} {s : ByteArray} (h : Removed R R' s) : RFresh n R R' := by
  obtain ⟨l, k, d, i, ri, _, _, _, _, _, _, _, h2, h4⟩ := h
  refine RFresh.of_came n (fun x d hx => ?_)
  by_cases e2 : x = i
  · subst e2
    rw [h4.up] at hx
    cases hx
    exact .inr ⟨x, ri, h2, rfl⟩
  · rw [h4.oth x e2] at hx
    exact .inr ⟨x, d, hx, rfl⟩
theorem LinkedTo.fresh (n : Nat) {R R' : RT} {old s : ByteArray} (h : LinkedTo R R' old s) : RFresh n R R' := by
  obtain ⟨k, d, l, i, ri, _, _, _, _, _, h2, h4⟩ := h
  refine RFresh.of_came n (fun x d hx => ?_)
  by_cases e2 : x = i
  · subst e2
    rw [h4.up] at hx
    cases hx
    exact .inr ⟨x, ri, h2, rfl⟩
  · rw [h4.oth x e2] at hx
    exact .inr ⟨x, d, hx, rfl⟩
theorem MkdirPost.parts {B : Nat} {w w' : World} {R : RT} {s : ByteArray} {e : Ending} (h : MkdirPost B w R s e w') :
    (∃ c, c ≠ 0 ∧ e = .returned (fltV c) ∧ RRep B w' R ∧ NoMkdir R s c) ∨ (e = .returned flt0 ∧ ∃ R', RRep B w' R' ∧ R'.tb = R.tb ∧ RFresh w.heap.size R R' ∧ Made R R' s) := by
  rcases h.case with h | ⟨h1, l, R', i, m, ri, rk, a1, a2, a3, a4, a5, a6, a7, a8, a9, a10, a11, a12⟩
  · exact .inl h
  · exact .inr ⟨h1, R', a5, a6, Made.fresh _ ⟨l, i, m, ri, rk, a1, a2, a3, a4, a7, a8, a9, a10, a11, a12⟩, l, i, m, ri, rk, a1, a2, a3, a4, a7, a8, a9, a10, a11, a12⟩
theorem RemovePost.parts {B : Nat} {w w' : World} {R : RT} {s : ByteArray} {e : Ending} (h : RemovePost B w R s e w') :
    (∃ c, c ≠ 0 ∧ e = .returned (fltV c) ∧ RRep B w' R ∧ NoRemove R s c) ∨ (e = .returned flt0 ∧ ∃ R', RRep B w' R' ∧ R'.tb = R.tb ∧ RFresh w.heap.size R R' ∧ Removed R R' s) := by
  rcases h.case with h | ⟨h1, l, R', k, d, i, ri, a1, a2, a3, a4, a5, a6, a7, a8, a9, a10, a11⟩
  · exact .inl h
  · exact .inr ⟨h1, R', a7, a8, Removed.fresh _ ⟨l, k, d, i, ri, a1, a2, a3, a4, a5, a6, a9, a10, a11⟩, l, k, d, i, ri, a1, a2, a3, a4, a5, a6, a9, a10, a11⟩
theorem LinkPost.parts {B : Nat} {w w' : World} {R : RT} {old s : ByteArray} {e : Ending} (h : LinkPost B w R old s e w') :
    (∃ c, c ≠ 0 ∧ e = .returned (fltV c) ∧ RRep B w' R ∧ NoLink R old s c) ∨ (e = .returned flt0 ∧ ∃ R', RRep B w' R' ∧ R'.tb = R.tb ∧ RFresh w.heap.size R R' ∧ LinkedTo R R' old s) := by
  rcases h.case with h | ⟨h1, k, d, l, R', i, ri, a1, a2, a3, a4, a5, a6, a7, a8, a9⟩
  · exact .inl h
  · exact .inr ⟨h1, R', a5, a6, LinkedTo.fresh _ ⟨k, d, l, i, ri, a1, a2, a3, a4, a7, a8, a9⟩, k, d, l, i, ri, a1, a2, a3, a4, a7, a8, a9⟩

def MErr (R : RT) (o : AOp) (c : Nat) : Prop := (o.act = 0 ∧ NoMkdir R o.path c) ∨ (o.act = 1 ∧ NoWrite R o.path o.data false c) ∨ (o.act = 2 ∧ NoWrite R o.path o.data true c) ∨ (o.act = 3 ∧ NoRemove R o.path c) ∨ (o.act = 4 ∧ NoLink R o.path o.other c) ∨ (o.act = 5 ∧ NoWrite R o.path [] false c) ∨ (o.act = 6 ∧ NoWrite R o.path [] true c)
def MOk (R R' : RT) (o : AOp) : Prop := (o.act = 0 ∧ Made R R' o.path) ∨ (o.act = 1 ∧ Wrote R R' o.path o.data false) ∨ (o.act = 2 ∧ Wrote R R' o.path o.data true) ∨ (o.act = 3 ∧ Removed R R' o.path) ∨ (o.act = 4 ∧ LinkedTo R R' o.path o.other) ∨ (o.act = 5 ∧ Wrote R R' o.path [] false) ∨ (o.act = 6 ∧ Wrote R R' o.path [] true)
structure ModelPost (B : Nat) (w : World) (R : RT) (o : AOp) (e : Ending) (w' : World) : Prop where
  kept : Kept R.foot w w'
  case : (∃ c, c ≠ 0 ∧ e = .returned (fltV c) ∧ RRep B w' R ∧ MErr R o c) ∨ (e = .returned flt0 ∧ ∃ R', RRep B w' R' ∧ R'.tb = R.tb ∧ RFresh w.heap.size R R' ∧ MOk R R' o)
set_option maxRecDepth 100000 in
set_option maxHeartbeats 8000000 in
theorem ref_model {B : Nat} {R : RT} (o : AOp) (dv : Value) (w : World) (hR : RRep B w R) (hb : RB R) (hl : R.L.length < 90000) (hn : R.now < 1152921504606846976) (hact : o.act ≤ 6) (hsz : o.path.size ≤ 9223372036854775807) (hso : o.other.size ≤ 9223372036854775807)
    (hs : Src w dv o.data) (hbl : o.data.length ≤ 180000000000000) (hdl : ∀ n d, R.nd n = some d → d.data.length + o.data.length ≤ 180000000000000) :
    Calls Tryz.prog 40 #[.pointer (some ⟨R.tb, 0, none⟩), opV o dv] w fun e w' => ModelPost B w R o e w' := by
  have hbv : ∃ ba bc, dv = .slice ba o.data.length bc := by
    rcases hs with ⟨h1, h2⟩ | ⟨ad, c, h1, _⟩
    · exact ⟨none, 0, by rw [h1, h2]; rfl⟩
    · exact ⟨_, _, h1⟩
  obtain ⟨da, dc, rfl⟩ := hbv
  have HR := Lib.hid hR
  have HRB := Lib.hid hb
  have HL := Lib.hid hl
  have HN := Lib.hid hn
  have HS := Lib.hid hs
  have HBL := Lib.hid hbl
  have HDL := Lib.hid hdl
  have HSZ := Lib.hid hsz
  have HSO := Lib.hid hso
  have HDO : Hid (∀ n d, R.nd n = some d → d.data.length ≤ 180000000000000) := fun n d h => Nat.le_trans (Nat.le_add_right _ _) (hdl n d h)
  obtain ⟨a, ha⟩ : ∃ a, a = o.act := ⟨_, rfl⟩
  have HA := Lib.hid ha
  rw [← ha] at hact
  unfold opV
  rw [← ha]
  clear hR hb hl hn hs hbl hdl hsz hso ha
  go_enter Tryz.func40, Tryz.ntmps40
  obtain ⟨w1, hw1⟩ : ∃ w1, w1 = w.alloc (.cells #[.int .i64 a, .string o.path, .string o.other, .slice da o.data.length dc] 53) := ⟨_, rfl⟩
  obtain ⟨w2, hw2⟩ : ∃ w2, w2 = w1.alloc (.cells #[.int .i64 0, .int .i64 0, .int .i64 0] 56) := ⟨_, rfl⟩
  have hb1 : Below w.heap.size w w1 := by rw [hw1]; exact below_alloc w _
  have hb2 : Below w1.heap.size w1 w2 := by rw [hw2]; exact below_alloc w1 _
  have HW1 := Lib.hid hw1
  have HW2 := Lib.hid hw2
  have HO2 : Hid (w2.heap[w.heap.size]? = some (.cells #[.int .i64 a, .string o.path, .string o.other, .slice da o.data.length dc] 53 (0, 0))) := below_heap hb2 (by rw [hw1]; simp) (by rw [hw1]; exact heap_alloc_new w _)
  have HH2 : Hid (w2.heap[w.heap.size + 1]? = some (.cells #[.int .i64 0, .int .i64 0, .int .i64 0] 56 (0, 0))) := by
    have e : w1.heap.size = w.heap.size + 1 := by rw [hw1]; simp
    rw [hw2, ← e]
    exact heap_alloc_new w1 _
  have HB2 := Lib.hid (below_trans hb1 hb2)
  have HR2 := Lib.hid (HR.out.below HB2.out)
  have HK2 : Hid (Kept R.foot w w2) := Kept.of_below HB2.out _
  have HS2 : Hid (Src w2 (.slice da o.data.length dc) o.data) := HS.out.kept (Kept.of_below HB2.out (fun _ => False)) (fun _ _ h => h)
  clear hw1 hw2 hb1 hb2
  go_upto_region 1 with fail
  rw [← HW1.out, ← HW2.out]
  clear HW1 HW2
  have HRBL : Hid (w.heap.size ≤ w.heap.size + 1) := Lib.hid (by omega)
  have o0 := cell_of (o := 0) HO2.out rfl
  have o1 := cell_of (o := 1) HO2.out rfl
  have o2 := cell_of (o := 2) HO2.out rfl
  have o3 := cell_of (o := 3) HO2.out rfl
  generalize w.heap.size + 1 = rb at *
  have h7 : a = 0 ∨ a = 1 ∨ a = 2 ∨ a = 3 ∨ a = 4 ∨ a = 5 ∨ a = 6 := by omega
  rcases h7 with rfl | rfl | rfl | rfl | rfl | rfl | rfl
  · have HACT : Hid (o.act = 0) := HA.out.symm
    go_wp2_with fail
    refine (ref_mkdir o.path w2 HR2.out HRB.out HSZ.out).mono ?_
    intro e w3 hp
    have HK3 : Hid (Kept R.foot w w3) := HK2.out.trans hp.kept (fun b h => .inl h)
    have HH3 : Hid (w3.heap[rb]? = some (.cells #[.int .i64 0, .int .i64 0, .int .i64 0] 56 (0, 0))) := (hp.kept.block _ (lt_of_heap HH2.out) (HR2.out.not_foot HH2.out (by decide) (by decide) (by decide) (by decide))).trans HH2.out
    rcases hp.parts with ⟨c, hc0, rfl, hr3, hnw⟩ | ⟨rfl, R', hr3, htb, hfr, hwr⟩
    · have HC0 := Lib.hid hc0
      have HNW := Lib.hid hnw
      have HR3 := Lib.hid hr3
      clear hc0 hnw hr3 hp HH2 HR2
      simp only [fltV]
      have g0 := cell_of (o := 0) HH3.out rfl
      have g1 := cell_of (o := 1) HH3.out rfl
      have g2 := cell_of (o := 2) HH3.out rfl
      have gf := fun o => free_of HH3.out o
      have HY := Lib.hid (three_heap HH3.out (.int .i64 c) (.int .i64 0) (.int .i64 11))
      have HKS := Lib.hid (three_sets w3 rb (.int .i64 c) (.int .i64 0) (.int .i64 11))
      have HRW : Hid (RRep B (((w3.setCell ⟨rb, 0, none⟩ (.int .i64 c)).setCell ⟨rb, 1, none⟩ (.int .i64 0)).setCell ⟨rb, 2, none⟩ (.int .i64 11)) R) := HR3.out.kept HKS.out (fun b hb hf => HR3.out.not_foot HH3.out (by decide) (by decide) (by decide) (by decide) (by rw [← hf]; exact hb))
      have HKW : Hid (Kept R.foot w (((w3.setCell ⟨rb, 0, none⟩ (.int .i64 c)).setCell ⟨rb, 1, none⟩ (.int .i64 0)).setCell ⟨rb, 2, none⟩ (.int .i64 11))) := HK3.out.trans HKS.out (fun b h => .inr (by rw [h]; exact HRBL.out))
      go_wp2_with fail
      clear g0 g1 g2 gf
      generalize ((w3.setCell ⟨rb, 0, none⟩ (.int .i64 c)).setCell ⟨rb, 1, none⟩ (.int .i64 0)).setCell ⟨rb, 2, none⟩ (.int .i64 11) = W at *
      have r0 := cell_of (o := 0) HY.out rfl
      have r1 := cell_of (o := 1) HY.out rfl
      have r2 := cell_of (o := 2) HY.out rfl
      refine bodyPost_ret (v := fltV c) ?_ rfl ⟨HKW.out, .inl ⟨c, HC0.out, rfl, HRW.out, .inl ⟨HACT.out, HNW.out⟩⟩⟩
      simp [results, Tryz.results40, go_sem, r0, r1, r2, fltV]
    · have HR3 := Lib.hid hr3
      have HWR := Lib.hid hwr
      have HTB := Lib.hid htb
      have HFR : Hid (RFresh w.heap.size R R') := hfr.mono HK2.out.size
      clear hr3 htb hfr hwr hp HH2 HR2
      simp only [flt0]
      have g0 := cell_of (o := 0) HH3.out rfl
      have g1 := cell_of (o := 1) HH3.out rfl
      have g2 := cell_of (o := 2) HH3.out rfl
      have gf := fun o => free_of HH3.out o
      have HY := Lib.hid (three_heap HH3.out (.int .i64 0) (.int .i64 0) (.int .i64 0))
      have HKS := Lib.hid (three_sets w3 rb (.int .i64 0) (.int .i64 0) (.int .i64 0))
      have HRW : Hid (RRep B (((w3.setCell ⟨rb, 0, none⟩ (.int .i64 0)).setCell ⟨rb, 1, none⟩ (.int .i64 0)).setCell ⟨rb, 2, none⟩ (.int .i64 0)) R') := HR3.out.kept HKS.out (fun b hb hf => HR3.out.not_foot HH3.out (by decide) (by decide) (by decide) (by decide) (by rw [← hf]; exact hb))
      have HKW : Hid (Kept R.foot w (((w3.setCell ⟨rb, 0, none⟩ (.int .i64 0)).setCell ⟨rb, 1, none⟩ (.int .i64 0)).setCell ⟨rb, 2, none⟩ (.int .i64 0))) := HK3.out.trans HKS.out (fun b h => .inr (by rw [h]; exact HRBL.out))
      go_wp2_with fail
      clear g0 g1 g2 gf
      generalize ((w3.setCell ⟨rb, 0, none⟩ (.int .i64 0)).setCell ⟨rb, 1, none⟩ (.int .i64 0)).setCell ⟨rb, 2, none⟩ (.int .i64 0) = W at *
      have r0 := cell_of (o := 0) HY.out rfl
      have r1 := cell_of (o := 1) HY.out rfl
      have r2 := cell_of (o := 2) HY.out rfl
      refine bodyPost_ret (v := flt0) ?_ rfl ⟨HKW.out, .inr ⟨rfl, R', HRW.out, HTB.out, HFR.out, .inl ⟨HACT.out, HWR.out⟩⟩⟩
      simp [results, Tryz.results40, go_sem, r0, r1, r2, flt0]
  · have HACT : Hid (o.act = 1) := HA.out.symm
    go_wp2_with fail
    refine (ref_write o.path (.slice da o.data.length dc) o.data false w2 HR2.out HRB.out HSZ.out HS2.out HBL.out HDL.out).mono ?_
    intro e w3 hp
    have HK3 : Hid (Kept R.foot w w3) := HK2.out.trans hp.kept (fun b h => .inl h)
    have HH3 : Hid (w3.heap[rb]? = some (.cells #[.int .i64 0, .int .i64 0, .int .i64 0] 56 (0, 0))) := (hp.kept.block _ (lt_of_heap HH2.out) (HR2.out.not_foot HH2.out (by decide) (by decide) (by decide) (by decide))).trans HH2.out
    rcases hp.parts with ⟨c, hc0, rfl, hr3, hnw⟩ | ⟨rfl, R', hr3, htb, hfr, hwr⟩
    · have HC0 := Lib.hid hc0
      have HNW := Lib.hid hnw
      have HR3 := Lib.hid hr3
      clear hc0 hnw hr3 hp HH2 HR2
      simp only [fltV]
      have g0 := cell_of (o := 0) HH3.out rfl
      have g1 := cell_of (o := 1) HH3.out rfl
      have g2 := cell_of (o := 2) HH3.out rfl
      have gf := fun o => free_of HH3.out o
      have HY := Lib.hid (three_heap HH3.out (.int .i64 c) (.int .i64 0) (.int .i64 11))
      have HKS := Lib.hid (three_sets w3 rb (.int .i64 c) (.int .i64 0) (.int .i64 11))
      have HRW : Hid (RRep B (((w3.setCell ⟨rb, 0, none⟩ (.int .i64 c)).setCell ⟨rb, 1, none⟩ (.int .i64 0)).setCell ⟨rb, 2, none⟩ (.int .i64 11)) R) := HR3.out.kept HKS.out (fun b hb hf => HR3.out.not_foot HH3.out (by decide) (by decide) (by decide) (by decide) (by rw [← hf]; exact hb))
      have HKW : Hid (Kept R.foot w (((w3.setCell ⟨rb, 0, none⟩ (.int .i64 c)).setCell ⟨rb, 1, none⟩ (.int .i64 0)).setCell ⟨rb, 2, none⟩ (.int .i64 11))) := HK3.out.trans HKS.out (fun b h => .inr (by rw [h]; exact HRBL.out))
      go_wp2_with fail
      clear g0 g1 g2 gf
      generalize ((w3.setCell ⟨rb, 0, none⟩ (.int .i64 c)).setCell ⟨rb, 1, none⟩ (.int .i64 0)).setCell ⟨rb, 2, none⟩ (.int .i64 11) = W at *
      have r0 := cell_of (o := 0) HY.out rfl
      have r1 := cell_of (o := 1) HY.out rfl
      have r2 := cell_of (o := 2) HY.out rfl
      refine bodyPost_ret (v := fltV c) ?_ rfl ⟨HKW.out, .inl ⟨c, HC0.out, rfl, HRW.out, .inr (.inl ⟨HACT.out, HNW.out⟩)⟩⟩
      simp [results, Tryz.results40, go_sem, r0, r1, r2, fltV]
    · have HR3 := Lib.hid hr3
      have HWR := Lib.hid hwr
      have HTB := Lib.hid htb
      have HFR : Hid (RFresh w.heap.size R R') := hfr.mono HK2.out.size
      clear hr3 htb hfr hwr hp HH2 HR2
      simp only [flt0]
      have g0 := cell_of (o := 0) HH3.out rfl
      have g1 := cell_of (o := 1) HH3.out rfl
      have g2 := cell_of (o := 2) HH3.out rfl
      have gf := fun o => free_of HH3.out o
      have HY := Lib.hid (three_heap HH3.out (.int .i64 0) (.int .i64 0) (.int .i64 0))
      have HKS := Lib.hid (three_sets w3 rb (.int .i64 0) (.int .i64 0) (.int .i64 0))
      have HRW : Hid (RRep B (((w3.setCell ⟨rb, 0, none⟩ (.int .i64 0)).setCell ⟨rb, 1, none⟩ (.int .i64 0)).setCell ⟨rb, 2, none⟩ (.int .i64 0)) R') := HR3.out.kept HKS.out (fun b hb hf => HR3.out.not_foot HH3.out (by decide) (by decide) (by decide) (by decide) (by rw [← hf]; exact hb))
      have HKW : Hid (Kept R.foot w (((w3.setCell ⟨rb, 0, none⟩ (.int .i64 0)).setCell ⟨rb, 1, none⟩ (.int .i64 0)).setCell ⟨rb, 2, none⟩ (.int .i64 0))) := HK3.out.trans HKS.out (fun b h => .inr (by rw [h]; exact HRBL.out))
      go_wp2_with fail
      clear g0 g1 g2 gf
      generalize ((w3.setCell ⟨rb, 0, none⟩ (.int .i64 0)).setCell ⟨rb, 1, none⟩ (.int .i64 0)).setCell ⟨rb, 2, none⟩ (.int .i64 0) = W at *
      have r0 := cell_of (o := 0) HY.out rfl
      have r1 := cell_of (o := 1) HY.out rfl
      have r2 := cell_of (o := 2) HY.out rfl
      refine bodyPost_ret (v := flt0) ?_ rfl ⟨HKW.out, .inr ⟨rfl, R', HRW.out, HTB.out, HFR.out, .inr (.inl ⟨HACT.out, HWR.out⟩)⟩⟩
      simp [results, Tryz.results40, go_sem, r0, r1, r2, flt0]
  · have HACT : Hid (o.act = 2) := HA.out.symm
    go_wp2_with fail
    refine (ref_write o.path (.slice da o.data.length dc) o.data true w2 HR2.out HRB.out HSZ.out HS2.out HBL.out HDL.out).mono ?_
    intro e w3 hp
    have HK3 : Hid (Kept R.foot w w3) := HK2.out.trans hp.kept (fun b h => .inl h)
    have HH3 : Hid (w3.heap[rb]? = some (.cells #[.int .i64 0, .int .i64 0, .int .i64 0] 56 (0, 0))) := (hp.kept.block _ (lt_of_heap HH2.out) (HR2.out.not_foot HH2.out (by decide) (by decide) (by decide) (by decide))).trans HH2.out
    rcases hp.parts with ⟨c, hc0, rfl, hr3, hnw⟩ | ⟨rfl, R', hr3, htb, hfr, hwr⟩
    · have HC0 := Lib.hid hc0
      have HNW := Lib.hid hnw
      have HR3 := Lib.hid hr3
      clear hc0 hnw hr3 hp HH2 HR2
      simp only [fltV]
      have g0 := cell_of (o := 0) HH3.out rfl
      have g1 := cell_of (o := 1) HH3.out rfl
      have g2 := cell_of (o := 2) HH3.out rfl
      have gf := fun o => free_of HH3.out o
      have HY := Lib.hid (three_heap HH3.out (.int .i64 c) (.int .i64 0) (.int .i64 11))
      have HKS := Lib.hid (three_sets w3 rb (.int .i64 c) (.int .i64 0) (.int .i64 11))
      have HRW : Hid (RRep B (((w3.setCell ⟨rb, 0, none⟩ (.int .i64 c)).setCell ⟨rb, 1, none⟩ (.int .i64 0)).setCell ⟨rb, 2, none⟩ (.int .i64 11)) R) := HR3.out.kept HKS.out (fun b hb hf => HR3.out.not_foot HH3.out (by decide) (by decide) (by decide) (by decide) (by rw [← hf]; exact hb))
      have HKW : Hid (Kept R.foot w (((w3.setCell ⟨rb, 0, none⟩ (.int .i64 c)).setCell ⟨rb, 1, none⟩ (.int .i64 0)).setCell ⟨rb, 2, none⟩ (.int .i64 11))) := HK3.out.trans HKS.out (fun b h => .inr (by rw [h]; exact HRBL.out))
      go_wp2_with fail
      clear g0 g1 g2 gf
      generalize ((w3.setCell ⟨rb, 0, none⟩ (.int .i64 c)).setCell ⟨rb, 1, none⟩ (.int .i64 0)).setCell ⟨rb, 2, none⟩ (.int .i64 11) = W at *
      have r0 := cell_of (o := 0) HY.out rfl
      have r1 := cell_of (o := 1) HY.out rfl
      have r2 := cell_of (o := 2) HY.out rfl
      refine bodyPost_ret (v := fltV c) ?_ rfl ⟨HKW.out, .inl ⟨c, HC0.out, rfl, HRW.out, .inr (.inr (.inl ⟨HACT.out, HNW.out⟩))⟩⟩
      simp [results, Tryz.results40, go_sem, r0, r1, r2, fltV]
    · have HR3 := Lib.hid hr3
      have HWR := Lib.hid hwr
      have HTB := Lib.hid htb
      have HFR : Hid (RFresh w.heap.size R R') := hfr.mono HK2.out.size
      clear hr3 htb hfr hwr hp HH2 HR2
      simp only [flt0]
      have g0 := cell_of (o := 0) HH3.out rfl
      have g1 := cell_of (o := 1) HH3.out rfl
      have g2 := cell_of (o := 2) HH3.out rfl
      have gf := fun o => free_of HH3.out o
      have HY := Lib.hid (three_heap HH3.out (.int .i64 0) (.int .i64 0) (.int .i64 0))
      have HKS := Lib.hid (three_sets w3 rb (.int .i64 0) (.int .i64 0) (.int .i64 0))
      have HRW : Hid (RRep B (((w3.setCell ⟨rb, 0, none⟩ (.int .i64 0)).setCell ⟨rb, 1, none⟩ (.int .i64 0)).setCell ⟨rb, 2, none⟩ (.int .i64 0)) R') := HR3.out.kept HKS.out (fun b hb hf => HR3.out.not_foot HH3.out (by decide) (by decide) (by decide) (by decide) (by rw [← hf]; exact hb))
      have HKW : Hid (Kept R.foot w (((w3.setCell ⟨rb, 0, none⟩ (.int .i64 0)).setCell ⟨rb, 1, none⟩ (.int .i64 0)).setCell ⟨rb, 2, none⟩ (.int .i64 0))) := HK3.out.trans HKS.out (fun b h => .inr (by rw [h]; exact HRBL.out))
      go_wp2_with fail
      clear g0 g1 g2 gf
      generalize ((w3.setCell ⟨rb, 0, none⟩ (.int .i64 0)).setCell ⟨rb, 1, none⟩ (.int .i64 0)).setCell ⟨rb, 2, none⟩ (.int .i64 0) = W at *
      have r0 := cell_of (o := 0) HY.out rfl
      have r1 := cell_of (o := 1) HY.out rfl
      have r2 := cell_of (o := 2) HY.out rfl
      refine bodyPost_ret (v := flt0) ?_ rfl ⟨HKW.out, .inr ⟨rfl, R', HRW.out, HTB.out, HFR.out, .inr (.inr (.inl ⟨HACT.out, HWR.out⟩))⟩⟩
      simp [results, Tryz.results40, go_sem, r0, r1, r2, flt0]
  · have HACT : Hid (o.act = 3) := HA.out.symm
    go_wp2_with fail
    refine (ref_remove o.path w2 HR2.out HRB.out HSZ.out).mono ?_
    intro e w3 hp
    have HK3 : Hid (Kept R.foot w w3) := HK2.out.trans hp.kept (fun b h => .inl h)
    have HH3 : Hid (w3.heap[rb]? = some (.cells #[.int .i64 0, .int .i64 0, .int .i64 0] 56 (0, 0))) := (hp.kept.block _ (lt_of_heap HH2.out) (HR2.out.not_foot HH2.out (by decide) (by decide) (by decide) (by decide))).trans HH2.out
    rcases hp.parts with ⟨c, hc0, rfl, hr3, hnw⟩ | ⟨rfl, R', hr3, htb, hfr, hwr⟩
    · have HC0 := Lib.hid hc0
      have HNW := Lib.hid hnw
      have HR3 := Lib.hid hr3
      clear hc0 hnw hr3 hp HH2 HR2
      simp only [fltV]
      have g0 := cell_of (o := 0) HH3.out rfl
      have g1 := cell_of (o := 1) HH3.out rfl
      have g2 := cell_of (o := 2) HH3.out rfl
      have gf := fun o => free_of HH3.out o
      have HY := Lib.hid (three_heap HH3.out (.int .i64 c) (.int .i64 0) (.int .i64 11))
      have HKS := Lib.hid (three_sets w3 rb (.int .i64 c) (.int .i64 0) (.int .i64 11))
      have HRW : Hid (RRep B (((w3.setCell ⟨rb, 0, none⟩ (.int .i64 c)).setCell ⟨rb, 1, none⟩ (.int .i64 0)).setCell ⟨rb, 2, none⟩ (.int .i64 11)) R) := HR3.out.kept HKS.out (fun b hb hf => HR3.out.not_foot HH3.out (by decide) (by decide) (by decide) (by decide) (by rw [← hf]; exact hb))
      have HKW : Hid (Kept R.foot w (((w3.setCell ⟨rb, 0, none⟩ (.int .i64 c)).setCell ⟨rb, 1, none⟩ (.int .i64 0)).setCell ⟨rb, 2, none⟩ (.int .i64 11))) := HK3.out.trans HKS.out (fun b h => .inr (by rw [h]; exact HRBL.out))
      go_wp2_with fail
      clear g0 g1 g2 gf
      generalize ((w3.setCell ⟨rb, 0, none⟩ (.int .i64 c)).setCell ⟨rb, 1, none⟩ (.int .i64 0)).setCell ⟨rb, 2, none⟩ (.int .i64 11) = W at *
      have r0 := cell_of (o := 0) HY.out rfl
      have r1 := cell_of (o := 1) HY.out rfl
      have r2 := cell_of (o := 2) HY.out rfl
      refine bodyPost_ret (v := fltV c) ?_ rfl ⟨HKW.out, .inl ⟨c, HC0.out, rfl, HRW.out, .inr (.inr (.inr (.inl ⟨HACT.out, HNW.out⟩)))⟩⟩
      simp [results, Tryz.results40, go_sem, r0, r1, r2, fltV]
    · have HR3 := Lib.hid hr3
      have HWR := Lib.hid hwr
      have HTB := Lib.hid htb
      have HFR : Hid (RFresh w.heap.size R R') := hfr.mono HK2.out.size
      clear hr3 htb hfr hwr hp HH2 HR2
      simp only [flt0]
      have g0 := cell_of (o := 0) HH3.out rfl
      have g1 := cell_of (o := 1) HH3.out rfl
      have g2 := cell_of (o := 2) HH3.out rfl
      have gf := fun o => free_of HH3.out o
      have HY := Lib.hid (three_heap HH3.out (.int .i64 0) (.int .i64 0) (.int .i64 0))
      have HKS := Lib.hid (three_sets w3 rb (.int .i64 0) (.int .i64 0) (.int .i64 0))
      have HRW : Hid (RRep B (((w3.setCell ⟨rb, 0, none⟩ (.int .i64 0)).setCell ⟨rb, 1, none⟩ (.int .i64 0)).setCell ⟨rb, 2, none⟩ (.int .i64 0)) R') := HR3.out.kept HKS.out (fun b hb hf => HR3.out.not_foot HH3.out (by decide) (by decide) (by decide) (by decide) (by rw [← hf]; exact hb))
      have HKW : Hid (Kept R.foot w (((w3.setCell ⟨rb, 0, none⟩ (.int .i64 0)).setCell ⟨rb, 1, none⟩ (.int .i64 0)).setCell ⟨rb, 2, none⟩ (.int .i64 0))) := HK3.out.trans HKS.out (fun b h => .inr (by rw [h]; exact HRBL.out))
      go_wp2_with fail
      clear g0 g1 g2 gf
      generalize ((w3.setCell ⟨rb, 0, none⟩ (.int .i64 0)).setCell ⟨rb, 1, none⟩ (.int .i64 0)).setCell ⟨rb, 2, none⟩ (.int .i64 0) = W at *
      have r0 := cell_of (o := 0) HY.out rfl
      have r1 := cell_of (o := 1) HY.out rfl
      have r2 := cell_of (o := 2) HY.out rfl
      refine bodyPost_ret (v := flt0) ?_ rfl ⟨HKW.out, .inr ⟨rfl, R', HRW.out, HTB.out, HFR.out, .inr (.inr (.inr (.inl ⟨HACT.out, HWR.out⟩)))⟩⟩
      simp [results, Tryz.results40, go_sem, r0, r1, r2, flt0]
  · have HACT : Hid (o.act = 4) := HA.out.symm
    go_wp2_with fail
    refine (ref_link o.path o.other w2 HR2.out HRB.out HSZ.out HSO.out).mono ?_
    intro e w3 hp
    have HK3 : Hid (Kept R.foot w w3) := HK2.out.trans hp.kept (fun b h => .inl h)
    have HH3 : Hid (w3.heap[rb]? = some (.cells #[.int .i64 0, .int .i64 0, .int .i64 0] 56 (0, 0))) := (hp.kept.block _ (lt_of_heap HH2.out) (HR2.out.not_foot HH2.out (by decide) (by decide) (by decide) (by decide))).trans HH2.out
    rcases hp.parts with ⟨c, hc0, rfl, hr3, hnw⟩ | ⟨rfl, R', hr3, htb, hfr, hwr⟩
    · have HC0 := Lib.hid hc0
      have HNW := Lib.hid hnw
      have HR3 := Lib.hid hr3
      clear hc0 hnw hr3 hp HH2 HR2
      simp only [fltV]
      have g0 := cell_of (o := 0) HH3.out rfl
      have g1 := cell_of (o := 1) HH3.out rfl
      have g2 := cell_of (o := 2) HH3.out rfl
      have gf := fun o => free_of HH3.out o
      have HY := Lib.hid (three_heap HH3.out (.int .i64 c) (.int .i64 0) (.int .i64 11))
      have HKS := Lib.hid (three_sets w3 rb (.int .i64 c) (.int .i64 0) (.int .i64 11))
      have HRW : Hid (RRep B (((w3.setCell ⟨rb, 0, none⟩ (.int .i64 c)).setCell ⟨rb, 1, none⟩ (.int .i64 0)).setCell ⟨rb, 2, none⟩ (.int .i64 11)) R) := HR3.out.kept HKS.out (fun b hb hf => HR3.out.not_foot HH3.out (by decide) (by decide) (by decide) (by decide) (by rw [← hf]; exact hb))
      have HKW : Hid (Kept R.foot w (((w3.setCell ⟨rb, 0, none⟩ (.int .i64 c)).setCell ⟨rb, 1, none⟩ (.int .i64 0)).setCell ⟨rb, 2, none⟩ (.int .i64 11))) := HK3.out.trans HKS.out (fun b h => .inr (by rw [h]; exact HRBL.out))
      go_wp2_with fail
      clear g0 g1 g2 gf
      generalize ((w3.setCell ⟨rb, 0, none⟩ (.int .i64 c)).setCell ⟨rb, 1, none⟩ (.int .i64 0)).setCell ⟨rb, 2, none⟩ (.int .i64 11) = W at *
      have r0 := cell_of (o := 0) HY.out rfl
      have r1 := cell_of (o := 1) HY.out rfl
      have r2 := cell_of (o := 2) HY.out rfl
      refine bodyPost_ret (v := fltV c) ?_ rfl ⟨HKW.out, .inl ⟨c, HC0.out, rfl, HRW.out, .inr (.inr (.inr (.inr (.inl ⟨HACT.out, HNW.out⟩))))⟩⟩
      simp [results, Tryz.results40, go_sem, r0, r1, r2, fltV]
    · have HR3 := Lib.hid hr3
      have HWR := Lib.hid hwr
      have HTB := Lib.hid htb
      have HFR : Hid (RFresh w.heap.size R R') := hfr.mono HK2.out.size
      clear hr3 htb hfr hwr hp HH2 HR2
      simp only [flt0]
      have g0 := cell_of (o := 0) HH3.out rfl
      have g1 := cell_of (o := 1) HH3.out rfl
      have g2 := cell_of (o := 2) HH3.out rfl
      have gf := fun o => free_of HH3.out o
      have HY := Lib.hid (three_heap HH3.out (.int .i64 0) (.int .i64 0) (.int .i64 0))
      have HKS := Lib.hid (three_sets w3 rb (.int .i64 0) (.int .i64 0) (.int .i64 0))
      have HRW : Hid (RRep B (((w3.setCell ⟨rb, 0, none⟩ (.int .i64 0)).setCell ⟨rb, 1, none⟩ (.int .i64 0)).setCell ⟨rb, 2, none⟩ (.int .i64 0)) R') := HR3.out.kept HKS.out (fun b hb hf => HR3.out.not_foot HH3.out (by decide) (by decide) (by decide) (by decide) (by rw [← hf]; exact hb))
      have HKW : Hid (Kept R.foot w (((w3.setCell ⟨rb, 0, none⟩ (.int .i64 0)).setCell ⟨rb, 1, none⟩ (.int .i64 0)).setCell ⟨rb, 2, none⟩ (.int .i64 0))) := HK3.out.trans HKS.out (fun b h => .inr (by rw [h]; exact HRBL.out))
      go_wp2_with fail
      clear g0 g1 g2 gf
      generalize ((w3.setCell ⟨rb, 0, none⟩ (.int .i64 0)).setCell ⟨rb, 1, none⟩ (.int .i64 0)).setCell ⟨rb, 2, none⟩ (.int .i64 0) = W at *
      have r0 := cell_of (o := 0) HY.out rfl
      have r1 := cell_of (o := 1) HY.out rfl
      have r2 := cell_of (o := 2) HY.out rfl
      refine bodyPost_ret (v := flt0) ?_ rfl ⟨HKW.out, .inr ⟨rfl, R', HRW.out, HTB.out, HFR.out, .inr (.inr (.inr (.inr (.inl ⟨HACT.out, HWR.out⟩))))⟩⟩
      simp [results, Tryz.results40, go_sem, r0, r1, r2, flt0]
  · have HACT : Hid (o.act = 5) := HA.out.symm
    go_wp2_with fail
    refine (ref_open o.path 1 w2 HR2.out HRB.out HL.out HN.out HSZ.out HDO.out).mono ?_
    intro e w3 hp
    have HK3 : Hid (Kept R.foot w w3) := HK2.out.trans hp.kept (fun b h => .inl h)
    have HH3 : Hid (w3.heap[rb]? = some (.cells #[.int .i64 0, .int .i64 0, .int .i64 0] 56 (0, 0))) := (hp.kept.block _ (lt_of_heap HH2.out) (HR2.out.not_foot HH2.out (by decide) (by decide) (by decide) (by decide))).trans HH2.out
    rcases hp.case with ⟨c, hc0, rfl, hr3, hnw⟩ | ⟨k, d, R', rfl, hr3, htb, hfr, hif, hwr⟩
    · have HC0 := Lib.hid hc0
      have HNW : Hid (NoWrite R o.path [] false c) := by
        rcases hnw with ⟨_, h0, h1, h2⟩ | ⟨h, _⟩ | ⟨h, h2⟩ | ⟨h, h2⟩
        all_goals first | exact h2 | (exfalso; omega)
      have HR3 := Lib.hid hr3
      clear hc0 hnw hr3 hp HH2 HR2
      simp only [fltV]
      obtain ⟨w4, hw4⟩ : ∃ w4, w4 = w3.alloc (.cells #[.int .i64 c, .int .i64 0, .int .i64 11] 56) := ⟨_, rfl⟩
      have HW4 := Lib.hid hw4
      have hb4 : Below w3.heap.size w3 w4 := by rw [hw4]; exact below_alloc w3 _
      have HF4 : Hid (w4.heap[w3.heap.size]? = some (.cells #[.int .i64 c, .int .i64 0, .int .i64 11] 56 (0, 0))) := by rw [hw4]; exact heap_alloc_new w3 _
      have HH4 : Hid (w4.heap[rb]? = some (.cells #[.int .i64 0, .int .i64 0, .int .i64 0] 56 (0, 0))) := below_heap hb4 (lt_of_heap HH3.out) HH3.out
      have HR4 := Lib.hid (HR3.out.below hb4)
      have HK4 : Hid (Kept R.foot w w4) := HK3.out.then_below hb4
      clear hw4 hb4
      go_upto_region 12 with fail
      rw [← HW4.out]
      clear HW4 HR3 HH3 HK3
      generalize w3.heap.size = fb at *
      have f0 := cell_of (o := 0) HF4.out rfl
      have f1 := cell_of (o := 1) HF4.out rfl
      have f2 := cell_of (o := 2) HF4.out rfl
      have g0 := cell_of (o := 0) HH4.out rfl
      have g1 := cell_of (o := 1) HH4.out rfl
      have g2 := cell_of (o := 2) HH4.out rfl
      have gf := fun o => free_of HH4.out o
      have HY := Lib.hid (three_heap HH4.out (.int .i64 c) (.int .i64 0) (.int .i64 11))
      have HKS := Lib.hid (three_sets w4 rb (.int .i64 c) (.int .i64 0) (.int .i64 11))
      have HRW : Hid (RRep B (((w4.setCell ⟨rb, 0, none⟩ (.int .i64 c)).setCell ⟨rb, 1, none⟩ (.int .i64 0)).setCell ⟨rb, 2, none⟩ (.int .i64 11)) R) := HR4.out.kept HKS.out (fun b hb hf => HR4.out.not_foot HH4.out (by decide) (by decide) (by decide) (by decide) (by rw [← hf]; exact hb))
      have HKW : Hid (Kept R.foot w (((w4.setCell ⟨rb, 0, none⟩ (.int .i64 c)).setCell ⟨rb, 1, none⟩ (.int .i64 0)).setCell ⟨rb, 2, none⟩ (.int .i64 11))) := HK4.out.trans HKS.out (fun b h => .inr (by rw [h]; exact HRBL.out))
      go_wp2_with fail
      clear g0 g1 g2 gf
      generalize ((w4.setCell ⟨rb, 0, none⟩ (.int .i64 c)).setCell ⟨rb, 1, none⟩ (.int .i64 0)).setCell ⟨rb, 2, none⟩ (.int .i64 11) = W at *
      have r0 := cell_of (o := 0) HY.out rfl
      have r1 := cell_of (o := 1) HY.out rfl
      have r2 := cell_of (o := 2) HY.out rfl
      refine bodyPost_ret (v := fltV c) ?_ rfl ⟨HKW.out, .inl ⟨c, HC0.out, rfl, HRW.out, .inr (.inr (.inr (.inr (.inr (.inl ⟨HACT.out, HNW.out⟩)))))⟩⟩
      simp [results, Tryz.results40, go_sem, r0, r1, r2, fltV]
    · have HWR : Hid (Wrote R R' o.path [] false) := by
        rcases hwr with ⟨h, _⟩ | ⟨h, h2⟩ | ⟨h, h2⟩
        all_goals first | exact h2 | (exfalso; omega)
      have HTB := Lib.hid htb
      have HFR : Hid (RFresh w.heap.size R R') := hfr.mono HK2.out.size
      have HR3 := Lib.hid hr3
      clear hwr hr3 htb hfr hif hp HH2 HR2
      simp only [flt0]
      obtain ⟨w4, hw4⟩ : ∃ w4, w4 = w3.alloc (.cells #[.int .i64 0, .int .i64 0, .int .i64 0] 56) := ⟨_, rfl⟩
      have HW4 := Lib.hid hw4
      have hb4 : Below w3.heap.size w3 w4 := by rw [hw4]; exact below_alloc w3 _
      have HF4 : Hid (w4.heap[w3.heap.size]? = some (.cells #[.int .i64 0, .int .i64 0, .int .i64 0] 56 (0, 0))) := by rw [hw4]; exact heap_alloc_new w3 _
      have HH4 : Hid (w4.heap[rb]? = some (.cells #[.int .i64 0, .int .i64 0, .int .i64 0] 56 (0, 0))) := below_heap hb4 (lt_of_heap HH3.out) HH3.out
      have HR4 := Lib.hid (HR3.out.below hb4)
      have HK4 : Hid (Kept R.foot w w4) := HK3.out.then_below hb4
      clear hw4 hb4
      go_upto_region 12 with fail
      rw [← HW4.out]
      clear HW4 HR3 HH3 HK3
      generalize w3.heap.size = fb at *
      have f0 := cell_of (o := 0) HF4.out rfl
      have f1 := cell_of (o := 1) HF4.out rfl
      have f2 := cell_of (o := 2) HF4.out rfl
      have g0 := cell_of (o := 0) HH4.out rfl
      have g1 := cell_of (o := 1) HH4.out rfl
      have g2 := cell_of (o := 2) HH4.out rfl
      have gf := fun o => free_of HH4.out o
      have HY := Lib.hid (three_heap HH4.out (.int .i64 0) (.int .i64 0) (.int .i64 0))
      have HKS := Lib.hid (three_sets w4 rb (.int .i64 0) (.int .i64 0) (.int .i64 0))
      have HRW : Hid (RRep B (((w4.setCell ⟨rb, 0, none⟩ (.int .i64 0)).setCell ⟨rb, 1, none⟩ (.int .i64 0)).setCell ⟨rb, 2, none⟩ (.int .i64 0)) R') := HR4.out.kept HKS.out (fun b hb hf => HR4.out.not_foot HH4.out (by decide) (by decide) (by decide) (by decide) (by rw [← hf]; exact hb))
      have HKW : Hid (Kept R.foot w (((w4.setCell ⟨rb, 0, none⟩ (.int .i64 0)).setCell ⟨rb, 1, none⟩ (.int .i64 0)).setCell ⟨rb, 2, none⟩ (.int .i64 0))) := HK4.out.trans HKS.out (fun b h => .inr (by rw [h]; exact HRBL.out))
      go_wp2_with fail
      clear g0 g1 g2 gf
      generalize ((w4.setCell ⟨rb, 0, none⟩ (.int .i64 0)).setCell ⟨rb, 1, none⟩ (.int .i64 0)).setCell ⟨rb, 2, none⟩ (.int .i64 0) = W at *
      have r0 := cell_of (o := 0) HY.out rfl
      have r1 := cell_of (o := 1) HY.out rfl
      have r2 := cell_of (o := 2) HY.out rfl
      refine bodyPost_ret (v := flt0) ?_ rfl ⟨HKW.out, .inr ⟨rfl, R', HRW.out, HTB.out, HFR.out, .inr (.inr (.inr (.inr (.inr (.inl ⟨HACT.out, HWR.out⟩)))))⟩⟩
      simp [results, Tryz.results40, go_sem, r0, r1, r2, flt0]
  · have HACT : Hid (o.act = 6) := HA.out.symm
    go_wp2_with fail
    refine (ref_open o.path 2 w2 HR2.out HRB.out HL.out HN.out HSZ.out HDO.out).mono ?_
    intro e w3 hp
    have HK3 : Hid (Kept R.foot w w3) := HK2.out.trans hp.kept (fun b h => .inl h)
    have HH3 : Hid (w3.heap[rb]? = some (.cells #[.int .i64 0, .int .i64 0, .int .i64 0] 56 (0, 0))) := (hp.kept.block _ (lt_of_heap HH2.out) (HR2.out.not_foot HH2.out (by decide) (by decide) (by decide) (by decide))).trans HH2.out
    rcases hp.case with ⟨c, hc0, rfl, hr3, hnw⟩ | ⟨k, d, R', rfl, hr3, htb, hfr, hif, hwr⟩
    · have HC0 := Lib.hid hc0
      have HNW : Hid (NoWrite R o.path [] true c) := by
        rcases hnw with ⟨_, h0, h1, h2⟩ | ⟨h, _⟩ | ⟨h, h2⟩ | ⟨h, h2⟩
        all_goals first | exact h2 | (exfalso; omega)
      have HR3 := Lib.hid hr3
      clear hc0 hnw hr3 hp HH2 HR2
      simp only [fltV]
      obtain ⟨w4, hw4⟩ : ∃ w4, w4 = w3.alloc (.cells #[.int .i64 c, .int .i64 0, .int .i64 11] 56) := ⟨_, rfl⟩
      have HW4 := Lib.hid hw4
      have hb4 : Below w3.heap.size w3 w4 := by rw [hw4]; exact below_alloc w3 _
      have HF4 : Hid (w4.heap[w3.heap.size]? = some (.cells #[.int .i64 c, .int .i64 0, .int .i64 11] 56 (0, 0))) := by rw [hw4]; exact heap_alloc_new w3 _
      have HH4 : Hid (w4.heap[rb]? = some (.cells #[.int .i64 0, .int .i64 0, .int .i64 0] 56 (0, 0))) := below_heap hb4 (lt_of_heap HH3.out) HH3.out
      have HR4 := Lib.hid (HR3.out.below hb4)
      have HK4 : Hid (Kept R.foot w w4) := HK3.out.then_below hb4
      clear hw4 hb4
      go_upto_region 12 with fail
      rw [← HW4.out]
      clear HW4 HR3 HH3 HK3
      generalize w3.heap.size = fb at *
      have f0 := cell_of (o := 0) HF4.out rfl
      have f1 := cell_of (o := 1) HF4.out rfl
      have f2 := cell_of (o := 2) HF4.out rfl
      have g0 := cell_of (o := 0) HH4.out rfl
      have g1 := cell_of (o := 1) HH4.out rfl
      have g2 := cell_of (o := 2) HH4.out rfl
      have gf := fun o => free_of HH4.out o
      have HY := Lib.hid (three_heap HH4.out (.int .i64 c) (.int .i64 0) (.int .i64 11))
      have HKS := Lib.hid (three_sets w4 rb (.int .i64 c) (.int .i64 0) (.int .i64 11))
      have HRW : Hid (RRep B (((w4.setCell ⟨rb, 0, none⟩ (.int .i64 c)).setCell ⟨rb, 1, none⟩ (.int .i64 0)).setCell ⟨rb, 2, none⟩ (.int .i64 11)) R) := HR4.out.kept HKS.out (fun b hb hf => HR4.out.not_foot HH4.out (by decide) (by decide) (by decide) (by decide) (by rw [← hf]; exact hb))
      have HKW : Hid (Kept R.foot w (((w4.setCell ⟨rb, 0, none⟩ (.int .i64 c)).setCell ⟨rb, 1, none⟩ (.int .i64 0)).setCell ⟨rb, 2, none⟩ (.int .i64 11))) := HK4.out.trans HKS.out (fun b h => .inr (by rw [h]; exact HRBL.out))
      go_wp2_with fail
      clear g0 g1 g2 gf
      generalize ((w4.setCell ⟨rb, 0, none⟩ (.int .i64 c)).setCell ⟨rb, 1, none⟩ (.int .i64 0)).setCell ⟨rb, 2, none⟩ (.int .i64 11) = W at *
      have r0 := cell_of (o := 0) HY.out rfl
      have r1 := cell_of (o := 1) HY.out rfl
      have r2 := cell_of (o := 2) HY.out rfl
      refine bodyPost_ret (v := fltV c) ?_ rfl ⟨HKW.out, .inl ⟨c, HC0.out, rfl, HRW.out, .inr (.inr (.inr (.inr (.inr (.inr (⟨HACT.out, HNW.out⟩))))))⟩⟩
      simp [results, Tryz.results40, go_sem, r0, r1, r2, fltV]
    · have HWR : Hid (Wrote R R' o.path [] true) := by
        rcases hwr with ⟨h, _⟩ | ⟨h, h2⟩ | ⟨h, h2⟩
        all_goals first | exact h2 | (exfalso; omega)
      have HTB := Lib.hid htb
      have HFR : Hid (RFresh w.heap.size R R') := hfr.mono HK2.out.size
      have HR3 := Lib.hid hr3
      clear hwr hr3 htb hfr hif hp HH2 HR2
      simp only [flt0]
      obtain ⟨w4, hw4⟩ : ∃ w4, w4 = w3.alloc (.cells #[.int .i64 0, .int .i64 0, .int .i64 0] 56) := ⟨_, rfl⟩
      have HW4 := Lib.hid hw4
      have hb4 : Below w3.heap.size w3 w4 := by rw [hw4]; exact below_alloc w3 _
      have HF4 : Hid (w4.heap[w3.heap.size]? = some (.cells #[.int .i64 0, .int .i64 0, .int .i64 0] 56 (0, 0))) := by rw [hw4]; exact heap_alloc_new w3 _
      have HH4 : Hid (w4.heap[rb]? = some (.cells #[.int .i64 0, .int .i64 0, .int .i64 0] 56 (0, 0))) := below_heap hb4 (lt_of_heap HH3.out) HH3.out
      have HR4 := Lib.hid (HR3.out.below hb4)
      have HK4 : Hid (Kept R.foot w w4) := HK3.out.then_below hb4
      clear hw4 hb4
      go_upto_region 12 with fail
      rw [← HW4.out]
      clear HW4 HR3 HH3 HK3
      generalize w3.heap.size = fb at *
      have f0 := cell_of (o := 0) HF4.out rfl
      have f1 := cell_of (o := 1) HF4.out rfl
      have f2 := cell_of (o := 2) HF4.out rfl
      have g0 := cell_of (o := 0) HH4.out rfl
      have g1 := cell_of (o := 1) HH4.out rfl
      have g2 := cell_of (o := 2) HH4.out rfl
      have gf := fun o => free_of HH4.out o
      have HY := Lib.hid (three_heap HH4.out (.int .i64 0) (.int .i64 0) (.int .i64 0))
      have HKS := Lib.hid (three_sets w4 rb (.int .i64 0) (.int .i64 0) (.int .i64 0))
      have HRW : Hid (RRep B (((w4.setCell ⟨rb, 0, none⟩ (.int .i64 0)).setCell ⟨rb, 1, none⟩ (.int .i64 0)).setCell ⟨rb, 2, none⟩ (.int .i64 0)) R') := HR4.out.kept HKS.out (fun b hb hf => HR4.out.not_foot HH4.out (by decide) (by decide) (by decide) (by decide) (by rw [← hf]; exact hb))
      have HKW : Hid (Kept R.foot w (((w4.setCell ⟨rb, 0, none⟩ (.int .i64 0)).setCell ⟨rb, 1, none⟩ (.int .i64 0)).setCell ⟨rb, 2, none⟩ (.int .i64 0))) := HK4.out.trans HKS.out (fun b h => .inr (by rw [h]; exact HRBL.out))
      go_wp2_with fail
      clear g0 g1 g2 gf
      generalize ((w4.setCell ⟨rb, 0, none⟩ (.int .i64 0)).setCell ⟨rb, 1, none⟩ (.int .i64 0)).setCell ⟨rb, 2, none⟩ (.int .i64 0) = W at *
      have r0 := cell_of (o := 0) HY.out rfl
      have r1 := cell_of (o := 1) HY.out rfl
      have r2 := cell_of (o := 2) HY.out rfl
      refine bodyPost_ret (v := flt0) ?_ rfl ⟨HKW.out, .inr ⟨rfl, R', HRW.out, HTB.out, HFR.out, .inr (.inr (.inr (.inr (.inr (.inr (⟨HACT.out, HWR.out⟩))))))⟩⟩
      simp [results, Tryz.results40, go_sem, r0, r1, r2, flt0]
end
end Go.Proofs.YtjhojohjegkinaaGreatDoor
