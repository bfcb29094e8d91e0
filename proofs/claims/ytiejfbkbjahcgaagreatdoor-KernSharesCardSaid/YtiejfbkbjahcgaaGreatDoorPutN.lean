/-
  put of a file that is new; no bytes may lie anywhere.
-/
import Derived.Test.YtiejfbkbjahcgaaGreatDoorPutNew
import Derived.Test.YtiejfbkbjahcgaaGreatDoorPut
import Derived.Test.YtiejfbkbjahcgaaGreatDoorMaps
import Derived.Test.YtiejfbkbjahcgaaGreatDoorOps
namespace Go.Proofs.YtiejfbkbjahcgaaGreatDoor
open Go Go.RowKit

theorem Src.kept0 {w w' : World} {s : Value} {l : List UInt8} {F : Nat → Prop} (h : Src w s l) (k : Kept F w w') (hF : 0 < l.length → ∀ b, s.ownBlock = some b → ¬ F b) : Src w' s l := by
  by_cases h0 : 0 < l.length
  · exact h.kept k (hF h0)
  · rcases h with h | ⟨ad, c, rfl, hc, _⟩
    · exact .inl h
    · exact .inr ⟨ad, c, rfl, hc, fun j hj => absurd hj (by omega)⟩

set_option maxRecDepth 100000 in
set_option maxHeartbeats 4000000 in
theorem put_new0 {E : Nat → Addr} {B : Nat} {T : Tr} (p : ByteArray) (bv : Value) (b : List UInt8) (add : Bool) (w : World) (hE : Ctx E B w) (hR : Rep B w T) (hsz : p.size ≤ 9223372036854775807) (s : Spot) (hf : T.find p = .ok s)
    (hk : s.n = none) (hfull : T.count < 200) (hcnt : 0 ≤ T.count) (hck0 : 0 ≤ T.clock) (hck : T.clock ≤ 1152921504606846976) (hb : Src w bv b) (hbf : 0 < b.length → ∀ x, bv.ownBlock = some x → ¬ T.foot x) (hbl : b.length ≤ 65536)
    (i : Nat) (di : Nd) (hi : s.inn = some i) (hdi : T.nd i = some di) (hdir : di.dir = true) (hlk : look di.names s.name = none) :
    Calls Tryz.prog 75 #[.pointer (some ⟨T.tb, 0, none⟩), .string p, bv, .bool add] w fun e w' => PutNew B w T i di s.name b e w' := by
  have HF := find_any p w hE hR hsz
  rw [hf] at HF
  have HC : Hid (Calls Tryz.prog 73 #[.pointer (some ⟨T.tb, 0, none⟩), .string p] w fun e w' => FindPost E w (.ok s) e w') := HF
  have HE : Hid (Ctx E B w) := hE
  have HR : Hid (Rep B w T) := hR
  have HK : Hid (s.n = none) := hk
  have HI : Hid (s.inn = some i) := hi
  have HDI : Hid (T.nd i = some di) := hdi
  have HDIR : Hid (di.dir = true) := hdir
  have HLK : Hid (look di.names s.name = none) := hlk
  have HS : Hid (Src w bv b) := hb
  have HSF : Hid (0 < b.length → ∀ x, bv.ownBlock = some x → ¬ T.foot x) := hbf
  have hbv : ∃ ba bc, bv = .slice ba b.length bc := by
    rcases hb with ⟨h1, h2⟩ | ⟨ad, c, h1, _⟩
    · exact ⟨none, 0, by rw [h1, h2]; rfl⟩
    · exact ⟨_, _, h1⟩
  obtain ⟨ba, bc, rfl⟩ := hbv
  clear HF hE hR hf hk hi hdi hdir hlk hb hbf
  go_enter Tryz.func75, Tryz.ntmps75
  go_wp2_with fail
  refine HC.out.mono ?_
  rintro e w1 ⟨hb, rfl⟩
  have HB : Hid (Below w.heap.size w w1) := hb
  have HRP : Hid (Rep B w1 T) := HR.out.below HB.out
  clear hb
  obtain ⟨inn, nm, nn⟩ := s
  obtain rfl : nn = none := HK.out
  obtain rfl : inn = some i := HI.out
  simp only [spotV, ptrV_none, ptrV_some]
  have htl : T.tb < w1.heap.size := HRP.out.lt (.inl rfl)
  have hil : i < w1.heap.size := HRP.out.lt (.inr (.inl ⟨di, HDI.out⟩))
  have HNI : Hid (NodeAt B w1 i di) := HRP.out.node i di HDI.out
  have hc2 : w1.cell? ⟨T.tb, 2, none⟩ = some (.int .i64 T.count) := cell_of HRP.out.tree rfl
  have hmi : w1.cell? ⟨i, 2, none⟩ = some (.map (some di.mb)) := by
    have h1 : w1.cell? ⟨i, 2, none⟩ = some (mapV di) := cell_of HNI.out.cells rfl
    rw [h1]; simp [mapV, HDIR.out]
  generalize hcc : T.count = cnt at *
  have HCC : Hid (T.count = cnt) := hcc
  clear hcc
  have HWM : Hid (MapAt ((w1.alloc (.cells #[.pointer (some ⟨i, 0, none⟩), .string nm, .pointer none] 141)).alloc (.cells #[.bool false, .slice none 0 0, .map none, .int .i64 1, .int .i64 0] 132)).drew di.mb di.names) :=
    (HNI.out.map HDIR.out).kept (Kept.of_below ((below_trans (below_alloc w1 _) (below_alloc _ _)).drew) (fun _ => False)) (fun hf => hf)
  obtain ⟨w2, hrun, hm2, hk2⟩ := run_update_names HWM.out nm HLK.out (w1.heap.size + 1)
  have HM2 : Hid (MapAt w2 di.mb (di.names ++ [(nm, w1.heap.size + 1)])) := hm2
  have HK2 : Hid (Kept (fun b => b = di.mb) ((w1.alloc (.cells #[.pointer (some ⟨i, 0, none⟩), .string nm, .pointer none] 141)).alloc (.cells #[.bool false, .slice none 0 0, .map none, .int .i64 1, .int .i64 0] 132)).drew w2) := hk2
  clear hm2 hk2
  go_wp2_with fail
  go_region
  clear hrun
  have HES : Hid (∃ es ck, w1.heap[di.mb]? = some (.map es ck)) := let ⟨es, ck, h, _⟩ := HNI.out.map HDIR.out; ⟨es, ck, h⟩
  have HT2 : Hid (w2.heap[T.tb]? = some (.cells #[ptrV (some T.root), .int .i64 T.clock, .int .i64 cnt] 139 (0, 0))) := by
    obtain ⟨es, ck, hes⟩ := HES.out
    show w2.heap[T.tb]? = _
    rw [HK2.out.block T.tb (by simp; omega) (cells_ne_map HRP.out.tree hes), heap_drew, Below.heap_alloc _ _ _ (by simp; omega), Below.heap_alloc _ _ _ htl, ← HCC.out]
    exact HRP.out.tree
  have HI2 : Hid (w2.heap[i]? = some (.cells #[.bool di.dir, di.bv, mapV di, .int .i64 di.links, .int .i64 di.tick] 132 (0, 0))) := by
    obtain ⟨es, ck, hes⟩ := HES.out
    show w2.heap[i]? = _
    rw [HK2.out.block i (by simp; omega) (cells_ne_map HNI.out.cells hes), heap_drew, Below.heap_alloc _ _ _ (by simp; omega), Below.heap_alloc _ _ _ hil]
    exact HNI.out.cells
  have HS2 : Hid (w2.heap[w1.heap.size]? = some (.cells #[.pointer (some ⟨i, 0, none⟩), .string nm, .pointer none] 141 (0, 0))) := by
    obtain ⟨es, ck, hes⟩ := HES.out
    show w2.heap[w1.heap.size]? = _
    have := lt_of_heap hes
    rw [HK2.out.block _ (by simp; omega) (by omega), heap_drew, Below.heap_alloc _ _ _ (by simp)]
    exact heap_alloc_new w1 _
  have HN2 : Hid (w2.heap[w1.heap.size + 1]? = some (.cells #[.bool false, .slice none 0 0, .map none, .int .i64 1, .int .i64 0] 132 (0, 0))) := by
    obtain ⟨es, ck, hes⟩ := HES.out
    show w2.heap[w1.heap.size + 1]? = _
    have := lt_of_heap hes
    rw [HK2.out.block _ (by simp) (by omega), heap_drew]
    have h := heap_alloc_new (w1.alloc (.cells #[.pointer (some ⟨i, 0, none⟩), .string nm, .pointer none] 141)) (.cells #[.bool false, .slice none 0 0, .map none, .int .i64 1, .int .i64 0] 132)
    simpa using h
  have HSZ2 : Hid (w1.heap.size + 2 ≤ w2.heap.size) := by have := HK2.out.size; simp at this; exact this
  have HKA : Hid (Kept (fun x => x = T.tb ∨ x = i ∨ x = di.mb) w w2) := by
    refine (((Kept.of_below HB.out (fun x => x = T.tb ∨ x = i ∨ x = di.mb)).alloc _).alloc _).drew.trans HK2.out ?_
    rintro x rfl
    exact .inl (.inr (.inr rfl))
  have HNEs : Hid (T.tb ≠ i ∧ T.tb < w1.heap.size ∧ i < w1.heap.size) := ⟨cells_ne_type HRP.out.tree HNI.out.cells (by decide), htl, hil⟩
  clear hc2 hmi HWM HK2
  have h20 : w2.cell? ⟨T.tb, 2, none⟩ = some (.int .i64 cnt) := cell_of HT2.out rfl
  have f20 : ∀ o, w2.frozen? ⟨T.tb, o, none⟩ = false := fun o => free_of HT2.out o
  have g20 : w2.cell? ⟨w1.heap.size, 0, none⟩ = some (.pointer (some ⟨i, 0, none⟩)) := cell_of HS2.out rfl
  have n1 : w1.heap.size ≠ T.tb := by omega
  have n2 : T.tb < w2.heap.size := lt_of_heap HT2.out
  have n3 : w1.heap.size < w2.heap.size := lt_of_heap HS2.out
  go_wp2_with fail
  have HT3 : Hid (((w2.setCell ⟨T.tb, 2, none⟩ (.int .i64 (cnt + 1))).alloc (.cells #[.pointer (some ⟨w1.heap.size + 1, 0, none⟩), .pointer (some ⟨i, 0, none⟩)] 128)).heap[T.tb]? = some (.cells #[ptrV (some T.root), .int .i64 T.clock, .int .i64 (cnt + 1)] 139 (0, 0))) := by
    show _ = _
    rw [Below.heap_alloc _ _ _ (by simp [World.setCell]; omega)]
    exact heap_set_same HT2.out 2 _
  have HI3 : Hid (((w2.setCell ⟨T.tb, 2, none⟩ (.int .i64 (cnt + 1))).alloc (.cells #[.pointer (some ⟨w1.heap.size + 1, 0, none⟩), .pointer (some ⟨i, 0, none⟩)] 128)).heap[i]? = some (.cells #[.bool di.dir, di.bv, mapV di, .int .i64 di.links, .int .i64 di.tick] 132 (0, 0))) := by
    show _ = _
    have h1 := HNEs.out
    rw [Below.heap_alloc _ _ _ (by simp [World.setCell]; omega), heap_set_other _ _ _ (Ne.symm HNEs.out.1)]
    exact HI2.out
  have HN3 : Hid (((w2.setCell ⟨T.tb, 2, none⟩ (.int .i64 (cnt + 1))).alloc (.cells #[.pointer (some ⟨w1.heap.size + 1, 0, none⟩), .pointer (some ⟨i, 0, none⟩)] 128)).heap[w1.heap.size + 1]? = some (.cells #[.bool false, .slice none 0 0, .map none, .int .i64 1, .int .i64 0] 132 (0, 0))) := by
    show _ = _
    have h1 := HNEs.out
    have h2 := HSZ2.out
    rw [Below.heap_alloc _ _ _ (by simp [World.setCell]; omega), heap_set_other _ _ _ (by show w1.heap.size + 1 ≠ T.tb; omega)]
    exact HN2.out
  have HKA3 : Hid (Kept (fun x => x = T.tb ∨ x = i ∨ x = di.mb) w ((w2.setCell ⟨T.tb, 2, none⟩ (.int .i64 (cnt + 1))).alloc (.cells #[.pointer (some ⟨w1.heap.size + 1, 0, none⟩), .pointer (some ⟨i, 0, none⟩)] 128))) :=
    (HKA.out.setCell (p := ⟨T.tb, 2, none⟩) (.inl (.inl rfl)) _).alloc _
  have HS3 : Hid (((w2.setCell ⟨T.tb, 2, none⟩ (.int .i64 (cnt + 1))).alloc (.cells #[.pointer (some ⟨w1.heap.size + 1, 0, none⟩), .pointer (some ⟨i, 0, none⟩)] 128)).heap[w2.heap.size]? = some (.cells #[.pointer (some ⟨w1.heap.size + 1, 0, none⟩), .pointer (some ⟨i, 0, none⟩)] 128 (0, 0))) := by
    have h := heap_alloc_new (w2.setCell ⟨T.tb, 2, none⟩ (.int .i64 (cnt + 1))) (.cells #[.pointer (some ⟨w1.heap.size + 1, 0, none⟩), .pointer (some ⟨i, 0, none⟩)] 128)
    have e : (w2.setCell ⟨T.tb, 2, none⟩ (.int .i64 (cnt + 1))).heap.size = w2.heap.size := by simp [World.setCell]
    rw [e] at h
    exact h
  have HM3 : Hid (MapAt ((w2.setCell ⟨T.tb, 2, none⟩ (.int .i64 (cnt + 1))).alloc (.cells #[.pointer (some ⟨w1.heap.size + 1, 0, none⟩), .pointer (some ⟨i, 0, none⟩)] 128)) di.mb (di.names ++ [(nm, w1.heap.size + 1)])) := by
    obtain ⟨es, ck, h1, h2⟩ := HM2.out
    refine ⟨es, ck, ?_, h2⟩
    rw [Below.heap_alloc _ _ _ (by simp [World.setCell]; exact lt_of_heap h1), heap_set_other _ _ _ (Ne.symm (cells_ne_map HT2.out h1))]
    exact h1
  have HSZ3 : Hid (w1.heap.size + 2 ≤ ((w2.setCell ⟨T.tb, 2, none⟩ (.int .i64 (cnt + 1))).alloc (.cells #[.pointer (some ⟨w1.heap.size + 1, 0, none⟩), .pointer (some ⟨i, 0, none⟩)] 128)).heap.size) := by
    have := HSZ2.out
    show _ ≤ _
    simp [World.setCell]
    omega
  refine (tick2 hck0 hck HT3.out HN3.out HI3.out HS3.out (by have := HNEs.out; omega)).mono ?_
  intro e w4 hp
  obtain ⟨rfl, hT4, hN4, hI4, hK4⟩ := hp
  have HT4 : Hid (w4.heap[T.tb]? = some (.cells #[ptrV (some T.root), .int .i64 (T.clock + 1), .int .i64 (cnt + 1)] 139 (0, 0))) := hT4
  have HN4 : Hid (w4.heap[w1.heap.size + 1]? = some (.cells #[.bool false, .slice none 0 0, .map none, .int .i64 1, .int .i64 (T.clock + 1)] 132 (0, 0))) := hN4
  have HI4 : Hid (w4.heap[i]? = some (.cells #[.bool di.dir, di.bv, mapV di, .int .i64 di.links, .int .i64 (T.clock + 1)] 132 (0, 0))) := hI4
  have HK4 : Hid (Kept (fun x => x = T.tb ∨ x = i ∨ x = di.mb) w w4) := HKA3.out.trans hK4 (by
    have h1 := HB.out.size
    rintro x (rfl | rfl | rfl)
    · exact .inl (.inl rfl)
    · exact .inr (by omega)
    · exact .inl (.inr (.inl rfl)))
  have HM4 : Hid (MapAt w4 di.mb (di.names ++ [(nm, w1.heap.size + 1)])) := HM3.out.kept hK4 (by
    obtain ⟨es, ck, h1, h2⟩ := HM3.out
    rintro (h | h | h)
    · exact cells_ne_map HT3.out h1 h.symm
    · exact cells_ne_map HN3.out h1 h.symm
    · exact cells_ne_map HI3.out h1 h.symm)
  have HSZ4 : Hid (w1.heap.size + 2 ≤ w4.heap.size) := Nat.le_trans HSZ3.out hK4.size
  clear hT4 hN4 hI4 hK4 HT3 HN3 HI3 HS3 HKA3 HM3 HSZ3 HT2 HI2 HS2 HN2 HSZ2 HKA HM2 h20 f20 g20 n1 n2 n3
  have h41 : w4.cell? ⟨w1.heap.size + 1, 1, none⟩ = some (.slice none 0 0) := cell_of HN4.out rfl
  have f4 : ∀ o, w4.frozen? ⟨w1.heap.size + 1, o, none⟩ = false := fun o => free_of HN4.out o
  have HS4 : Hid (Src w4 (.slice ba b.length bc) b) := HS.out.kept0 HK4.out (fun h0 x hx hf => HSF.out h0 x hx (by
    rcases hf with rfl | rfl | rfl
    · exact .inl rfl
    · exact .inr (.inl ⟨di, HDI.out⟩)
    · exact .inr (.inr ⟨i, di, HDI.out, .inl ⟨HDIR.out, rfl⟩⟩)))
  go_wp2_with (at_builtin; refine wpList_append_src rfl _ _ rfl w.heap.size (.slice none 0 0) 0 [] rfl (World.ownsRow_nil _ _ _ _) (.slice ba b.length bc) b rfl HS4.out (by omega) HK4.out.size ?_)
  intro v5 w5 hown5 hgrow5
  have HO5 : Hid (w5.ownsRow w.heap.size 5 1 v5 b.length (u8s b)) := hown5
  have HG5 : Hid (Below w4.heap.size w4 w5) := ⟨hgrow5.os, hgrow5.tape, hgrow5.output, hgrow5.size, fun k hk => hgrow5.block k hk (by simp [Value.ownBlock])⟩
  obtain ⟨a5, c5, hv5⟩ := owns_form hown5
  rw [hv5]
  have HV5 : Hid (v5 = .slice a5 b.length c5) := hv5
  clear hown5 hgrow5 hv5
  have h51 : w5.cell? ⟨w1.heap.size + 1, 1, none⟩ = some (.slice none 0 0) := cell_of (below_heap HG5.out (lt_of_heap HN4.out) HN4.out) rfl
  have f5 : ∀ o, w5.frozen? ⟨w1.heap.size + 1, o, none⟩ = false := fun o => free_of (below_heap HG5.out (lt_of_heap HN4.out) HN4.out) o
  go_wp2_with fail
  go_ret2
  have hk6 : Kept (fun x => x = T.tb ∨ x = i ∨ x = di.mb) w (w5.setCell ⟨w1.heap.size + 1, 1, none⟩ (.slice a5 b.length c5)) := by
    refine (HK4.out.then_below HG5.out).setCell (.inr ?_) _
    have := HB.out.size
    show w.heap.size ≤ w1.heap.size + 1
    omega
  have hne := HNEs.out
  have hes := HM4.out
  obtain ⟨es, ck, he1, he2⟩ := hes
  have hkl : w.heap.size ≤ w1.heap.size + 1 := by have := HB.out.size; omega
  have hrep := newFile_rep (b := b) (bv := v5) HR.out HE.out.env.size HDI.out HDIR.out (nm := nm) hkl hk6
    (by rw [heap_set_other _ _ _ (by show T.tb ≠ w1.heap.size + 1; omega), HCC.out]; exact below_heap HG5.out (lt_of_heap HT4.out) HT4.out)
    (by rw [heap_set_other _ _ _ (by show i ≠ w1.heap.size + 1; omega)]; exact below_heap HG5.out (lt_of_heap HI4.out) HI4.out)
    ⟨es, ck, by rw [heap_set_other _ _ _ (Ne.symm (cells_ne_map HN4.out he1))]; exact below_heap HG5.out (lt_of_heap he1) he1, he2⟩
    (by rw [HV5.out]; exact heap_set_same (below_heap HG5.out (lt_of_heap HN4.out) HN4.out) 1 _)
    (ownsRow_kept HO5.out (Kept.setCell (F := fun x => x = w1.heap.size + 1) (Kept.refl _ _) (.inl rfl) _) (by
      intro r hr hf
      obtain ⟨cr, hcr⟩ : ∃ cr, w5.heap[r]? = some (.cells cr 5 (0, 0)) := by
        rcases HO5.out.2 with ⟨q1, _⟩ | ⟨g, cap, cur, q1, _, q2, _⟩
        · rw [q1] at hr; cases hr
        · rw [q1] at hr
          simp only [Value.ownBlock, Option.some.injEq] at hr
          subst hr
          exact ⟨cur, q2⟩
      exact cells_ne_type hcr (below_heap HG5.out (lt_of_heap HN4.out) HN4.out) (by decide) hf))
  refine ⟨w1.heap.size + 1, v5, rfl, hkl, hrep.1, hk6.mono ?_, hrep.2⟩
  rintro x (rfl | rfl | rfl)
  · exact .inl rfl
  · exact .inr (.inl ⟨di, HDI.out⟩)
  · exact .inr (.inr ⟨i, di, HDI.out, .inl ⟨HDIR.out, rfl⟩⟩)
end Go.Proofs.YtiejfbkbjahcgaaGreatDoor
