/-
 The reference's Ints: the same numbers?
 pidginlaw17.awake: true.
-/
import Derived.Test.YteeeaeiafdgpkaaGreatDoorWrA
import Derived.Lib.SlBytesConst
namespace Go.Proofs.YteeeaeiafdgpkaaGreatDoor
open Go Go.RowKit
open Go.Lib (hid)
section
def ISrc (w : World) (s : Value) (l : List Int) : Prop :=
 (s = .slice none 0 0 ∧ l = []) ∨ ∃ ad c, s = .slice (some ad) l.length c ∧ ∀ j (h : j < l.length), w.cell? (ad.add j) = some (.int .i64 l[j])
theorem ISrc.form {w : World} {s : Value} {l : List Int} (h : ISrc w s l) : ∃ a c, s = .slice a l.length c ∧ ∀ j (h : j < l.length), ∃ ad, a = some ad ∧ w.cell? (ad.add j) = some (.int .i64 l[j]) := by
 rcases h with ⟨rfl, rfl⟩ | ⟨ad, c, rfl, h⟩
 ·exact ⟨none, 0, rfl, fun j hj => absurd hj (by simp)⟩
 ·exact ⟨some ad, c, rfl, fun j hj => ⟨ad, rfl, h j hj⟩⟩
theorem ISrc.of_owns {w : World} {base : Nat} {v : Value} {l : List Nat} (h : w.ownsRow base 3 1 v l.length (ints l)) : ISrc w v (l.map fun (n : Nat) => (n : Int)) := by
 rcases h.2 with ⟨rfl, h0⟩ | ⟨g, cap, cur, rfl, r1, r2, r3, _, _, r6⟩
 ·exact .inl ⟨rfl, by rw [List.eq_nil_of_length_eq_zero h0]; rfl⟩
 ·refine .inr ⟨⟨g, 0, none⟩, cap, by simp, fun j hj => ?_⟩
  have hj' : j < l.length := by simpa using hj
  exact h.cells (g := g) rfl j _ (by unfold ints; simp [List.getElem?_eq_getElem hj'])
theorem ISrc.kept {w w' : World} {s : Value} {l : List Int} {F : Nat → Prop} (h : ISrc w s l) (k : Kept F w w') (hF : ∀ b, s.ownBlock = some b → ¬ F b) : ISrc w' s l := by
 rcases h with h | ⟨ad, c, rfl, h⟩
 ·exact .inl h
 ·refine .inr ⟨ad, c, rfl, fun j hj => ?_⟩
  have h1 := h j hj
  have hb : (ad.add j).block = ad.block := by unfold Addr.add; split <;> rfl
  rw [k.cell (p := ad.add j) (World.block_lt_of_cell? _ _ h1) (by rw [hb]; exact hF _ rfl)]
  exact h1
def IPost (w : World) (r : Bool) (e : Ending) (w' : World) : Prop := e = .returned (.bool r) ∧ Below w.heap.size w w'
theorem dropI {l m : List Int} {k : Nat} (hk : k < l.length) (hm : k < m.length) : decide (l.drop k = m.drop k) = (decide (l[k] = m[k]) && decide (l.drop (k + 1) = m.drop (k + 1))) := by
 rw [Bool.eq_iff_iff]
 simp only [decide_eq_true_eq, Bool.and_eq_true]
 rw [List.drop_eq_getElem_cons hk, List.drop_eq_getElem_cons hm, List.cons.injEq]
set_option maxRecDepth 100000 in
set_option maxHeartbeats 1000000 in
theorem ints_any (a b : Value) (l m : List Int) (w : World) (ha : ISrc w a l) (hb : ISrc w b m) (hll : l.length ≤ 4611686018427387904) (hml : m.length ≤ 4611686018427387904) :
  Calls Tryz.prog 17 #[a, b] w fun e w' => IPost w (decide (l = m)) e w' := by
 obtain ⟨aa, ac, rfl, hca⟩ := ha.form
 obtain ⟨ba, bc, rfl, hcb⟩ := hb.form
 clear ha hb
 have HA := hid hca
 have HB := hid hcb
 clear hca hcb
 by_cases hlen : l.length = m.length
 ·have hli : (l.length : Int) = m.length := by omega
  rw [← hlen]
  go_enter Tryz.func17, Tryz.ntmps17
  go_wp2_with fail
  go_loopw [13] (fun idx wr => ∃ k : Nat, k ≤ l.length ∧ idx = .int .i64 k ∧ Hid (decide (l.drop k = m.drop k) = decide (l = m)) ∧ Hid (Below w.heap.size w wr)) (fun idx _ => l.length - (intOf idx).toNat)
  case atStart => exact ⟨0, by omega, rfl, rfl, Below.refl _ _⟩
  case round =>
   obtain ⟨k, hk, rfl, hd, hb⟩ := hrel
   by_cases hlt : k < l.length
   ·have hltm : k < m.length := by omega
    obtain ⟨ad, rfl, hc1⟩ := HA.out k hlt
    obtain ⟨bd, rfl, hc2⟩ := HB.out k hltm
    have hc1 := (hb.out.cell (World.block_lt_of_cell? _ _ hc1)).trans hc1
    have hc2 := (hb.out.cell (World.block_lt_of_cell? _ _ hc2)).trans hc2
    have hki : (k : Int) < l.length := by omega
    by_cases he : l[k] = m[k]
    ·have HD : Hid (decide (l.drop (k + 1) = m.drop (k + 1)) = decide (l = m)) := by
      have h1 := hd.out
      rw [dropI hlt hltm, he] at h1
      show _ = _
      rw [← h1]
      simp
     rw [he] at hc1
     clear he hd
     go_wp2_with fail
     go_region
     all_goals
      go_wp2_with fail
      go_roundw
      case rel => exact ⟨k + 1, by omega, by go_num, HD.out, hb.out.drew⟩
      case measure => simp [intOf]; omega
    ·have HD : Hid (decide (l = m) = false) := by
      have h1 := hd.out
      rw [dropI hlt hltm] at h1
      show _ = _
      rw [← h1]
      simp [he]
     clear hd
     go_wp2_with fail
     go_region
     all_goals
      go_wp2_with fail
      go_ret
      exact ⟨by rw [HD.out]; rfl, hb.out.drew⟩
   ·have HD : Hid (decide (l = m) = true) := by
     have h1 := hd.out
     rw [List.drop_of_length_le (by omega), List.drop_of_length_le (by omega)] at h1
     show _ = _
     rw [← h1]
     simp
    clear hd
    go_wp2_with fail
    go_ret
    exact ⟨by rw [HD.out]; rfl, hb.out⟩
 ·have hli : ¬ (l.length : Int) = m.length := by omega
  have HD : Hid (decide (l = m) = false) := by
   show _ = _
   simp only [decide_eq_false_iff_not]
   rintro rfl
   exact hlen rfl
  go_enter Tryz.func17, Tryz.ntmps17
  go_wp2_with fail
  go_ret
  exact ⟨by rw [HD.out]; rfl, Below.refl _ _⟩
end
section
def zft : ByteArray := ⟨#[102]⟩
theorem clean_f : zbh zft = some [zft] := by kernel_rfl
theorem find_f (tb root mb : Nat) : (zco tb root mb).find zft = .ok ⟨some root, zft, none⟩ := by
 unfold Tr.find
 rw [clean_f]
 show (zco tb root mb).parts [zft] = _
 refine Tr.parts_some ?_
 unfold Tr.start
 exact (Tr.goTo_cons_dir (T := zco tb root mb) (zes tb root mb) rfl none ByteArray.empty zft []).trans rfl
def AwPost (w : World) (e : Ending) (w' : World) : Prop := e = .returned (.bool true) ∧ Below w.heap.size w w'
set_option maxRecDepth 100000 in
set_option maxHeartbeats 1000000 in
theorem awake_any {E : Nat → Addr} {B : Nat} (w : World) (hE : Ctx E B w) :
  Calls Tryz.prog 15 #[] w fun e w' => AwPost w e w' := by
 have HE := hid hE
 have kc := fun (w : World) (C : Array Value) (n c : Nat) => Lib.run_convert_bytes_const (P := Tryz.prog) w 28 5 C n c Tryz.underlying28 Tryz.underlying5
 clear hE
 go_enter Tryz.func15, Tryz.ntmps15
 go_wp2_with fail
 refine (tree_new w).mono ?_
 intro e w1 hp
 obtain ⟨rfl, hrep, hb1, hs1⟩ := hp
 have HR1 : Hid (Rep B w1 (zco (w.heap.size + 2) (w.heap.size + 1) w.heap.size)) := hrep B HE.out.env.size
 have HB1 := hid hb1
 have HN : Hid (Calls Tryz.prog 5 #[.pointer (some ⟨w.heap.size + 2, 0, none⟩), .slice none 0 0] w1 fun e w' => zeb B w1 (zco (w.heap.size + 2) (w.heap.size + 1) w.heap.size) [] e w') :=
  ze3 w1 _ [] (.inl ⟨rfl, rfl⟩) (by simp) (Nat.le_trans HE.out.env.size hb1.size) HR1.out
 clear hrep hb1 hs1
 go_wp2_with fail
 refine HN.out.mono ?_
 intro e w2 hp
 obtain ⟨K, rfl, hK, hT, hfds, hil, hol, hel, hfl, hb2, hown⟩ := hp
 have HK := hid hK
 have HB2 := hid (zaf HB1.out hb2)
 have HO : Hid (Calls Tryz.prog 21 #[.pointer (some ⟨K.kb, 0, none⟩), .string zft, .int .i64 1] w2 fun e w' => KOpenNew B w2 K (w.heap.size + 1) { dir := true, bv := .slice none 0 0, data := [], names := [], mb := w.heap.size, links := 0, tick := 0 } zft 1 3 e w') := by
  refine kopen_new zft 1 (.inl rfl) w2 (HE.out.below HB2.out) HK.out (by decide) ⟨some (w.heap.size + 1), zft, none⟩ (by rw [hT]; exact find_f _ _ _) rfl (by rw [hT]; show (1 : Int) < 200; decide) (by rw [hT]; show (0 : Int) ≤ 1; decide) (by rw [hT]; exact Int.le_refl 0) (by rw [hT]; show (0 : Int) ≤ _; decide) 3 (by rw [hfds]; rfl) (w.heap.size + 1) _ rfl (by rw [hT]; exact zes _ _ _) rfl rfl
 have HT := hid hT
 have HFDS := hid hfds
 have HOWN := hid hown
 clear hK hT hfds hil hol hel hfl hb2 hown
 go_wp2_with fail
 refine HO.out.mono ?_
 intro e w3 hp
 obtain ⟨k, bv, f, b, rfl, hk, hf, hb, hK3, hkp, hft⟩ := hp
 have HK3 := hid hK3
 have HB3 : Hid (Below w.heap.size w w3) := (hkp.below (B := w.heap.size) (fun x hx => by
  rcases hx with hx | hx
  ·exact Nat.le_trans HB1.out.size (HOWN.out x hx)
  ·rw [HT.out] at hx
   rcases newTr_foot hx with rfl | rfl | rfl <;> omega) HB2.out.size) |> fun h => HB2.out.trans h
 have HFT : Hid (∀ x, (K.opened (K.T.newFile (w.heap.size + 1) { dir := true, bv := .slice none 0 0, data := [], names := [], mb := w.heap.size, links := 0, tick := 0 } zft k bv []) 3 b ⟨f, 1, 0, k⟩).foot x → w.heap.size ≤ x) := fun x hx => by
  rcases hft x hx with h | h
  ·rcases h with hx | hx
   ·exact Nat.le_trans HB1.out.size (HOWN.out x hx)
   ·rw [HT.out] at hx
    rcases newTr_foot hx with rfl | rfl | rfl <;> omega
  ·exact Nat.le_trans HB2.out.size h
 have HKW : Hid (KRep B (w3.alloc (.cells #[.int .u8 97, .int .u8 98] 5 (2, 3))) (K.opened (K.T.newFile (w.heap.size + 1) { dir := true, bv := .slice none 0 0, data := [], names := [], mb := w.heap.size, links := 0, tick := 0 } zft k bv []) 3 b ⟨f, 1, 0, k⟩)) := hK3.below (zad _ _)
 have HWR : Hid (Calls Tryz.prog 28 #[.pointer (some ⟨K.kb, 0, none⟩), .int .i64 3, .slice (some ⟨w3.heap.size, 0, none⟩) 2 2] (w3.alloc (.cells #[.int .u8 97, .int .u8 98] 5 (2, 3))) fun e w' =>
   KWPost B (w3.alloc (.cells #[.int .u8 97, .int .u8 98] 5 (2, 3))) (K.opened (K.T.newFile (w.heap.size + 1) { dir := true, bv := .slice none 0 0, data := [], names := [], mb := w.heap.size, links := 0, tick := 0 } zft k bv []) 3 b ⟨f, 1, 0, k⟩) b ⟨f, 1, 0, k⟩ { dir := false, bv := bv, data := [], names := [], mb := 0, links := 1, tick := K.T.clock + 1 } 0 [97, 98] e w') := by
  refine kwrite_file (K := K.opened (K.T.newFile (w.heap.size + 1) { dir := true, bv := .slice none 0 0, data := [], names := [], mb := w.heap.size, links := 0, tick := 0 } zft k bv []) 3 b ⟨f, 1, 0, k⟩) ?_ HKW.out 3 (by decide) b ?_ ⟨f, 1, 0, k⟩ ?_ rfl 0 rfl ?_ ?_ _ ?_ rfl (by simp) [97, 98] (by decide) (by decide) _ ?_ ?_
  ·exact Nat.le_trans HE.out.env.size (Nat.le_trans HB3.out.size (by simp))
  ·show zbx K.fds 3 (some (.file b)) 3 = some (.file b)
   unfold zbx
   rw [if_pos rfl]
  ·show zaz K.fl b ⟨f, 1, 0, k⟩ b = _
   unfold zaz
   rw [if_pos rfl]
  ·show 0 ≤ K.T.clock + 1
   rw [HT.out]
   show (0 : Int) ≤ 0 + 1
   decide
  ·show K.T.clock + 1 ≤ _
   rw [HT.out]
   show (0 : Int) + 1 ≤ _
   decide
  ·exact zdw _ _ _ _ _ _ _
  ·refine .inr ⟨⟨w3.heap.size, 0, none⟩, 2, rfl, by decide, fun j hj => ?_⟩
   have hh := heap_alloc_new w3 (.cells #[.int .u8 97, .int .u8 98] 5 (2, 3))
   match j, hj with
   | 0, _ => exact zaa hh rfl
   | 1, _ => exact zaa hh rfl
  ·intro x hx hf
   simp only [Value.ownBlock, Option.some.injEq] at hx
   subst hx
   have := hK3.lt hf
   omega
 have HUS : Hid (zbk (zbx K.fds 3 (some (.file b))) 16 = [0, 1, 2, 3]) := by
  show _ = _
  rw [HFDS.out]
  rfl
 clear hk hf hb hK3 hkp hft
 go_wp2_with fail
 refine HWR.out.mono ?_
 intro e w4 hp
 obtain ⟨bv2, rfl, hK4, hk4⟩ := hp
 have HU : Hid (Calls Tryz.prog 18 #[.pointer (some ⟨K.kb, 0, none⟩)] w4 fun e w' => UsedOk w4 [0, 1, 2, 3] e w') := by
  have h1 := kern_Used (kb := K.kb) (fds := zbx K.fds 3 (some (.file b))) hK4.kern
  rw [HUS.out] at h1
  exact h1
 have HB4 : Hid (Below w.heap.size w w4) := (HB3.out.alloc HB3.out.size _).trans (hk4.below (B := w.heap.size) (fun x hx => HFT.out x hx) (Nat.le_trans HB3.out.size (by simp)))
 clear hK4 hk4
 go_wp2_with fail
 refine HU.out.mono ?_
 intro e w5 hp
 obtain ⟨v, rfl, hown5, hb5⟩ := hp
 obtain ⟨va, vc, rfl⟩ := zak hown5
 have HO5 := hid hown5
 have HB5 := hid (HB4.out.trans (hb5.mono HB4.out.size))
 clear hown5 hb5
 go_wp2_with fail
 have HI : Hid (Calls Tryz.prog 17 #[.slice va 4 vc, .slice (some ⟨w5.heap.size, 0, none⟩) 4 4] (w5.alloc (.cells #[.int .i64 0, .int .i64 1, .int .i64 2, .int .i64 3] 3)) fun e w' =>
   IPost (w5.alloc (.cells #[.int .i64 0, .int .i64 1, .int .i64 2, .int .i64 3] 3)) true e w') := by
  refine ints_any _ _ [0, 1, 2, 3] [0, 1, 2, 3] _ ?_ (.inr ⟨⟨w5.heap.size, 0, none⟩, 4, rfl, fun j hj => ?_⟩) (by decide) (by decide)
  ·exact (ISrc.of_owns HO5.out).kept (Kept.of_below (zad _ _) (fun _ => False)) (fun _ _ h => h)
  ·have hh := heap_alloc_new w5 (.cells #[.int .i64 0, .int .i64 1, .int .i64 2, .int .i64 3] 3)
   match j, hj with
   | 0, _ => exact zaa hh rfl
   | 1, _ => exact zaa hh rfl
   | 2, _ => exact zaa hh rfl
   | 3, _ => exact zaa hh rfl
 refine HI.out.mono ?_
 rintro e w6 ⟨rfl, hb6⟩
 have HB6 : Hid (Below w.heap.size w w6) := (HB5.out.alloc HB5.out.size _).trans (hb6.mono (Nat.le_trans HB5.out.size (by simp)))
 clear hb6
 go_wp2_with fail
 go_ret
 exact ⟨rfl, HB6.out⟩
end
end Go.Proofs.YteeeaeiafdgpkaaGreatDoor
