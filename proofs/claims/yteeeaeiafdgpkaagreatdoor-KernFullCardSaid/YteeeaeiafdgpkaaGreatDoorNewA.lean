/-
 tree.New, kern.New: their contracts.
 (*Tree).file, Read, Open, Temp, Now: their contracts.
 A kern's Open, of a file that there wasn't.
 Tree.Read of a file that is there.
-/
import Derived.Test.YteeeaeiafdgpkaaGreatDoorKernA
import Derived.Lib.Hide
namespace Go.Proofs.YteeeaeiafdgpkaaGreatDoor
open Go Go.RowKit
open Go.Lib (hid)
section
def zco (tb root mb : Nat) : Tr := { tb := tb, root := root, clock := 0, count := 1, nd := fun n => if n = root then some { dir := true, bv := .slice none 0 0, data := [], names := [], mb := mb, links := 0, tick := 0 } else none }
theorem zch {tb root mb n : Nat} {d : Nd} (h : (zco tb root mb).nd n = some d) : n = root ∧ d = { dir := true, bv := .slice none 0 0, data := [], names := [], mb := mb, links := 0, tick := 0 } := by
 unfold zco at h
 by_cases hn : n = root
 ·simp only [hn, if_true] at h
  exact ⟨hn, (Option.some.inj h).symm⟩
 ·simp only [hn, if_false] at h
  cases h
theorem zes (tb root mb : Nat) : (zco tb root mb).nd root = some { dir := true, bv := .slice none 0 0, data := [], names := [], mb := mb, links := 0, tick := 0 } := by simp [zco]
theorem newTr_rep {B : Nat} {w : World} {tb root mb : Nat} (h1 : w.heap[tb]? = some (.cells #[ptrV (some root), .int .i64 0, .int .i64 1] 115 (0, 0)))
  (h2 : w.heap[root]? = some (.cells #[.bool true, .slice none 0 0, .map (some mb), .int .i64 0, .int .i64 0] 107 (0, 0))) (h3 : w.heap[mb]? = some (.map #[] 0)) (b1 : B ≤ tb) (b2 : B ≤ root) (b3 : B ≤ mb) : Rep B w (zco tb root mb) where
 low b hb := by
  rcases hb with rfl | ⟨d, hd⟩ | ⟨n, d, hn, h⟩
  ·exact b1
  ·obtain ⟨rfl, _⟩ := zch hd; exact b2
  ·obtain ⟨rfl, rfl⟩ := zch hn
   rcases h with ⟨_, rfl⟩ | h
   ·exact b3
   ·cases h
 tree := h1
 node n d hn := by
  obtain ⟨rfl, rfl⟩ := zch hn
  exact ⟨h2, World.ownsRow_nil _ _ _ _, fun _ => ⟨#[], 0, h3, rfl, MapKept.stamped_empty 0⟩, fun h => by cases h⟩
 maps n d n' d' hn hn' _ _ _ := by
  obtain ⟨rfl, _⟩ := zch hn
  obtain ⟨rfl, _⟩ := zch hn'
  rfl
 rows n d n' d' b hn hn' hb _ := by
  obtain ⟨rfl, rfl⟩ := zch hn
  cases hb
 root := ⟨_, zes tb root mb, rfl⟩
 kids n d s k hn hk := by
  obtain ⟨rfl, rfl⟩ := zch hn
  cases hk
theorem newTr_foot {tb root mb b : Nat} (h : (zco tb root mb).foot b) : b = tb ∨ b = root ∨ b = mb := by
 rcases h with rfl | ⟨d, hd⟩ | ⟨n, d, hn, h⟩
 ·exact .inl rfl
 ·obtain ⟨rfl, _⟩ := zch hd; exact .inr (.inl rfl)
 ·obtain ⟨rfl, rfl⟩ := zch hn
  rcases h with ⟨_, rfl⟩ | h
  ·exact .inr (.inr rfl)
  ·cases h
def NewPost (w : World) (e : Ending) (w' : World) : Prop :=
 e = .returned (.pointer (some ⟨w.heap.size + 2, 0, none⟩)) ∧ (∀ B, B ≤ w.heap.size → Rep B w' (zco (w.heap.size + 2) (w.heap.size + 1) w.heap.size)) ∧ Below w.heap.size w w' ∧ w'.heap.size = w.heap.size + 3
theorem newW_post (w : World) : NewPost w (.returned (.pointer (some ⟨w.heap.size + 2, 0, none⟩)))
  (((w.alloc (.map #[] 0)).alloc (.cells #[.bool true, .slice none 0 0, .map (some w.heap.size), .int .i64 0, .int .i64 0] 107)).alloc (.cells #[.pointer (some ⟨w.heap.size + 1, 0, none⟩), .int .i64 0, .int .i64 1] 115)) := by
 refine ⟨rfl, fun B hB => newTr_rep ?_ ?_ ?_ (by omega) (by omega) hB, zaf (zar w _ _) (zad _ _), by simp⟩
 ·have h := heap_alloc_new ((w.alloc (.map #[] 0)).alloc (.cells #[.bool true, .slice none 0 0, .map (some w.heap.size), .int .i64 0, .int .i64 0] 107)) (.cells #[.pointer (some ⟨w.heap.size + 1, 0, none⟩), .int .i64 0, .int .i64 1] 115)
  simpa [ptrV] using h
 ·rw [Below.heap_alloc _ _ _ (by simp)]
  have h := heap_alloc_new (w.alloc (.map #[] 0)) (.cells #[.bool true, .slice none 0 0, .map (some w.heap.size), .int .i64 0, .int .i64 0] 107)
  simpa using h
 ·rw [Below.heap_alloc _ _ _ (by simp; omega), Below.heap_alloc _ _ _ (by simp)]
  exact heap_alloc_new w _
set_option maxHeartbeats 400000 in
theorem tree_new (w : World) : Calls Tryz.prog 16 #[] w fun e w' => NewPost w e w' := by
 have hmm := @Go.RowKit.run_makeMap Tryz.prog
 have H : Hid (NewPost w (.returned (.pointer (some ⟨w.heap.size + 2, 0, none⟩)))
  (((w.alloc (.map #[] 0)).alloc (.cells #[.bool true, .slice none 0 0, .map (some w.heap.size), .int .i64 0, .int .i64 0] 107)).alloc (.cells #[.pointer (some ⟨w.heap.size + 1, 0, none⟩), .int .i64 0, .int .i64 1] 115))) := newW_post w
 go_enter Tryz.func16, Tryz.ntmps16
 go_wp2_with fail
 go_ret
 exact H.out
def zej (tb ob eb : Nat) : Obj := .cells #[.pointer (some ⟨tb, 0, none⟩), .nilIface, .nilIface, .nilIface, .nilIface, .nilIface, .nilIface, .nilIface, .nilIface, .nilIface, .nilIface, .nilIface, .nilIface, .nilIface, .nilIface, .nilIface, .nilIface,
 .pointer (some ⟨ob, 0, none⟩), .pointer (some ⟨eb, 0, none⟩)] 64
def zbp (w : World) (tb : Nat) : World := ((w.alloc (.cells #[.slice none 0 0] 59)).alloc (.cells #[.slice none 0 0] 59)).alloc (zej tb w.heap.size (w.heap.size + 1))
def fds3 (ib ob eb : Nat) : Nat → Option End := fun j => if j = 0 then some (.inp ib) else if j = 1 then some (.out ob) else if j = 2 then some (.out eb) else none
def zeb (B : Nat) (w : World) (T : Tr) (il : List UInt8) (e : Ending) (w' : World) : Prop :=
 ∃ K : Ks, e = .returned (.pointer (some ⟨K.kb, 0, none⟩)) ∧ KRep B w' K ∧ K.T = T ∧ K.fds = fds3 K.ib K.ob K.eb ∧ K.inL = il ∧ K.outL = [] ∧ K.errL = [] ∧ K.fl = (fun _ => none) ∧
  Below w.heap.size w w' ∧ (∀ b, K.own b → w.heap.size ≤ b)
theorem kern_made {B : Nat} {w w2 : World} {T : Tr} {il : List UInt8} (hB : B ≤ w.heap.size) (hR : Rep B w T) {a : Option Addr} {n c : Nat} (hn : n = il.length)
  (hK : w2.heap[w.heap.size + 2]? = some (zej T.tb w.heap.size (w.heap.size + 1))) (hO : w2.heap[w.heap.size]? = some (.cells #[.slice none 0 0] 59 (0, 0))) (hE : w2.heap[w.heap.size + 1]? = some (.cells #[.slice none 0 0] 59 (0, 0)))
  (hrow : w2.ownsRow w.heap.size 5 1 (.slice a n c) il.length (u8s il)) (hb : Below w.heap.size w w2) :
  zeb B w T il (.returned (.pointer (some ⟨w.heap.size + 2, 0, none⟩)))
   ((((w2.setCell ⟨w.heap.size + 2, 1, none⟩ (.iface 65 (.pointer (some ⟨w2.heap.size, 0, none⟩)))).setCell ⟨w.heap.size + 2, 2, none⟩ (.iface 57 (.pointer (some ⟨w.heap.size, 0, none⟩)))).setCell ⟨w.heap.size + 2, 3, none⟩ (.iface 57 (.pointer (some ⟨w.heap.size + 1, 0, none⟩)))).alloc (.cells #[.slice a n c] 66)) := by
 subst hn
 have hk2 := zab hK
 have hkept : Kept (fun b => b = w.heap.size + 2) w2 ((((w2.setCell ⟨w.heap.size + 2, 1, none⟩ (.iface 65 (.pointer (some ⟨w2.heap.size, 0, none⟩)))).setCell ⟨w.heap.size + 2, 2, none⟩ (.iface 57 (.pointer (some ⟨w.heap.size, 0, none⟩)))).setCell ⟨w.heap.size + 2, 3, none⟩ (.iface 57 (.pointer (some ⟨w.heap.size + 1, 0, none⟩)))).alloc (.cells #[.slice a il.length c] 66)) :=
  ((((Kept.refl (fun b => b = w.heap.size + 2) w2).setCell (p := ⟨w.heap.size + 2, 1, none⟩) (.inl rfl) _).setCell (p := ⟨w.heap.size + 2, 2, none⟩) (.inl rfl) _).setCell (p := ⟨w.heap.size + 2, 3, none⟩) (.inl rfl) _).alloc _
 have hin : ((((w2.setCell ⟨w.heap.size + 2, 1, none⟩ (.iface 65 (.pointer (some ⟨w2.heap.size, 0, none⟩)))).setCell ⟨w.heap.size + 2, 2, none⟩ (.iface 57 (.pointer (some ⟨w.heap.size, 0, none⟩)))).setCell ⟨w.heap.size + 2, 3, none⟩ (.iface 57 (.pointer (some ⟨w.heap.size + 1, 0, none⟩)))).alloc (.cells #[.slice a il.length c] 66)).heap[w2.heap.size]? = some (.cells #[.slice a il.length c] 66 (0, 0)) := by
  have h := heap_alloc_new (((w2.setCell ⟨w.heap.size + 2, 1, none⟩ (.iface 65 (.pointer (some ⟨w2.heap.size, 0, none⟩)))).setCell ⟨w.heap.size + 2, 2, none⟩ (.iface 57 (.pointer (some ⟨w.heap.size, 0, none⟩)))).setCell ⟨w.heap.size + 2, 3, none⟩ (.iface 57 (.pointer (some ⟨w.heap.size + 1, 0, none⟩)))) (.cells #[.slice a il.length c] 66)
  have e : (((w2.setCell ⟨w.heap.size + 2, 1, none⟩ (.iface 65 (.pointer (some ⟨w2.heap.size, 0, none⟩)))).setCell ⟨w.heap.size + 2, 2, none⟩ (.iface 57 (.pointer (some ⟨w.heap.size, 0, none⟩)))).setCell ⟨w.heap.size + 2, 3, none⟩ (.iface 57 (.pointer (some ⟨w.heap.size + 1, 0, none⟩)))).heap.size = w2.heap.size := by simp [World.setCell]
  rw [e] at h
  exact h
 have hkn0 := zaj (zaj (zaj hK 1 (.iface 65 (.pointer (some ⟨w2.heap.size, 0, none⟩)))) 2 (.iface 57 (.pointer (some ⟨w.heap.size, 0, none⟩)))) 3 (.iface 57 (.pointer (some ⟨w.heap.size + 1, 0, none⟩)))
 have hkn := (Below.heap_alloc _ (.cells #[.slice a il.length c] 66) _ (zab hkn0)).trans hkn0
 generalize ((((w2.setCell ⟨w.heap.size + 2, 1, none⟩ (.iface 65 (.pointer (some ⟨w2.heap.size, 0, none⟩)))).setCell ⟨w.heap.size + 2, 2, none⟩ (.iface 57 (.pointer (some ⟨w.heap.size, 0, none⟩)))).setCell ⟨w.heap.size + 2, 3, none⟩ (.iface 57 (.pointer (some ⟨w.heap.size + 1, 0, none⟩)))).alloc (.cells #[.slice a il.length c] 66)) = w3 at *
 have hb3 : Below w.heap.size w w3 := hb.trans (hkept.below (fun b hb => by omega) hb.size)
 have hrow3 : w3.ownsRow w.heap.size 5 1 (.slice a il.length c) il.length (u8s il) := zai hrow hkept (fun r hr e => by
  obtain ⟨cr, hcr⟩ := zbd hrow hr
  exact zac hcr hK (by decide) e)
 refine ⟨{ kb := w.heap.size + 2, ib := w2.heap.size, ob := w.heap.size, eb := w.heap.size + 1, T := T, fds := fds3 w2.heap.size w.heap.size (w.heap.size + 1), inV := .slice a il.length c, outV := .slice none 0 0, errV := .slice none 0 0, inL := il, outL := [], errL := [], fl := fun _ => none }, rfl, ?_, rfl, rfl, rfl, rfl, rfl, rfl, hb3, ?_⟩
 ·have low : ∀ b, (b = w.heap.size + 2 ∨ b = w2.heap.size ∨ b = w.heap.size ∨ b = w.heap.size + 1 ∨ (Value.slice a il.length c).ownBlock = some b ∨ (Value.slice none 0 0).ownBlock = some b ∨ (Value.slice none 0 0).ownBlock = some b ∨ (∃ f : Fl, (none : Option Fl) = some f) ∨ ∃ (q : Nat) (f : Fl), (none : Option Fl) = some f ∧ f.fb = b) → w.heap.size ≤ b := by
   rintro b (rfl | rfl | rfl | rfl | h | h | h | ⟨f, h⟩ | ⟨_, f, h, _⟩)
   ·omega
   ·omega
   ·omega
   ·omega
   ·exact (hrow.lt b h).1
   ·cases h
   ·cases h
   ·cases h
   ·cases h
  refine ⟨⟨⟨_, hkn, rfl, rfl, fun j hj => ?_, rfl, rfl⟩⟩, hR.below hb3, fun b hb => Nat.le_trans hB (low b hb), fun b hb hf => ?_, hin, Src.of_owns hrow3, fun r hr => zbd hrow3 hr, ?_, World.ownsRow_nil _ _ _ _, ?_, World.ownsRow_nil _ _ _ _, by show w.heap.size ≠ w.heap.size + 1; omega, fun r hr => (by cases hr), fun r hr => (by cases hr), fun r hr => (by cases hr), fun b f hf => (by cases hf), fun j => ?_⟩
  ·have : j = 0 ∨ j = 1 ∨ j = 2 ∨ j = 3 ∨ j = 4 ∨ j = 5 ∨ j = 6 ∨ j = 7 ∨ j = 8 ∨ j = 9 ∨ j = 10 ∨ j = 11 ∨ j = 12 ∨ j = 13 ∨ j = 14 ∨ j = 15 := by omega
   rcases this with rfl | rfl | rfl | rfl | rfl | rfl | rfl | rfl | rfl | rfl | rfl | rfl | rfl | rfl | rfl | rfl <;> rfl
  ·have h1 := hR.lt hf
   have h2 := low b hb
   omega
  ·exact (hkept.block _ (zab hO) (by show ¬ w.heap.size = w.heap.size + 2; omega)).trans hO
  ·exact (hkept.block _ (zab hE) (by show ¬ w.heap.size + 1 = w.heap.size + 2; omega)).trans hE
  ·unfold fds3
   dsimp only
   split
   ·rfl
   ·split
    ·exact .inl rfl
    ·split
     ·exact .inr rfl
     ·trivial
 ·rintro b (rfl | rfl | rfl | rfl | h | h | h | ⟨f, h⟩ | ⟨_, f, h, _⟩)
  ·show w.heap.size ≤ w.heap.size + 2; omega
  ·show w.heap.size ≤ w2.heap.size; omega
  ·exact Nat.le_refl _
  ·show w.heap.size ≤ w.heap.size + 1; omega
  ·exact (hrow.lt b h).1
  ·cases h
  ·cases h
  ·cases h
  ·cases h
section
attribute [local go_sem ↓] ap_rule
set_option maxRecDepth 100000 in
set_option maxHeartbeats 1000000 in
theorem ze3 {B : Nat} {T : Tr} (w : World) (iv : Value) (il : List UInt8) (hs : Src w iv il) (hl : il.length ≤ 140737488355328) (hB : B ≤ w.heap.size) (hR : Rep B w T) :
  Calls Tryz.prog 5 #[.pointer (some ⟨T.tb, 0, none⟩), iv] w fun e w' => zeb B w T il e w' := by
 have hiv : ∃ ia ic, iv = .slice ia il.length ic := by
  rcases hs with ⟨h1, h2⟩ | ⟨ad, c, h1, _⟩
  ·exact ⟨none, 0, by rw [h1, h2]; rfl⟩
  ·exact ⟨_, _, h1⟩
 obtain ⟨ia, ic, rfl⟩ := hiv
 have HS : Hid (Src w (.slice ia il.length ic) il) := hs
 have HRR : Hid (Rep B w T) := hR
 have HWD : Hid (Below w.heap.size w (zbp w T.tb).drew) := (zaf (zar w _ _) (zad _ _)).drew
 have HS1 : Hid (Src (zbp w T.tb).drew (.slice ia il.length ic) il) := HS.out.kept (Kept.of_below HWD.out (fun _ => False)) (fun _ _ hf => hf)
 obtain ⟨hok, hn2, hown2, hgrow2⟩ := zex (w := (zbp w T.tb).drew) w.heap.size (.slice none 0 0) 0 [] (World.ownsRow_nil _ _ _ _) _ il HS1.out (by omega) HWD.out.size
 have esz : (zbp w T.tb).drew.heap.size = w.heap.size + 3 := by simp [zbp, World.drew]
 have hblk : ∀ k, k < w.heap.size + 3 → (apW (zbp w T.tb).drew (.slice none 0 0) (.slice ia il.length ic)).heap[k]? = (zbp w T.tb).heap[k]? := fun k hk => hgrow2.block k (by rw [esz]; omega) (by simp [Value.ownBlock])
 have HK2 : Hid ((apW (zbp w T.tb).drew (.slice none 0 0) (.slice ia il.length ic)).heap[w.heap.size + 2]? = some (zej T.tb w.heap.size (w.heap.size + 1))) := by
  have h := heap_alloc_new ((w.alloc (.cells #[.slice none 0 0] 59)).alloc (.cells #[.slice none 0 0] 59)) (zej T.tb w.heap.size (w.heap.size + 1))
  refine (hblk _ (by omega)).trans ?_
  unfold zbp
  simpa using h
 have HK3 : Hid ((zbp w T.tb).drew.heap[w.heap.size + 2]? = some (zej T.tb w.heap.size (w.heap.size + 1))) := (hblk _ (by omega)).symm.trans HK2.out
 have HO : Hid ((apW (zbp w T.tb).drew (.slice none 0 0) (.slice ia il.length ic)).heap[w.heap.size]? = some (.cells #[.slice none 0 0] 59 (0, 0))) := by
  refine (hblk _ (by omega)).trans ?_
  unfold zbp
  rw [Below.heap_alloc _ _ _ (by simp; omega), Below.heap_alloc _ _ _ (by simp)]
  exact heap_alloc_new w _
 have HE : Hid ((apW (zbp w T.tb).drew (.slice none 0 0) (.slice ia il.length ic)).heap[w.heap.size + 1]? = some (.cells #[.slice none 0 0] 59 (0, 0))) := by
  refine (hblk _ (by omega)).trans ?_
  unfold zbp
  rw [Below.heap_alloc _ _ _ (by simp)]
  have h := heap_alloc_new (w.alloc (.cells #[.slice none 0 0] 59)) (.cells #[.slice none 0 0] 59)
  simpa using h
 have HN2 : Hid (apN (zbp w T.tb).drew (.slice none 0 0) (.slice ia il.length ic) = 0 + il.length) := hn2
 have HO2 : Hid ((apW (zbp w T.tb).drew (.slice none 0 0) (.slice ia il.length ic)).ownsRow w.heap.size 5 1 (.slice (apA (zbp w T.tb).drew (.slice none 0 0) (.slice ia il.length ic)) (apN (zbp w T.tb).drew (.slice none 0 0) (.slice ia il.length ic)) (apC (zbp w T.tb).drew (.slice none 0 0) (.slice ia il.length ic))) il.length (u8s il)) := by
  show World.ownsRow _ _ _ _ _ _ _
  have h := hown2
  rw [Nat.zero_add, List.nil_append] at h
  exact h
 have HG2 : Hid (Below w.heap.size w (apW (zbp w T.tb).drew (.slice none 0 0) (.slice ia il.length ic))) := HWD.out.trans ⟨hgrow2.os, hgrow2.tape, hgrow2.output, hgrow2.size, fun k hk => hblk k (by omega)⟩
 have HFIN : Hid (zeb B w T il (.returned (.pointer (some ⟨w.heap.size + 2, 0, none⟩))) _) := kern_made (Nat.le_trans hB (Nat.le_refl _)) HRR.out (HN2.out.trans (Nat.zero_add _)) HK2.out HO.out HE.out HO2.out HG2.out
 clear hn2 hown2 hgrow2 esz hblk HO HE
 generalize hW : zbp w T.tb = W at *
 have q1 : (apW W.drew (.slice none 0 0) (.slice ia il.length ic)).cell? ⟨w.heap.size + 1 + 1, 1, none⟩ = some .nilIface := zaa HK2.out rfl
 have q2 : (apW W.drew (.slice none 0 0) (.slice ia il.length ic)).cell? ⟨w.heap.size + 1 + 1, 2, none⟩ = some .nilIface := zaa HK2.out rfl
 have q3 : (apW W.drew (.slice none 0 0) (.slice ia il.length ic)).cell? ⟨w.heap.size + 1 + 1, 3, none⟩ = some .nilIface := zaa HK2.out rfl
 have q17 : (apW W.drew (.slice none 0 0) (.slice ia il.length ic)).cell? ⟨w.heap.size + 1 + 1, 17, none⟩ = some (.pointer (some ⟨w.heap.size, 0, none⟩)) := zaa HK2.out rfl
 have q18 : (apW W.drew (.slice none 0 0) (.slice ia il.length ic)).cell? ⟨w.heap.size + 1 + 1, 18, none⟩ = some (.pointer (some ⟨w.heap.size + 1, 0, none⟩)) := zaa HK2.out rfl
 have qf : ∀ o, (apW W.drew (.slice none 0 0) (.slice ia il.length ic)).frozen? ⟨w.heap.size + 1 + 1, o, none⟩ = false := fun o => zah HK2.out o
 have qz : w.heap.size + 1 + 1 < (apW W.drew (.slice none 0 0) (.slice ia il.length ic)).heap.size := zab HK2.out
 have q170 : W.drew.cell? ⟨w.heap.size + 1 + 1, 17, none⟩ = some (.pointer (some ⟨w.heap.size, 0, none⟩)) := zaa HK3.out rfl
 have q180 : W.drew.cell? ⟨w.heap.size + 1 + 1, 18, none⟩ = some (.pointer (some ⟨w.heap.size + 1, 0, none⟩)) := zaa HK3.out rfl
 have HW : Hid (zbp w T.tb = W) := hW
 clear hW
 clear hs hR
 go_enter Tryz.func5, Tryz.ntmps5
 go_wp2_with fail
 change Code.wp _ _ _ _ (zbp w T.tb)
 rw [HW.out]
 go_region
 go_wp2_with fail
 go_ret
 exact HFIN.out
def KNewPost2 (B : Nat) (w : World) (il : List UInt8) (e : Ending) (w' : World) : Prop :=
 ∃ w1, zeb B w1 (zco (w.heap.size + 2) (w.heap.size + 1) w.heap.size) il e w' ∧ Below w.heap.size w w1
set_option maxRecDepth 100000 in
set_option maxHeartbeats 1000000 in
theorem kern_new_nil {B : Nat} (w : World) (iv : Value) (il : List UInt8) (hs : Src w iv il) (hl : il.length ≤ 140737488355328) (hB : B ≤ w.heap.size) :
  Calls Tryz.prog 5 #[.pointer none, iv] w fun e w' => KNewPost2 B w il e w' := by
 have hiv : ∃ ia ic, iv = .slice ia il.length ic := by
  rcases hs with ⟨h1, h2⟩ | ⟨ad, c, h1, _⟩
  ·exact ⟨none, 0, by rw [h1, h2]; rfl⟩
  ·exact ⟨_, _, h1⟩
 obtain ⟨ia, ic, rfl⟩ := hiv
 have HS0 : Hid (Src w (.slice ia il.length ic) il) := hs
 clear hs
 go_enter Tryz.func5, Tryz.ntmps5
 go_wp2_with fail
 refine (tree_new w).mono ?_
 intro e w1 hp
 obtain ⟨rfl, hrep, hbe, hsz⟩ := hp
 clear hsz
 have HB0 : Hid (Below w.heap.size w w1) := hbe
 have HRR : Hid (Rep B w1 (zco (w.heap.size + 2) (w.heap.size + 1) w.heap.size)) := hrep B hB
 have HS : Hid (Src w1 (.slice ia il.length ic) il) := HS0.out.kept (Kept.of_below HB0.out (fun _ => False)) (fun _ _ hf => hf)
 have HWD : Hid (Below w1.heap.size w1 (zbp w1 (w.heap.size + 2)).drew) := (zaf (zar w1 _ _) (zad _ _)).drew
 clear hrep hbe HS0
 have HS1 : Hid (Src (zbp w1 (w.heap.size + 2)).drew (.slice ia il.length ic) il) := HS.out.kept (Kept.of_below HWD.out (fun _ => False)) (fun _ _ hf => hf)
 obtain ⟨hok, hn2, hown2, hgrow2⟩ := zex (w := (zbp w1 (w.heap.size + 2)).drew) w1.heap.size (.slice none 0 0) 0 [] (World.ownsRow_nil _ _ _ _) _ il HS1.out (by omega) HWD.out.size
 have esz : (zbp w1 (w.heap.size + 2)).drew.heap.size = w1.heap.size + 3 := by simp [zbp, World.drew]
 have hblk : ∀ k, k < w1.heap.size + 3 → (apW (zbp w1 (w.heap.size + 2)).drew (.slice none 0 0) (.slice ia il.length ic)).heap[k]? = (zbp w1 (w.heap.size + 2)).heap[k]? := fun k hk => hgrow2.block k (by rw [esz]; omega) (by simp [Value.ownBlock])
 have HK2 : Hid ((apW (zbp w1 (w.heap.size + 2)).drew (.slice none 0 0) (.slice ia il.length ic)).heap[w1.heap.size + 2]? = some (zej (w.heap.size + 2) w1.heap.size (w1.heap.size + 1))) := by
  have h := heap_alloc_new ((w1.alloc (.cells #[.slice none 0 0] 59)).alloc (.cells #[.slice none 0 0] 59)) (zej (w.heap.size + 2) w1.heap.size (w1.heap.size + 1))
  refine (hblk _ (by omega)).trans ?_
  unfold zbp
  simpa using h
 have HK3 : Hid ((zbp w1 (w.heap.size + 2)).drew.heap[w1.heap.size + 2]? = some (zej (w.heap.size + 2) w1.heap.size (w1.heap.size + 1))) := (hblk _ (by omega)).symm.trans HK2.out
 have HO : Hid ((apW (zbp w1 (w.heap.size + 2)).drew (.slice none 0 0) (.slice ia il.length ic)).heap[w1.heap.size]? = some (.cells #[.slice none 0 0] 59 (0, 0))) := by
  refine (hblk _ (by omega)).trans ?_
  unfold zbp
  rw [Below.heap_alloc _ _ _ (by simp; omega), Below.heap_alloc _ _ _ (by simp)]
  exact heap_alloc_new w1 _
 have HE : Hid ((apW (zbp w1 (w.heap.size + 2)).drew (.slice none 0 0) (.slice ia il.length ic)).heap[w1.heap.size + 1]? = some (.cells #[.slice none 0 0] 59 (0, 0))) := by
  refine (hblk _ (by omega)).trans ?_
  unfold zbp
  rw [Below.heap_alloc _ _ _ (by simp)]
  have h := heap_alloc_new (w1.alloc (.cells #[.slice none 0 0] 59)) (.cells #[.slice none 0 0] 59)
  simpa using h
 have HN2 : Hid (apN (zbp w1 (w.heap.size + 2)).drew (.slice none 0 0) (.slice ia il.length ic) = 0 + il.length) := hn2
 have HO2 : Hid ((apW (zbp w1 (w.heap.size + 2)).drew (.slice none 0 0) (.slice ia il.length ic)).ownsRow w1.heap.size 5 1 (.slice (apA (zbp w1 (w.heap.size + 2)).drew (.slice none 0 0) (.slice ia il.length ic)) (apN (zbp w1 (w.heap.size + 2)).drew (.slice none 0 0) (.slice ia il.length ic)) (apC (zbp w1 (w.heap.size + 2)).drew (.slice none 0 0) (.slice ia il.length ic))) il.length (u8s il)) := by
  show World.ownsRow _ _ _ _ _ _ _
  have h := hown2
  rw [Nat.zero_add, List.nil_append] at h
  exact h
 have HG2 : Hid (Below w1.heap.size w1 (apW (zbp w1 (w.heap.size + 2)).drew (.slice none 0 0) (.slice ia il.length ic))) := HWD.out.trans ⟨hgrow2.os, hgrow2.tape, hgrow2.output, hgrow2.size, fun k hk => hblk k (by omega)⟩
 have HFIN : Hid (zeb B w1 (zco (w.heap.size + 2) (w.heap.size + 1) w.heap.size) il (.returned (.pointer (some ⟨w1.heap.size + 2, 0, none⟩))) _) := kern_made (Nat.le_trans hB HB0.out.size) HRR.out (HN2.out.trans (Nat.zero_add _)) HK2.out HO.out HE.out HO2.out HG2.out
 clear hn2 hown2 hgrow2 esz hblk HO HE
 generalize hW : zbp w1 (w.heap.size + 2) = W at *
 have q1 : (apW W.drew (.slice none 0 0) (.slice ia il.length ic)).cell? ⟨w1.heap.size + 1 + 1, 1, none⟩ = some .nilIface := zaa HK2.out rfl
 have q2 : (apW W.drew (.slice none 0 0) (.slice ia il.length ic)).cell? ⟨w1.heap.size + 1 + 1, 2, none⟩ = some .nilIface := zaa HK2.out rfl
 have q3 : (apW W.drew (.slice none 0 0) (.slice ia il.length ic)).cell? ⟨w1.heap.size + 1 + 1, 3, none⟩ = some .nilIface := zaa HK2.out rfl
 have q17 : (apW W.drew (.slice none 0 0) (.slice ia il.length ic)).cell? ⟨w1.heap.size + 1 + 1, 17, none⟩ = some (.pointer (some ⟨w1.heap.size, 0, none⟩)) := zaa HK2.out rfl
 have q18 : (apW W.drew (.slice none 0 0) (.slice ia il.length ic)).cell? ⟨w1.heap.size + 1 + 1, 18, none⟩ = some (.pointer (some ⟨w1.heap.size + 1, 0, none⟩)) := zaa HK2.out rfl
 have qf : ∀ o, (apW W.drew (.slice none 0 0) (.slice ia il.length ic)).frozen? ⟨w1.heap.size + 1 + 1, o, none⟩ = false := fun o => zah HK2.out o
 have qz : w1.heap.size + 1 + 1 < (apW W.drew (.slice none 0 0) (.slice ia il.length ic)).heap.size := zab HK2.out
 have q170 : W.drew.cell? ⟨w1.heap.size + 1 + 1, 17, none⟩ = some (.pointer (some ⟨w1.heap.size, 0, none⟩)) := zaa HK3.out rfl
 have q180 : W.drew.cell? ⟨w1.heap.size + 1 + 1, 18, none⟩ = some (.pointer (some ⟨w1.heap.size + 1, 0, none⟩)) := zaa HK3.out rfl
 have HW : Hid (zbp w1 (w.heap.size + 2) = W) := hW
 clear hW
 go_wp2_with fail
 change Code.wp _ _ _ _ (zbp w1 (w.heap.size + 2))
 rw [HW.out]
 go_region
 go_wp2_with fail
 go_ret
 exact ⟨w1, HFIN.out, HB0.out⟩
end
end
section
def Tr.fileOf (T : Tr) (p : ByteArray) : Except Nat Nat :=
 match T.find p with
 | .error c => .error c
 | .ok s => match s.n with
  | none => .error 16
  | some k => match T.nd k with
   | none => .error 16
   | some d => if d.dir then .error 17 else .ok k
theorem find_nd {B : Nat} {w : World} {T : Tr} (hR : Rep B w T) {p : ByteArray} {s : Spot} (h : T.find p = .ok s) {k : Nat} (hk : s.n = some k) : ∃ d, T.nd k = some d := by
 rcases find_form h with rfl | ⟨i, d, h1, h2, h3, h4⟩
 ·obtain ⟨d, hd, _⟩ := hR.root
  have : T.start.n = some T.root := rfl
  rw [this] at hk
  obtain rfl := Option.some.inj hk
  exact ⟨d, hd⟩
 ·rw [hk] at h4
  exact hR.kids i d s.name k h2 (zdp h4.symm)
def zfy (E : Nat → Addr) (w : World) (r : Except Nat Nat) (e : Ending) (w' : World) : Prop :=
 match r with
 | .error c => zc5 E w c e w'
 | .ok k => e = .returned (.tuple #[.pointer (some ⟨k, 0, none⟩), .nilIface]) ∧ Below w.heap.size w w'
set_option maxRecDepth 100000 in
set_option maxHeartbeats 1000000 in
theorem tree_file {E : Nat → Addr} {B : Nat} {T : Tr} (p : ByteArray) (w : World) (hE : Ctx E B w) (hR : Rep B w T) (hsz : p.size ≤ 9223372036854775807) :
  Calls Tryz.prog 78 #[.pointer (some ⟨T.tb, 0, none⟩), .string p] w fun e w' => zfy E w (T.fileOf p) e w' := by
 have HF := zbz p w hE hR hsz
 have HE : Hid (Ctx E B w) := hE
 have HR : Hid (Rep B w T) := hR
 clear hE hR
 unfold Tr.fileOf
 cases hf : T.find p with
 | error c =>
  rw [hf] at HF
  have HC : Hid (Calls Tryz.prog 55 #[.pointer (some ⟨T.tb, 0, none⟩), .string p] w fun e w' => zbn E w (.error c) e w') := HF
  clear HF hf
  show Calls _ _ _ _ fun e w' => zc5 E w c e w'
  go_enter Tryz.func78, Tryz.ntmps78
  go_wp2_with fail
  refine HC.out.mono ?_
  rintro e w1 ⟨hb, a, rfl, hfl⟩
  have HB : Hid (Below w.heap.size w w1) := hb
  have HFL : Hid (zbu E w.heap.size w1 a c) := hfl
  clear hb hfl
  simp only [zct, spot0, za0]
  go_wp2_with fail
  go_ret2
  exact ⟨a, rfl, HFL.out.below (zad w1 _), zaf HB.out (zad w1 _)⟩
 | ok s =>
  rw [hf] at HF
  have HC : Hid (Calls Tryz.prog 55 #[.pointer (some ⟨T.tb, 0, none⟩), .string p] w fun e w' => zbn E w (.ok s) e w') := HF
  have HND : Hid (∀ k, s.n = some k → ∃ d, T.nd k = some d) := fun k hk => find_nd HR.out hf hk
  clear HF hf
  obtain ⟨inn, nm, nn⟩ := s
  cases nn with
  | none =>
   show Calls _ _ _ _ fun e w' => zc5 E w 16 e w'
   go_enter Tryz.func78, Tryz.ntmps78
   go_wp2_with fail
   refine HC.out.mono ?_
   rintro e w1 ⟨hb, rfl⟩
   have HB : Hid (Below w.heap.size w w1) := hb
   clear hb
   simp only [zct, za0]
   unfold ptrV
   generalize inn.map (fun b => (⟨b, 0, none⟩ : Addr)) = ia
   go_wp2_with fail
   refine (zbl _ (HE.out.env.below (zaf HB.out (zad w1 _))) 16 (by unfold Used; omega)).mono ?_
   rintro e w2 ⟨a, rfl, hfail, hb2⟩
   have HF : Hid (zc5 E w 16 (.returned (.tuple #[.pointer none, zcb a])) w2) :=
    ⟨a, rfl, hfail.mono (zaf HB.out (zad w1 _)).size, zaf (zaf HB.out (zad w1 _)) hb2⟩
   clear hfail hb2
   go_wp2_with fail
   go_ret2
   exact HF.out
  | some k =>
   obtain ⟨d, hd⟩ := HND.out k rfl
   have HD : Hid (T.nd k = some d) := hd
   have HKL : Hid (k < w.heap.size) := HR.out.node_lt hd
   cases hdir : d.dir with
   | true =>
    have eR : (match ((⟨inn, nm, some k⟩ : Spot).n : Option Nat) with | none => (.error 16 : Except Nat Nat) | some k => match T.nd k with | none => .error 16 | some d => if d.dir then .error 17 else .ok k) = .error 17 := by
     simp only [hd, hdir, if_true]
    show Calls _ _ _ _ fun e w' => zfy E w (match ((⟨inn, nm, some k⟩ : Spot).n : Option Nat) with | none => (.error 16 : Except Nat Nat) | some k => match T.nd k with | none => .error 16 | some d => if d.dir then .error 17 else .ok k) e w'
    rw [eR]
    show Calls _ _ _ _ fun e w' => zc5 E w 17 e w'
    have HDIR : Hid (d.dir = true) := hdir
    clear eR hd hdir
    go_enter Tryz.func78, Tryz.ntmps78
    go_wp2_with fail
    refine HC.out.mono ?_
    rintro e w1 ⟨hb, rfl⟩
    have HB : Hid (Below w.heap.size w w1) := hb
    have HRP : Hid (Rep B w1 T) := HR.out.below HB.out
    clear hb
    simp only [zct, zau]
    have hc0 : w1.cell? ⟨k, 0, none⟩ = some (.bool true) := by rw [← HDIR.out]; exact zaa (HRP.out.node k d HD.out).cells rfl
    have hkl : k < w1.heap.size := HRP.out.node_lt HD.out
    unfold ptrV
    generalize inn.map (fun b => (⟨b, 0, none⟩ : Addr)) = ia
    go_wp2_with fail
    refine (zbl _ (HE.out.env.below (zaf HB.out (zad w1 _))) 17 (by unfold Used; omega)).mono ?_
    rintro e w2 ⟨a, rfl, hfail, hb2⟩
    have HF : Hid (zc5 E w 17 (.returned (.tuple #[.pointer none, zcb a])) w2) :=
     ⟨a, rfl, hfail.mono (zaf HB.out (zad w1 _)).size, zaf (zaf HB.out (zad w1 _)) hb2⟩
    clear hfail hb2
    go_wp2_with fail
    go_ret2
    exact HF.out
   | false =>
    have eR : (match ((⟨inn, nm, some k⟩ : Spot).n : Option Nat) with | none => (.error 16 : Except Nat Nat) | some k => match T.nd k with | none => .error 16 | some d => if d.dir then .error 17 else .ok k) = .ok k := by
     simp only [hd, hdir, Bool.false_eq_true, if_false]
    show Calls _ _ _ _ fun e w' => zfy E w (match ((⟨inn, nm, some k⟩ : Spot).n : Option Nat) with | none => (.error 16 : Except Nat Nat) | some k => match T.nd k with | none => .error 16 | some d => if d.dir then .error 17 else .ok k) e w'
    rw [eR]
    have HDIR : Hid (d.dir = false) := hdir
    clear eR hd hdir
    go_enter Tryz.func78, Tryz.ntmps78
    go_wp2_with fail
    refine HC.out.mono ?_
    rintro e w1 ⟨hb, rfl⟩
    have HB : Hid (Below w.heap.size w w1) := hb
    have HRP : Hid (Rep B w1 T) := HR.out.below HB.out
    clear hb
    simp only [zct, zau]
    have hc0 : w1.cell? ⟨k, 0, none⟩ = some (.bool false) := by rw [← HDIR.out]; exact zaa (HRP.out.node k d HD.out).cells rfl
    have hkl : k < w1.heap.size := HRP.out.node_lt HD.out
    unfold ptrV
    generalize inn.map (fun b => (⟨b, 0, none⟩ : Addr)) = ia
    go_wp2_with fail
    go_ret2
    exact ⟨rfl, zaf HB.out (zad w1 _)⟩
def zfx (tb : Nat) (k : Nat) (w' : World) (f : Nat) : Prop := w'.heap[f]? = some (.cells #[.pointer (some ⟨k, 0, none⟩), .pointer (some ⟨tb, 0, none⟩)] 168 (0, 0))
def OpenNew (B : Nat) (w : World) (T : Tr) (i : Nat) (di : Nd) (nm : ByteArray) (e : Ending) (w' : World) : Prop :=
 ∃ k bv f, e = .returned (.tuple #[.pointer (some ⟨f, 0, none⟩), .nilIface]) ∧ w.heap.size ≤ k ∧ w.heap.size ≤ f ∧ zfx T.tb k w' f ∧ Rep B w' (T.newFile i di nm k bv []) ∧ Kept T.foot w w' ∧ (∀ x, (T.newFile i di nm k bv []).foot x → (T.foot x ∨ w.heap.size ≤ x) ∧ x ≠ f)
set_option maxRecDepth 100000 in
set_option maxHeartbeats 1000000 in
theorem open_new {E : Nat → Addr} {B : Nat} {T : Tr} (p : ByteArray) (way : Int) (hway : way = 1 ∨ way = 2) (w : World) (hE : Ctx E B w) (hR : Rep B w T) (hsz : p.size ≤ 9223372036854775807) (s : Spot) (hf : T.find p = .ok s)
  (hk : s.n = none) (hfull : T.count < 200) (hcnt : 0 ≤ T.count) (hck0 : 0 ≤ T.clock) (hck : T.clock ≤ 1152921504606846976)
  (i : Nat) (di : Nd) (hi : s.inn = some i) (hdi : T.nd i = some di) (hdir : di.dir = true) (hlk : look di.names s.name = none) :
  Calls Tryz.prog 49 #[.pointer (some ⟨T.tb, 0, none⟩), .string p, .int .i64 way] w fun e w' => OpenNew B w T i di s.name e w' := by
 have HP : Hid (∀ add, Calls Tryz.prog 79 #[.pointer (some ⟨T.tb, 0, none⟩), .string p, .slice none 0 0, .bool add] w fun e w' => PutNew B w T i di s.name [] e w') :=
  fun add => put_new p (.slice none 0 0) [] add w hE hR hsz s hf hk hfull hcnt hck0 hck (Src.nil w) (fun x hx => by cases hx) (by simp) i di hi hdi hdir hlk
 clear hE hR hf hk hi hdi hdir hlk hfull hcnt hck0 hck
 have key : ∀ (k : Nat) (bv : Value) (w1 : World), w.heap.size ≤ k → Rep B w1 (T.newFile i di s.name k bv []) → Kept T.foot w w1 → (∀ x, (T.newFile i di s.name k bv []).foot x → T.foot x ∨ w.heap.size ≤ x) →
   OpenNew B w T i di s.name (.returned (.tuple #[.pointer (some ⟨w1.heap.size, 0, none⟩), .nilIface])) (w1.alloc (.cells #[.pointer (some ⟨k, 0, none⟩), .pointer (some ⟨T.tb, 0, none⟩)] 168)) :=
  fun k bv w1 h1 h2 h3 h4 => ⟨k, bv, w1.heap.size, rfl, h1, h3.size, heap_alloc_new w1 _, h2.below (zad _ _), h3.alloc _, fun x hx => ⟨h4 x hx, Nat.ne_of_lt (h2.lt hx)⟩⟩
 have KEY : Hid _ := key
 clear key
 rcases hway with rfl | rfl
 ·go_enter Tryz.func49, Tryz.ntmps49
  go_wp2_with fail
  refine (HP.out _).mono ?_
  rintro e w1 ⟨k, bv, rfl, h1, h2, h3, h4⟩
  have HX : Hid (OpenNew B w T i di s.name (.returned (.tuple #[.pointer (some ⟨w1.heap.size, 0, none⟩), .nilIface])) (w1.alloc (.cells #[.pointer (some ⟨k, 0, none⟩), .pointer (some ⟨T.tb, 0, none⟩)] 168))) := KEY.out k bv w1 h1 h2 h3 h4
  clear h1 h2 h3 h4
  go_wp2_with fail
  go_ret2
  exact HX.out
 ·go_enter Tryz.func49, Tryz.ntmps49
  go_wp2_with fail
  refine (HP.out _).mono ?_
  rintro e w1 ⟨k, bv, rfl, h1, h2, h3, h4⟩
  have HX : Hid (OpenNew B w T i di s.name (.returned (.tuple #[.pointer (some ⟨w1.heap.size, 0, none⟩), .nilIface])) (w1.alloc (.cells #[.pointer (some ⟨k, 0, none⟩), .pointer (some ⟨T.tb, 0, none⟩)] 168))) := KEY.out k bv w1 h1 h2 h3 h4
  clear h1 h2 h3 h4
  go_wp2_with fail
  go_ret2
  exact HX.out
end
section
def zaz (fl : Nat → Option Fl) (b : Nat) (f : Fl) : Nat → Option Fl := fun x => if x = b then some f else fl x
theorem KRep.addFile {B : Nat} {w : World} {K : Ks} (h : KRep B w K) {b : Nat} {f : Fl} (hb : w.heap[b]? = some (.cells #[ptrV (some f.fb), .int .i64 f.way, .int .i64 f.pos] 125 (0, 0)))
  (hf : w.heap[f.fb]? = some (.cells #[ptrV (some f.node), ptrV (some K.T.tb)] 168 (0, 0))) (hn : ∃ d, K.T.nd f.node = some d ∧ d.dir = false) (hbB : B ≤ b) (hfB : B ≤ f.fb) (hbT : ¬ K.T.foot b) (hfT : ¬ K.T.foot f.fb) :
  KRep B w { K with fl := zaz K.fl b f } := by
 have own : ∀ x, ({ K with fl := zaz K.fl b f } : Ks).own x → K.own x ∨ x = b ∨ x = f.fb := by
  rintro x (h1 | h1 | h1 | h1 | h1 | h1 | h1 | ⟨g, h1⟩ | ⟨c, g, h1, h2⟩)
  ·exact .inl (.inl h1)
  ·exact .inl (.inr (.inl h1))
  ·exact .inl (.inr (.inr (.inl h1)))
  ·exact .inl (.inr (.inr (.inr (.inl h1))))
  ·exact .inl (.inr (.inr (.inr (.inr (.inl h1)))))
  ·exact .inl (.inr (.inr (.inr (.inr (.inr (.inl h1))))))
  ·exact .inl (.inr (.inr (.inr (.inr (.inr (.inr (.inl h1)))))))
  ·by_cases hx : x = b
   ·exact .inr (.inl hx)
   ·have h3 : zaz K.fl b f x = some g := h1
    unfold zaz at h3
    rw [if_neg hx] at h3
    exact .inl (.inr (.inr (.inr (.inr (.inr (.inr (.inr (.inl ⟨g, h3⟩))))))))
  ·have h3 : zaz K.fl b f c = some g := h1
   unfold zaz at h3
   by_cases hc : c = b
   ·rw [if_pos hc] at h3
    obtain rfl := Option.some.inj h3
    exact .inr (.inr h2.symm)
   ·rw [if_neg hc] at h3
    exact .inl (.inr (.inr (.inr (.inr (.inr (.inr (.inr (.inr ⟨c, g, h3, h2⟩))))))))
 refine { h with low := fun x hx => ?_, apart := fun x hx => ?_, file := fun x g hg => ?_, goodFds := fun j => ?_ }
 ·rcases own x hx with h1 | rfl | rfl
  ·exact h.low x h1
  ·exact hbB
  ·exact hfB
 ·rcases own x hx with h1 | rfl | rfl
  ·exact h.apart x h1
  ·exact hbT
  ·exact hfT
 ·have h3 : zaz K.fl b f x = some g := hg
  unfold zaz at h3
  by_cases hx : x = b
  ·rw [if_pos hx] at h3
   obtain rfl := Option.some.inj h3
   subst hx
   exact ⟨hb, hf, hn⟩
  ·rw [if_neg hx] at h3
   exact h.file x g h3
 ·have hg := h.goodFds j
  show Ks.good _ (K.fds j)
  cases hj : K.fds j with
  | none => trivial
  | some e =>
   rw [hj] at hg
   cases e with
   | inp c => exact hg
   | out c => exact hg
   | file c =>
    obtain ⟨g, hg⟩ := hg
    by_cases hc : c = b
    ·exact ⟨f, by show zaz K.fl b f c = _; unfold zaz; rw [if_pos hc]⟩
    ·exact ⟨g, by show zaz K.fl b f c = _; unfold zaz; rw [if_neg hc]; exact hg⟩
def Ks.opened (K : Ks) (T' : Tr) (j b : Nat) (f : Fl) : Ks := { K with T := T', fds := zbx K.fds j (some (.file b)), fl := zaz K.fl b f }
def KOpenNew (B : Nat) (w : World) (K : Ks) (i : Nat) (di : Nd) (nm : ByteArray) (way : Int) (j : Nat) (e : Ending) (w' : World) : Prop :=
 ∃ k bv f b, e = .returned (.tuple #[.int .i64 j, .nilIface]) ∧ w.heap.size ≤ k ∧ w.heap.size ≤ f ∧ w.heap.size ≤ b ∧ KRep B w' (K.opened (K.T.newFile i di nm k bv []) j b ⟨f, way, 0, k⟩) ∧ Kept K.foot w w' ∧
  (∀ x, (K.opened (K.T.newFile i di nm k bv []) j b ⟨f, way, 0, k⟩).foot x → K.foot x ∨ w.heap.size ≤ x)
theorem kopen_made {B : Nat} {w w1 : World} {K : Ks} (hB : B ≤ w.heap.size) (hK : KRep B w K) {i : Nat} {di : Nd} {nm : ByteArray} {way : Int} {j : Nat} (hj : j < 16) {k : Nat} {bv : Value} {f : Nat}
  (hk : w.heap.size ≤ k) (hf : w.heap.size ≤ f) (hof : zfx K.T.tb k w1 f) (hR : Rep B w1 (K.T.newFile i di nm k bv [])) (hkp : Kept K.T.foot w w1) (hdi : K.T.nd i = some di) (hdir : di.dir = true)
  (hft : ∀ x, (K.T.newFile i di nm k bv []).foot x → (K.T.foot x ∨ w.heap.size ≤ x) ∧ x ≠ f) :
  KOpenNew B w K i di nm way j (.returned (.tuple #[.int .i64 j, .nilIface])) ((w1.setCell ⟨K.kb, 1 + j, none⟩ (.iface 123 (.pointer (some ⟨w1.heap.size, 0, none⟩)))).alloc (.cells #[.pointer (some ⟨f, 0, none⟩), .int .i64 way, .int .i64 0] 125)) := by
 have hkb1 : K.kb < w1.heap.size := Nat.lt_of_lt_of_le hK.kern.lt hkp.size
 rw [← World.setCell_alloc_past _ K.kb (1 + j) _ hkb1]
 have hil : i < w.heap.size := hK.tree.node_lt hdi
 have hik : i ≠ k := by omega
 have h1 : KRep B w1 { K with T := K.T.newFile i di nm k bv [] } := hK.setTree hR rfl hkp (fun x hx => (hft x hx).1) (fun n d hn hd => by
  by_cases hni : n = i
  ·subst hni
   rw [hdi] at hn
   obtain rfl := Option.some.inj hn
   rw [hdir] at hd
   cases hd
  ·have hnk : n ≠ k := by have := hK.tree.node_lt hn; omega
   exact ⟨d, (zcp K.T di nm bv [] hni hnk).trans hn, hd⟩)
 have hlt : ∀ x, ({ K with T := K.T.newFile i di nm k bv [] } : Ks).foot x → x < w1.heap.size := fun x hx => h1.lt hx
 have h2 : KRep B (w1.alloc (.cells #[.pointer (some ⟨f, 0, none⟩), .int .i64 way, .int .i64 0] 125)) { K with T := K.T.newFile i di nm k bv [] } := h1.below (zad _ _)
 have hsz : w.heap.size ≤ w1.heap.size := hkp.size
 have h3 := h2.addFile (b := w1.heap.size) (f := ⟨f, way, 0, k⟩) (heap_alloc_new w1 _) ((Below.heap_alloc _ _ _ (zab hof)).trans hof) ⟨_, zdw K.T i di nm k bv [], rfl⟩ (by omega) (by show B ≤ f; omega)
  (fun hx => by have := h1.tree.lt hx; omega) (fun hx => (hft _ hx).2 rfl)
 have h4 := h3.setFds (fds := zbx K.fds j (some (.file w1.heap.size))) (w' := (w1.alloc (.cells #[.pointer (some ⟨f, 0, none⟩), .int .i64 way, .int .i64 0] 125)).setCell ⟨K.kb, 1 + j, none⟩ (.iface 123 (.pointer (some ⟨w1.heap.size, 0, none⟩))))
  (h3.kern.set j hj (some (.file w1.heap.size))) ((Kept.refl (fun b => b = K.kb) _).setCell (p := ⟨K.kb, 1 + j, none⟩) (.inl rfl) _) (fun q => by
   unfold zbx
   split
   ·exact ⟨_, by show zaz K.fl _ _ _ = _; unfold zaz; rw [if_pos rfl]⟩
   ·exact h3.goodFds q)
 refine ⟨k, bv, f, w1.heap.size, rfl, hk, hf, hsz, h4, ?_, ?_⟩
 ·exact ((hkp.mono (F1 := K.foot) (fun x hx => .inr hx)).alloc _).setCell (p := ⟨K.kb, 1 + j, none⟩) (.inl (.inl (.inl rfl))) _
 ·rintro x (hx | hx)
  ·rcases hx with h1 | h1 | h1 | h1 | h1 | h1 | h1 | ⟨g, h1⟩ | ⟨c, g, h1, h2⟩
   ·exact .inl (.inl (.inl h1))
   ·exact .inl (.inl (.inr (.inl h1)))
   ·exact .inl (.inl (.inr (.inr (.inl h1))))
   ·exact .inl (.inl (.inr (.inr (.inr (.inl h1)))))
   ·exact .inl (.inl (.inr (.inr (.inr (.inr (.inl h1))))))
   ·exact .inl (.inl (.inr (.inr (.inr (.inr (.inr (.inl h1)))))))
   ·exact .inl (.inl (.inr (.inr (.inr (.inr (.inr (.inr (.inl h1))))))))
   ·have h3 : zaz K.fl w1.heap.size ⟨f, way, 0, k⟩ x = some g := h1
    unfold zaz at h3
    by_cases hc : x = w1.heap.size
    ·exact .inr (by omega)
    ·rw [if_neg hc] at h3
     exact .inl (.inl (.inr (.inr (.inr (.inr (.inr (.inr (.inr (.inl ⟨g, h3⟩)))))))))
   ·have h3 : zaz K.fl w1.heap.size ⟨f, way, 0, k⟩ c = some g := h1
    unfold zaz at h3
    by_cases hc : c = w1.heap.size
    ·rw [if_pos hc] at h3
     obtain rfl := Option.some.inj h3
     exact .inr (by rw [← h2]; exact hf)
    ·rw [if_neg hc] at h3
     exact .inl (.inl (.inr (.inr (.inr (.inr (.inr (.inr (.inr (.inr ⟨c, g, h3, h2⟩)))))))))
  ·rcases (hft x hx).1 with h | h
   ·exact .inl (.inr h)
   ·exact .inr h
set_option maxRecDepth 100000 in
set_option maxHeartbeats 1000000 in
theorem kopen_new {E : Nat → Addr} {B : Nat} {K : Ks} (p : ByteArray) (way : Int) (hway : way = 1 ∨ way = 2) (w : World) (hE : Ctx E B w) (hK : KRep B w K) (hsz : p.size ≤ 9223372036854775807) (s : Spot) (hf : K.T.find p = .ok s)
  (hk : s.n = none) (hfull : K.T.count < 200) (hcnt : 0 ≤ K.T.count) (hck0 : 0 ≤ K.T.clock) (hck : K.T.clock ≤ 1152921504606846976) (j : Nat) (hj : za3 K.fds 0 = some j)
  (i : Nat) (di : Nd) (hi : s.inn = some i) (hdi : K.T.nd i = some di) (hdir : di.dir = true) (hlk : look di.names s.name = none) :
  Calls Tryz.prog 21 #[.pointer (some ⟨K.kb, 0, none⟩), .string p, .int .i64 way] w fun e w' => KOpenNew B w K i di s.name way j e w' := by
 have HP : Hid (Calls Tryz.prog 49 #[.pointer (some ⟨K.T.tb, 0, none⟩), .string p, .int .i64 way] w fun e w' => OpenNew B w K.T i di s.name e w') :=
  open_new p way hway w hE hK.tree hsz s hf hk hfull hcnt hck0 hck i di hi hdi hdir hlk
 have HFR : Hid (Calls Tryz.prog 48 #[.pointer (some ⟨K.kb, 0, none⟩), .int .i64 0] w fun e w' => zcr w (some j) e w') := by
  have h1 := zce hK.kern 0 (by omega)
  rw [hj] at h1
  exact h1
 have hj16 : j < 16 := (zby hj).2.1
 have hji : (j : Int) < 16 := by omega
 have HKR : Hid (KRep B w K) := hK
 have HB : Hid (B ≤ w.heap.size) := hE.env.size
 have HDI : Hid (K.T.nd i = some di) := hdi
 have HDIR : Hid (di.dir = true) := hdir
 have hkt : w.cell? ⟨K.kb, 0, none⟩ = some (.pointer (some ⟨K.T.tb, 0, none⟩)) := by
  obtain ⟨c, h1, _, h3, _⟩ := hK.kern.cells
  exact zaa h1 h3
 clear hE hK hf hk hi hdi hdir hlk hfull hcnt hck0 hck hj
 go_enter Tryz.func21, Tryz.ntmps21
 go_wp2_with fail
 refine HFR.out.mono ?_
 rintro e w0 ⟨rfl, rfl⟩
 simp only [freeV]
 go_wp2_with fail
 refine HP.out.mono ?_
 rintro e w1 ⟨k, bv, f, rfl, hk, hf, hof, hR, hkp, hft⟩
 have HX := hid (kopen_made (way := way) HB.out HKR.out hj16 hk hf hof hR hkp HDI.out HDIR.out hft)
 have hK1 : KAt w1 K.kb K.T.tb K.fds K.ob K.eb := HKR.out.kern.kept hkp (HKR.out.apart _ (.inl rfl))
 have hc : w1.cell? ⟨K.kb, 1 + j, none⟩ = some (endV (K.fds j)) := hK1.fd j hj16
 have hfz : ∀ o, w1.frozen? ⟨K.kb, o, none⟩ = false := fun o => hK1.free o
 have hlt : K.kb < w1.heap.size := hK1.lt
 clear hk hf hof hR hkp hft hK1 HP HFR
 go_wp2_with fail
 go_ret2
 exact HX.out
end
section
end
end Go.Proofs.YteeeaeiafdgpkaaGreatDoor
