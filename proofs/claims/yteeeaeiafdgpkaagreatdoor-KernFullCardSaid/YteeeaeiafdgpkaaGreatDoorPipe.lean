/-
 (*Tree).Temp, a file without a name; (*Kern).Pipe.
-/
import Derived.Test.YteeeaeiafdgpkaaGreatDoorKFileB
import Derived.Test.YteeeaeiafdgpkaaGreatDoorNewA
import Derived.BigRegion
namespace Go.Proofs.YteeeaeiafdgpkaaGreatDoor
open Go Go.RowKit
open Go.Lib (hid)
def zfg : Nd := { dir := false, bv := .slice none 0 0, data := [], names := [], mb := 0, links := 0, tick := 0 }
def tempW (w : World) (tb : Nat) : World := (w.alloc (.cells #[.bool false, .slice none 0 0, .map none, .int .i64 0, .int .i64 0] 107)).alloc (.cells #[.pointer (some ⟨w.heap.size, 0, none⟩), .pointer (some ⟨tb, 0, none⟩)] 168)
def TempPost (w : World) (tb : Nat) (e : Ending) (w' : World) : Prop := e = .returned (.pointer (some ⟨w.heap.size + 1, 0, none⟩)) ∧ w' = tempW w tb
theorem zd4 (w : World) (tb : Nat) : Below w.heap.size w (tempW w tb) := zar w _ _
theorem tempW_size (w : World) (tb : Nat) : (tempW w tb).heap.size = w.heap.size + 2 := by unfold tempW; simp
theorem tempW_node (w : World) (tb : Nat) : (tempW w tb).heap[w.heap.size]? = some (.cells #[.bool false, .slice none 0 0, .map none, .int .i64 0, .int .i64 0] 107 (0, 0)) := by
 unfold tempW
 rw [Below.heap_alloc _ _ _ (by simp)]
 exact heap_alloc_new w _
theorem tempW_file (w : World) (tb : Nat) : (tempW w tb).heap[w.heap.size + 1]? = some (.cells #[.pointer (some ⟨w.heap.size, 0, none⟩), .pointer (some ⟨tb, 0, none⟩)] 168 (0, 0)) := by
 have h := heap_alloc_new (w.alloc (.cells #[.bool false, .slice none 0 0, .map none, .int .i64 0, .int .i64 0] 107)) (.cells #[.pointer (some ⟨w.heap.size, 0, none⟩), .pointer (some ⟨tb, 0, none⟩)] 168)
 have e : (w.alloc (.cells #[.bool false, .slice none 0 0, .map none, .int .i64 0, .int .i64 0] 107)).heap.size = w.heap.size + 1 := by simp
 rw [e] at h
 exact h
theorem temp_ok (tb : Nat) (w : World) : Calls Tryz.prog 52 #[.pointer (some ⟨tb, 0, none⟩)] w fun e w' => TempPost w tb e w' := by
 go_enter Tryz.func52, Tryz.ntmps52
 go_wp2_with fail
 go_ret
 exact ⟨rfl, rfl⟩
theorem zff {T : Tr} {kn x : Nat} (h : (T.set kn zfg).foot x) : T.foot x ∨ x = kn := by
 rcases h with h | ⟨d, hd⟩ | ⟨n, d, hn, hv⟩
 ·exact .inl (.inl h)
 ·rcases za7 hd with ⟨rfl, _⟩ | ⟨_, hd⟩
  ·exact .inr rfl
  ·exact .inl (.inr (.inl ⟨d, hd⟩))
 ·rcases za7 hn with ⟨_, rfl⟩ | ⟨_, hn⟩
  ·rcases hv with ⟨h1, _⟩ | h1
   ·cases h1
   ·cases h1
  ·exact .inl (.inr (.inr ⟨n, d, hn, hv⟩))
theorem temp_rep {B : Nat} {w w1 : World} {T : Tr} (hB : B ≤ w.heap.size) (hR : Rep B w T) (hb : Below w.heap.size w w1) {kn : Nat} (hkn : w.heap.size ≤ kn) (hn : w1.heap[kn]? = some (.cells #[.bool false, .slice none 0 0, .map none, .int .i64 0, .int .i64 0] 107 (0, 0))) : Rep B w1 (T.set kn zfg) := by
 have hR1 := hR.below hb
 have hno : ∀ {n d}, T.nd n = some d → n ≠ kn := fun h e => by
  have := hR.lt (.inr (.inl ⟨_, h⟩))
  omega
 refine ⟨fun b hf => ?_, hR1.tree, fun n d h => ?_, fun n d n' d' h h' q1 q2 q3 => ?_, fun n d n' d' b h h' q1 q2 => ?_, ?_, fun n d s k h hs => ?_⟩
 ·rcases zff hf with h | rfl
  ·exact hR.low b h
  ·omega
 ·rcases za7 h with ⟨rfl, rfl⟩ | ⟨_, h⟩
  ·exact ⟨hn, World.ownsRow_nil _ _ _ _, fun h => (by cases h), fun _ => rfl⟩
  ·exact hR1.node n d h
 ·rcases za7 h with ⟨rfl, rfl⟩ | ⟨_, h⟩
  ·cases q1
  ·rcases za7 h' with ⟨rfl, rfl⟩ | ⟨_, h'⟩
   ·cases q2
   ·exact hR.maps n d n' d' h h' q1 q2 q3
 ·rcases za7 h with ⟨rfl, rfl⟩ | ⟨_, h⟩
  ·cases q1
  ·rcases za7 h' with ⟨rfl, rfl⟩ | ⟨_, h'⟩
   ·cases q2
   ·exact hR.rows n d n' d' b h h' q1 q2
 ·obtain ⟨d, h1, h2⟩ := hR.root
  exact ⟨d, (zdv T _ (hno h1)).trans h1, h2⟩
 ·rcases za7 h with ⟨rfl, rfl⟩ | ⟨_, h⟩
  ·cases hs
  ·obtain ⟨d', h1⟩ := hR.kids n d s k h hs
   exact ⟨d', (zdv T _ (hno h1)).trans h1⟩
def Ks.piped (K : Ks) (kn f a b b1 b2 : Nat) : Ks :=
 { K with T := K.T.set kn zfg, fds := zbx (zbx K.fds a (some (.file b1))) b (some (.file b2)), fl := zaz (zaz K.fl b1 ⟨f, 1, 0, kn⟩) b2 ⟨f, 0, 0, kn⟩ }
def KPipe (B : Nat) (w : World) (K : Ks) (a b : Nat) (e : Ending) (w' : World) : Prop :=
 ∃ kn f b1 b2, e = .returned (.tuple #[.int .i64 a, .int .i64 b, .nilIface]) ∧ w.heap.size ≤ kn ∧ w.heap.size ≤ f ∧ w.heap.size ≤ b1 ∧ w.heap.size ≤ b2 ∧ b1 ≠ b2 ∧ KRep B w' (K.piped kn f a b b1 b2) ∧ Kept K.foot w w' ∧ (∀ x, (K.piped kn f a b b1 b2).foot x → K.foot x ∨ w.heap.size ≤ x)
theorem piped_foot {K : Ks} {kn f a b b1 b2 L : Nat} (h1 : L ≤ kn) (h2 : L ≤ f) (h3 : L ≤ b1) (h4 : L ≤ b2) : ∀ x, (K.piped kn f a b b1 b2).foot x → K.foot x ∨ L ≤ x := by
 rintro x (hx | hx)
 ·rcases hx with h | h | h | h | h | h | h | ⟨g, h⟩ | ⟨c, g, h, he⟩
  ·exact .inl (.inl (.inl h))
  ·exact .inl (.inl (.inr (.inl h)))
  ·exact .inl (.inl (.inr (.inr (.inl h))))
  ·exact .inl (.inl (.inr (.inr (.inr (.inl h)))))
  ·exact .inl (.inl (.inr (.inr (.inr (.inr (.inl h))))))
  ·exact .inl (.inl (.inr (.inr (.inr (.inr (.inr (.inl h)))))))
  ·exact .inl (.inl (.inr (.inr (.inr (.inr (.inr (.inr (.inl h))))))))
  ·have h3' : zaz (zaz K.fl b1 ⟨f, 1, 0, kn⟩) b2 ⟨f, 0, 0, kn⟩ x = some g := h
   unfold zaz at h3'
   by_cases hc : x = b2
   ·exact .inr (by omega)
   ·by_cases hd : x = b1
    ·exact .inr (by omega)
    ·rw [if_neg hc, if_neg hd] at h3'
     exact .inl (.inl (.inr (.inr (.inr (.inr (.inr (.inr (.inr (.inl ⟨g, h3'⟩)))))))))
  ·have h3' : zaz (zaz K.fl b1 ⟨f, 1, 0, kn⟩) b2 ⟨f, 0, 0, kn⟩ c = some g := h
   unfold zaz at h3'
   by_cases hc : c = b2
   ·rw [if_pos hc] at h3'
    obtain rfl := Option.some.inj h3'
    exact .inr (by rw [← he]; exact h2)
   ·by_cases hd : c = b1
    ·rw [if_neg hc, if_pos hd] at h3'
     obtain rfl := Option.some.inj h3'
     exact .inr (by rw [← he]; exact h2)
    ·rw [if_neg hc, if_neg hd] at h3'
     exact .inl (.inl (.inr (.inr (.inr (.inr (.inr (.inr (.inr (.inr ⟨c, g, h3', he⟩)))))))))
 ·rcases zff hx with h | h
  ·exact .inl (.inr h)
  ·exact .inr (by omega)
theorem fl_same (fl : Nat → Option Fl) (b : Nat) (f : Fl) : zaz fl b f b = some f := by unfold zaz; rw [if_pos rfl]
theorem fl_other (fl : Nat → Option Fl) {b x : Nat} (f : Fl) (h : x ≠ b) : zaz fl b f x = fl x := by unfold zaz; rw [if_neg h]
theorem pipe_made {B : Nat} {w W0 W : World} {K : Ks} (hB : B ≤ w.heap.size) (hK : KRep B w K) {a b : Nat} {b1 b2 : Nat} (hW0 : Below (w.heap.size + 2) (tempW w K.T.tb) W0) (q1 : w.heap.size + 2 ≤ b1) (q2 : w.heap.size + 2 ≤ b2) (q12 : b1 ≠ b2)
  (o1 : W0.heap[b1]? = some (.cells #[.pointer (some ⟨w.heap.size + 1, 0, none⟩), .int .i64 1, .int .i64 0] 125 (0, 0))) (o2 : W0.heap[b2]? = some (.cells #[.pointer (some ⟨w.heap.size + 1, 0, none⟩), .int .i64 0, .int .i64 0] 125 (0, 0)))
  (hk : KAt W K.kb K.T.tb (zbx (zbx K.fds a (some (.file b1))) b (some (.file b2))) K.ob K.eb) (hkp : Kept (fun x => x = K.kb) W0 W) : KPipe B w K a b (.returned (.tuple #[.int .i64 a, .int .i64 b, .nilIface])) W := by
 have hsz := tempW_size w K.T.tb
 have hW0' : Below (tempW w K.T.tb).heap.size (tempW w K.T.tb) W0 := by rw [hsz]; exact hW0
 have hR1 := temp_rep hB hK.tree (zd4 w K.T.tb) (Nat.le_refl _) (tempW_node w K.T.tb)
 have hno : ∀ {n d}, K.T.nd n = some d → n ≠ w.heap.size := fun h e => by
  have := hK.tree.lt (.inr (.inl ⟨_, h⟩))
  omega
 have h1 : KRep B (tempW w K.T.tb) { K with T := K.T.set w.heap.size zfg } := hK.setTree hR1 rfl (Kept.of_below (zd4 w K.T.tb) _) (fun x hx => by
  rcases zff hx with h | h
  ·exact .inl h
  ·exact .inr (by omega)) (fun n d hn hd => ⟨d, (zdv _ _ (hno hn)).trans hn, hd⟩)
 have h2 := h1.below hW0'
 have hf : W0.heap[w.heap.size + 1]? = some (.cells #[.pointer (some ⟨w.heap.size, 0, none⟩), .pointer (some ⟨K.T.tb, 0, none⟩)] 168 (0, 0)) := zae hW0 (by omega) (tempW_file w K.T.tb)
 have hnf : ¬ (K.T.set w.heap.size zfg).foot (w.heap.size + 1) := fun hx => by
  rcases zff hx with h | h
  ·have := hK.tree.lt h; omega
  ·omega
 have hbf : ∀ x, w.heap.size + 2 ≤ x → ¬ (K.T.set w.heap.size zfg).foot x := fun x hx hf => by
  have := h1.tree.lt hf
  omega
 have h3 := h2.addFile (b := b1) (f := ⟨w.heap.size + 1, 1, 0, w.heap.size⟩) o1 hf ⟨_, set_k _ _ _, rfl⟩ (by omega) (by show B ≤ w.heap.size + 1; omega) (hbf b1 q1) hnf
 have h4 := h3.addFile (b := b2) (f := ⟨w.heap.size + 1, 0, 0, w.heap.size⟩) o2 hf ⟨_, set_k _ _ _, rfl⟩ (by omega) (by show B ≤ w.heap.size + 1; omega) (hbf b2 q2) hnf
 have h5 := h4.setFds hk hkp (fun j => by
  unfold zbx
  by_cases hj : j = b
  ·rw [if_pos hj]
   exact ⟨⟨w.heap.size + 1, 0, 0, w.heap.size⟩, fl_same _ _ _⟩
  ·rw [if_neg hj]
   by_cases hj' : j = a
   ·rw [if_pos hj']
    exact ⟨⟨w.heap.size + 1, 1, 0, w.heap.size⟩, (fl_other _ _ q12).trans (fl_same _ _ _)⟩
   ·rw [if_neg hj']
    exact h4.goodFds j)
 refine ⟨w.heap.size, w.heap.size + 1, b1, b2, rfl, Nat.le_refl _, Nat.le_succ _, by omega, by omega, q12, h5, ?_, piped_foot (Nat.le_refl _) (Nat.le_succ _) (by omega) (by omega)⟩
 refine ((Kept.of_below (zd4 w K.T.tb) K.foot).then_below hW0').trans hkp ?_
 rintro x rfl
 exact .inl (.inl (.inl rfl))
set_option maxRecDepth 100000 in
set_option maxHeartbeats 1000000 in
theorem kern_pipe {B : Nat} (w : World) {K : Ks} (hB : B ≤ w.heap.size) (hK : KRep B w K) (a b : Nat) (ha : za3 K.fds 0 = some a) (hb : za3 K.fds (a + 1) = some b) :
  Calls Tryz.prog 23 #[.pointer (some ⟨K.kb, 0, none⟩)] w fun e w' => KPipe B w K a b e w' := by
 have ha16 : a < 16 := (zby ha).2.1
 have hb16 : b < 16 := (zby hb).2.1
 have hab : a < b := (zby hb).1
 have HFA : Hid (Calls Tryz.prog 48 #[.pointer (some ⟨K.kb, 0, none⟩), .int .i64 0] w fun e w' => zcr w (some a) e w') := by
  have h1 := zce hK.kern 0 (by omega)
  rw [ha] at h1
  exact h1
 have HFB : Hid (Calls Tryz.prog 48 #[.pointer (some ⟨K.kb, 0, none⟩), .int .i64 ((a : Int) + 1)] w fun e w' => zcr w (some b) e w') := by
  have h1 := zce hK.kern (a + 1) (by omega)
  rw [hb] at h1
  exact h1
 have HM := hid (fun (W0 W : World) (b1 b2 : Nat) => pipe_made (W0 := W0) (W := W) (a := a) (b := b) (b1 := b1) (b2 := b2) hB hK)
 have HK := hid hK
 have hai : (a : Int) < 16 := by omega
 have hbi : (b : Int) < 16 := by omega
 have haj : (0 : Int) ≤ a := by omega
 have hkt : w.cell? ⟨K.kb, 0, none⟩ = some (.pointer (some ⟨K.T.tb, 0, none⟩)) := by
  obtain ⟨c, h1, _, h2, _⟩ := hK.kern.cells
  exact zaa h1 h2
 clear hK ha hb hB
 go_enter Tryz.func23, Tryz.ntmps23
 go_wp2_with fail
 refine HFA.out.mono ?_
 rintro e w1 ⟨rfl, rfl⟩
 simp only [freeV]
 go_wp2_with fail
 refine HFB.out.mono ?_
 rintro e w2 ⟨rfl, rfl⟩
 simp only [freeV]
 go_wp2_with fail
 refine (temp_ok K.T.tb _).mono ?_
 rintro e w3 ⟨rfl, hw3⟩
 have HSZ : Hid (w3.heap.size = w2.heap.size + 2) := by rw [hw3]; exact tempW_size _ _
 have HKA : Hid (KAt w3 K.kb K.T.tb K.fds K.ob K.eb) := by rw [hw3]; exact HK.out.kern.kept (Kept.of_below (zd4 _ _) (fun _ => False)) (fun h => h)
 have HW3 := hid hw3
 clear hw3
 have hca : w3.cell? ⟨K.kb, 1 + a, none⟩ = some (endV (K.fds a)) := HKA.out.fd a ha16
 have hcb : w3.cell? ⟨K.kb, 1 + b, none⟩ = some (endV (K.fds b)) := HKA.out.fd b hb16
 have hfz : ∀ o, w3.frozen? ⟨K.kb, o, none⟩ = false := fun o => HKA.out.free o
 have hkl : K.kb < w3.heap.size := HKA.out.lt
 have hn1 : ¬ a = b := by omega
 have hn2 : ¬ b = a := by omega
 go_wp2_with fail
 have hbb : a ≠ b := hn1
 have HAB := hid hbb
 have HW0 : Hid (∀ o1 o2, Below (w2.heap.size + 2) (tempW w2 K.T.tb) (((w3.alloc o1).alloc o2).drew)) := by
  intro o1 o2
  rw [← HW3.out, ← HSZ.out]
  exact (zar w3 o1 o2).drew
 have HAT : Hid (∀ o1 o2 x y, KAt (((((w3.setCell ⟨K.kb, 1 + a, none⟩ (endV (some (.file x)))).setCell ⟨K.kb, 1 + b, none⟩ (endV (some (.file y)))).alloc o1).alloc o2).drew) K.kb K.T.tb (zbx (zbx K.fds a (some (.file x))) b (some (.file y))) K.ob K.eb) :=
  fun o1 o2 x y => (((HKA.out.set a ha16 _).set b hb16 _).kept (Kept.of_below (zar _ o1 o2) (fun _ => False)) (fun h => h)).drew
 have HKP : Hid (∀ o1 o2 va vb, Kept (fun x => x = K.kb) (((w3.alloc o1).alloc o2).drew) (((((w3.setCell ⟨K.kb, 1 + a, none⟩ va).setCell ⟨K.kb, 1 + b, none⟩ vb).alloc o1).alloc o2).drew)) := by
  intro o1 o2 va vb
  have e : ((((w3.setCell ⟨K.kb, 1 + a, none⟩ va).setCell ⟨K.kb, 1 + b, none⟩ vb).alloc o1).alloc o2).drew = (((w3.alloc o1).alloc o2).drew.setCell ⟨K.kb, 1 + a, none⟩ va).setCell ⟨K.kb, 1 + b, none⟩ vb := by
   rw [← World.setCell_alloc_past _ K.kb (1 + b) _ (by simp [World.setCell]; exact hkl), ← World.setCell_alloc_past _ K.kb (1 + a) _ hkl, ← World.setCell_alloc_past _ K.kb (1 + b) _ (by simp [World.setCell]; omega), ← World.setCell_alloc_past _ K.kb (1 + a) _ (by simp; omega)]
   rfl
  rw [e]
  exact ((Kept.refl (fun x => x = K.kb) _).setCell (p := ⟨K.kb, 1 + a, none⟩) (.inl rfl) _).setCell (p := ⟨K.kb, 1 + b, none⟩) (.inl rfl) _
 have HO1 : Hid (∀ o1 o2, (((w3.alloc o1).alloc o2).drew).heap[w3.heap.size]? = some o1) := by
  intro o1 o2
  rw [zdy, Below.heap_alloc _ _ _ (by simp)]
  exact heap_alloc_new w3 o1
 have HO2 : Hid (∀ o1 o2, (((w3.alloc o1).alloc o2).drew).heap[w3.heap.size + 1]? = some o2) := by
  intro o1 o2
  have h := heap_alloc_new (w3.alloc o1) o2
  have e : (w3.alloc o1).heap.size = w3.heap.size + 1 := by simp
  rw [zdy, ← e]
  exact h
 clear hab hbb
 go_region
 ·go_wp2_with fail
  go_ret3
  exact HM.out _ _ w3.heap.size (w3.heap.size + 1) (HW0.out _ _) (by rw [HSZ.out]; exact Nat.le_refl _) (by rw [HSZ.out]; omega) (by omega) (HO1.out _ _) (HO2.out _ _) (HAT.out _ _ _ _) (HKP.out _ _ _ _)
 ·go_wp2_with fail
  go_ret3
  exact HM.out _ _ (w3.heap.size + 1) w3.heap.size (HW0.out _ _) (by rw [HSZ.out]; omega) (by rw [HSZ.out]; exact Nat.le_refl _) (by omega) (HO2.out _ _) (HO1.out _ _) (HAT.out _ _ _ _) (HKP.out _ _ _ _)
end Go.Proofs.YteeeaeiafdgpkaaGreatDoor
