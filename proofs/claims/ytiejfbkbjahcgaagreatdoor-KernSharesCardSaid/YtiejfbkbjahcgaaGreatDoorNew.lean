/-
  tree.New, kern.New: their contracts.
-/
import Derived.Test.YtiejfbkbjahcgaaGreatDoorKrep
namespace Go.Proofs.YtiejfbkbjahcgaaGreatDoor
open Go Go.RowKit

/-- A tree of a root alone. -/
def newTr (tb root mb : Nat) : Tr := { tb := tb, root := root, clock := 0, count := 1, nd := fun n => if n = root then some { dir := true, bv := .slice none 0 0, data := [], names := [], mb := mb, links := 0, tick := 0 } else none }

theorem newTr_nd {tb root mb n : Nat} {d : Nd} (h : (newTr tb root mb).nd n = some d) : n = root ∧ d = { dir := true, bv := .slice none 0 0, data := [], names := [], mb := mb, links := 0, tick := 0 } := by
  unfold newTr at h
  by_cases hn : n = root
  · simp only [hn, if_true] at h
    exact ⟨hn, (Option.some.inj h).symm⟩
  · simp only [hn, if_false] at h
    cases h
theorem newTr_root (tb root mb : Nat) : (newTr tb root mb).nd root = some { dir := true, bv := .slice none 0 0, data := [], names := [], mb := mb, links := 0, tick := 0 } := by simp [newTr]

theorem newTr_rep {B : Nat} {w : World} {tb root mb : Nat} (h1 : w.heap[tb]? = some (.cells #[ptrV (some root), .int .i64 0, .int .i64 1] 139 (0, 0)))
    (h2 : w.heap[root]? = some (.cells #[.bool true, .slice none 0 0, .map (some mb), .int .i64 0, .int .i64 0] 132 (0, 0))) (h3 : w.heap[mb]? = some (.map #[] 0)) (b1 : B ≤ tb) (b2 : B ≤ root) (b3 : B ≤ mb) : Rep B w (newTr tb root mb) where
  low b hb := by
    rcases hb with rfl | ⟨d, hd⟩ | ⟨n, d, hn, h⟩
    · exact b1
    · obtain ⟨rfl, _⟩ := newTr_nd hd; exact b2
    · obtain ⟨rfl, rfl⟩ := newTr_nd hn
      rcases h with ⟨_, rfl⟩ | h
      · exact b3
      · cases h
  tree := h1
  node n d hn := by
    obtain ⟨rfl, rfl⟩ := newTr_nd hn
    exact ⟨h2, World.ownsRow_nil _ _ _ _, fun _ => ⟨#[], 0, h3, rfl, MapKept.stamped_empty 0⟩, fun h => by cases h⟩
  maps n d n' d' hn hn' _ _ _ := by
    obtain ⟨rfl, _⟩ := newTr_nd hn
    obtain ⟨rfl, _⟩ := newTr_nd hn'
    rfl
  rows n d n' d' b hn hn' hb _ := by
    obtain ⟨rfl, rfl⟩ := newTr_nd hn
    cases hb
  root := ⟨_, newTr_root tb root mb, rfl⟩
  kids n d s k hn hk := by
    obtain ⟨rfl, rfl⟩ := newTr_nd hn
    cases hk

theorem newTr_foot {tb root mb b : Nat} (h : (newTr tb root mb).foot b) : b = tb ∨ b = root ∨ b = mb := by
  rcases h with rfl | ⟨d, hd⟩ | ⟨n, d, hn, h⟩
  · exact .inl rfl
  · obtain ⟨rfl, _⟩ := newTr_nd hd; exact .inr (.inl rfl)
  · obtain ⟨rfl, rfl⟩ := newTr_nd hn
    rcases h with ⟨_, rfl⟩ | h
    · exact .inr (.inr rfl)
    · cases h

/-- What tree.New leaves. -/
def NewPost (w : World) (e : Ending) (w' : World) : Prop :=
  e = .returned (.pointer (some ⟨w.heap.size + 2, 0, none⟩)) ∧ (∀ B, B ≤ w.heap.size → Rep B w' (newTr (w.heap.size + 2) (w.heap.size + 1) w.heap.size)) ∧ Below w.heap.size w w' ∧ w'.heap.size = w.heap.size + 3

theorem newW_post (w : World) : NewPost w (.returned (.pointer (some ⟨w.heap.size + 2, 0, none⟩)))
    (((w.alloc (.map #[] 0)).alloc (.cells #[.bool true, .slice none 0 0, .map (some w.heap.size), .int .i64 0, .int .i64 0] 132)).alloc (.cells #[.pointer (some ⟨w.heap.size + 1, 0, none⟩), .int .i64 0, .int .i64 1] 139)) := by
  refine ⟨rfl, fun B hB => newTr_rep ?_ ?_ ?_ (by omega) (by omega) hB, below_trans (below_two w _ _) (below_alloc _ _), by simp⟩
  · have h := heap_alloc_new ((w.alloc (.map #[] 0)).alloc (.cells #[.bool true, .slice none 0 0, .map (some w.heap.size), .int .i64 0, .int .i64 0] 132)) (.cells #[.pointer (some ⟨w.heap.size + 1, 0, none⟩), .int .i64 0, .int .i64 1] 139)
    simpa [ptrV] using h
  · rw [Below.heap_alloc _ _ _ (by simp)]
    have h := heap_alloc_new (w.alloc (.map #[] 0)) (.cells #[.bool true, .slice none 0 0, .map (some w.heap.size), .int .i64 0, .int .i64 0] 132)
    simpa using h
  · rw [Below.heap_alloc _ _ _ (by simp; omega), Below.heap_alloc _ _ _ (by simp)]
    exact heap_alloc_new w _

set_option maxHeartbeats 400000 in
theorem tree_new (w : World) : Calls Tryz.prog 40 #[] w fun e w' => NewPost w e w' := by
  have hmm := @Go.RowKit.run_makeMap Tryz.prog
  have H : Hid (NewPost w (.returned (.pointer (some ⟨w.heap.size + 2, 0, none⟩)))
    (((w.alloc (.map #[] 0)).alloc (.cells #[.bool true, .slice none 0 0, .map (some w.heap.size), .int .i64 0, .int .i64 0] 132)).alloc (.cells #[.pointer (some ⟨w.heap.size + 1, 0, none⟩), .int .i64 0, .int .i64 1] 139))) := newW_post w
  go_enter Tryz.func40, Tryz.ntmps40
  go_wp2_with fail
  go_ret
  exact H.out


/-- The block of a new kern. -/
def kernObj (tb ob eb : Nat) : Obj := .cells #[.pointer (some ⟨tb, 0, none⟩), .nilIface, .nilIface, .nilIface, .nilIface, .nilIface, .nilIface, .nilIface, .nilIface, .nilIface, .nilIface, .nilIface, .nilIface, .nilIface, .nilIface, .nilIface, .nilIface,
  .pointer (some ⟨ob, 0, none⟩), .pointer (some ⟨eb, 0, none⟩)] 182
/-- The world behind the making of its three blocks. -/
def kernW (w : World) (tb : Nat) : World := ((w.alloc (.cells #[.slice none 0 0] 177)).alloc (.cells #[.slice none 0 0] 177)).alloc (kernObj tb w.heap.size (w.heap.size + 1))



/-- The descriptors of a new kern. -/
def fds3 (ib ob eb : Nat) : Nat → Option End := fun j => if j = 0 then some (.inp ib) else if j = 1 then some (.out ob) else if j = 2 then some (.out eb) else none

/-- What kern.New leaves. -/
def KNewPost (B : Nat) (w : World) (T : Tr) (il : List UInt8) (e : Ending) (w' : World) : Prop :=
  ∃ K : Ks, e = .returned (.pointer (some ⟨K.kb, 0, none⟩)) ∧ KRep B w' K ∧ K.T = T ∧ K.fds = fds3 K.ib K.ob K.eb ∧ K.inL = il ∧ K.outL = [] ∧ K.errL = [] ∧ K.fl = (fun _ => none) ∧
    Below w.heap.size w w' ∧ (∀ b, K.own b → w.heap.size ≤ b)

theorem kern_made {B : Nat} {w w2 : World} {T : Tr} {il : List UInt8} (hB : B ≤ w.heap.size) (hR : Rep B w T) {a : Option Addr} {n c : Nat} (hn : n = il.length)
    (hK : w2.heap[w.heap.size + 2]? = some (kernObj T.tb w.heap.size (w.heap.size + 1))) (hO : w2.heap[w.heap.size]? = some (.cells #[.slice none 0 0] 177 (0, 0))) (hE : w2.heap[w.heap.size + 1]? = some (.cells #[.slice none 0 0] 177 (0, 0)))
    (hrow : w2.ownsRow w.heap.size 5 1 (.slice a n c) il.length (u8s il)) (hb : Below w.heap.size w w2) :
    KNewPost B w T il (.returned (.pointer (some ⟨w.heap.size + 2, 0, none⟩)))
      ((((w2.setCell ⟨w.heap.size + 2, 1, none⟩ (.iface 183 (.pointer (some ⟨w2.heap.size, 0, none⟩)))).setCell ⟨w.heap.size + 2, 2, none⟩ (.iface 175 (.pointer (some ⟨w.heap.size, 0, none⟩)))).setCell ⟨w.heap.size + 2, 3, none⟩ (.iface 175 (.pointer (some ⟨w.heap.size + 1, 0, none⟩)))).alloc (.cells #[.slice a n c] 184)) := by
  subst hn
  have hk2 := lt_of_heap hK
  have hkept : Kept (fun b => b = w.heap.size + 2) w2 ((((w2.setCell ⟨w.heap.size + 2, 1, none⟩ (.iface 183 (.pointer (some ⟨w2.heap.size, 0, none⟩)))).setCell ⟨w.heap.size + 2, 2, none⟩ (.iface 175 (.pointer (some ⟨w.heap.size, 0, none⟩)))).setCell ⟨w.heap.size + 2, 3, none⟩ (.iface 175 (.pointer (some ⟨w.heap.size + 1, 0, none⟩)))).alloc (.cells #[.slice a il.length c] 184)) :=
    ((((Kept.refl (fun b => b = w.heap.size + 2) w2).setCell (p := ⟨w.heap.size + 2, 1, none⟩) (.inl rfl) _).setCell (p := ⟨w.heap.size + 2, 2, none⟩) (.inl rfl) _).setCell (p := ⟨w.heap.size + 2, 3, none⟩) (.inl rfl) _).alloc _
  have hin : ((((w2.setCell ⟨w.heap.size + 2, 1, none⟩ (.iface 183 (.pointer (some ⟨w2.heap.size, 0, none⟩)))).setCell ⟨w.heap.size + 2, 2, none⟩ (.iface 175 (.pointer (some ⟨w.heap.size, 0, none⟩)))).setCell ⟨w.heap.size + 2, 3, none⟩ (.iface 175 (.pointer (some ⟨w.heap.size + 1, 0, none⟩)))).alloc (.cells #[.slice a il.length c] 184)).heap[w2.heap.size]? = some (.cells #[.slice a il.length c] 184 (0, 0)) := by
    have h := heap_alloc_new (((w2.setCell ⟨w.heap.size + 2, 1, none⟩ (.iface 183 (.pointer (some ⟨w2.heap.size, 0, none⟩)))).setCell ⟨w.heap.size + 2, 2, none⟩ (.iface 175 (.pointer (some ⟨w.heap.size, 0, none⟩)))).setCell ⟨w.heap.size + 2, 3, none⟩ (.iface 175 (.pointer (some ⟨w.heap.size + 1, 0, none⟩)))) (.cells #[.slice a il.length c] 184)
    have e : (((w2.setCell ⟨w.heap.size + 2, 1, none⟩ (.iface 183 (.pointer (some ⟨w2.heap.size, 0, none⟩)))).setCell ⟨w.heap.size + 2, 2, none⟩ (.iface 175 (.pointer (some ⟨w.heap.size, 0, none⟩)))).setCell ⟨w.heap.size + 2, 3, none⟩ (.iface 175 (.pointer (some ⟨w.heap.size + 1, 0, none⟩)))).heap.size = w2.heap.size := by simp [World.setCell]
    rw [e] at h
    exact h
  have hkn0 := heap_set_same (heap_set_same (heap_set_same hK 1 (.iface 183 (.pointer (some ⟨w2.heap.size, 0, none⟩)))) 2 (.iface 175 (.pointer (some ⟨w.heap.size, 0, none⟩)))) 3 (.iface 175 (.pointer (some ⟨w.heap.size + 1, 0, none⟩)))
  have hkn := (Below.heap_alloc _ (.cells #[.slice a il.length c] 184) _ (lt_of_heap hkn0)).trans hkn0
  generalize ((((w2.setCell ⟨w.heap.size + 2, 1, none⟩ (.iface 183 (.pointer (some ⟨w2.heap.size, 0, none⟩)))).setCell ⟨w.heap.size + 2, 2, none⟩ (.iface 175 (.pointer (some ⟨w.heap.size, 0, none⟩)))).setCell ⟨w.heap.size + 2, 3, none⟩ (.iface 175 (.pointer (some ⟨w.heap.size + 1, 0, none⟩)))).alloc (.cells #[.slice a il.length c] 184)) = w3 at *
  have hb3 : Below w.heap.size w w3 := hb.trans (hkept.below (fun b hb => by omega) hb.size)
  have hrow3 : w3.ownsRow w.heap.size 5 1 (.slice a il.length c) il.length (u8s il) := ownsRow_kept hrow hkept (fun r hr e => by
    obtain ⟨cr, hcr⟩ := row_cells hrow hr
    exact cells_ne_type hcr hK (by decide) e)
  refine ⟨{ kb := w.heap.size + 2, ib := w2.heap.size, ob := w.heap.size, eb := w.heap.size + 1, T := T, fds := fds3 w2.heap.size w.heap.size (w.heap.size + 1), inV := .slice a il.length c, outV := .slice none 0 0, errV := .slice none 0 0, inL := il, outL := [], errL := [], fl := fun _ => none }, rfl, ?_, rfl, rfl, rfl, rfl, rfl, rfl, hb3, ?_⟩
  · have low : ∀ b, (b = w.heap.size + 2 ∨ b = w2.heap.size ∨ b = w.heap.size ∨ b = w.heap.size + 1 ∨ (Value.slice a il.length c).ownBlock = some b ∨ (Value.slice none 0 0).ownBlock = some b ∨ (Value.slice none 0 0).ownBlock = some b ∨ (∃ f : Fl, (none : Option Fl) = some f) ∨ ∃ (q : Nat) (f : Fl), (none : Option Fl) = some f ∧ f.fb = b) → w.heap.size ≤ b := by
      rintro b (rfl | rfl | rfl | rfl | h | h | h | ⟨f, h⟩ | ⟨_, f, h, _⟩)
      · omega
      · omega
      · omega
      · omega
      · exact (hrow.lt b h).1
      · cases h
      · cases h
      · cases h
      · cases h
    refine ⟨⟨⟨_, hkn, rfl, rfl, fun j hj => ?_, rfl, rfl⟩⟩, hR.below hb3, fun b hb => Nat.le_trans hB (low b hb), fun b hb hf => ?_, hin, Src.of_owns hrow3, fun r hr => row_cells hrow3 hr, ?_, World.ownsRow_nil _ _ _ _, ?_, World.ownsRow_nil _ _ _ _, by show w.heap.size ≠ w.heap.size + 1; omega, fun r hr => (by cases hr), fun r hr => (by cases hr), fun r hr => (by cases hr), fun b f hf => (by cases hf), fun j => ?_⟩
    · have : j = 0 ∨ j = 1 ∨ j = 2 ∨ j = 3 ∨ j = 4 ∨ j = 5 ∨ j = 6 ∨ j = 7 ∨ j = 8 ∨ j = 9 ∨ j = 10 ∨ j = 11 ∨ j = 12 ∨ j = 13 ∨ j = 14 ∨ j = 15 := by omega
      rcases this with rfl | rfl | rfl | rfl | rfl | rfl | rfl | rfl | rfl | rfl | rfl | rfl | rfl | rfl | rfl | rfl <;> rfl
    · have h1 := hR.lt hf
      have h2 := low b hb
      omega
    · exact (hkept.block _ (lt_of_heap hO) (by show ¬ w.heap.size = w.heap.size + 2; omega)).trans hO
    · exact (hkept.block _ (lt_of_heap hE) (by show ¬ w.heap.size + 1 = w.heap.size + 2; omega)).trans hE
    · unfold fds3
      dsimp only
      split
      · rfl
      · split
        · exact .inl rfl
        · split
          · exact .inr rfl
          · trivial
  · rintro b (rfl | rfl | rfl | rfl | h | h | h | ⟨f, h⟩ | ⟨_, f, h, _⟩)
    · show w.heap.size ≤ w.heap.size + 2; omega
    · show w.heap.size ≤ w2.heap.size; omega
    · exact Nat.le_refl _
    · show w.heap.size ≤ w.heap.size + 1; omega
    · exact (hrow.lt b h).1
    · cases h
    · cases h
    · cases h
    · cases h

section
attribute [local go_sem ↓] ap_rule
set_option maxRecDepth 100000 in
set_option maxHeartbeats 1000000 in
theorem kern_new_given {B : Nat} {T : Tr} (w : World) (iv : Value) (il : List UInt8) (hs : Src w iv il) (hl : il.length ≤ 140737488355328) (hB : B ≤ w.heap.size) (hR : Rep B w T) :
    Calls Tryz.prog 52 #[.pointer (some ⟨T.tb, 0, none⟩), iv] w fun e w' => KNewPost B w T il e w' := by
  have hiv : ∃ ia ic, iv = .slice ia il.length ic := by
    rcases hs with ⟨h1, h2⟩ | ⟨ad, c, h1, _⟩
    · exact ⟨none, 0, by rw [h1, h2]; rfl⟩
    · exact ⟨_, _, h1⟩
  obtain ⟨ia, ic, rfl⟩ := hiv
  have HS : Hid (Src w (.slice ia il.length ic) il) := hs
  have HRR : Hid (Rep B w T) := hR
  have HWD : Hid (Below w.heap.size w (kernW w T.tb).drew) := (below_trans (below_two w _ _) (below_alloc _ _)).drew
  have HS1 : Hid (Src (kernW w T.tb).drew (.slice ia il.length ic) il) := HS.out.kept (Kept.of_below HWD.out (fun _ => False)) (fun _ _ hf => hf)
  obtain ⟨hok, hn2, hown2, hgrow2⟩ := ap_known (w := (kernW w T.tb).drew) w.heap.size (.slice none 0 0) 0 [] (World.ownsRow_nil _ _ _ _) _ il HS1.out (by omega) HWD.out.size
  have esz : (kernW w T.tb).drew.heap.size = w.heap.size + 3 := by simp [kernW, World.drew]
  have hblk : ∀ k, k < w.heap.size + 3 → (apW (kernW w T.tb).drew (.slice none 0 0) (.slice ia il.length ic)).heap[k]? = (kernW w T.tb).heap[k]? := fun k hk => hgrow2.block k (by rw [esz]; omega) (by simp [Value.ownBlock])
  have HK2 : Hid ((apW (kernW w T.tb).drew (.slice none 0 0) (.slice ia il.length ic)).heap[w.heap.size + 2]? = some (kernObj T.tb w.heap.size (w.heap.size + 1))) := by
    have h := heap_alloc_new ((w.alloc (.cells #[.slice none 0 0] 177)).alloc (.cells #[.slice none 0 0] 177)) (kernObj T.tb w.heap.size (w.heap.size + 1))
    refine (hblk _ (by omega)).trans ?_
    unfold kernW
    simpa using h
  have HK3 : Hid ((kernW w T.tb).drew.heap[w.heap.size + 2]? = some (kernObj T.tb w.heap.size (w.heap.size + 1))) := (hblk _ (by omega)).symm.trans HK2.out
  have HO : Hid ((apW (kernW w T.tb).drew (.slice none 0 0) (.slice ia il.length ic)).heap[w.heap.size]? = some (.cells #[.slice none 0 0] 177 (0, 0))) := by
    refine (hblk _ (by omega)).trans ?_
    unfold kernW
    rw [Below.heap_alloc _ _ _ (by simp; omega), Below.heap_alloc _ _ _ (by simp)]
    exact heap_alloc_new w _
  have HE : Hid ((apW (kernW w T.tb).drew (.slice none 0 0) (.slice ia il.length ic)).heap[w.heap.size + 1]? = some (.cells #[.slice none 0 0] 177 (0, 0))) := by
    refine (hblk _ (by omega)).trans ?_
    unfold kernW
    rw [Below.heap_alloc _ _ _ (by simp)]
    have h := heap_alloc_new (w.alloc (.cells #[.slice none 0 0] 177)) (.cells #[.slice none 0 0] 177)
    simpa using h
  have HN2 : Hid (apN (kernW w T.tb).drew (.slice none 0 0) (.slice ia il.length ic) = 0 + il.length) := hn2
  have HO2 : Hid ((apW (kernW w T.tb).drew (.slice none 0 0) (.slice ia il.length ic)).ownsRow w.heap.size 5 1 (.slice (apA (kernW w T.tb).drew (.slice none 0 0) (.slice ia il.length ic)) (apN (kernW w T.tb).drew (.slice none 0 0) (.slice ia il.length ic)) (apC (kernW w T.tb).drew (.slice none 0 0) (.slice ia il.length ic))) il.length (u8s il)) := by
    show World.ownsRow _ _ _ _ _ _ _
    have h := hown2
    rw [Nat.zero_add, List.nil_append] at h
    exact h
  have HG2 : Hid (Below w.heap.size w (apW (kernW w T.tb).drew (.slice none 0 0) (.slice ia il.length ic))) := HWD.out.trans ⟨hgrow2.os, hgrow2.tape, hgrow2.output, hgrow2.size, fun k hk => hblk k (by omega)⟩
  have HFIN : Hid (KNewPost B w T il (.returned (.pointer (some ⟨w.heap.size + 2, 0, none⟩))) _) := kern_made (Nat.le_trans hB (Nat.le_refl _)) HRR.out (HN2.out.trans (Nat.zero_add _)) HK2.out HO.out HE.out HO2.out HG2.out
  clear hn2 hown2 hgrow2 esz hblk HO HE
  generalize hW : kernW w T.tb = W at *
  have q1 : (apW W.drew (.slice none 0 0) (.slice ia il.length ic)).cell? ⟨w.heap.size + 1 + 1, 1, none⟩ = some .nilIface := cell_of HK2.out rfl
  have q2 : (apW W.drew (.slice none 0 0) (.slice ia il.length ic)).cell? ⟨w.heap.size + 1 + 1, 2, none⟩ = some .nilIface := cell_of HK2.out rfl
  have q3 : (apW W.drew (.slice none 0 0) (.slice ia il.length ic)).cell? ⟨w.heap.size + 1 + 1, 3, none⟩ = some .nilIface := cell_of HK2.out rfl
  have q17 : (apW W.drew (.slice none 0 0) (.slice ia il.length ic)).cell? ⟨w.heap.size + 1 + 1, 17, none⟩ = some (.pointer (some ⟨w.heap.size, 0, none⟩)) := cell_of HK2.out rfl
  have q18 : (apW W.drew (.slice none 0 0) (.slice ia il.length ic)).cell? ⟨w.heap.size + 1 + 1, 18, none⟩ = some (.pointer (some ⟨w.heap.size + 1, 0, none⟩)) := cell_of HK2.out rfl
  have qf : ∀ o, (apW W.drew (.slice none 0 0) (.slice ia il.length ic)).frozen? ⟨w.heap.size + 1 + 1, o, none⟩ = false := fun o => free_of HK2.out o
  have qz : w.heap.size + 1 + 1 < (apW W.drew (.slice none 0 0) (.slice ia il.length ic)).heap.size := lt_of_heap HK2.out
  have q170 : W.drew.cell? ⟨w.heap.size + 1 + 1, 17, none⟩ = some (.pointer (some ⟨w.heap.size, 0, none⟩)) := cell_of HK3.out rfl
  have q180 : W.drew.cell? ⟨w.heap.size + 1 + 1, 18, none⟩ = some (.pointer (some ⟨w.heap.size + 1, 0, none⟩)) := cell_of HK3.out rfl
  have HW : Hid (kernW w T.tb = W) := hW
  clear hW
  clear hs hR
  go_enter Tryz.func52, Tryz.ntmps52
  go_wp2_with fail
  change Code.wp _ _ _ _ (kernW w T.tb)
  rw [HW.out]
  go_region
  go_wp2_with fail
  go_ret
  exact HFIN.out

/-- What kern.New leaves where it makes a tree of its own. -/
def KNewPost2 (B : Nat) (w : World) (il : List UInt8) (e : Ending) (w' : World) : Prop :=
  ∃ w1, KNewPost B w1 (newTr (w.heap.size + 2) (w.heap.size + 1) w.heap.size) il e w' ∧ Below w.heap.size w w1

set_option maxRecDepth 100000 in
set_option maxHeartbeats 1000000 in
theorem kern_new_nil {B : Nat} (w : World) (iv : Value) (il : List UInt8) (hs : Src w iv il) (hl : il.length ≤ 140737488355328) (hB : B ≤ w.heap.size) :
    Calls Tryz.prog 52 #[.pointer none, iv] w fun e w' => KNewPost2 B w il e w' := by
  have hiv : ∃ ia ic, iv = .slice ia il.length ic := by
    rcases hs with ⟨h1, h2⟩ | ⟨ad, c, h1, _⟩
    · exact ⟨none, 0, by rw [h1, h2]; rfl⟩
    · exact ⟨_, _, h1⟩
  obtain ⟨ia, ic, rfl⟩ := hiv
  have HS0 : Hid (Src w (.slice ia il.length ic) il) := hs
  clear hs
  go_enter Tryz.func52, Tryz.ntmps52
  go_wp2_with fail
  refine (tree_new w).mono ?_
  intro e w1 hp
  obtain ⟨rfl, hrep, hbe, hsz⟩ := hp
  clear hsz
  have HB0 : Hid (Below w.heap.size w w1) := hbe
  have HRR : Hid (Rep B w1 (newTr (w.heap.size + 2) (w.heap.size + 1) w.heap.size)) := hrep B hB
  have HS : Hid (Src w1 (.slice ia il.length ic) il) := HS0.out.kept (Kept.of_below HB0.out (fun _ => False)) (fun _ _ hf => hf)
  have HWD : Hid (Below w1.heap.size w1 (kernW w1 (w.heap.size + 2)).drew) := (below_trans (below_two w1 _ _) (below_alloc _ _)).drew
  clear hrep hbe HS0
  have HS1 : Hid (Src (kernW w1 (w.heap.size + 2)).drew (.slice ia il.length ic) il) := HS.out.kept (Kept.of_below HWD.out (fun _ => False)) (fun _ _ hf => hf)
  obtain ⟨hok, hn2, hown2, hgrow2⟩ := ap_known (w := (kernW w1 (w.heap.size + 2)).drew) w1.heap.size (.slice none 0 0) 0 [] (World.ownsRow_nil _ _ _ _) _ il HS1.out (by omega) HWD.out.size
  have esz : (kernW w1 (w.heap.size + 2)).drew.heap.size = w1.heap.size + 3 := by simp [kernW, World.drew]
  have hblk : ∀ k, k < w1.heap.size + 3 → (apW (kernW w1 (w.heap.size + 2)).drew (.slice none 0 0) (.slice ia il.length ic)).heap[k]? = (kernW w1 (w.heap.size + 2)).heap[k]? := fun k hk => hgrow2.block k (by rw [esz]; omega) (by simp [Value.ownBlock])
  have HK2 : Hid ((apW (kernW w1 (w.heap.size + 2)).drew (.slice none 0 0) (.slice ia il.length ic)).heap[w1.heap.size + 2]? = some (kernObj (w.heap.size + 2) w1.heap.size (w1.heap.size + 1))) := by
    have h := heap_alloc_new ((w1.alloc (.cells #[.slice none 0 0] 177)).alloc (.cells #[.slice none 0 0] 177)) (kernObj (w.heap.size + 2) w1.heap.size (w1.heap.size + 1))
    refine (hblk _ (by omega)).trans ?_
    unfold kernW
    simpa using h
  have HK3 : Hid ((kernW w1 (w.heap.size + 2)).drew.heap[w1.heap.size + 2]? = some (kernObj (w.heap.size + 2) w1.heap.size (w1.heap.size + 1))) := (hblk _ (by omega)).symm.trans HK2.out
  have HO : Hid ((apW (kernW w1 (w.heap.size + 2)).drew (.slice none 0 0) (.slice ia il.length ic)).heap[w1.heap.size]? = some (.cells #[.slice none 0 0] 177 (0, 0))) := by
    refine (hblk _ (by omega)).trans ?_
    unfold kernW
    rw [Below.heap_alloc _ _ _ (by simp; omega), Below.heap_alloc _ _ _ (by simp)]
    exact heap_alloc_new w1 _
  have HE : Hid ((apW (kernW w1 (w.heap.size + 2)).drew (.slice none 0 0) (.slice ia il.length ic)).heap[w1.heap.size + 1]? = some (.cells #[.slice none 0 0] 177 (0, 0))) := by
    refine (hblk _ (by omega)).trans ?_
    unfold kernW
    rw [Below.heap_alloc _ _ _ (by simp)]
    have h := heap_alloc_new (w1.alloc (.cells #[.slice none 0 0] 177)) (.cells #[.slice none 0 0] 177)
    simpa using h
  have HN2 : Hid (apN (kernW w1 (w.heap.size + 2)).drew (.slice none 0 0) (.slice ia il.length ic) = 0 + il.length) := hn2
  have HO2 : Hid ((apW (kernW w1 (w.heap.size + 2)).drew (.slice none 0 0) (.slice ia il.length ic)).ownsRow w1.heap.size 5 1 (.slice (apA (kernW w1 (w.heap.size + 2)).drew (.slice none 0 0) (.slice ia il.length ic)) (apN (kernW w1 (w.heap.size + 2)).drew (.slice none 0 0) (.slice ia il.length ic)) (apC (kernW w1 (w.heap.size + 2)).drew (.slice none 0 0) (.slice ia il.length ic))) il.length (u8s il)) := by
    show World.ownsRow _ _ _ _ _ _ _
    have h := hown2
    rw [Nat.zero_add, List.nil_append] at h
    exact h
  have HG2 : Hid (Below w1.heap.size w1 (apW (kernW w1 (w.heap.size + 2)).drew (.slice none 0 0) (.slice ia il.length ic))) := HWD.out.trans ⟨hgrow2.os, hgrow2.tape, hgrow2.output, hgrow2.size, fun k hk => hblk k (by omega)⟩
  have HFIN : Hid (KNewPost B w1 (newTr (w.heap.size + 2) (w.heap.size + 1) w.heap.size) il (.returned (.pointer (some ⟨w1.heap.size + 2, 0, none⟩))) _) := kern_made (Nat.le_trans hB HB0.out.size) HRR.out (HN2.out.trans (Nat.zero_add _)) HK2.out HO.out HE.out HO2.out HG2.out
  clear hn2 hown2 hgrow2 esz hblk HO HE
  generalize hW : kernW w1 (w.heap.size + 2) = W at *
  have q1 : (apW W.drew (.slice none 0 0) (.slice ia il.length ic)).cell? ⟨w1.heap.size + 1 + 1, 1, none⟩ = some .nilIface := cell_of HK2.out rfl
  have q2 : (apW W.drew (.slice none 0 0) (.slice ia il.length ic)).cell? ⟨w1.heap.size + 1 + 1, 2, none⟩ = some .nilIface := cell_of HK2.out rfl
  have q3 : (apW W.drew (.slice none 0 0) (.slice ia il.length ic)).cell? ⟨w1.heap.size + 1 + 1, 3, none⟩ = some .nilIface := cell_of HK2.out rfl
  have q17 : (apW W.drew (.slice none 0 0) (.slice ia il.length ic)).cell? ⟨w1.heap.size + 1 + 1, 17, none⟩ = some (.pointer (some ⟨w1.heap.size, 0, none⟩)) := cell_of HK2.out rfl
  have q18 : (apW W.drew (.slice none 0 0) (.slice ia il.length ic)).cell? ⟨w1.heap.size + 1 + 1, 18, none⟩ = some (.pointer (some ⟨w1.heap.size + 1, 0, none⟩)) := cell_of HK2.out rfl
  have qf : ∀ o, (apW W.drew (.slice none 0 0) (.slice ia il.length ic)).frozen? ⟨w1.heap.size + 1 + 1, o, none⟩ = false := fun o => free_of HK2.out o
  have qz : w1.heap.size + 1 + 1 < (apW W.drew (.slice none 0 0) (.slice ia il.length ic)).heap.size := lt_of_heap HK2.out
  have q170 : W.drew.cell? ⟨w1.heap.size + 1 + 1, 17, none⟩ = some (.pointer (some ⟨w1.heap.size, 0, none⟩)) := cell_of HK3.out rfl
  have q180 : W.drew.cell? ⟨w1.heap.size + 1 + 1, 18, none⟩ = some (.pointer (some ⟨w1.heap.size + 1, 0, none⟩)) := cell_of HK3.out rfl
  have HW : Hid (kernW w1 (w.heap.size + 2) = W) := hW
  clear hW
  go_wp2_with fail
  change Code.wp _ _ _ _ (kernW w1 (w.heap.size + 2))
  rw [HW.out]
  go_region
  go_wp2_with fail
  go_ret
  exact ⟨w1, HFIN.out, HB0.out⟩
end
end Go.Proofs.YtiejfbkbjahcgaaGreatDoor
