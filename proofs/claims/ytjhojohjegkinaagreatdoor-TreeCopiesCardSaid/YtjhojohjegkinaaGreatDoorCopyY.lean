/-
  Copy.
-/
import Derived.Test.YtjhojohjegkinaaGreatDoorCopyX
namespace Go.Proofs.YtjhojohjegkinaaGreatDoor
open Go Go.RowKit

/-- What Copy leaves. -/
def CopyPost (w : World) (T : Tr) (e : Ending) (w' : World) : Prop :=
  ∃ tb r L C, e = .returned (nP tb) ∧ Rep w.heap.size w' (cTr T tb r C) ∧ Cp T L C (fun _ => False) ∧ lkC L T.root = some r ∧ Below w.heap.size w w'
theorem cx_new {Bt : Nat} {w : World} {T : Tr} (hR : Rep Bt w T) :
    CX Bt w.heap.size (((w.alloc (.map #[] 0)).alloc (.cells #[.map (some w.heap.size)] 143)).alloc (.cells #[.func (.func 72) #[] #[nP (w.heap.size + 1), nP (w.heap.size + 2)]] 144)) (w.heap.size + 1) (w.heap.size + 2) w.heap.size T ∧
    MadeAt (((w.alloc (.map #[] 0)).alloc (.cells #[.map (some w.heap.size)] 143)).alloc (.cells #[.func (.func 72) #[] #[nP (w.heap.size + 1), nP (w.heap.size + 2)]] 144)) w.heap.size [] := by
  have h1 := below_alloc w (.map #[] 0)
  have h2 := below_alloc (w.alloc (.map #[] 0)) (.cells #[.map (some w.heap.size)] 143)
  have h3 := below_alloc ((w.alloc (.map #[] 0)).alloc (.cells #[.map (some w.heap.size)] 143)) (.cells #[.func (.func 72) #[] #[nP (w.heap.size + 1), nP (w.heap.size + 2)]] 144)
  have e1 : (w.alloc (.map #[] 0)).heap.size = w.heap.size + 1 := by simp
  have e2 : ((w.alloc (.map #[] 0)).alloc (.cells #[.map (some w.heap.size)] 143)).heap.size = w.heap.size + 2 := by simp
  have m1 := heap_alloc_new w (.map #[] 0)
  have m2 := heap_alloc_new (w.alloc (.map #[] 0)) (.cells #[.map (some w.heap.size)] 143)
  have m3 := heap_alloc_new ((w.alloc (.map #[] 0)).alloc (.cells #[.map (some w.heap.size)] 143)) (.cells #[.func (.func 72) #[] #[nP (w.heap.size + 1), nP (w.heap.size + 2)]] 144)
  have m1' := below_heap (below_trans h2 h3) (lt_of_heap m1) m1
  have m2' := below_heap h3 (lt_of_heap m2) m2
  rw [e1] at m2'
  rw [e2] at m3
  have hb := below_trans h1 (below_trans h2 h3)
  exact ⟨⟨hR.below hb, fun q hq => hR.lt hq, m2', m3, hb.size⟩, #[], 0, m1', rfl, MapKept.stamped_empty 0⟩
set_option maxRecDepth 100000 in
set_option maxHeartbeats 4000000 in
theorem copy_any {Bt : Nat} {w : World} {T : Tr} (hR : Rep Bt w T) (hI : TI T) (f : Nat) (hd : T.deep f T.root) :
    Calls Tryz.prog 26 #[.pointer (some ⟨T.tb, 0, none⟩)] w fun e w' => CopyPost w T e w' := by
  have hmm := @run_makeMap Tryz.prog
  obtain ⟨W, hW⟩ : ∃ W, W = ((w.alloc (.map #[] 0)).alloc (.cells #[.map (some w.heap.size)] 143)).alloc (.cells #[.func (.func 72) #[] #[.pointer (some ⟨w.heap.size + 1, 0, none⟩), .pointer (some ⟨w.heap.size + 2, 0, none⟩)]] 144) := ⟨_, rfl⟩
  have HBW : Hid (Below w.heap.size w W) := by rw [hW]; exact ((below_alloc w _).alloc (by simp) _).alloc (by simp; omega) _
  have HCX : Hid (CX Bt w.heap.size W (w.heap.size + 1) (w.heap.size + 2) w.heap.size T ∧ MadeAt W w.heap.size []) := by rw [hW]; exact cx_new hR
  have HCA : Hid (Calls Tryz.prog 72 #[.pointer (some ⟨T.root, 0, none⟩), .pointer (some ⟨w.heap.size + 1, 0, none⟩), .pointer (some ⟨w.heap.size + 2, 0, none⟩)] W.drew fun e w2 => (∃ r, e = .returned (.pointer (some ⟨r, 0, none⟩)) ∧ Hid (∃ L C, CM w.heap.size w2 w.heap.size L C ∧ Cp T L C (fun _ => False) ∧ lkC L T.root = some r ∧ Below w.heap.size w w2)) ∧ w2.cell? ⟨T.tb, 0, none⟩ = some (.pointer (some ⟨T.root, 0, none⟩)) ∧ w2.cell? ⟨T.tb, 1, none⟩ = some (.int .i64 T.clock) ∧ w2.cell? ⟨T.tb, 2, none⟩ = some (.int .i64 T.count)) := by
    have hx : CX Bt w.heap.size W.drew (w.heap.size + 1) (w.heap.size + 2) w.heap.size T := HCX.out.1.below (Below.refl _ _).drew
    have hm : MadeAt W.drew w.heap.size [] := HCX.out.2
    refine (copied_walk hI.tw hI.data f T.root [] (fun _ => none) (fun _ => False) W.drew hd hx ⟨hm, Nat.le_refl _, fun c e h => (by cases h), fun c e c' e' h => (by cases h), fun c e c' e' b h => (by cases h)⟩ ⟨List.nodup_nil, List.nodup_nil, fun c e h => (by cases h), fun n c h => (by cases h)⟩).mono ?_
    rintro e w2 ⟨L2, C', c, he, h1, h2, h3, h4, h5⟩
    obtain ⟨es, ck, hmd, _⟩ := hm
    have hx2 := hx.map hmd (Nat.le_refl _) h5
    have hbw : Below w.heap.size w w2 := HBW.out.drew.trans (h5.below (fun b e => by rw [e]; exact Nat.le_refl _) (HBW.out.drew).size)
    exact ⟨⟨c, he, _, C', h1, h2, h3, hbw⟩, cell_of hx2.rep.tree rfl, cell_of hx2.rep.tree rfl, cell_of hx2.rep.tree rfl⟩
  have t0 : W.cell? ⟨T.tb, 0, none⟩ = some (.pointer (some ⟨T.root, 0, none⟩)) := cell_of (o := 0) HCX.out.1.rep.tree rfl
  have t1 : W.cell? ⟨T.tb, 1, none⟩ = some (.int .i64 T.clock) := cell_of (o := 1) HCX.out.1.rep.tree rfl
  have t2 : W.cell? ⟨T.tb, 2, none⟩ = some (.int .i64 T.count) := cell_of (o := 2) HCX.out.1.rep.tree rfl
  have tf : W.cell? ⟨w.heap.size + 2, 0, none⟩ = some (.func (.func 72) #[] #[.pointer (some ⟨w.heap.size + 1, 0, none⟩), .pointer (some ⟨w.heap.size + 2, 0, none⟩)]) := cell_of (o := 0) HCX.out.1.fn rfl
  have HW := Lib.hid hW
  have HTW := Lib.hid hI.tw
  clear hW hR hI hd HCX
  go_enter Tryz.func26, Tryz.ntmps26
  go_upto_region 6 with fail
  rw [← HW.out]
  clear HW
  go_region_with (go_at_call 72; refine HCA.out.mono ?_; rintro e w2 ⟨⟨r, rfl, HX⟩, t0', t1', t2'⟩)
  all_goals
    have HPO : Hid (CopyPost w T (.returned (nP w2.heap.size)) (w2.alloc (.cells #[.pointer (some ⟨r, 0, none⟩), .int .i64 T.clock, .int .i64 T.count] 133))) := by
      obtain ⟨L, C, h1, h2, h3, h4⟩ := HX.out
      have hb := below_alloc w2 (.cells #[.pointer (some ⟨r, 0, none⟩), .int .i64 T.clock, .int .i64 T.count] 133)
      exact ⟨_, r, L, C, rfl, (h1.below hb).rep h2 HTW.out h3 h4.size (heap_alloc_new w2 _), h2, h3, h4.trans (hb.mono h4.size)⟩
    go_wp2_with fail
    go_ret
    exact HPO.out
end Go.Proofs.YtjhojohjegkinaaGreatDoor
