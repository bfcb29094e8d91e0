/-
 fault.Tell, kern.own: their contracts, at this program's errors.
-/
import Derived.Test.YteeeaeiafdgpkaaGreatDoorAs
namespace Go.Proofs.YteeeaeiafdgpkaaGreatDoor
open Go Go.RowKit
open Go.Lib (hid)
theorem Chain.later {w w' : World} {V : Value} {a : Addr} {n : Nat} (h : Chain w V a n) (k : Below w.heap.size w w') : Chain w' V a n := by
 induction h with
 | leaf a ca ta ha => exact .leaf a ca ta (zae k (zab ha) ha)
 | placed c u v a n hc _ ih => exact .placed c u v a n ((k.cell (World.block_lt_of_cell? _ _ hc)).trans hc) ih
 | spoken c u v a n hc _ ih => exact .spoken c u v a n ((k.cell (World.block_lt_of_cell? _ _ hc)).trans hc) ih
 | refused c u v a n hc _ ih => exact .refused c u v a n ((k.cell (World.block_lt_of_cell? _ _ hc)).trans hc) ih
theorem zep {E : Nat → Addr} {B L : Nat} {w : World} {a c : Nat} (hE : Env E B w) (h : zbu E L w a c) (h1 : 1 ≤ c) (h2 : c ≤ 21) : Chain w (zcb a) (E c) 2 := by
 obtain ⟨b, _, _, ha, hb⟩ := h
 obtain ⟨cs, t, hbody⟩ := hE.body c h1 h2
 exact .spoken a _ _ _ _ (zaa ha rfl) (.placed b _ _ _ _ (zaa hb rfl) (.leaf _ cs t hbody))
theorem chain_of_refused {E : Nat → Addr} {B L : Nat} {w : World} {a c : Nat} (hE : Env E B w) (h : zb6 E L w a c) (h1 : 1 ≤ c) (h2 : c ≤ 21) : Chain w (refV a) (E c) 3 := by
 obtain ⟨b, _, ha, hb⟩ := h
 exact .refused a _ _ _ _ (zaa ha rfl) (zep hE hb h1 h2)
def faultV (c : Int) : Value := .agg #[.int .i64 c, .int .i64 0, .int .i64 11]
def TellPost (w : World) (v : Value) (e : Ending) (w' : World) : Prop := e = .returned v ∧ Below w.heap.size w w'
theorem tell_nil (w : World) : Calls Tryz.prog 22 #[.nilIface] w fun e w' => TellPost w (.agg #[.int .i64 0, .int .i64 0, .int .i64 0]) e w' := by
 go_enter Tryz.func22, Tryz.ntmps22
 go_wp2
 refine bodyPost_ret (v := .agg #[.int .i64 0, .int .i64 0, .int .i64 0]) (by simp [results, Tryz.results22, go_sem]) rfl ⟨rfl, ?_⟩
 exact zad w _
set_option maxRecDepth 100000 in
set_option maxHeartbeats 2000000 in
theorem tell_walk {E : Nat → Addr} {B : Nat} (w : World) (hE : Env E B w) (u : TypeId) (v : Value) (c n : Nat) (hc1 : 1 ≤ c) (hc2 : c ≤ 21) (hch : Chain w (.iface u v) (E c) n) (x y : Nat) (z : Value)
  (hx : w.heap[x]? = some (.cells #[botV (E c), .int .i64 0] 131 (0, 0))) (hy : w.heap[y]? = some (.cells #[z, .int .i64 11] 135 (0, 0)))
  (hp : ∀ W tb, Below w.heap.size w W → W.heap[tb]? = some (.cells #[.pointer none] 127 (0, 0)) → Calls Tryz.prog 51 #[.iface u v, .iface 129 (.pointer (some ⟨tb, 0, none⟩))] W fun e w' => AsHit W tb 127 x e w')
  (hs : ∀ W tb, Below w.heap.size w W → W.heap[tb]? = some (.cells #[.pointer none] 132 (0, 0)) → Calls Tryz.prog 51 #[.iface u v, .iface 133 (.pointer (some ⟨tb, 0, none⟩))] W fun e w' => AsHit W tb 132 y e w') :
  Calls Tryz.prog 22 #[.iface u v] w fun e w' => TellPost w (faultV c) e w' := by
 have HE := hid hE
 have HCH := hid hch
 have HX := hid hx
 have HY := hid hy
 have HP := hid hp
 have HS := hid hs
 clear hE hch hx hy hp hs
 go_enter Tryz.func22, Tryz.ntmps22
 go_wp2_with fail
 have HF0 : Hid (((w.alloc (.cells #[.int .i64 0, .int .i64 0, .int .i64 0] 32)).alloc (.cells #[.int .i64 22, .int .i64 0, .int .i64 0] 32)).heap[w.heap.size + 1]? = some (.cells #[.int .i64 22, .int .i64 0, .int .i64 0] 32 (0, 0))) := by
  have h := heap_alloc_new (w.alloc (.cells #[.int .i64 0, .int .i64 0, .int .i64 0] 32)) (.cells #[.int .i64 22, .int .i64 0, .int .i64 0] 32)
  have e : (w.alloc (.cells #[.int .i64 0, .int .i64 0, .int .i64 0] 32)).heap.size = w.heap.size + 1 := by simp
  rw [e] at h
  exact h
 have HR0 : Hid (((w.alloc (.cells #[.int .i64 0, .int .i64 0, .int .i64 0] 32)).alloc (.cells #[.int .i64 22, .int .i64 0, .int .i64 0] 32)).heap[w.heap.size]? = some (.cells #[.int .i64 0, .int .i64 0, .int .i64 0] 32 (0, 0))) := by
  show _ = _
  rw [Below.heap_alloc _ _ _ (by simp)]
  exact heap_alloc_new w _
 have HB0 : Hid (Below w.heap.size w ((w.alloc (.cells #[.int .i64 0, .int .i64 0, .int .i64 0] 32)).alloc (.cells #[.int .i64 22, .int .i64 0, .int .i64 0] 32))) := zar w _ _
 go_loopw [4] (fun code wr => ∃ k : Nat, k ≤ 21 ∧ code = .int .i64 k ∧ Hid (wr.heap[w.heap.size + 1]? = some (.cells #[.int .i64 (if k < c then (c : Int) else 22), .int .i64 0, .int .i64 0] 32 (0, 0))) ∧
   Hid (wr.heap[w.heap.size]? = some (.cells #[.int .i64 0, .int .i64 0, .int .i64 0] 32 (0, 0))) ∧ Hid (Below w.heap.size w wr)) (fun code _ => (intOf code).toNat)
 case atStart => exact ⟨21, by omega, rfl, by rw [if_neg (by omega)]; exact HF0.out, HR0.out, HB0.out⟩
 case round =>
  clear HF0 HR0 HB0
  obtain ⟨k, hk, rfl, hf, hr, hb⟩ := hrel
  by_cases hk0 : 1 ≤ k
  ·have HI := fun r hr => fault_Is wr (HE.out.below hb.out) (.iface u v) c n hc1 hc2 (HCH.out.later hb.out) k (by omega) (by omega) r hr
   have hki : (1 : Int) ≤ k := by omega
   by_cases hkc : c = k
   ·have HJ := hid (HI true (by simp [hkc]))
    clear HI
    go_wp2_with fail
    refine HJ.out.mono ?_
    rintro e w' ⟨rfl, rfl⟩
    have g0 : w'.cell? ⟨w.heap.size + 1, 0, none⟩ = some (.int .i64 (if k < c then (c : Int) else 22)) := zaa hf.out rfl
    have gf : w'.frozen? ⟨w.heap.size + 1, 0, none⟩ = false := zah hf.out 0
    clear HJ
    go_wp2_with fail
    go_roundw
    case rel =>
     refine ⟨k - 1, by omega, by congr 1; omega, ?_, ?_, ?_⟩
     ·rw [if_pos (by omega), hkc]
      exact zaj hf.out 0 _
     ·show (World.setCell _ _ _).heap[w.heap.size]? = _
      rw [zag _ _ _ (by show w.heap.size ≠ w.heap.size + 1; omega)]
      exact hr.out
     ·exact hb.out.trans ((Kept.setCell (F := fun b => b = w.heap.size + 1) (Kept.refl _ _) (p := ⟨w.heap.size + 1, 0, none⟩) (.inl rfl) _).below (B := w.heap.size) (fun b hb => by omega) hb.out.size)
    case measure => simp [intOf]; omega
   ·have HJ := hid (HI false (by simp; omega))
    clear HI
    go_wp2_with fail
    refine HJ.out.mono ?_
    rintro e w' ⟨rfl, rfl⟩
    clear HJ
    go_wp2_with fail
    go_roundw
    case rel =>
     refine ⟨k - 1, by omega, by congr 1; omega, ?_, hr.out, hb.out⟩
     have : (k - 1 < c) ↔ (k < c) := by omega
     simp only [this]
     exact hf.out
    case measure => simp [intOf]; omega
  ·obtain rfl : k = 0 := by omega
   have HF : Hid (wr.heap[w.heap.size + 1]? = some (.cells #[.int .i64 c, .int .i64 0, .int .i64 0] 32 (0, 0))) := by
    have h := hf.out
    rw [if_pos (by omega)] at h
    exact h
   clear hf
   have HR := hr
   have HB := hb
   clear hr hb
   have HB1 : Hid (Below w.heap.size w (wr.alloc (.cells #[.pointer none] 127))) := HB.out.alloc HB.out.size _
   have HA := hid (HP.out (wr.alloc (.cells #[.pointer none] 127)) wr.heap.size HB1.out (heap_alloc_new wr _))
   have HSZ : Hid (w.heap.size + 1 < wr.heap.size) := zab HF.out
   go_wp2_with fail
   refine HA.out.mono ?_
   rintro e w2 ⟨rfl, ht2, hk2⟩
   have HK2 : Hid (Below w.heap.size w w2) := HB1.out.trans (hk2.below (B := w.heap.size) (fun b hb => by have := HSZ.out; omega) HB1.out.size)
   have HF2 : Hid (w2.heap[w.heap.size + 1]? = some (.cells #[.int .i64 c, .int .i64 0, .int .i64 0] 32 (0, 0))) :=
    (hk2.block _ (by simp; have := HSZ.out; omega) (by have := HSZ.out; omega)).trans ((Below.heap_alloc _ _ _ HSZ.out).trans HF.out)
   have HR2 : Hid (w2.heap[w.heap.size]? = some (.cells #[.int .i64 0, .int .i64 0, .int .i64 0] 32 (0, 0))) :=
    (hk2.block _ (by simp; have := HSZ.out; omega) (by have := HSZ.out; omega)).trans ((Below.heap_alloc _ _ _ (by have := HSZ.out; omega)).trans HR.out)
   have gt : w2.cell? ⟨wr.heap.size, 0, none⟩ = some (.pointer (some ⟨x, 0, none⟩)) := zaa ht2 rfl
   have gx : w2.cell? ⟨x, 1, none⟩ = some (.int .i64 0) := zaa (zae HK2.out (zab HX.out) HX.out) rfl
   have g1 : w2.cell? ⟨w.heap.size + 1, 1, none⟩ = some (.int .i64 0) := zaa HF2.out rfl
   have gf : ∀ o, w2.frozen? ⟨w.heap.size + 1, o, none⟩ = false := fun o => zah HF2.out o
   have HW3 : Hid (Below w.heap.size w ((w2.setCell ⟨w.heap.size + 1, 1, none⟩ (.int .i64 0)).alloc (.cells #[.pointer none] 132))) := by
    have h := HK2.out.trans ((Kept.setCell (F := fun b => b = w.heap.size + 1) (Kept.refl _ w2) (p := ⟨w.heap.size + 1, 1, none⟩) (.inl rfl) (.int .i64 0)).below (B := w.heap.size) (fun b hb => by omega) HK2.out.size)
    exact h.alloc h.size _
   clear ht2 hk2 HA HF HR
   have HA2 := hid (HS.out ((w2.setCell ⟨w.heap.size + 1, 1, none⟩ (.int .i64 0)).alloc (.cells #[.pointer none] 132)) w2.heap.size HW3.out (by
    have h := heap_alloc_new (w2.setCell ⟨w.heap.size + 1, 1, none⟩ (.int .i64 0)) (.cells #[.pointer none] 132)
    have e : (w2.setCell ⟨w.heap.size + 1, 1, none⟩ (.int .i64 0)).heap.size = w2.heap.size := by simp [World.setCell]
    rw [e] at h
    exact h))
   have HSZ2 : Hid (w.heap.size + 1 < w2.heap.size) := zab HF2.out
   have hz2 : w.heap.size + 1 < w2.heap.size := HSZ2.out
   go_wp2_with fail
   refine HA2.out.mono ?_
   rintro e w3 ⟨rfl, ht3, hk3⟩
   have HK3 : Hid (Below w.heap.size w w3) := HW3.out.trans (hk3.below (B := w.heap.size) (fun b hb => by omega) HW3.out.size)
   have HF3 : Hid (w3.heap[w.heap.size + 1]? = some (.cells #[.int .i64 c, .int .i64 0, .int .i64 0] 32 (0, 0))) := by
    refine (hk3.block _ (by simp [World.setCell]; omega) (by omega)).trans ((Below.heap_alloc _ _ _ (by simp [World.setCell]; omega)).trans ?_)
    exact zaj HF2.out 1 _
   have HR3 : Hid (w3.heap[w.heap.size]? = some (.cells #[.int .i64 0, .int .i64 0, .int .i64 0] 32 (0, 0))) := by
    refine (hk3.block _ (by simp [World.setCell]; omega) (by omega)).trans ((Below.heap_alloc _ _ _ (by simp [World.setCell]; omega)).trans ?_)
    rw [zag _ _ _ (by show w.heap.size ≠ w.heap.size + 1; omega)]
    exact HR2.out
   have gt3 : w3.cell? ⟨w2.heap.size, 0, none⟩ = some (.pointer (some ⟨y, 0, none⟩)) := zaa ht3 rfl
   have gy : w3.cell? ⟨y, 1, none⟩ = some (.int .i64 11) := zaa (zae HK3.out (zab HY.out) HY.out) rfl
   have p0 : w3.cell? ⟨w.heap.size + 1, 0, none⟩ = some (.int .i64 c) := zaa HF3.out rfl
   have p1 : w3.cell? ⟨w.heap.size + 1, 1, none⟩ = some (.int .i64 0) := zaa HF3.out rfl
   have p2 : w3.cell? ⟨w.heap.size + 1, 2, none⟩ = some (.int .i64 0) := zaa HF3.out rfl
   have pf : ∀ o, w3.frozen? ⟨w.heap.size + 1, o, none⟩ = false := fun o => zah HF3.out o
   have r0 : w3.cell? ⟨w.heap.size, 0, none⟩ = some (.int .i64 0) := zaa HR3.out rfl
   have r1 : w3.cell? ⟨w.heap.size, 1, none⟩ = some (.int .i64 0) := zaa HR3.out rfl
   have r2 : w3.cell? ⟨w.heap.size, 2, none⟩ = some (.int .i64 0) := zaa HR3.out rfl
   have rf' : ∀ o, w3.frozen? ⟨w.heap.size, o, none⟩ = false := fun o => zah HR3.out o
   have hz3 : w.heap.size + 1 < w3.heap.size := zab HF3.out
   clear ht3 hk3 HA2 gt gx g1 gf
   go_wp2_with fail
   refine bodyPost_ret (v := faultV c) ?_ rfl ⟨rfl, ?_⟩
   ·simp [results, Tryz.results22, go_sem, r0, r1, r2, faultV]
   ·have hk : Kept (fun b => b = w.heap.size ∨ b = w.heap.size + 1) w3 ((((w3.setCell ⟨w.heap.size + 1, 2, none⟩ (.int .i64 11)).setCell ⟨w.heap.size, 0, none⟩ (.int .i64 c)).setCell ⟨w.heap.size, 1, none⟩ (.int .i64 0)).setCell ⟨w.heap.size, 2, none⟩ (.int .i64 11)) :=
     ((((Kept.refl (fun b => b = w.heap.size ∨ b = w.heap.size + 1) w3).setCell (p := ⟨w.heap.size + 1, 2, none⟩) (.inl (.inr rfl)) _).setCell (p := ⟨w.heap.size, 0, none⟩) (.inl (.inl rfl)) _).setCell (p := ⟨w.heap.size, 1, none⟩) (.inl (.inl rfl)) _).setCell (p := ⟨w.heap.size, 2, none⟩) (.inl (.inl rfl)) _
    exact HK3.out.trans (hk.below (B := w.heap.size) (fun b hb => by omega) HK3.out.size)
theorem tell_failed {E : Nat → Addr} {B L : Nat} (w : World) (hE : Env E B w) (hY : Ety B w) (a c : Nat) (hc1 : 1 ≤ c) (hc2 : c ≤ 21) (h : zbu E L w a c) :
  Calls Tryz.prog 22 #[zcb a] w fun e w' => TellPost w (faultV c) e w' := by
 obtain ⟨b, l1, l2, ha, hb⟩ := h
 have hch := zep hE ⟨b, l1, l2, ha, hb⟩ hc1 hc2
 refine tell_walk w hE _ _ c 2 hc1 hc2 hch b a _ hb ha (fun W tb hW ht => ?_) (fun W tb hW ht => ?_)
 ·exact as_placed a b tb W (hY.below hW) ht (zaa (zae hW (zab ha) ha) rfl)
 ·exact as_spoken a b tb W (hY.below hW) ht (zaa (zae hW (zab ha) ha) rfl)
theorem tell_refused {E : Nat → Addr} {B L : Nat} (w : World) (hE : Env E B w) (hY : Ety B w) (a c : Nat) (hc1 : 1 ≤ c) (hc2 : c ≤ 21) (h : zb6 E L w a c) :
  Calls Tryz.prog 22 #[refV a] w fun e w' => TellPost w (faultV c) e w' := by
 have hch := chain_of_refused hE h hc1 hc2
 obtain ⟨r, l0, hr, b, l1, l2, ha, hb⟩ := h
 refine tell_walk w hE _ _ c 3 hc1 hc2 hch b r _ hb ha (fun W tb hW ht => ?_) (fun W tb hW ht => ?_)
 ·exact as_placed3 a r b tb W (hY.below hW) ht (zaa (zae hW (zab hr) hr) rfl) (zaa (zae hW (zab ha) ha) rfl)
 ·exact as_spoken3 a r b tb W (hY.below hW) ht (zaa (zae hW (zab hr) hr) rfl) (zaa (zae hW (zab ha) ha) rfl)
end Go.Proofs.YteeeaeiafdgpkaaGreatDoor
