/-
  fault.Tell, kern.own: their contracts, at this program's errors.
-/
import Derived.Test.YtjhojohjegkinaaGreatDoorAs
namespace Go.Proofs.YtjhojohjegkinaaGreatDoor
open Go Go.RowKit

theorem Chain.later {w w' : World} {V : Value} {a : Addr} {n : Nat} (h : Chain w V a n) (k : Below w.heap.size w w') : Chain w' V a n := by
  induction h with
  | leaf a ca ta ha => exact .leaf a ca ta (below_heap k (lt_of_heap ha) ha)
  | placed c u v a n hc _ ih => exact .placed c u v a n ((k.cell (World.block_lt_of_cell? _ _ hc)).trans hc) ih
  | spoken c u v a n hc _ ih => exact .spoken c u v a n ((k.cell (World.block_lt_of_cell? _ _ hc)).trans hc) ih
  | refused c u v a n hc _ ih => exact .refused c u v a n ((k.cell (World.block_lt_of_cell? _ _ hc)).trans hc) ih

theorem chain_of_failed {E : Nat → Addr} {B L : Nat} {w : World} {a c : Nat} (hE : Env E B w) (h : Failed E L w a c) (h1 : 1 ≤ c) (h2 : c ≤ 21) : Chain w (failV a) (E c) 2 := by
  obtain ⟨b, _, _, ha, hb⟩ := h
  obtain ⟨cs, t, hbody⟩ := hE.body c h1 h2
  exact .spoken a _ _ _ _ (cell_of ha rfl) (.placed b _ _ _ _ (cell_of hb rfl) (.leaf _ cs t hbody))

/-- A fault, as kern and tree tell it. -/
def faultV (c : Int) : Value := .agg #[.int .i64 c, .int .i64 0, .int .i64 11]
def TellPost (w : World) (v : Value) (e : Ending) (w' : World) : Prop := e = .returned v ∧ Below w.heap.size w w'

theorem tell_nil (w : World) : Calls Tryz.prog 29 #[.nilIface] w fun e w' => TellPost w (.agg #[.int .i64 0, .int .i64 0, .int .i64 0]) e w' := by
  go_enter Tryz.func29, Tryz.ntmps29
  go_wp2
  refine bodyPost_ret (v := .agg #[.int .i64 0, .int .i64 0, .int .i64 0]) (by simp [results, Tryz.results29, go_sem]) rfl ⟨rfl, ?_⟩
  exact below_alloc w _

set_option maxRecDepth 100000 in
set_option maxHeartbeats 2000000 in
theorem tell_walk {E : Nat → Addr} {B : Nat} (w : World) (hE : Env E B w) (u : TypeId) (v : Value) (c n : Nat) (hc1 : 1 ≤ c) (hc2 : c ≤ 21) (hch : Chain w (.iface u v) (E c) n) (x y : Nat) (z : Value)
    (hx : w.heap[x]? = some (.cells #[botV (E c), .int .i64 0] 150 (0, 0))) (hy : w.heap[y]? = some (.cells #[z, .int .i64 11] 154 (0, 0)))
    (hp : ∀ W tb, Below w.heap.size w W → W.heap[tb]? = some (.cells #[.pointer none] 146 (0, 0)) → Calls Tryz.prog 74 #[.iface u v, .iface 148 (.pointer (some ⟨tb, 0, none⟩))] W fun e w' => AsHit W tb 146 x e w')
    (hs : ∀ W tb, Below w.heap.size w W → W.heap[tb]? = some (.cells #[.pointer none] 151 (0, 0)) → Calls Tryz.prog 74 #[.iface u v, .iface 152 (.pointer (some ⟨tb, 0, none⟩))] W fun e w' => AsHit W tb 151 y e w') :
    Calls Tryz.prog 29 #[.iface u v] w fun e w' => TellPost w (faultV c) e w' := by
  have HE := Lib.hid hE
  have HCH := Lib.hid hch
  have HX := Lib.hid hx
  have HY := Lib.hid hy
  have HP := Lib.hid hp
  have HS := Lib.hid hs
  clear hE hch hx hy hp hs
  go_enter Tryz.func29, Tryz.ntmps29
  go_wp2_with fail
  have HF0 : Hid (((w.alloc (.cells #[.int .i64 0, .int .i64 0, .int .i64 0] 56)).alloc (.cells #[.int .i64 22, .int .i64 0, .int .i64 0] 56)).heap[w.heap.size + 1]? = some (.cells #[.int .i64 22, .int .i64 0, .int .i64 0] 56 (0, 0))) := by
    have h := heap_alloc_new (w.alloc (.cells #[.int .i64 0, .int .i64 0, .int .i64 0] 56)) (.cells #[.int .i64 22, .int .i64 0, .int .i64 0] 56)
    have e : (w.alloc (.cells #[.int .i64 0, .int .i64 0, .int .i64 0] 56)).heap.size = w.heap.size + 1 := by simp
    rw [e] at h
    exact h
  have HR0 : Hid (((w.alloc (.cells #[.int .i64 0, .int .i64 0, .int .i64 0] 56)).alloc (.cells #[.int .i64 22, .int .i64 0, .int .i64 0] 56)).heap[w.heap.size]? = some (.cells #[.int .i64 0, .int .i64 0, .int .i64 0] 56 (0, 0))) := by
    show _ = _
    rw [Below.heap_alloc _ _ _ (by simp)]
    exact heap_alloc_new w _
  have HB0 : Hid (Below w.heap.size w ((w.alloc (.cells #[.int .i64 0, .int .i64 0, .int .i64 0] 56)).alloc (.cells #[.int .i64 22, .int .i64 0, .int .i64 0] 56))) := below_two w _ _
  go_loopw [4] (fun code wr => ∃ k : Nat, k ≤ 21 ∧ code = .int .i64 k ∧ Hid (wr.heap[w.heap.size + 1]? = some (.cells #[.int .i64 (if k < c then (c : Int) else 22), .int .i64 0, .int .i64 0] 56 (0, 0))) ∧
      Hid (wr.heap[w.heap.size]? = some (.cells #[.int .i64 0, .int .i64 0, .int .i64 0] 56 (0, 0))) ∧ Hid (Below w.heap.size w wr)) (fun code _ => (intOf code).toNat)
  case atStart => exact ⟨21, by omega, rfl, by rw [if_neg (by omega)]; exact HF0.out, HR0.out, HB0.out⟩
  case round =>
    clear HF0 HR0 HB0
    obtain ⟨k, hk, rfl, hf, hr, hb⟩ := hrel
    by_cases hk0 : 1 ≤ k
    · have HI := fun r hr => fault_Is wr (HE.out.below hb.out) (.iface u v) c n hc1 hc2 (HCH.out.later hb.out) k (by omega) (by omega) r hr
      have hki : (1 : Int) ≤ k := by omega
      by_cases hkc : c = k
      · have HJ := Lib.hid (HI true (by simp [hkc]))
        clear HI
        go_wp2_with fail
        refine HJ.out.mono ?_
        rintro e w' ⟨rfl, rfl⟩
        have g0 : w'.cell? ⟨w.heap.size + 1, 0, none⟩ = some (.int .i64 (if k < c then (c : Int) else 22)) := cell_of hf.out rfl
        have gf : w'.frozen? ⟨w.heap.size + 1, 0, none⟩ = false := free_of hf.out 0
        clear HJ
        go_wp2_with fail
        go_roundw
        case rel =>
          refine ⟨k - 1, by omega, by congr 1; omega, ?_, ?_, ?_⟩
          · rw [if_pos (by omega), hkc]
            exact heap_set_same hf.out 0 _
          · show (World.setCell _ _ _).heap[w.heap.size]? = _
            rw [heap_set_other _ _ _ (by show w.heap.size ≠ w.heap.size + 1; omega)]
            exact hr.out
          · exact hb.out.trans ((Kept.setCell (F := fun b => b = w.heap.size + 1) (Kept.refl _ _) (p := ⟨w.heap.size + 1, 0, none⟩) (.inl rfl) _).below (B := w.heap.size) (fun b hb => by omega) hb.out.size)
        case measure => simp [intOf]; omega
      · have HJ := Lib.hid (HI false (by simp; omega))
        clear HI
        go_wp2_with fail
        refine HJ.out.mono ?_
        rintro e w' ⟨rfl, rfl⟩
        clear HJ
        go_wp2_with fail
        go_roundw
        case rel =>
          refine ⟨k - 1, by omega, by congr 1; omega, ?_, hr.out, hb.out⟩
          have : (k - 1 < c) ↔ (k < c) := by omega
          simp only [this]
          exact hf.out
        case measure => simp [intOf]; omega
    · obtain rfl : k = 0 := by omega
      have HF : Hid (wr.heap[w.heap.size + 1]? = some (.cells #[.int .i64 c, .int .i64 0, .int .i64 0] 56 (0, 0))) := by
        have h := hf.out
        rw [if_pos (by omega)] at h
        exact h
      clear hf
      have HR := hr
      have HB := hb
      clear hr hb
      have HB1 : Hid (Below w.heap.size w (wr.alloc (.cells #[.pointer none] 146))) := HB.out.alloc HB.out.size _
      have HA := Lib.hid (HP.out (wr.alloc (.cells #[.pointer none] 146)) wr.heap.size HB1.out (heap_alloc_new wr _))
      have HSZ : Hid (w.heap.size + 1 < wr.heap.size) := lt_of_heap HF.out
      go_wp2_with fail
      refine HA.out.mono ?_
      rintro e w2 ⟨rfl, ht2, hk2⟩
      have HK2 : Hid (Below w.heap.size w w2) := HB1.out.trans (hk2.below (B := w.heap.size) (fun b hb => by have := HSZ.out; omega) HB1.out.size)
      have HF2 : Hid (w2.heap[w.heap.size + 1]? = some (.cells #[.int .i64 c, .int .i64 0, .int .i64 0] 56 (0, 0))) :=
        (hk2.block _ (by simp; have := HSZ.out; omega) (by have := HSZ.out; omega)).trans ((Below.heap_alloc _ _ _ HSZ.out).trans HF.out)
      have HR2 : Hid (w2.heap[w.heap.size]? = some (.cells #[.int .i64 0, .int .i64 0, .int .i64 0] 56 (0, 0))) :=
        (hk2.block _ (by simp; have := HSZ.out; omega) (by have := HSZ.out; omega)).trans ((Below.heap_alloc _ _ _ (by have := HSZ.out; omega)).trans HR.out)
      have gt : w2.cell? ⟨wr.heap.size, 0, none⟩ = some (.pointer (some ⟨x, 0, none⟩)) := cell_of ht2 rfl
      have gx : w2.cell? ⟨x, 1, none⟩ = some (.int .i64 0) := cell_of (below_heap HK2.out (lt_of_heap HX.out) HX.out) rfl
      have g1 : w2.cell? ⟨w.heap.size + 1, 1, none⟩ = some (.int .i64 0) := cell_of HF2.out rfl
      have gf : ∀ o, w2.frozen? ⟨w.heap.size + 1, o, none⟩ = false := fun o => free_of HF2.out o
      have HW3 : Hid (Below w.heap.size w ((w2.setCell ⟨w.heap.size + 1, 1, none⟩ (.int .i64 0)).alloc (.cells #[.pointer none] 151))) := by
        have h := HK2.out.trans ((Kept.setCell (F := fun b => b = w.heap.size + 1) (Kept.refl _ w2) (p := ⟨w.heap.size + 1, 1, none⟩) (.inl rfl) (.int .i64 0)).below (B := w.heap.size) (fun b hb => by omega) HK2.out.size)
        exact h.alloc h.size _
      clear ht2 hk2 HA HF HR
      have HA2 := Lib.hid (HS.out ((w2.setCell ⟨w.heap.size + 1, 1, none⟩ (.int .i64 0)).alloc (.cells #[.pointer none] 151)) w2.heap.size HW3.out (by
        have h := heap_alloc_new (w2.setCell ⟨w.heap.size + 1, 1, none⟩ (.int .i64 0)) (.cells #[.pointer none] 151)
        have e : (w2.setCell ⟨w.heap.size + 1, 1, none⟩ (.int .i64 0)).heap.size = w2.heap.size := by simp [World.setCell]
        rw [e] at h
        exact h))
      have HSZ2 : Hid (w.heap.size + 1 < w2.heap.size) := lt_of_heap HF2.out
      have hz2 : w.heap.size + 1 < w2.heap.size := HSZ2.out
      go_wp2_with fail
      refine HA2.out.mono ?_
      rintro e w3 ⟨rfl, ht3, hk3⟩
      have HK3 : Hid (Below w.heap.size w w3) := HW3.out.trans (hk3.below (B := w.heap.size) (fun b hb => by omega) HW3.out.size)
      have HF3 : Hid (w3.heap[w.heap.size + 1]? = some (.cells #[.int .i64 c, .int .i64 0, .int .i64 0] 56 (0, 0))) := by
        refine (hk3.block _ (by simp [World.setCell]; omega) (by omega)).trans ((Below.heap_alloc _ _ _ (by simp [World.setCell]; omega)).trans ?_)
        exact heap_set_same HF2.out 1 _
      have HR3 : Hid (w3.heap[w.heap.size]? = some (.cells #[.int .i64 0, .int .i64 0, .int .i64 0] 56 (0, 0))) := by
        refine (hk3.block _ (by simp [World.setCell]; omega) (by omega)).trans ((Below.heap_alloc _ _ _ (by simp [World.setCell]; omega)).trans ?_)
        rw [heap_set_other _ _ _ (by show w.heap.size ≠ w.heap.size + 1; omega)]
        exact HR2.out
      have gt3 : w3.cell? ⟨w2.heap.size, 0, none⟩ = some (.pointer (some ⟨y, 0, none⟩)) := cell_of ht3 rfl
      have gy : w3.cell? ⟨y, 1, none⟩ = some (.int .i64 11) := cell_of (below_heap HK3.out (lt_of_heap HY.out) HY.out) rfl
      have p0 : w3.cell? ⟨w.heap.size + 1, 0, none⟩ = some (.int .i64 c) := cell_of HF3.out rfl
      have p1 : w3.cell? ⟨w.heap.size + 1, 1, none⟩ = some (.int .i64 0) := cell_of HF3.out rfl
      have p2 : w3.cell? ⟨w.heap.size + 1, 2, none⟩ = some (.int .i64 0) := cell_of HF3.out rfl
      have pf : ∀ o, w3.frozen? ⟨w.heap.size + 1, o, none⟩ = false := fun o => free_of HF3.out o
      have r0 : w3.cell? ⟨w.heap.size, 0, none⟩ = some (.int .i64 0) := cell_of HR3.out rfl
      have r1 : w3.cell? ⟨w.heap.size, 1, none⟩ = some (.int .i64 0) := cell_of HR3.out rfl
      have r2 : w3.cell? ⟨w.heap.size, 2, none⟩ = some (.int .i64 0) := cell_of HR3.out rfl
      have rf' : ∀ o, w3.frozen? ⟨w.heap.size, o, none⟩ = false := fun o => free_of HR3.out o
      have hz3 : w.heap.size + 1 < w3.heap.size := lt_of_heap HF3.out
      clear ht3 hk3 HA2 gt gx g1 gf
      go_wp2_with fail
      refine bodyPost_ret (v := faultV c) ?_ rfl ⟨rfl, ?_⟩
      · simp [results, Tryz.results29, go_sem, r0, r1, r2, faultV]
      · have hk : Kept (fun b => b = w.heap.size ∨ b = w.heap.size + 1) w3 ((((w3.setCell ⟨w.heap.size + 1, 2, none⟩ (.int .i64 11)).setCell ⟨w.heap.size, 0, none⟩ (.int .i64 c)).setCell ⟨w.heap.size, 1, none⟩ (.int .i64 0)).setCell ⟨w.heap.size, 2, none⟩ (.int .i64 11)) :=
          ((((Kept.refl (fun b => b = w.heap.size ∨ b = w.heap.size + 1) w3).setCell (p := ⟨w.heap.size + 1, 2, none⟩) (.inl (.inr rfl)) _).setCell (p := ⟨w.heap.size, 0, none⟩) (.inl (.inl rfl)) _).setCell (p := ⟨w.heap.size, 1, none⟩) (.inl (.inl rfl)) _).setCell (p := ⟨w.heap.size, 2, none⟩) (.inl (.inl rfl)) _
        exact HK3.out.trans (hk.below (B := w.heap.size) (fun b hb => by omega) HK3.out.size)

/-- fault.Tell, of tree's errors. -/
theorem tell_failed {E : Nat → Addr} {B L : Nat} (w : World) (hE : Env E B w) (hY : Ety B w) (a c : Nat) (hc1 : 1 ≤ c) (hc2 : c ≤ 21) (h : Failed E L w a c) :
    Calls Tryz.prog 29 #[failV a] w fun e w' => TellPost w (faultV c) e w' := by
  obtain ⟨b, l1, l2, ha, hb⟩ := h
  have hch := chain_of_failed hE ⟨b, l1, l2, ha, hb⟩ hc1 hc2
  refine tell_walk w hE _ _ c 2 hc1 hc2 hch b a _ hb ha (fun W tb hW ht => ?_) (fun W tb hW ht => ?_)
  · exact as_placed a b tb W (hY.below hW) ht (cell_of (below_heap hW (lt_of_heap ha) ha) rfl)
  · exact as_spoken a b tb W (hY.below hW) ht (cell_of (below_heap hW (lt_of_heap ha) ha) rfl)

end Go.Proofs.YtjhojohjegkinaaGreatDoor
