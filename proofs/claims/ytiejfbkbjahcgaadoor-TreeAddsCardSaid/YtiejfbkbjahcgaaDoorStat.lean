/-
  (*Tree).Stat of a file.
-/
import Derived.Test.YtiejfbkbjahcgaaDoorTWrite
import Derived.BigRegion
namespace Go.Proofs.YtiejfbkbjahcgaaDoor
open Go Go.RowKit

def statV (kind size links tick : Int) : Value := .agg #[.int .i64 kind, .int .i64 size, .int .i64 links, .int .i64 tick]
def StatPost (w : World) (v : Value) (e : Ending) (w' : World) : Prop := e = .returned (.tuple #[v, .nilIface]) ∧ Below w.heap.size w w'

set_option maxRecDepth 100000 in
set_option maxHeartbeats 4000000 in
theorem stat_file {E : Nat → Addr} {B : Nat} {T : Tr} (p : ByteArray) (w : World) (hE : Ctx E B w) (hR : Rep B w T) (hsz : p.size ≤ 9223372036854775807) (s : Spot) (hf : T.find p = .ok s) (k : Nat) (d : Nd) (hk : s.n = some k) (hd : T.nd k = some d) (hdir : d.dir = false) (_hlen : d.data.length ≤ 65536) :
    Calls Tryd.prog 29 #[.pointer (some ⟨T.tb, 0, none⟩), .string p] w fun e w' => StatPost w (statV 1 d.data.length d.links d.tick) e w' := by
  have HF : Hid (Calls Tryd.prog 49 #[.pointer (some ⟨T.tb, 0, none⟩), .string p] (w.alloc (.cells #[.int .i64 0, .int .i64 0, .int .i64 0, .int .i64 0] 52)) fun e w' => FindPost E (w.alloc (.cells #[.int .i64 0, .int .i64 0, .int .i64 0, .int .i64 0] 52)) (.ok s) e w') := by
    have h := find_any p (w.alloc (.cells #[.int .i64 0, .int .i64 0, .int .i64 0, .int .i64 0] 52)) (hE.below (below_alloc _ _)) (hR.below (below_alloc _ _)) hsz
    rw [hf] at h
    exact h
  have HR := Lib.hid hR
  have HD := Lib.hid hd
  obtain ⟨inn, nm, n⟩ := s
  simp only at hk
  subst hk
  clear hE hR hf
  go_enter Tryd.func29, Tryd.ntmps29
  go_wp2_with fail
  refine HF.out.mono ?_
  rintro e w1 ⟨hb1, rfl⟩
  have HB1 := Lib.hid hb1
  have HST : Hid (w1.heap[w.heap.size]? = some (.cells #[.int .i64 0, .int .i64 0, .int .i64 0, .int .i64 0] 52 (0, 0))) := by
    have h := heap_alloc_new w (.cells #[.int .i64 0, .int .i64 0, .int .i64 0, .int .i64 0] 52)
    exact below_heap hb1 (lt_of_heap h) h
  have HN1 := Lib.hid ((HR.out.below ((below_alloc _ _).trans (hb1.mono (below_alloc _ _).size))).node k d HD.out)
  have hz0 : w.heap.size < w1.heap.size := lt_of_heap HST.out
  have hkl : k < w1.heap.size := lt_of_heap HN1.out.cells
  clear hb1 HF HD hd
  simp only [spotV, ptrV_some]
  obtain ⟨av, cv, hbv⟩ := owns_form HN1.out.row
  unfold ptrV
  generalize inn.map (fun b => (⟨b, 0, none⟩ : Addr)) = ia
  have HH : Hid ((w1.alloc (.cells #[.pointer ia, .string nm, .pointer (some ⟨k, 0, none⟩)] 109)).heap[w1.heap.size]? = some (.cells #[.pointer ia, .string nm, .pointer (some ⟨k, 0, none⟩)] 109 (0, 0))) := heap_alloc_new _ _
  have HK2 : Hid ((w1.alloc (.cells #[.pointer ia, .string nm, .pointer (some ⟨k, 0, none⟩)] 109)).heap[k]? = some (.cells #[.bool false, .slice av d.data.length cv, mapV d, .int .i64 d.links, .int .i64 d.tick] 101 (0, 0))) := by
    have h := HN1.out.cells
    rw [hbv, hdir] at h
    exact (Below.heap_alloc _ _ _ hkl).trans h
  have HS2 : Hid ((w1.alloc (.cells #[.pointer ia, .string nm, .pointer (some ⟨k, 0, none⟩)] 109)).heap[w.heap.size]? = some (.cells #[.int .i64 0, .int .i64 0, .int .i64 0, .int .i64 0] 52 (0, 0))) := (Below.heap_alloc _ _ _ hz0).trans HST.out
  have HB2 : Hid (Below w.heap.size w (w1.alloc (.cells #[.pointer ia, .string nm, .pointer (some ⟨k, 0, none⟩)] 109))) := ((below_alloc _ _).trans (HB1.out.mono (below_alloc _ _).size)).alloc (Nat.le_of_lt hz0) _
  generalize hdl : d.data.length = dl at *
  generalize hdk : d.links = dk at *
  generalize hdt : d.tick = dt at *
  have HDL := Lib.hid hdl
  have HDK := Lib.hid hdk
  have HDT := Lib.hid hdt
  generalize mapV d = mv at *
  clear hdl hdk hdt hbv HN1 HST HB1 hdir
  have j0 := cell_of (o := 0) HK2.out rfl
  have jk : k ≠ w1.heap.size := by omega
  go_wp2_with fail
  clear j0
  generalize hW : (w1.alloc (.cells #[.pointer ia, .string nm, .pointer (some ⟨k, 0, none⟩)] 109)) = W at *
  have g2 : W.cell? ⟨w1.heap.size, 2, none⟩ = some (.pointer (some ⟨k, 0, none⟩)) := cell_of HH.out rfl
  have k0 : W.cell? ⟨k, 0, none⟩ = some (.bool false) := cell_of HK2.out rfl
  have k1 : W.cell? ⟨k, 1, none⟩ = some (.slice av dl cv) := cell_of HK2.out rfl
  have k3 : W.cell? ⟨k, 3, none⟩ = some (.int .i64 dk) := cell_of HK2.out rfl
  have k4 : W.cell? ⟨k, 4, none⟩ = some (.int .i64 dt) := cell_of HK2.out rfl
  have s0 : W.cell? ⟨w.heap.size, 0, none⟩ = some (.int .i64 0) := cell_of HS2.out rfl
  have s1 : W.cell? ⟨w.heap.size, 1, none⟩ = some (.int .i64 0) := cell_of HS2.out rfl
  have s2 : W.cell? ⟨w.heap.size, 2, none⟩ = some (.int .i64 0) := cell_of HS2.out rfl
  have s3 : W.cell? ⟨w.heap.size, 3, none⟩ = some (.int .i64 0) := cell_of HS2.out rfl
  have sf : ∀ o, W.frozen? ⟨w.heap.size, o, none⟩ = false := fun o => free_of HS2.out o
  have hsz2 : w.heap.size < W.heap.size := lt_of_heap HS2.out
  clear hW
  go_wp2_with fail
  have HW4 : Hid ((((((W.setCell ⟨w.heap.size, 0, none⟩ (.int .i64 1)).setCell ⟨w.heap.size, 1, none⟩ (.int .i64 dl)).setCell ⟨w.heap.size, 2, none⟩ (.int .i64 dk)).setCell ⟨w.heap.size, 3, none⟩ (.int .i64 dt)).drew).heap[w.heap.size]? = some (.cells #[.int .i64 1, .int .i64 dl, .int .i64 dk, .int .i64 dt] 52 (0, 0))) :=
    heap_set_same (heap_set_same (heap_set_same (heap_set_same HS2.out 0 _) 1 _) 2 _) 3 _
  have HB4 : Hid (Below w.heap.size w (((((W.setCell ⟨w.heap.size, 0, none⟩ (.int .i64 1)).setCell ⟨w.heap.size, 1, none⟩ (.int .i64 dl)).setCell ⟨w.heap.size, 2, none⟩ (.int .i64 dk)).setCell ⟨w.heap.size, 3, none⟩ (.int .i64 dt)).drew)) :=
    (HB2.out.trans (((((Kept.refl (fun b => b = w.heap.size) W).setCell (p := ⟨w.heap.size, 0, none⟩) (.inl rfl) _).setCell (p := ⟨w.heap.size, 1, none⟩) (.inl rfl) _).setCell (p := ⟨w.heap.size, 2, none⟩) (.inl rfl) _).setCell (p := ⟨w.heap.size, 3, none⟩) (.inl rfl) _ |>.below (B := w.heap.size) (fun b hb => by omega) HB2.out.size)).drew
  go_region
  go_wp2_with fail
  have r0 := cell_of (o := 0) HW4.out rfl
  have r1 := cell_of (o := 1) HW4.out rfl
  have r2 := cell_of (o := 2) HW4.out rfl
  have r3 := cell_of (o := 3) HW4.out rfl
  refine bodyPost_ret (v := .tuple #[statV 1 dl dk dt, .nilIface]) ?_ rfl ⟨?_, HB4.out⟩
  · generalize ((((W.setCell ⟨w.heap.size, 0, none⟩ (.int .i64 1)).setCell ⟨w.heap.size, 1, none⟩ (.int .i64 dl)).setCell ⟨w.heap.size, 2, none⟩ (.int .i64 dk)).setCell ⟨w.heap.size, 3, none⟩ (.int .i64 dt)).drew = W4 at *
    simp [results, Tryd.results29, go_sem, r0, r1, r2, r3, statV]
  · rw [HDL.out, HDK.out, HDT.out]
end Go.Proofs.YtiejfbkbjahcgaaDoor
