/-
 slices.Sorted(maps.Keys(..)) at this program's map of names: the library's contracts, laid.
-/
import Derived.Test.YteeeaeiafdgpkaaGreatDoorIterLay
namespace Go.Proofs.YteeeaeiafdgpkaaGreatDoor
open Go Go.RowKit Go.Maps Go.Sort Go.Shelf
theorem Tryz.sortsN (m : Nat) : AnyZ.SortsIn Tryz.prog Tryz.sortedN_ren Fence.wide m :=
 ⟨fun blk off cap ss W hH hblk hsz => callsIn_wide.2 (AnyM.slices_Sort_string Tryz.sortN blk off cap ss W hH hblk hsz),
  fun p cap W => callsIn_wide.2 (AnyM.slices_Sort_string_none Tryz.sortN p cap W)⟩
theorem Tryz.maps_Keys (mb : Option Nat) (W : World) : CallsIn Fence.wide 5 Tryz.prog 42 #[.map mb] W fun e w' => e = .returned (.func (.func 72) #[] #[.pointer (some ⟨W.heap.size, 0, none⟩)]) ∧ w' = W.alloc (.cells #[.map mb] 105) :=
 AnyZ.keys_in Tryz.keysN Fence.wide 5 trivial rfl mb W
set_option maxHeartbeats 1000000 in
theorem Tryz.sorted_keys {H : Type} (b nn : Nat) (D0 : DataW H) (R : Value → Option (DataW H × List MemPlace)) (w : World) (hown : w.ownsMap Tryz.prog 9 R b nn D0) (hmax : Maps.size D0 ≤ maxLen) (hbytes : Maps.size D0 * 16 ≤ 140737488355328) :
  CallsIn Fence.wide 5 Tryz.prog 41 #[.func (.func 72) #[] #[.pointer (some ⟨w.heap.size, 0, none⟩)]] (w.alloc (.cells #[.map (some b)] 105)) fun e w' => ∃ (v : Value) (ss : List (List UInt8)), e = .returned v ∧ ss.Perm (strKeys D0) ∧
   w'.ownsRow (w.alloc (.cells #[.map (some b)] 105)).heap.size 9 1 v ss.length ((ss.mergeSort (fun x y => decide (x ≤ y))).map encStr) ∧ (v = .slice none 0 0 ↔ ss = []) ∧ Below (w.alloc (.cells #[.map (some b)] 105)).heap.size (w.alloc (.cells #[.map (some b)] 105)) w' := by
 have hbl := hown.lt
 have hseq : SeqGives Fence.wide 2 Tryz.prog 72 #[.pointer (some ⟨w.heap.size, 0, none⟩)] encStr (fun ss => ss.Perm (strKeys D0)) (Maps.size D0) (w.alloc (.cells #[.map (some b)] 105)) :=
  AnyZ.keys_gives (ρ := Tryz.keysN_ren) { Tryz.keysN with } Fence.wide _ trivial rfl (by omega) w.heap.size b nn D0 _ (by simp) (by simp) (by
   obtain ⟨es, clock, hb, Ft, hs, hD⟩ := hown
   exact ⟨es, clock, (Below.heap_alloc _ _ b hbl).trans hb, Ft, hs, hD⟩)
 exact AnyZ.sorted_in Tryz.sortedN Fence.wide 5 trivial trivial trivial trivial rfl (by omega) (Tryz.sortsN _) (enters_of Tryz.func71 (by kernel_rfl) rfl) 72 #[.pointer (some ⟨w.heap.size, 0, none⟩)] trivial (enters_of Tryz.func72 (by kernel_rfl) rfl) _ _ hmax hbytes _ hseq
set_option maxHeartbeats 1000000 in
theorem Tryz.sorted_keys_nil (w : World) :
  CallsIn Fence.wide 5 Tryz.prog 41 #[.func (.func 72) #[] #[.pointer (some ⟨w.heap.size, 0, none⟩)]] (w.alloc (.cells #[.map none] 105)) fun e w' => ∃ (v : Value) (ss : List (List UInt8)), e = .returned v ∧ ss = [] ∧
   w'.ownsRow (w.alloc (.cells #[.map none] 105)).heap.size 9 1 v ss.length ((ss.mergeSort (fun x y => decide (x ≤ y))).map encStr) ∧ (v = .slice none 0 0 ↔ ss = []) ∧ Below (w.alloc (.cells #[.map none] 105)).heap.size (w.alloc (.cells #[.map none] 105)) w' := by
 have hseq : SeqGives Fence.wide 2 Tryz.prog 72 #[.pointer (some ⟨w.heap.size, 0, none⟩)] encStr (fun ss : List (List UInt8) => ss = []) 0 (w.alloc (.cells #[.map none] 105)) :=
  AnyZ.keys_gives_nil (ρ := Tryz.keysN_ren) { Tryz.keysN with } Fence.wide _ trivial rfl w.heap.size _ (by simp) (by simp)
 exact AnyZ.sorted_in Tryz.sortedN Fence.wide 5 trivial trivial trivial trivial rfl (by omega) (Tryz.sortsN _) (enters_of Tryz.func71 (by kernel_rfl) rfl) 72 #[.pointer (some ⟨w.heap.size, 0, none⟩)] trivial (enters_of Tryz.func72 (by kernel_rfl) rfl) _ 0 (Nat.zero_le _) (by omega) _ hseq
end Go.Proofs.YteeeaeiafdgpkaaGreatDoor
