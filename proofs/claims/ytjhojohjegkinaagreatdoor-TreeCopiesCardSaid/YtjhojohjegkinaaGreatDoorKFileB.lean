/-
  A kern's Read of an open file.
  A kern's Open of a file that is there: to write, to add, to read.
-/
import Derived.Test.YtjhojohjegkinaaGreatDoorKFileA
import Derived.Test.YtjhojohjegkinaaGreatDoorAwA
import Derived.Test.YtjhojohjegkinaaGreatDoorNewA
import Derived.Test.YtjhojohjegkinaaGreatDoorPutA
namespace Go.Proofs.YtjhojohjegkinaaGreatDoor
open Go Go.RowKit

section



end

section
/-- What tree.Open leaves where the file is there. -/
def OpenOld (B : Nat) (w : World) (T T' : Tr) (k : Nat) (e : Ending) (w' : World) : Prop :=
  ∃ f, e = .returned (.tuple #[.pointer (some ⟨f, 0, none⟩), .nilIface]) ∧ w.heap.size ≤ f ∧ OpenFile T.tb k w' f ∧ Rep B w' T' ∧ Kept T.foot w w' ∧ (∀ x, T'.foot x → (T.foot x ∨ w.heap.size ≤ x) ∧ x ≠ f)
def OpenPut (B : Nat) (w : World) (T : Tr) (k : Nat) (d : Nd) (l : List UInt8) (e : Ending) (w' : World) : Prop := ∃ bv, OpenOld B w T (T.setData k d bv l) k e w'

set_option maxRecDepth 100000 in
set_option maxHeartbeats 1000000 in
theorem open_old {E : Nat → Addr} {B : Nat} {T : Tr} (p : ByteArray) (way : Int) (hway : way = 1 ∨ way = 2) (w : World) (hE : Ctx E B w) (hR : Rep B w T) (hsz : p.size ≤ 9223372036854775807) (s : Spot) (hf : T.find p = .ok s)
    (hck0 : 0 ≤ T.clock) (hck : T.clock ≤ 1152921504606846976) (k : Nat) (d : Nd) (hk : s.n = some k) (hd : T.nd k = some d) (hdir : d.dir = false) (hdl : d.data.length ≤ 65536) :
    Calls Tryz.prog 41 #[.pointer (some ⟨T.tb, 0, none⟩), .string p, .int .i64 way] w fun e w' => OpenPut B w T k d (if way = 2 then d.data else []) e w' := by
  have HP : Hid (∀ add, Calls Tryz.prog 69 #[.pointer (some ⟨T.tb, 0, none⟩), .string p, .slice none 0 0, .bool add] w fun e w' => PutOld B w T k d (d.data.take (if add then d.data.length else 0) ++ []) e w') :=
    fun add => put_old0 p (.slice none 0 0) [] add w hE hR hsz s hf hck0 hck (Src.nil w) (fun h => absurd h (by simp)) k d hk hd hdir hdl _ rfl (by cases add <;> simp <;> omega)
  clear hE hR hf hk hd hdir hck0 hck hdl
  have key : ∀ (bv : Value) (l : List UInt8) (w1 : World), Rep B w1 (T.setData k d bv l) → Kept T.foot w w1 → (∀ x, (T.setData k d bv l).foot x → T.foot x ∨ w.heap.size ≤ x) →
      OpenPut B w T k d l (.returned (.tuple #[.pointer (some ⟨w1.heap.size, 0, none⟩), .nilIface])) (w1.alloc (.cells #[.pointer (some ⟨k, 0, none⟩), .pointer (some ⟨T.tb, 0, none⟩)] 169)) :=
    fun bv l w1 h2 h3 h4 => ⟨bv, w1.heap.size, rfl, h3.size, heap_alloc_new w1 _, h2.below (below_alloc _ _), h3.alloc _, fun x hx => ⟨h4 x hx, Nat.ne_of_lt (h2.lt hx)⟩⟩
  have KEY := Lib.hid key
  clear key
  rcases hway with rfl | rfl
  · go_enter Tryz.func41, Tryz.ntmps41
    go_wp2_with fail
    refine (HP.out _).mono ?_
    rintro e w1 ⟨bv, rfl, h2, h3, h4⟩
    have HX : Hid (OpenPut B w T k d [] (.returned (.tuple #[.pointer (some ⟨w1.heap.size, 0, none⟩), .nilIface])) (w1.alloc (.cells #[.pointer (some ⟨k, 0, none⟩), .pointer (some ⟨T.tb, 0, none⟩)] 169))) := by
      simp only [Bool.false_eq_true, if_false, List.take_zero, List.append_nil] at h2 h4
      exact KEY.out bv [] w1 h2 h3 h4
    clear h2 h3 h4
    go_wp2_with fail
    go_ret2
    exact HX.out
  · go_enter Tryz.func41, Tryz.ntmps41
    go_wp2_with fail
    refine (HP.out _).mono ?_
    rintro e w1 ⟨bv, rfl, h2, h3, h4⟩
    have HX : Hid (OpenPut B w T k d d.data (.returned (.tuple #[.pointer (some ⟨w1.heap.size, 0, none⟩), .nilIface])) (w1.alloc (.cells #[.pointer (some ⟨k, 0, none⟩), .pointer (some ⟨T.tb, 0, none⟩)] 169))) := by
      simp only [if_true, List.take_length, List.append_nil] at h2 h4
      exact KEY.out bv d.data w1 h2 h3 h4
    clear h2 h3 h4
    go_wp2_with fail
    go_ret2
    exact HX.out




end
end Go.Proofs.YtjhojohjegkinaaGreatDoor
