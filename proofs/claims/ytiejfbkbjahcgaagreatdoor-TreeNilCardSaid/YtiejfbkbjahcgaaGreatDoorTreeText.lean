/-
  (*Tree).Text, called: the tree's text.
-/
import Derived.Test.YtiejfbkbjahcgaaGreatDoorText
import Derived.Test.YtiejfbkbjahcgaaGreatDoorShelf
import Derived.Laws.EntriesVeiled
namespace Go.Proofs.YtiejfbkbjahcgaaGreatDoor
open Go Go.RowKit

/-- A text as a string. -/
def TTextPost (l : List UInt8) (w : World) (e : Ending) (w' : World) : Prop := e = .returned (.string ⟨l.toArray⟩) ∧ Below w.heap.size w w'

theorem ts_new {B0 : Nat} {T : Tr} {w : World} (hR : Rep B0 w T) :
    TS B0 w.heap.size w.heap.size (w.heap.size + 1) T [] ((w.alloc (.cells #[.pointer none, .slice none 0 0] 126)).alloc (.cells #[funcV w.heap.size (w.heap.size + 1)] 127)) := by
  have hb : Below w.heap.size w ((w.alloc (.cells #[.pointer none, .slice none 0 0] 126)).alloc (.cells #[funcV w.heap.size (w.heap.size + 1)] 127)) := below_two w _ _
  have h1 : (w.alloc (.cells #[.pointer none, .slice none 0 0] 126)).heap.size = w.heap.size + 1 := by simp
  have h2 : w.heap.size + 1 ≠ w.heap.size := by omega
  have hx := heap_alloc_new (w.alloc (.cells #[.pointer none, .slice none 0 0] 126)) (.cells #[funcV w.heap.size (w.heap.size + 1)] 127)
  rw [h1] at hx
  exact ⟨hR.below hb, fun b hf => hR.lt hf, hb.size, bld_others (bld_new w) (below_alloc _ _), Nat.le_succ _, h2, hx⟩

set_option maxRecDepth 100000 in
set_option maxHeartbeats 4000000 in
theorem tree_text {B0 : Nat} {T : Tr} (w : World) (hR : Rep B0 w T) (hok : TxOk T) (f : Nat) (hd : T.deep f T.root) (hlen : (T.text f [] T.root).length ≤ 140737488355328) :
    Calls Tryz.prog 16 #[.pointer (some ⟨T.tb, 0, none⟩)] w fun e w' => TTextPost (T.text f [] T.root) w e w' := by
  have hts := ts_new hR
  have HB0 : Hid (Below w.heap.size w ((w.alloc (.cells #[.pointer none, .slice none 0 0] 126)).alloc (.cells #[funcV w.heap.size (w.heap.size + 1)] 127))) := below_two w _ _
  have HTS := Lib.hid hts
  have HOK := Lib.hid hok
  have HD := Lib.hid hd
  have HLEN := Lib.hid hlen
  clear hok hd hlen hR hts
  obtain ⟨L, hL⟩ : ∃ L, L = T.text f [] T.root := ⟨_, rfl⟩
  have HL := Lib.hid hL
  show Calls _ _ _ _ fun e w' => TTextPost (T.text f [] T.root) w e w'
  rw [← hL]
  clear hL
  go_enter Tryz.func16, Tryz.ntmps16
  go_wp2_with fail
  generalize hW : ((w.alloc (.cells #[.pointer none, .slice none 0 0] 126)).alloc (.cells #[.func (.func 67) #[] #[.pointer (some ⟨w.heap.size, 0, none⟩), .pointer (some ⟨w.heap.size + 1, 0, none⟩)]] 127)) = W
  have HTW : Hid (TS B0 w.heap.size w.heap.size (w.heap.size + 1) T [] W) := by rw [← hW]; exact HTS.out
  have HBW : Hid (Below w.heap.size w W) := by rw [← hW]; exact HB0.out
  clear hW HTS HB0
  have g0 : W.cell? ⟨T.tb, 0, none⟩ = some (.pointer (some ⟨T.root, 0, none⟩)) := cell_of HTW.out.rep.tree rfl
  have g1 : W.cell? ⟨w.heap.size + 1, 0, none⟩ = some (.func (.func 67) #[] #[.pointer (some ⟨w.heap.size, 0, none⟩), .pointer (some ⟨w.heap.size + 1, 0, none⟩)]) := cell_of HTW.out.fn rfl
  have HX : Hid (Calls Tryz.prog 67 #[.string ⟨#[]⟩, .pointer (some ⟨T.root, 0, none⟩), .pointer (some ⟨w.heap.size, 0, none⟩), .pointer (some ⟨w.heap.size + 1, 0, none⟩)] W.drew fun e w' => TxPost w.heap.size w.heap.size L W.drew e w') := by
    rw [HL.out]
    exact text_walk HOK.out f ⟨#[]⟩ T.root [] W.drew HD.out (HTW.out.below ((Below.refl _ _).drew)) (by simpa using HLEN.out)
  go_wp2_with fail
  go_region_with (go_at_call 67; refine HX.out.mono ?_; rintro e w2 ⟨rfl, hb2, hk2, ho2⟩)
  all_goals
    have HS := Lib.hid (Tryz.Builder_String_any w.heap.size w.heap.size L w2 hb2 (HBW.out.drew.trans hk2).size)
    have HB2 := Lib.hid (HBW.out.drew.trans hk2)
    clear hb2 hk2 ho2
    go_wp2_with fail
    refine HS.out.mono ?_
    rintro e w3 ⟨rfl, hb3⟩
    have HB3 := Lib.hid (HB2.out.trans hb3)
    clear hb3 HS HB2
    go_wp2_with fail
    go_ret
    exact ⟨rfl, HB3.out⟩
end Go.Proofs.YtiejfbkbjahcgaaGreatDoor
