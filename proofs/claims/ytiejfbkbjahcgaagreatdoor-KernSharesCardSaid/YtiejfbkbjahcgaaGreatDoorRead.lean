/-
  Tree.Read of a file that is there.
-/
import Derived.Test.YtiejfbkbjahcgaaGreatDoorOpen
import Derived.Lib.Hide
namespace Go.Proofs.YtiejfbkbjahcgaaGreatDoor
open Go Go.RowKit

/-- What a read leaves: a new row with the file's bytes. -/
def ReadOk (w : World) (l : List UInt8) (e : Ending) (w' : World) : Prop :=
  ∃ v, e = .returned (.tuple #[v, .nilIface]) ∧ w'.ownsRow w.heap.size 5 1 v l.length (u8s l) ∧ Below w.heap.size w w'

set_option maxRecDepth 100000 in
set_option maxHeartbeats 1000000 in
theorem tree_read {E : Nat → Addr} {B : Nat} {T : Tr} (p : ByteArray) (w : World) (hE : Ctx E B w) (hR : Rep B w T) (hsz : p.size ≤ 9223372036854775807) (k : Nat) (d : Nd) (hf : T.fileOf p = .ok k) (hd : T.nd k = some d) (hl : d.data.length ≤ 140737488355328) :
    Calls Tryz.prog 25 #[.pointer (some ⟨T.tb, 0, none⟩), .string p] w fun e w' => ReadOk w d.data e w' := by
  have HP : Hid (Calls Tryz.prog 77 #[.pointer (some ⟨T.tb, 0, none⟩), .string p] w fun e w' => FilePost E w (.ok k) e w') := by
    have h := tree_file p w hE hR hsz
    rw [hf] at h
    exact h
  have HN := Lib.hid (hR.node k d hd)
  clear hE hR hf hd
  go_enter Tryz.func25, Tryz.ntmps25
  go_wp2_with fail
  refine HP.out.mono ?_
  intro e w1 hp
  obtain ⟨rfl, hb⟩ : e = .returned (.tuple #[.pointer (some ⟨k, 0, none⟩), .nilIface]) ∧ Below w.heap.size w w1 := hp
  have HB := Lib.hid hb
  have HN1 := Lib.hid (HN.out.kept (Kept.of_below hb (fun _ => False)) (fun h => h) (fun _ h => h) (fun _ _ h => h))
  clear hb HN
  obtain ⟨ba, bc, hbv⟩ := owns_form HN1.out.row
  have HS : Hid (Src w1 (.slice ba d.data.length bc) d.data) := by
    have h := Src.of_owns HN1.out.row
    rw [hbv] at h
    exact h
  have hc1 : w1.cell? ⟨k, 1, none⟩ = some (.slice ba d.data.length bc) := by
    have h := HN1.out.cells
    rw [hbv] at h
    exact cell_of h rfl
  clear hbv HN1 HP
  go_wp2_with (at_builtin; refine wpList_append_src rfl _ _ rfl w.heap.size (.slice none 0 0) 0 [] rfl (World.ownsRow_nil _ _ _ _) (.slice ba d.data.length bc) d.data rfl HS.out (by omega) HB.out.size ?_)
  intro v' w2 hown hgrow
  obtain ⟨va, vc, rfl⟩ := owns_form hown
  have HFIN : Hid (ReadOk w d.data (.returned (.tuple #[.slice va d.data.length vc, .nilIface])) w2) := by
    refine ⟨_, rfl, hown, HB.out.grown hgrow HB.out.size (fun q hq => by cases hq)⟩
  clear hown hgrow HS hc1
  go_wp2_with fail
  go_ret2
  exact HFIN.out
end Go.Proofs.YtiejfbkbjahcgaaGreatDoor
