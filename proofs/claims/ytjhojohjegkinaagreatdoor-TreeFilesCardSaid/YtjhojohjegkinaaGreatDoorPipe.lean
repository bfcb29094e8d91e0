/-
  (*Tree).Temp, a file without a name; (*Kern).Pipe.
-/
import Derived.Test.YtjhojohjegkinaaGreatDoorKFileB
import Derived.Test.YtjhojohjegkinaaGreatDoorNewA
import Derived.BigRegion
namespace Go.Proofs.YtjhojohjegkinaaGreatDoor
open Go Go.RowKit

def tempNd : Nd := { dir := false, bv := .slice none 0 0, data := [], names := [], mb := 0, links := 0, tick := 0 }
def tempW (w : World) (tb : Nat) : World := (w.alloc (.cells #[.bool false, .slice none 0 0, .map none, .int .i64 0, .int .i64 0] 126)).alloc (.cells #[.pointer (some ⟨w.heap.size, 0, none⟩), .pointer (some ⟨tb, 0, none⟩)] 169)
def TempPost (w : World) (tb : Nat) (e : Ending) (w' : World) : Prop := e = .returned (.pointer (some ⟨w.heap.size + 1, 0, none⟩)) ∧ w' = tempW w tb

theorem tempW_below (w : World) (tb : Nat) : Below w.heap.size w (tempW w tb) := below_two w _ _
theorem tempW_node (w : World) (tb : Nat) : (tempW w tb).heap[w.heap.size]? = some (.cells #[.bool false, .slice none 0 0, .map none, .int .i64 0, .int .i64 0] 126 (0, 0)) := by
  unfold tempW
  rw [Below.heap_alloc _ _ _ (by simp)]
  exact heap_alloc_new w _
theorem tempW_file (w : World) (tb : Nat) : (tempW w tb).heap[w.heap.size + 1]? = some (.cells #[.pointer (some ⟨w.heap.size, 0, none⟩), .pointer (some ⟨tb, 0, none⟩)] 169 (0, 0)) := by
  have h := heap_alloc_new (w.alloc (.cells #[.bool false, .slice none 0 0, .map none, .int .i64 0, .int .i64 0] 126)) (.cells #[.pointer (some ⟨w.heap.size, 0, none⟩), .pointer (some ⟨tb, 0, none⟩)] 169)
  have e : (w.alloc (.cells #[.bool false, .slice none 0 0, .map none, .int .i64 0, .int .i64 0] 126)).heap.size = w.heap.size + 1 := by simp
  rw [e] at h
  exact h

theorem temp_ok (tb : Nat) (w : World) : Calls Tryz.prog 43 #[.pointer (some ⟨tb, 0, none⟩)] w fun e w' => TempPost w tb e w' := by
  go_enter Tryz.func43, Tryz.ntmps43
  go_wp2_with fail
  go_ret
  exact ⟨rfl, rfl⟩

theorem temp_foot {T : Tr} {kn x : Nat} (h : (T.set kn tempNd).foot x) : T.foot x ∨ x = kn := by
  rcases h with h | ⟨d, hd⟩ | ⟨n, d, hn, hv⟩
  · exact .inl (.inl h)
  · rcases set_cases hd with ⟨rfl, _⟩ | ⟨_, hd⟩
    · exact .inr rfl
    · exact .inl (.inr (.inl ⟨d, hd⟩))
  · rcases set_cases hn with ⟨_, rfl⟩ | ⟨_, hn⟩
    · rcases hv with ⟨h1, _⟩ | h1
      · cases h1
      · cases h1
    · exact .inl (.inr (.inr ⟨n, d, hn, hv⟩))

theorem temp_rep {B : Nat} {w w1 : World} {T : Tr} (hB : B ≤ w.heap.size) (hR : Rep B w T) (hb : Below w.heap.size w w1) {kn : Nat} (hkn : w.heap.size ≤ kn) (hn : w1.heap[kn]? = some (.cells #[.bool false, .slice none 0 0, .map none, .int .i64 0, .int .i64 0] 126 (0, 0))) : Rep B w1 (T.set kn tempNd) := by
  have hR1 := hR.below hb
  have hno : ∀ {n d}, T.nd n = some d → n ≠ kn := fun h e => by
    have := hR.lt (.inr (.inl ⟨_, h⟩))
    omega
  refine ⟨fun b hf => ?_, hR1.tree, fun n d h => ?_, fun n d n' d' h h' q1 q2 q3 => ?_, fun n d n' d' b h h' q1 q2 => ?_, ?_, fun n d s k h hs => ?_⟩
  · rcases temp_foot hf with h | rfl
    · exact hR.low b h
    · omega
  · rcases set_cases h with ⟨rfl, rfl⟩ | ⟨_, h⟩
    · exact ⟨hn, World.ownsRow_nil _ _ _ _, fun h => (by cases h), fun _ => rfl⟩
    · exact hR1.node n d h
  · rcases set_cases h with ⟨rfl, rfl⟩ | ⟨_, h⟩
    · cases q1
    · rcases set_cases h' with ⟨rfl, rfl⟩ | ⟨_, h'⟩
      · cases q2
      · exact hR.maps n d n' d' h h' q1 q2 q3
  · rcases set_cases h with ⟨rfl, rfl⟩ | ⟨_, h⟩
    · cases q1
    · rcases set_cases h' with ⟨rfl, rfl⟩ | ⟨_, h'⟩
      · cases q2
      · exact hR.rows n d n' d' b h h' q1 q2
  · obtain ⟨d, h1, h2⟩ := hR.root
    exact ⟨d, (set_other T _ (hno h1)).trans h1, h2⟩
  · rcases set_cases h with ⟨rfl, rfl⟩ | ⟨_, h⟩
    · cases hs
    · obtain ⟨d', h1⟩ := hR.kids n d s k h hs
      exact ⟨d', (set_other T _ (hno h1)).trans h1⟩






end Go.Proofs.YtjhojohjegkinaaGreatDoor
