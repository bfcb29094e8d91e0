/-
 THE NAMES OF A DIRECTORY: the document's kids are the tree's sorted names. THE TEXTS: the document's is the tree's.
-/
import Derived.Test.YteeeaeiafdgpkaaGreatDoorBothA
import Derived.Test.YteeeaeiafdgpkaaGreatDoorRText
import Derived.Sort.Walk0
namespace Go.Proofs.YteeeaeiafdgpkaaGreatDoor
open Go Go.RowKit
def SL (l : List (List UInt8)) : Prop := l.Pairwise (· < ·)
theorem Both.txt_same {B n : Nat} {w : World} {T : Tr} {R : RT} {f : Nat → Nat} (h : Both B w T R f n) : T.txt = R.txt := by
 unfold Tr.txt RT.txt
 rw [Tr.text_pre, ← h.pre, List.flatMap_map]
 have key : ∀ L : List Ent, (∀ e ∈ L, ∃ l, T.at l = some e.2) → L.flatMap (lineAt T) = L.flatMap (fun e => rline R (e.1, f e.2)) := by
  intro L
  induction L with
  | nil => intro _; rfl
  | cons e L ih =>
   intro hL
   rw [List.flatMap_cons, List.flatMap_cons, ih (fun e he => hL e (List.mem_cons_of_mem _ he))]
   congr 1
   obtain ⟨l, hl⟩ := hL e (List.mem_cons_self ..)
   obtain ⟨d, hd⟩ := h.ti.tw.there hl
   obtain ⟨r, h1, h2, h3, h4⟩ := h.sim.node e.2 d hd
   unfold lineAt rline zdh
   rw [hd]
   dsimp only
   rw [h1]
   dsimp only
   rw [h2, h3, h4]
   cases hdir : d.dir with
   | true => rfl
   | false =>
    have := h.sim.links e.2 d hd hdir
    rw [this]
 exact key _ (fun e he => by
  obtain ⟨q, k⟩ := e
  obtain ⟨l, h1, _⟩ := (Tr.mem_pre h.ti.tw 50001 [] T.root h.deep q k).1 he
  exact ⟨l, h1⟩)
theorem Sim.dirs_tick {T : Tr} {R : RT} {f : Nat → Nat} (hS : Sim T R f) (hT : TW T) : ∀ e ∈ R.L, ∃ r n d, R.nd e.2 = some r ∧ T.nd n = some d ∧ e.2 = f n ∧ r.dir = d.dir ∧ r.data = d.data ∧ r.tick = d.tick := by
 intro e he
 obtain ⟨l, n, _, _, h1, h2⟩ := hS.entry he
 obtain ⟨d, hd⟩ := hT.there h1
 obtain ⟨r, q1, q2, q3, q4⟩ := hS.node n d hd
 exact ⟨r, n, d, by rw [h2]; exact q1, hd, h2, q2, q3, q4⟩
end Go.Proofs.YteeeaeiafdgpkaaGreatDoor
