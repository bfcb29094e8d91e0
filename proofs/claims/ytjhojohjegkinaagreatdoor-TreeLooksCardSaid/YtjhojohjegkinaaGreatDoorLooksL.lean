/-
  TreeLooks' plain law: what the document tells of a path is what the program tells.
-/
import Derived.Test.YtjhojohjegkinaaGreatDoorNamesL
import Derived.Test.YtjhojohjegkinaaGreatDoorNames
import Derived.Test.YtjhojohjegkinaaGreatDoorRLook
namespace Go.Proofs.YtjhojohjegkinaaGreatDoor
open Go Go.RowKit

section
variable {T : Tr} {R : RT} {f : Nat → Nat} (hS : Sim T R f) (hT : TW T)
include hS hT

theorem Sim.no_list {s : ByteArray} {c : Nat} (h : NoList R s c) : T.cList s = c := by
  unfold Tr.cList
  rcases h with ⟨rfl, hc⟩ | ⟨l, hc, rfl, hd | ⟨hd, h⟩⟩
  · rw [find_unclean hc]
  · rw [hS.find_bad hT hc hd]
  · obtain ⟨sp, h1, h2, h3⟩ := hS.find_good hT hc hd
    have hl := (clean_parts hc).1
    rw [h1]
    dsimp only
    rw [h2]
    rcases h with h | ⟨m, r, h, hr, h4⟩
    · rw [(hS.at_none hl).1 h]
    · obtain ⟨k, d, q1, q2, q3, q4, q5, _⟩ := hS.at_some hT hl h hr
      rw [q1]
      dsimp only
      rw [q3]
      dsimp only
      rw [← q4, h4]
      rfl
theorem Sim.is_dir {s : ByteArray} {l : List ByteArray} {m : Nat} {r : RNd} (hc : clean s = some l) (h : entAt R.L (joinB l) = some m) (hr : R.nd m = some r) (hdir : r.dir = true) :
    ∃ k d, DirAt T s k d ∧ f k = m ∧ d.tick = r.tick ∧ (kidsOf R.L (joinB l)).map bl = sortedNames d.names := by
  have hl := (clean_parts hc).1
  obtain ⟨k, d, q1, q2, q3, q4, q5, q6⟩ := hS.at_some hT hl h hr
  have h7 : d.dir = true := by rw [← q4]; exact hdir
  exact ⟨k, d, ⟨⟨l, hc, q1⟩, q3, h7⟩, q2, q6.symm, hS.kids hT hl q1 q3 h7⟩
theorem Sim.no_stat {s : ByteArray} {c : Nat} (h : NoStat R s c) : T.cStat s = c := by
  unfold Tr.cStat
  rcases h with ⟨rfl, hc⟩ | ⟨l, hc, rfl, hd | ⟨hd, h⟩⟩
  · rw [find_unclean hc]
  · rw [hS.find_bad hT hc hd]
  · obtain ⟨sp, h1, h2, h3⟩ := hS.find_good hT hc hd
    have hl := (clean_parts hc).1
    rw [h1]
    dsimp only
    rw [h2, (hS.at_none hl).1 h]
theorem Sim.is_stat {s : ByteArray} {l : List ByteArray} {m : Nat} {r : RNd} (hc : clean s = some l) (hd : R.okDirs l) (h : entAt R.L (joinB l) = some m) (hr : R.nd m = some r) :
    T.cStat s = 0 ∧ T.vStat s = rStatV R (joinB l) m r := by
  obtain ⟨sp, h1, h2, h3⟩ := hS.find_good hT hc hd
  have hl := (clean_parts hc).1
  obtain ⟨k, d, q1, q2, q3, q4, q5, q6⟩ := hS.at_some hT hl h hr
  unfold Tr.cStat Tr.vStat
  rw [h1]
  dsimp only
  rw [h2, q1]
  dsimp only
  rw [q3]
  dsimp only
  refine ⟨rfl, ?_⟩
  unfold ndStat rStatV
  rw [q4, q5, q6]
  cases hdir : d.dir with
  | true =>
    rw [if_pos rfl, if_pos rfl]
    have h8 := congrArg List.length (hS.kids hT hl q1 q3 hdir)
    rw [List.length_map, sortedNames_len] at h8
    rw [h8]
    rfl
  | false =>
    rw [if_neg (by decide), if_neg (by decide)]
    rw [hS.links k d q3 hdir, q2]
    rfl
end
end Go.Proofs.YtjhojohjegkinaaGreatDoor
