/-
  The document's Stat.
-/
import Derived.Test.YtjhojohjegkinaaGreatDoorRStatF
namespace Go.Proofs.YtjhojohjegkinaaGreatDoor
open Go Go.RowKit

theorem ref_stat {B : Nat} {R : RT} (s : ByteArray) (w : World) (hR : RRep B w R) (hb : RB R) (hsz : s.size ≤ 9223372036854775807) :
    Calls Tryz.prog 31 #[.pointer (some ⟨R.tb, 0, none⟩), .string s] w fun e w' => RStatPost w R s e w' := by
  by_cases h : ∃ l k, clean s = some l ∧ R.okDirs l ∧ entAt R.L (joinB l) = some k
  · obtain ⟨l, k, h1, h2, h3⟩ := h
    obtain ⟨d, hd⟩ := hR.ents _ (entAt_mem h3)
    cases hdir : d.dir with
    | true => exact ref_stat_dir s w hR hb hsz h1 h2 h3 hd hdir
    | false => exact ref_stat_file s w hR hb hsz h1 h2 h3 hd hdir
  · exact ref_stat_no s w hR hb hsz (fun l k h1 h2 h3 => h ⟨l, k, h1, h2, h3⟩)
end Go.Proofs.YtjhojohjegkinaaGreatDoor
