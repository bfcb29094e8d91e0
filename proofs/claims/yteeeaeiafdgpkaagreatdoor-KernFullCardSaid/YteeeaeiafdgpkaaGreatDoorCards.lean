/-
  DERIVED. GIVEN WITH THE SEED: THE CARDS: each row of YteeeaeiafdgpkaaGreatDoorRows.lean that lists a variable, with what it lists TIED to the program's text (the seventh form; the later family's looks); each row that meets fmt, with fmt's text TOLD by the authors' own Lean function (tested against real Go, not proved from fmt's source: count such statements apart). THE CARD IS WHAT COUNTS. Prove the row's statement (the work); the ties are given (YteeeaeiafdgpkaaGreatDoorTie.lean); close each card by the builder's one call (the guide's Derived/Test/ToyasCard.lean, 'card_holds'). Laid BY PROGRAM, IN A SANDBOX (cutbox-door.mjs). By AI agents, Wed Nov 11 2026. No macro, syntax, notation, axiom, sorry.
-/
import Derived.Test.YteeeaeiafdgpkaaGreatDoorRows
import GoSem.ClaimSeven
namespace Go.Proofs.YteeeaeiafdgpkaaGreatDoor
namespace Rows

/-- THE TIED CARD OF 'pidginlaw17.KernFull'. -/
def kernFullCard : Claim7 := { stood := { row := kernFullRow, standIns := [], harness := (true, "ddd47421ecd9ac7af477415a1c0ac634e31114d4800b8a13d590f8467f6cbc86"), looks := true }, kinds := [], alts := [], laidByText := true, laidKinds := [.data, .data, .data, .data, .handle, .sentinel, .sentinel, .sentinel, .sentinel, .sentinel, .sentinel, .sentinel, .sentinel, .sentinel, .sentinel, .sentinel, .sentinel, .sentinel, .sentinel, .sentinel, .sentinel, .sentinel, .sentinel, .sentinel, .sentinel, .sentinel, .pinned], laidTests := true, laidLooks := .later }
def KernFullCardSaid : Prop := Claim7.holds Tryz.pinned (.plain (OpenSpec.ofChange kernFullSpec)) kernFullCard

/-- THE TIED CARD OF 'pidginlaw17.KernPlays'. -/
def kernPlaysCard : Claim7 := { stood := { row := kernPlaysRow, standIns := [], harness := (true, "ddd47421ecd9ac7af477415a1c0ac634e31114d4800b8a13d590f8467f6cbc86"), looks := true }, kinds := [], alts := [], laidByText := true, laidKinds := [.data, .data, .data, .data, .handle, .sentinel, .sentinel, .sentinel, .sentinel, .sentinel, .sentinel, .sentinel, .sentinel, .sentinel, .sentinel, .sentinel, .sentinel, .sentinel, .sentinel, .sentinel, .sentinel, .sentinel, .sentinel, .sentinel, .sentinel, .sentinel, .pinned], laidTests := true, laidLooks := .later }
def KernPlaysCardSaid : Prop := Claim7.holds Tryz.pinned (.plain (OpenSpec.ofChange kernPlaysSpec)) kernPlaysCard

/-- THE SECOND FORM's CARD OF 'pidginlaw17.KernFull'. -/
def kernFullUptoCard : Claim7 := { stood := { row := kernFullUptoRow, standIns := [], harness := (true, "ddd47421ecd9ac7af477415a1c0ac634e31114d4800b8a13d590f8467f6cbc86"), looks := true }, kinds := [], alts := [], laidByText := true, laidKinds := [.data, .data, .data, .data, .handle, .sentinel, .sentinel, .sentinel, .sentinel, .sentinel, .sentinel, .sentinel, .sentinel, .sentinel, .sentinel, .sentinel, .sentinel, .sentinel, .sentinel, .sentinel, .sentinel, .sentinel, .sentinel, .sentinel, .sentinel, .sentinel, .pinned], laidTests := true, laidLooks := .later }
def KernFullUptoCardSaid : Prop := Claim7.holds Tryz.pinned (.plain (OpenSpec.upto kernFullSpec)) kernFullUptoCard

/-- THE SECOND FORM's CARD OF 'pidginlaw17.KernPlays'. -/
def kernPlaysUptoCard : Claim7 := { stood := { row := kernPlaysUptoRow, standIns := [], harness := (true, "ddd47421ecd9ac7af477415a1c0ac634e31114d4800b8a13d590f8467f6cbc86"), looks := true }, kinds := [], alts := [], laidByText := true, laidKinds := [.data, .data, .data, .data, .handle, .sentinel, .sentinel, .sentinel, .sentinel, .sentinel, .sentinel, .sentinel, .sentinel, .sentinel, .sentinel, .sentinel, .sentinel, .sentinel, .sentinel, .sentinel, .sentinel, .sentinel, .sentinel, .sentinel, .sentinel, .sentinel, .pinned], laidTests := true, laidLooks := .later }
def KernPlaysUptoCardSaid : Prop := Claim7.holds Tryz.pinned (.plain (OpenSpec.upto kernPlaysSpec)) kernPlaysUptoCard
end Rows
end Go.Proofs.YteeeaeiafdgpkaaGreatDoor
