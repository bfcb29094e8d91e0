/-
  DERIVED. GIVEN WITH THE SEED: THE CARDS: each row of YtjhojohjegkinaaGreatDoorRows.lean that lists a variable, with what it lists TIED to the program's text (the seventh form; the later family's looks); each row that meets fmt, with fmt's text TOLD by the authors' own Lean function (tested against real Go, not proved from fmt's source: count such statements apart). THE CARD IS WHAT COUNTS. Prove the row's statement (the work); the ties are given (YtjhojohjegkinaaGreatDoorTie.lean); close each card by the builder's one call (the guide's Derived/Test/ToyasCard.lean, 'card_holds'). Laid BY PROGRAM, IN A SANDBOX (cutbox-door.mjs). By AI agents, Wed Nov 11 2026. No macro, syntax, notation, axiom, sorry.
-/
import Derived.Test.YtjhojohjegkinaaGreatDoorRows
import GoSem.ClaimSeven
namespace Go.Proofs.YtjhojohjegkinaaGreatDoor
namespace Rows

/-- THE TIED CARD OF 'pidginlaw16.TreeGone'. -/
def treeGoneCard : Claim7 := { stood := { row := treeGoneRow, standIns := [], harness := (true, "09859321c879f7024b1f8c3932f6f4569d5bd5e91cb5fa4283b153e4a8590c07"), looks := true }, kinds := [], alts := [], laidByText := true, laidKinds := [.data, .sentinel, .sentinel, .sentinel, .sentinel, .sentinel, .sentinel, .sentinel, .sentinel, .sentinel, .sentinel, .sentinel, .sentinel, .sentinel, .sentinel, .sentinel, .sentinel, .sentinel, .sentinel, .sentinel, .sentinel, .sentinel, .pinned], laidTests := true, laidLooks := .later }
def TreeGoneCardSaid : Prop := Claim7.holds Tryz.pinned (.plain (OpenSpec.ofChange treeGoneSpec)) treeGoneCard

/-- THE TIED CARD OF 'pidginlaw16.TreeNames'. -/
def treeNamesCard : Claim7 := { stood := { row := treeNamesRow, standIns := [], harness := (true, "09859321c879f7024b1f8c3932f6f4569d5bd5e91cb5fa4283b153e4a8590c07"), looks := true }, kinds := [], alts := [], laidByText := true, laidKinds := [.data, .sentinel, .sentinel, .sentinel, .sentinel, .sentinel, .sentinel, .sentinel, .sentinel, .sentinel, .sentinel, .sentinel, .sentinel, .sentinel, .sentinel, .sentinel, .sentinel, .sentinel, .sentinel, .sentinel, .sentinel, .sentinel, .pinned], laidTests := true, laidLooks := .later }
def TreeNamesCardSaid : Prop := Claim7.holds Tryz.pinned (.plain (OpenSpec.ofChange treeNamesSpec)) treeNamesCard

/-- THE TIED CARD OF 'pidginlaw16.TreeBack'. -/
def treeBackCard : Claim7 := { stood := { row := treeBackRow, standIns := [], harness := (true, "09859321c879f7024b1f8c3932f6f4569d5bd5e91cb5fa4283b153e4a8590c07"), looks := true }, kinds := [], alts := [], laidByText := true, laidKinds := [.data, .sentinel, .sentinel, .sentinel, .sentinel, .sentinel, .sentinel, .sentinel, .sentinel, .sentinel, .sentinel, .sentinel, .sentinel, .sentinel, .sentinel, .sentinel, .sentinel, .sentinel, .sentinel, .sentinel, .sentinel, .sentinel, .pinned], laidTests := true, laidLooks := .later }
def TreeBackCardSaid : Prop := Claim7.holds Tryz.pinned (.plain (OpenSpec.ofChange treeBackSpec)) treeBackCard

/-- THE TIED CARD OF 'pidginlaw16.TreeCopies'. -/
def treeCopiesCard : Claim7 := { stood := { row := treeCopiesRow, standIns := [], harness := (true, "09859321c879f7024b1f8c3932f6f4569d5bd5e91cb5fa4283b153e4a8590c07"), looks := true }, kinds := [], alts := [], laidByText := true, laidKinds := [.data, .handle, .sentinel, .sentinel, .sentinel, .sentinel, .sentinel, .sentinel, .sentinel, .sentinel, .sentinel, .sentinel, .sentinel, .sentinel, .sentinel, .sentinel, .sentinel, .sentinel, .sentinel, .sentinel, .sentinel, .sentinel, .sentinel, .pinned], laidTests := true, laidLooks := .later }
def TreeCopiesCardSaid : Prop := Claim7.holds Tryz.pinned (.plain (OpenSpec.ofChange treeCopiesSpec)) treeCopiesCard

/-- THE TIED CARD OF 'pidginlaw16.TreeLooks'. -/
def treeLooksCard : Claim7 := { stood := { row := treeLooksRow, standIns := [], harness := (true, "09859321c879f7024b1f8c3932f6f4569d5bd5e91cb5fa4283b153e4a8590c07"), looks := true }, kinds := [], alts := [], laidByText := true, laidKinds := [.data, .handle, .sentinel, .sentinel, .sentinel, .sentinel, .sentinel, .sentinel, .sentinel, .sentinel, .sentinel, .sentinel, .sentinel, .sentinel, .sentinel, .sentinel, .sentinel, .sentinel, .sentinel, .sentinel, .sentinel, .sentinel, .sentinel, .pinned], laidTests := true, laidLooks := .later }
def TreeLooksCardSaid : Prop := Claim7.holds Tryz.pinned (.plain (OpenSpec.ofChange treeLooksSpec)) treeLooksCard

/-- THE TIED CARD OF 'pidginlaw16.TreeFull'. -/
def treeFullCard : Claim7 := { stood := { row := treeFullRow, standIns := [], harness := (true, "09859321c879f7024b1f8c3932f6f4569d5bd5e91cb5fa4283b153e4a8590c07"), looks := true }, kinds := [], alts := [], laidByText := true, laidKinds := [.data, .data, .data, .data, .handle, .sentinel, .sentinel, .sentinel, .sentinel, .sentinel, .sentinel, .sentinel, .sentinel, .sentinel, .sentinel, .sentinel, .sentinel, .sentinel, .sentinel, .sentinel, .sentinel, .sentinel, .sentinel, .sentinel, .sentinel, .sentinel, .pinned], laidTests := true, laidLooks := .later }
def TreeFullCardSaid : Prop := Claim7.holds Tryz.pinned (.plain (OpenSpec.ofChange treeFullSpec)) treeFullCard

/-- THE TIED CARD OF 'pidginlaw16.TreePlays'. -/
def treePlaysCard : Claim7 := { stood := { row := treePlaysRow, standIns := [], harness := (true, "09859321c879f7024b1f8c3932f6f4569d5bd5e91cb5fa4283b153e4a8590c07"), looks := true }, kinds := [], alts := [], laidByText := true, laidKinds := [.data, .data, .data, .data, .handle, .sentinel, .sentinel, .sentinel, .sentinel, .sentinel, .sentinel, .sentinel, .sentinel, .sentinel, .sentinel, .sentinel, .sentinel, .sentinel, .sentinel, .sentinel, .sentinel, .sentinel, .sentinel, .sentinel, .sentinel, .sentinel, .pinned], laidTests := true, laidLooks := .later }
def TreePlaysCardSaid : Prop := Claim7.holds Tryz.pinned (.plain (OpenSpec.ofChange treePlaysSpec)) treePlaysCard

/-- THE TIED CARD OF 'pidginlaw16.TreeFiles'. -/
def treeFilesCard : Claim7 := { stood := { row := treeFilesRow, standIns := [], harness := (true, "09859321c879f7024b1f8c3932f6f4569d5bd5e91cb5fa4283b153e4a8590c07"), looks := true }, kinds := [], alts := [], laidByText := true, laidKinds := [.data, .data, .data, .data, .handle, .sentinel, .sentinel, .sentinel, .sentinel, .sentinel, .sentinel, .sentinel, .sentinel, .sentinel, .sentinel, .sentinel, .sentinel, .sentinel, .sentinel, .sentinel, .sentinel, .sentinel, .sentinel, .sentinel, .sentinel, .sentinel, .pinned], laidTests := true, laidLooks := .later }
def TreeFilesCardSaid : Prop := Claim7.holds Tryz.pinned (.plain (OpenSpec.ofChange treeFilesSpec)) treeFilesCard

/-- THE TIED CARD OF 'pidginlaw17.KernFull'. -/
def kernFullCard : Claim7 := { stood := { row := kernFullRow, standIns := [], harness := (true, "09859321c879f7024b1f8c3932f6f4569d5bd5e91cb5fa4283b153e4a8590c07"), looks := true }, kinds := [], alts := [], laidByText := true, laidKinds := [.data, .data, .data, .data, .handle, .sentinel, .sentinel, .sentinel, .sentinel, .sentinel, .sentinel, .sentinel, .sentinel, .sentinel, .sentinel, .sentinel, .sentinel, .sentinel, .sentinel, .sentinel, .sentinel, .sentinel, .sentinel, .sentinel, .sentinel, .sentinel, .pinned], laidTests := true, laidLooks := .later }
def KernFullCardSaid : Prop := Claim7.holds Tryz.pinned (.plain (OpenSpec.ofChange kernFullSpec)) kernFullCard

/-- THE TIED CARD OF 'pidginlaw17.KernPlays'. -/
def kernPlaysCard : Claim7 := { stood := { row := kernPlaysRow, standIns := [], harness := (true, "09859321c879f7024b1f8c3932f6f4569d5bd5e91cb5fa4283b153e4a8590c07"), looks := true }, kinds := [], alts := [], laidByText := true, laidKinds := [.data, .data, .data, .data, .handle, .sentinel, .sentinel, .sentinel, .sentinel, .sentinel, .sentinel, .sentinel, .sentinel, .sentinel, .sentinel, .sentinel, .sentinel, .sentinel, .sentinel, .sentinel, .sentinel, .sentinel, .sentinel, .sentinel, .sentinel, .sentinel, .pinned], laidTests := true, laidLooks := .later }
def KernPlaysCardSaid : Prop := Claim7.holds Tryz.pinned (.plain (OpenSpec.ofChange kernPlaysSpec)) kernPlaysCard

/-- THE SECOND FORM's CARD OF 'pidginlaw16.TreeGone'. -/
def treeGoneUptoCard : Claim7 := { stood := { row := treeGoneUptoRow, standIns := [], harness := (true, "09859321c879f7024b1f8c3932f6f4569d5bd5e91cb5fa4283b153e4a8590c07"), looks := true }, kinds := [], alts := [], laidByText := true, laidKinds := [.data, .sentinel, .sentinel, .sentinel, .sentinel, .sentinel, .sentinel, .sentinel, .sentinel, .sentinel, .sentinel, .sentinel, .sentinel, .sentinel, .sentinel, .sentinel, .sentinel, .sentinel, .sentinel, .sentinel, .sentinel, .sentinel, .pinned], laidTests := true, laidLooks := .later }
def TreeGoneUptoCardSaid : Prop := Claim7.holds Tryz.pinned (.plain (OpenSpec.upto treeGoneSpec)) treeGoneUptoCard

/-- THE SECOND FORM's CARD OF 'pidginlaw16.TreeNames'. -/
def treeNamesUptoCard : Claim7 := { stood := { row := treeNamesUptoRow, standIns := [], harness := (true, "09859321c879f7024b1f8c3932f6f4569d5bd5e91cb5fa4283b153e4a8590c07"), looks := true }, kinds := [], alts := [], laidByText := true, laidKinds := [.data, .sentinel, .sentinel, .sentinel, .sentinel, .sentinel, .sentinel, .sentinel, .sentinel, .sentinel, .sentinel, .sentinel, .sentinel, .sentinel, .sentinel, .sentinel, .sentinel, .sentinel, .sentinel, .sentinel, .sentinel, .sentinel, .pinned], laidTests := true, laidLooks := .later }
def TreeNamesUptoCardSaid : Prop := Claim7.holds Tryz.pinned (.plain (OpenSpec.upto treeNamesSpec)) treeNamesUptoCard

/-- THE SECOND FORM's CARD OF 'pidginlaw16.TreeBack'. -/
def treeBackUptoCard : Claim7 := { stood := { row := treeBackUptoRow, standIns := [], harness := (true, "09859321c879f7024b1f8c3932f6f4569d5bd5e91cb5fa4283b153e4a8590c07"), looks := true }, kinds := [], alts := [], laidByText := true, laidKinds := [.data, .sentinel, .sentinel, .sentinel, .sentinel, .sentinel, .sentinel, .sentinel, .sentinel, .sentinel, .sentinel, .sentinel, .sentinel, .sentinel, .sentinel, .sentinel, .sentinel, .sentinel, .sentinel, .sentinel, .sentinel, .sentinel, .pinned], laidTests := true, laidLooks := .later }
def TreeBackUptoCardSaid : Prop := Claim7.holds Tryz.pinned (.plain (OpenSpec.upto treeBackSpec)) treeBackUptoCard

/-- THE SECOND FORM's CARD OF 'pidginlaw16.TreeCopies'. -/
def treeCopiesUptoCard : Claim7 := { stood := { row := treeCopiesUptoRow, standIns := [], harness := (true, "09859321c879f7024b1f8c3932f6f4569d5bd5e91cb5fa4283b153e4a8590c07"), looks := true }, kinds := [], alts := [], laidByText := true, laidKinds := [.data, .handle, .sentinel, .sentinel, .sentinel, .sentinel, .sentinel, .sentinel, .sentinel, .sentinel, .sentinel, .sentinel, .sentinel, .sentinel, .sentinel, .sentinel, .sentinel, .sentinel, .sentinel, .sentinel, .sentinel, .sentinel, .sentinel, .pinned], laidTests := true, laidLooks := .later }
def TreeCopiesUptoCardSaid : Prop := Claim7.holds Tryz.pinned (.plain (OpenSpec.upto treeCopiesSpec)) treeCopiesUptoCard

/-- THE SECOND FORM's CARD OF 'pidginlaw16.TreeLooks'. -/
def treeLooksUptoCard : Claim7 := { stood := { row := treeLooksUptoRow, standIns := [], harness := (true, "09859321c879f7024b1f8c3932f6f4569d5bd5e91cb5fa4283b153e4a8590c07"), looks := true }, kinds := [], alts := [], laidByText := true, laidKinds := [.data, .handle, .sentinel, .sentinel, .sentinel, .sentinel, .sentinel, .sentinel, .sentinel, .sentinel, .sentinel, .sentinel, .sentinel, .sentinel, .sentinel, .sentinel, .sentinel, .sentinel, .sentinel, .sentinel, .sentinel, .sentinel, .sentinel, .pinned], laidTests := true, laidLooks := .later }
def TreeLooksUptoCardSaid : Prop := Claim7.holds Tryz.pinned (.plain (OpenSpec.upto treeLooksSpec)) treeLooksUptoCard

/-- THE SECOND FORM's CARD OF 'pidginlaw16.TreeFull'. -/
def treeFullUptoCard : Claim7 := { stood := { row := treeFullUptoRow, standIns := [], harness := (true, "09859321c879f7024b1f8c3932f6f4569d5bd5e91cb5fa4283b153e4a8590c07"), looks := true }, kinds := [], alts := [], laidByText := true, laidKinds := [.data, .data, .data, .data, .handle, .sentinel, .sentinel, .sentinel, .sentinel, .sentinel, .sentinel, .sentinel, .sentinel, .sentinel, .sentinel, .sentinel, .sentinel, .sentinel, .sentinel, .sentinel, .sentinel, .sentinel, .sentinel, .sentinel, .sentinel, .sentinel, .pinned], laidTests := true, laidLooks := .later }
def TreeFullUptoCardSaid : Prop := Claim7.holds Tryz.pinned (.plain (OpenSpec.upto treeFullSpec)) treeFullUptoCard

/-- THE SECOND FORM's CARD OF 'pidginlaw16.TreePlays'. -/
def treePlaysUptoCard : Claim7 := { stood := { row := treePlaysUptoRow, standIns := [], harness := (true, "09859321c879f7024b1f8c3932f6f4569d5bd5e91cb5fa4283b153e4a8590c07"), looks := true }, kinds := [], alts := [], laidByText := true, laidKinds := [.data, .data, .data, .data, .handle, .sentinel, .sentinel, .sentinel, .sentinel, .sentinel, .sentinel, .sentinel, .sentinel, .sentinel, .sentinel, .sentinel, .sentinel, .sentinel, .sentinel, .sentinel, .sentinel, .sentinel, .sentinel, .sentinel, .sentinel, .sentinel, .pinned], laidTests := true, laidLooks := .later }
def TreePlaysUptoCardSaid : Prop := Claim7.holds Tryz.pinned (.plain (OpenSpec.upto treePlaysSpec)) treePlaysUptoCard

/-- THE SECOND FORM's CARD OF 'pidginlaw16.TreeFiles'. -/
def treeFilesUptoCard : Claim7 := { stood := { row := treeFilesUptoRow, standIns := [], harness := (true, "09859321c879f7024b1f8c3932f6f4569d5bd5e91cb5fa4283b153e4a8590c07"), looks := true }, kinds := [], alts := [], laidByText := true, laidKinds := [.data, .data, .data, .data, .handle, .sentinel, .sentinel, .sentinel, .sentinel, .sentinel, .sentinel, .sentinel, .sentinel, .sentinel, .sentinel, .sentinel, .sentinel, .sentinel, .sentinel, .sentinel, .sentinel, .sentinel, .sentinel, .sentinel, .sentinel, .sentinel, .pinned], laidTests := true, laidLooks := .later }
def TreeFilesUptoCardSaid : Prop := Claim7.holds Tryz.pinned (.plain (OpenSpec.upto treeFilesSpec)) treeFilesUptoCard

/-- THE SECOND FORM's CARD OF 'pidginlaw17.KernFull'. -/
def kernFullUptoCard : Claim7 := { stood := { row := kernFullUptoRow, standIns := [], harness := (true, "09859321c879f7024b1f8c3932f6f4569d5bd5e91cb5fa4283b153e4a8590c07"), looks := true }, kinds := [], alts := [], laidByText := true, laidKinds := [.data, .data, .data, .data, .handle, .sentinel, .sentinel, .sentinel, .sentinel, .sentinel, .sentinel, .sentinel, .sentinel, .sentinel, .sentinel, .sentinel, .sentinel, .sentinel, .sentinel, .sentinel, .sentinel, .sentinel, .sentinel, .sentinel, .sentinel, .sentinel, .pinned], laidTests := true, laidLooks := .later }
def KernFullUptoCardSaid : Prop := Claim7.holds Tryz.pinned (.plain (OpenSpec.upto kernFullSpec)) kernFullUptoCard

/-- THE SECOND FORM's CARD OF 'pidginlaw17.KernPlays'. -/
def kernPlaysUptoCard : Claim7 := { stood := { row := kernPlaysUptoRow, standIns := [], harness := (true, "09859321c879f7024b1f8c3932f6f4569d5bd5e91cb5fa4283b153e4a8590c07"), looks := true }, kinds := [], alts := [], laidByText := true, laidKinds := [.data, .data, .data, .data, .handle, .sentinel, .sentinel, .sentinel, .sentinel, .sentinel, .sentinel, .sentinel, .sentinel, .sentinel, .sentinel, .sentinel, .sentinel, .sentinel, .sentinel, .sentinel, .sentinel, .sentinel, .sentinel, .sentinel, .sentinel, .sentinel, .pinned], laidTests := true, laidLooks := .later }
def KernPlaysUptoCardSaid : Prop := Claim7.holds Tryz.pinned (.plain (OpenSpec.upto kernPlaysSpec)) kernPlaysUptoCard
end Rows
end Go.Proofs.YtjhojohjegkinaaGreatDoor
