/-
  DERIVED. GIVEN WITH THE SEED: THE CARDS: each row of YtiejfbkbjahcgaaDoorRows.lean that lists a variable, with what it lists TIED to the program's text (the seventh form; the later family's looks); each row that meets fmt, with fmt's text TOLD by the authors' own Lean function (tested against real Go, not proved from fmt's source: count such statements apart). THE CARD IS WHAT COUNTS. Prove the row's statement (the work); the ties are given (YtiejfbkbjahcgaaDoorTie.lean); close each card by the builder's one call (the guide's Derived/Test/ToyasCard.lean, 'card_holds'). Laid BY PROGRAM, IN A SANDBOX (cutbox-door.mjs). By AI agents, Wed Nov 11 2026. No macro, syntax, notation, axiom, sorry.
-/
import Derived.Test.YtiejfbkbjahcgaaDoorRows
import GoSem.ClaimSeven
namespace Go.Proofs.YtiejfbkbjahcgaaDoor
namespace Rows

/-- THE TIED CARD OF 'pidginlaw17.KernLeast'. -/
def kernLeastCard : Claim7 := { stood := { row := kernLeastRow, standIns := [], harness := (true, "ccdfda7828d79549d07bb842a427d288a12508b889e8eeb2772509fecfc09500"), looks := true }, kinds := [], alts := [], laidByText := true, laidKinds := [.data, .handle, .sentinel, .sentinel, .sentinel, .sentinel, .sentinel, .sentinel, .sentinel, .sentinel, .sentinel, .sentinel, .sentinel, .sentinel, .sentinel, .sentinel, .sentinel, .sentinel, .sentinel, .sentinel, .sentinel, .sentinel, .sentinel, .pinned], laidTests := true, laidLooks := .later }
def KernLeastCardSaid : Prop := Claim7.holds Tryd.pinned (.plain (OpenSpec.ofChange kernLeastSpec)) kernLeastCard

/-- THE TIED CARD OF 'pidginlaw17.KernMoves'. -/
def kernMovesCard : Claim7 := { stood := { row := kernMovesRow, standIns := [], harness := (true, "ccdfda7828d79549d07bb842a427d288a12508b889e8eeb2772509fecfc09500"), looks := true }, kinds := [], alts := [], laidByText := true, laidKinds := [.data, .handle, .sentinel, .sentinel, .sentinel, .sentinel, .sentinel, .sentinel, .sentinel, .sentinel, .sentinel, .sentinel, .sentinel, .sentinel, .sentinel, .sentinel, .sentinel, .sentinel, .sentinel, .sentinel, .sentinel, .sentinel, .sentinel, .pinned], laidTests := true, laidLooks := .later }
def KernMovesCardSaid : Prop := Claim7.holds Tryd.pinned (.plain (OpenSpec.ofChange kernMovesSpec)) kernMovesCard

/-- THE TIED CARD OF 'pidginlaw16.TreeClean'. -/
def treeCleanCard : Claim7 := { stood := { row := treeCleanRow, standIns := [], harness := (true, "ccdfda7828d79549d07bb842a427d288a12508b889e8eeb2772509fecfc09500"), looks := true }, kinds := [], alts := [], laidByText := true, laidKinds := [.data, .sentinel, .sentinel, .sentinel, .sentinel, .sentinel, .sentinel, .sentinel, .sentinel, .sentinel, .sentinel, .sentinel, .sentinel, .sentinel, .sentinel, .sentinel, .sentinel, .sentinel, .sentinel, .sentinel, .sentinel, .sentinel, .pinned], laidTests := true, laidLooks := .later }
def TreeCleanCardSaid : Prop := Claim7.holds Tryd.pinned (.plain (OpenSpec.ofChange treeCleanSpec)) treeCleanCard

/-- THE TIED CARD OF 'pidginlaw16.TreePaths'. -/
def treePathsCard : Claim7 := { stood := { row := treePathsRow, standIns := [], harness := (true, "ccdfda7828d79549d07bb842a427d288a12508b889e8eeb2772509fecfc09500"), looks := true }, kinds := [], alts := [], laidByText := true, laidKinds := [.data, .sentinel, .sentinel, .sentinel, .sentinel, .sentinel, .sentinel, .sentinel, .sentinel, .sentinel, .sentinel, .sentinel, .sentinel, .sentinel, .sentinel, .sentinel, .sentinel, .sentinel, .sentinel, .sentinel, .sentinel, .sentinel, .pinned], laidTests := true, laidLooks := .later }
def TreePathsCardSaid : Prop := Claim7.holds Tryd.pinned (.plain (OpenSpec.ofChange treePathsSpec)) treePathsCard

/-- THE TIED CARD OF 'pidginlaw16.TreeAdds'. -/
def treeAddsCard : Claim7 := { stood := { row := treeAddsRow, standIns := [], harness := (true, "ccdfda7828d79549d07bb842a427d288a12508b889e8eeb2772509fecfc09500"), looks := true }, kinds := [], alts := [], laidByText := true, laidKinds := [.data, .sentinel, .sentinel, .sentinel, .sentinel, .sentinel, .sentinel, .sentinel, .sentinel, .sentinel, .sentinel, .sentinel, .sentinel, .sentinel, .sentinel, .sentinel, .sentinel, .sentinel, .sentinel, .sentinel, .sentinel, .sentinel, .pinned], laidTests := true, laidLooks := .later }
def TreeAddsCardSaid : Prop := Claim7.holds Tryd.pinned (.plain (OpenSpec.ofChange treeAddsSpec)) treeAddsCard

/-- THE TIED CARD OF 'pidginlaw17.KernAdds'. -/
def kernAddsCard : Claim7 := { stood := { row := kernAddsRow, standIns := [], harness := (true, "ccdfda7828d79549d07bb842a427d288a12508b889e8eeb2772509fecfc09500"), looks := true }, kinds := [], alts := [], laidByText := true, laidKinds := [.data, .handle, .sentinel, .sentinel, .sentinel, .sentinel, .sentinel, .sentinel, .sentinel, .sentinel, .sentinel, .sentinel, .sentinel, .sentinel, .sentinel, .sentinel, .sentinel, .sentinel, .sentinel, .sentinel, .sentinel, .sentinel, .sentinel, .pinned], laidTests := true, laidLooks := .later }
def KernAddsCardSaid : Prop := Claim7.holds Tryd.pinned (.plain (OpenSpec.ofChange kernAddsSpec)) kernAddsCard

/-- THE TIED CARD OF 'pidginlaw17.KernConsole'. -/
def kernConsoleCard : Claim7 := { stood := { row := kernConsoleRow, standIns := [], harness := (true, "ccdfda7828d79549d07bb842a427d288a12508b889e8eeb2772509fecfc09500"), looks := true }, kinds := [], alts := [], laidByText := true, laidKinds := [.data, .handle, .sentinel, .sentinel, .sentinel, .sentinel, .sentinel, .sentinel, .sentinel, .sentinel, .sentinel, .sentinel, .sentinel, .sentinel, .sentinel, .sentinel, .sentinel, .sentinel, .sentinel, .sentinel, .sentinel, .sentinel, .sentinel, .pinned], laidTests := true, laidLooks := .later }
def KernConsoleCardSaid : Prop := Claim7.holds Tryd.pinned (.plain (OpenSpec.ofChange kernConsoleSpec)) kernConsoleCard

/-- THE TIED CARD OF 'pidginlaw17.KernPipes'. -/
def kernPipesCard : Claim7 := { stood := { row := kernPipesRow, standIns := [], harness := (true, "ccdfda7828d79549d07bb842a427d288a12508b889e8eeb2772509fecfc09500"), looks := true }, kinds := [], alts := [], laidByText := true, laidKinds := [.data, .handle, .sentinel, .sentinel, .sentinel, .sentinel, .sentinel, .sentinel, .sentinel, .sentinel, .sentinel, .sentinel, .sentinel, .sentinel, .sentinel, .sentinel, .sentinel, .sentinel, .sentinel, .sentinel, .sentinel, .sentinel, .sentinel, .pinned], laidTests := true, laidLooks := .later }
def KernPipesCardSaid : Prop := Claim7.holds Tryd.pinned (.plain (OpenSpec.ofChange kernPipesSpec)) kernPipesCard

/-- THE TIED CARD OF 'pidginlaw17.KernNil'. -/
def kernNilCard : Claim7 := { stood := { row := kernNilRow, standIns := [], harness := (true, "ccdfda7828d79549d07bb842a427d288a12508b889e8eeb2772509fecfc09500"), looks := true }, kinds := [], alts := [], laidByText := true, laidKinds := [.data, .handle, .sentinel, .sentinel, .sentinel, .sentinel, .sentinel, .sentinel, .sentinel, .sentinel, .sentinel, .sentinel, .sentinel, .sentinel, .sentinel, .sentinel, .sentinel, .sentinel, .sentinel, .sentinel, .sentinel, .sentinel, .sentinel, .pinned], laidTests := true, laidLooks := .later }
def KernNilCardSaid : Prop := Claim7.holds Tryd.pinned (.plain (OpenSpec.ofChange kernNilSpec)) kernNilCard

/-- THE SECOND FORM's CARD OF 'pidginlaw17.KernLeast'. -/
def kernLeastUptoCard : Claim7 := { stood := { row := kernLeastUptoRow, standIns := [], harness := (true, "ccdfda7828d79549d07bb842a427d288a12508b889e8eeb2772509fecfc09500"), looks := true }, kinds := [], alts := [], laidByText := true, laidKinds := [.data, .handle, .sentinel, .sentinel, .sentinel, .sentinel, .sentinel, .sentinel, .sentinel, .sentinel, .sentinel, .sentinel, .sentinel, .sentinel, .sentinel, .sentinel, .sentinel, .sentinel, .sentinel, .sentinel, .sentinel, .sentinel, .sentinel, .pinned], laidTests := true, laidLooks := .later }
def KernLeastUptoCardSaid : Prop := Claim7.holds Tryd.pinned (.plain (OpenSpec.upto kernLeastSpec)) kernLeastUptoCard

/-- THE SECOND FORM's CARD OF 'pidginlaw17.KernMoves'. -/
def kernMovesUptoCard : Claim7 := { stood := { row := kernMovesUptoRow, standIns := [], harness := (true, "ccdfda7828d79549d07bb842a427d288a12508b889e8eeb2772509fecfc09500"), looks := true }, kinds := [], alts := [], laidByText := true, laidKinds := [.data, .handle, .sentinel, .sentinel, .sentinel, .sentinel, .sentinel, .sentinel, .sentinel, .sentinel, .sentinel, .sentinel, .sentinel, .sentinel, .sentinel, .sentinel, .sentinel, .sentinel, .sentinel, .sentinel, .sentinel, .sentinel, .sentinel, .pinned], laidTests := true, laidLooks := .later }
def KernMovesUptoCardSaid : Prop := Claim7.holds Tryd.pinned (.plain (OpenSpec.upto kernMovesSpec)) kernMovesUptoCard

/-- THE SECOND FORM's CARD OF 'pidginlaw16.TreeClean'. -/
def treeCleanUptoCard : Claim7 := { stood := { row := treeCleanUptoRow, standIns := [], harness := (true, "ccdfda7828d79549d07bb842a427d288a12508b889e8eeb2772509fecfc09500"), looks := true }, kinds := [], alts := [], laidByText := true, laidKinds := [.data, .sentinel, .sentinel, .sentinel, .sentinel, .sentinel, .sentinel, .sentinel, .sentinel, .sentinel, .sentinel, .sentinel, .sentinel, .sentinel, .sentinel, .sentinel, .sentinel, .sentinel, .sentinel, .sentinel, .sentinel, .sentinel, .pinned], laidTests := true, laidLooks := .later }
def TreeCleanUptoCardSaid : Prop := Claim7.holds Tryd.pinned (.plain (OpenSpec.upto treeCleanSpec)) treeCleanUptoCard

/-- THE SECOND FORM's CARD OF 'pidginlaw16.TreePaths'. -/
def treePathsUptoCard : Claim7 := { stood := { row := treePathsUptoRow, standIns := [], harness := (true, "ccdfda7828d79549d07bb842a427d288a12508b889e8eeb2772509fecfc09500"), looks := true }, kinds := [], alts := [], laidByText := true, laidKinds := [.data, .sentinel, .sentinel, .sentinel, .sentinel, .sentinel, .sentinel, .sentinel, .sentinel, .sentinel, .sentinel, .sentinel, .sentinel, .sentinel, .sentinel, .sentinel, .sentinel, .sentinel, .sentinel, .sentinel, .sentinel, .sentinel, .pinned], laidTests := true, laidLooks := .later }
def TreePathsUptoCardSaid : Prop := Claim7.holds Tryd.pinned (.plain (OpenSpec.upto treePathsSpec)) treePathsUptoCard

/-- THE SECOND FORM's CARD OF 'pidginlaw16.TreeAdds'. -/
def treeAddsUptoCard : Claim7 := { stood := { row := treeAddsUptoRow, standIns := [], harness := (true, "ccdfda7828d79549d07bb842a427d288a12508b889e8eeb2772509fecfc09500"), looks := true }, kinds := [], alts := [], laidByText := true, laidKinds := [.data, .sentinel, .sentinel, .sentinel, .sentinel, .sentinel, .sentinel, .sentinel, .sentinel, .sentinel, .sentinel, .sentinel, .sentinel, .sentinel, .sentinel, .sentinel, .sentinel, .sentinel, .sentinel, .sentinel, .sentinel, .sentinel, .pinned], laidTests := true, laidLooks := .later }
def TreeAddsUptoCardSaid : Prop := Claim7.holds Tryd.pinned (.plain (OpenSpec.upto treeAddsSpec)) treeAddsUptoCard

/-- THE SECOND FORM's CARD OF 'pidginlaw17.KernAdds'. -/
def kernAddsUptoCard : Claim7 := { stood := { row := kernAddsUptoRow, standIns := [], harness := (true, "ccdfda7828d79549d07bb842a427d288a12508b889e8eeb2772509fecfc09500"), looks := true }, kinds := [], alts := [], laidByText := true, laidKinds := [.data, .handle, .sentinel, .sentinel, .sentinel, .sentinel, .sentinel, .sentinel, .sentinel, .sentinel, .sentinel, .sentinel, .sentinel, .sentinel, .sentinel, .sentinel, .sentinel, .sentinel, .sentinel, .sentinel, .sentinel, .sentinel, .sentinel, .pinned], laidTests := true, laidLooks := .later }
def KernAddsUptoCardSaid : Prop := Claim7.holds Tryd.pinned (.plain (OpenSpec.upto kernAddsSpec)) kernAddsUptoCard

/-- THE SECOND FORM's CARD OF 'pidginlaw17.KernConsole'. -/
def kernConsoleUptoCard : Claim7 := { stood := { row := kernConsoleUptoRow, standIns := [], harness := (true, "ccdfda7828d79549d07bb842a427d288a12508b889e8eeb2772509fecfc09500"), looks := true }, kinds := [], alts := [], laidByText := true, laidKinds := [.data, .handle, .sentinel, .sentinel, .sentinel, .sentinel, .sentinel, .sentinel, .sentinel, .sentinel, .sentinel, .sentinel, .sentinel, .sentinel, .sentinel, .sentinel, .sentinel, .sentinel, .sentinel, .sentinel, .sentinel, .sentinel, .sentinel, .pinned], laidTests := true, laidLooks := .later }
def KernConsoleUptoCardSaid : Prop := Claim7.holds Tryd.pinned (.plain (OpenSpec.upto kernConsoleSpec)) kernConsoleUptoCard

/-- THE SECOND FORM's CARD OF 'pidginlaw17.KernPipes'. -/
def kernPipesUptoCard : Claim7 := { stood := { row := kernPipesUptoRow, standIns := [], harness := (true, "ccdfda7828d79549d07bb842a427d288a12508b889e8eeb2772509fecfc09500"), looks := true }, kinds := [], alts := [], laidByText := true, laidKinds := [.data, .handle, .sentinel, .sentinel, .sentinel, .sentinel, .sentinel, .sentinel, .sentinel, .sentinel, .sentinel, .sentinel, .sentinel, .sentinel, .sentinel, .sentinel, .sentinel, .sentinel, .sentinel, .sentinel, .sentinel, .sentinel, .sentinel, .pinned], laidTests := true, laidLooks := .later }
def KernPipesUptoCardSaid : Prop := Claim7.holds Tryd.pinned (.plain (OpenSpec.upto kernPipesSpec)) kernPipesUptoCard

/-- THE SECOND FORM's CARD OF 'pidginlaw17.KernNil'. -/
def kernNilUptoCard : Claim7 := { stood := { row := kernNilUptoRow, standIns := [], harness := (true, "ccdfda7828d79549d07bb842a427d288a12508b889e8eeb2772509fecfc09500"), looks := true }, kinds := [], alts := [], laidByText := true, laidKinds := [.data, .handle, .sentinel, .sentinel, .sentinel, .sentinel, .sentinel, .sentinel, .sentinel, .sentinel, .sentinel, .sentinel, .sentinel, .sentinel, .sentinel, .sentinel, .sentinel, .sentinel, .sentinel, .sentinel, .sentinel, .sentinel, .sentinel, .pinned], laidTests := true, laidLooks := .later }
def KernNilUptoCardSaid : Prop := Claim7.holds Tryd.pinned (.plain (OpenSpec.upto kernNilSpec)) kernNilUptoCard
end Rows
end Go.Proofs.YtiejfbkbjahcgaaDoor
