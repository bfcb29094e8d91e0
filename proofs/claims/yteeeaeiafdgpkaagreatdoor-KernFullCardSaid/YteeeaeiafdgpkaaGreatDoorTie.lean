/-
  DERIVED. GIVEN WITH THE SEED: THE PROGRAM's TIES (one call each: nine closed facts by the kernel) AND EACH ROW's TIE, after the 31st guide's Derived/Test/Toyas{Tie, Card}.lean. No idea stands in it: it is a product of the set-up. Laid BY PROGRAM, IN A SANDBOX (cutbox-door.mjs). By AI agents, Wed Nov 11 2026. No macro, syntax, notation, axiom, sorry.
-/
import Derived.Test.YteeeaeiafdgpkaaGreatDoorRows
import Derived.LaidByTextLater
import Derived.SevenTiedAt
import Derived.LaidSub
import Derived.LaidOnce
namespace Go.Proofs.YteeeaeiafdgpkaaGreatDoor
open Go
set_option maxRecDepth 100000
theorem seatTie1 : Tryz.prog.laidByTextLater [("math/bits.deBruijn32tab", Rows.laid_math_bits_deBruijn32tab), ("math/bits.deBruijn64tab", Rows.laid_math_bits_deBruijn64tab), ("internal/strconv.uint64pow10", Rows.laid_internal_strconv_uint64pow10), ("unicode/utf8.acceptRanges", Rows.laid_unicode_utf8_acceptRanges), ("errors.errorType", Rows.laid_errors_errorType), ("pidgin/fault.errArg", Rows.laid_pidgin_fault_errArg), ("pidgin/fault.errLong", Rows.laid_pidgin_fault_errLong), ("pidgin/fault.errSyntax", Rows.laid_pidgin_fault_errSyntax), ("pidgin/fault.errDeep", Rows.laid_pidgin_fault_errDeep), ("pidgin/fault.errMany", Rows.laid_pidgin_fault_errMany), ("pidgin/fault.errNumber", Rows.laid_pidgin_fault_errNumber), ("pidgin/fault.errRange", Rows.laid_pidgin_fault_errRange), ("pidgin/fault.errBracket", Rows.laid_pidgin_fault_errBracket), ("pidgin/fault.errGroup", Rows.laid_pidgin_fault_errGroup), ("pidgin/fault.errEscape", Rows.laid_pidgin_fault_errEscape), ("pidgin/fault.errStates", Rows.laid_pidgin_fault_errStates), ("pidgin/fault.errDivide", Rows.laid_pidgin_fault_errDivide), ("pidgin/fault.errValue", Rows.laid_pidgin_fault_errValue), ("pidgin/fault.errOperand", Rows.laid_pidgin_fault_errOperand), ("pidgin/fault.errName", Rows.laid_pidgin_fault_errName), ("pidgin/fault.errFile", Rows.laid_pidgin_fault_errFile), ("pidgin/fault.errDir", Rows.laid_pidgin_fault_errDir), ("pidgin/fault.errExists", Rows.laid_pidgin_fault_errExists), ("pidgin/fault.errFull", Rows.laid_pidgin_fault_errFull), ("pidgin/fault.errLabel", Rows.laid_pidgin_fault_errLabel), ("pidgin/fault.errFuel", Rows.laid_pidgin_fault_errFuel)] [.data, .data, .data, .data, .handle, .sentinel, .sentinel, .sentinel, .sentinel, .sentinel, .sentinel, .sentinel, .sentinel, .sentinel, .sentinel, .sentinel, .sentinel, .sentinel, .sentinel, .sentinel, .sentinel, .sentinel, .sentinel, .sentinel, .sentinel, .sentinel] true :=
  Program.laidByTextLater_by_one 440 8 65 (by kernel_rfl) (by kernel_rfl) (by kernel_rfl) (by kernel_rfl) (by kernel_rfl) (by kernel_rfl) (fun _ _ => by kernel_rfl)
theorem pin_laid_unicode_utf8_first : Tryz.pinned.checked.prog.pinnedFits "unicode/utf8.first" = true := by kernel_rfl
theorem noOwnUnsafe : Tryz.pinned.checked.prog.headLifts.contains "ownunsafe" = false := by kernel_rfl
theorem fits1 : Tryz.pinned.checked.prog.listedFits [("math/bits.deBruijn32tab", Rows.laid_math_bits_deBruijn32tab), ("math/bits.deBruijn64tab", Rows.laid_math_bits_deBruijn64tab), ("internal/strconv.uint64pow10", Rows.laid_internal_strconv_uint64pow10), ("unicode/utf8.acceptRanges", Rows.laid_unicode_utf8_acceptRanges), ("errors.errorType", Rows.laid_errors_errorType), ("pidgin/fault.errArg", Rows.laid_pidgin_fault_errArg), ("pidgin/fault.errLong", Rows.laid_pidgin_fault_errLong), ("pidgin/fault.errSyntax", Rows.laid_pidgin_fault_errSyntax), ("pidgin/fault.errDeep", Rows.laid_pidgin_fault_errDeep), ("pidgin/fault.errMany", Rows.laid_pidgin_fault_errMany), ("pidgin/fault.errNumber", Rows.laid_pidgin_fault_errNumber), ("pidgin/fault.errRange", Rows.laid_pidgin_fault_errRange), ("pidgin/fault.errBracket", Rows.laid_pidgin_fault_errBracket), ("pidgin/fault.errGroup", Rows.laid_pidgin_fault_errGroup), ("pidgin/fault.errEscape", Rows.laid_pidgin_fault_errEscape), ("pidgin/fault.errStates", Rows.laid_pidgin_fault_errStates), ("pidgin/fault.errDivide", Rows.laid_pidgin_fault_errDivide), ("pidgin/fault.errValue", Rows.laid_pidgin_fault_errValue), ("pidgin/fault.errOperand", Rows.laid_pidgin_fault_errOperand), ("pidgin/fault.errName", Rows.laid_pidgin_fault_errName), ("pidgin/fault.errFile", Rows.laid_pidgin_fault_errFile), ("pidgin/fault.errDir", Rows.laid_pidgin_fault_errDir), ("pidgin/fault.errExists", Rows.laid_pidgin_fault_errExists), ("pidgin/fault.errFull", Rows.laid_pidgin_fault_errFull), ("pidgin/fault.errLabel", Rows.laid_pidgin_fault_errLabel), ("pidgin/fault.errFuel", Rows.laid_pidgin_fault_errFuel), ("unicode/utf8.first", Rows.laid_unicode_utf8_first)] = true := by
  unfold Program.listedFits
  rw [noOwnUnsafe]
  kernel_rfl
theorem tie : Tryz.prog.laidByTextLater [("math/bits.deBruijn32tab", Rows.laid_math_bits_deBruijn32tab), ("math/bits.deBruijn64tab", Rows.laid_math_bits_deBruijn64tab), ("internal/strconv.uint64pow10", Rows.laid_internal_strconv_uint64pow10), ("unicode/utf8.acceptRanges", Rows.laid_unicode_utf8_acceptRanges), ("errors.errorType", Rows.laid_errors_errorType), ("pidgin/fault.errArg", Rows.laid_pidgin_fault_errArg), ("pidgin/fault.errLong", Rows.laid_pidgin_fault_errLong), ("pidgin/fault.errSyntax", Rows.laid_pidgin_fault_errSyntax), ("pidgin/fault.errDeep", Rows.laid_pidgin_fault_errDeep), ("pidgin/fault.errMany", Rows.laid_pidgin_fault_errMany), ("pidgin/fault.errNumber", Rows.laid_pidgin_fault_errNumber), ("pidgin/fault.errRange", Rows.laid_pidgin_fault_errRange), ("pidgin/fault.errBracket", Rows.laid_pidgin_fault_errBracket), ("pidgin/fault.errGroup", Rows.laid_pidgin_fault_errGroup), ("pidgin/fault.errEscape", Rows.laid_pidgin_fault_errEscape), ("pidgin/fault.errStates", Rows.laid_pidgin_fault_errStates), ("pidgin/fault.errDivide", Rows.laid_pidgin_fault_errDivide), ("pidgin/fault.errValue", Rows.laid_pidgin_fault_errValue), ("pidgin/fault.errOperand", Rows.laid_pidgin_fault_errOperand), ("pidgin/fault.errName", Rows.laid_pidgin_fault_errName), ("pidgin/fault.errFile", Rows.laid_pidgin_fault_errFile), ("pidgin/fault.errDir", Rows.laid_pidgin_fault_errDir), ("pidgin/fault.errExists", Rows.laid_pidgin_fault_errExists), ("pidgin/fault.errFull", Rows.laid_pidgin_fault_errFull), ("pidgin/fault.errLabel", Rows.laid_pidgin_fault_errLabel), ("pidgin/fault.errFuel", Rows.laid_pidgin_fault_errFuel)] [.data, .data, .data, .data, .handle, .sentinel, .sentinel, .sentinel, .sentinel, .sentinel, .sentinel, .sentinel, .sentinel, .sentinel, .sentinel, .sentinel, .sentinel, .sentinel, .sentinel, .sentinel, .sentinel, .sentinel, .sentinel, .sentinel, .sentinel, .sentinel] true :=
  Program.laidByTextLater.sub seatTie1 ["math/bits.deBruijn32tab", "math/bits.deBruijn64tab", "internal/strconv.uint64pow10", "unicode/utf8.acceptRanges", "errors.errorType", "pidgin/fault.errArg", "pidgin/fault.errLong", "pidgin/fault.errSyntax", "pidgin/fault.errDeep", "pidgin/fault.errMany", "pidgin/fault.errNumber", "pidgin/fault.errRange", "pidgin/fault.errBracket", "pidgin/fault.errGroup", "pidgin/fault.errEscape", "pidgin/fault.errStates", "pidgin/fault.errDivide", "pidgin/fault.errValue", "pidgin/fault.errOperand", "pidgin/fault.errName", "pidgin/fault.errFile", "pidgin/fault.errDir", "pidgin/fault.errExists", "pidgin/fault.errFull", "pidgin/fault.errLabel", "pidgin/fault.errFuel"] (by kernel_rfl) (by kernel_rfl)
theorem kernFull_row_tie : Rows.kernFullRow.laidByTextAt .later Tryz.pinned [.data, .data, .data, .data, .handle, .sentinel, .sentinel, .sentinel, .sentinel, .sentinel, .sentinel, .sentinel, .sentinel, .sentinel, .sentinel, .sentinel, .sentinel, .sentinel, .sentinel, .sentinel, .sentinel, .sentinel, .sentinel, .sentinel, .sentinel, .sentinel, .pinned] true :=
  OpenClaim.laidByTextAt_pinned rfl rfl tie rfl rfl rfl rfl (fun y hy _e => by
    simp only [Rows.kernFullRow, List.zip_cons_cons, List.zip_nil_right, List.mem_cons, List.mem_nil_iff, or_false] at hy
    rcases hy with rfl | rfl | rfl | rfl | rfl | rfl | rfl | rfl | rfl | rfl | rfl | rfl | rfl | rfl | rfl | rfl | rfl | rfl | rfl | rfl | rfl | rfl | rfl | rfl | rfl | rfl | rfl
    · cases _e
    · cases _e
    · cases _e
    · cases _e
    · cases _e
    · cases _e
    · cases _e
    · cases _e
    · cases _e
    · cases _e
    · cases _e
    · cases _e
    · cases _e
    · cases _e
    · cases _e
    · cases _e
    · cases _e
    · cases _e
    · cases _e
    · cases _e
    · cases _e
    · cases _e
    · cases _e
    · cases _e
    · cases _e
    · cases _e
    · exact ⟨pin_laid_unicode_utf8_first, by kernel_rfl⟩) fits1
theorem kernPlays_row_tie : Rows.kernPlaysRow.laidByTextAt .later Tryz.pinned [.data, .data, .data, .data, .handle, .sentinel, .sentinel, .sentinel, .sentinel, .sentinel, .sentinel, .sentinel, .sentinel, .sentinel, .sentinel, .sentinel, .sentinel, .sentinel, .sentinel, .sentinel, .sentinel, .sentinel, .sentinel, .sentinel, .sentinel, .sentinel, .pinned] true :=
  OpenClaim.laidByTextAt_pinned rfl rfl tie rfl rfl rfl rfl (fun y hy _e => by
    simp only [Rows.kernPlaysRow, List.zip_cons_cons, List.zip_nil_right, List.mem_cons, List.mem_nil_iff, or_false] at hy
    rcases hy with rfl | rfl | rfl | rfl | rfl | rfl | rfl | rfl | rfl | rfl | rfl | rfl | rfl | rfl | rfl | rfl | rfl | rfl | rfl | rfl | rfl | rfl | rfl | rfl | rfl | rfl | rfl
    · cases _e
    · cases _e
    · cases _e
    · cases _e
    · cases _e
    · cases _e
    · cases _e
    · cases _e
    · cases _e
    · cases _e
    · cases _e
    · cases _e
    · cases _e
    · cases _e
    · cases _e
    · cases _e
    · cases _e
    · cases _e
    · cases _e
    · cases _e
    · cases _e
    · cases _e
    · cases _e
    · cases _e
    · cases _e
    · cases _e
    · exact ⟨pin_laid_unicode_utf8_first, by kernel_rfl⟩) fits1
theorem kernFullUpto_row_tie : Rows.kernFullUptoRow.laidByTextAt .later Tryz.pinned [.data, .data, .data, .data, .handle, .sentinel, .sentinel, .sentinel, .sentinel, .sentinel, .sentinel, .sentinel, .sentinel, .sentinel, .sentinel, .sentinel, .sentinel, .sentinel, .sentinel, .sentinel, .sentinel, .sentinel, .sentinel, .sentinel, .sentinel, .sentinel, .pinned] true :=
  OpenClaim.laidByTextAt_pinned rfl rfl tie rfl rfl rfl rfl (fun y hy _e => by
    simp only [Rows.kernFullUptoRow, List.zip_cons_cons, List.zip_nil_right, List.mem_cons, List.mem_nil_iff, or_false] at hy
    rcases hy with rfl | rfl | rfl | rfl | rfl | rfl | rfl | rfl | rfl | rfl | rfl | rfl | rfl | rfl | rfl | rfl | rfl | rfl | rfl | rfl | rfl | rfl | rfl | rfl | rfl | rfl | rfl
    · cases _e
    · cases _e
    · cases _e
    · cases _e
    · cases _e
    · cases _e
    · cases _e
    · cases _e
    · cases _e
    · cases _e
    · cases _e
    · cases _e
    · cases _e
    · cases _e
    · cases _e
    · cases _e
    · cases _e
    · cases _e
    · cases _e
    · cases _e
    · cases _e
    · cases _e
    · cases _e
    · cases _e
    · cases _e
    · cases _e
    · exact ⟨pin_laid_unicode_utf8_first, by kernel_rfl⟩) fits1
theorem kernPlaysUpto_row_tie : Rows.kernPlaysUptoRow.laidByTextAt .later Tryz.pinned [.data, .data, .data, .data, .handle, .sentinel, .sentinel, .sentinel, .sentinel, .sentinel, .sentinel, .sentinel, .sentinel, .sentinel, .sentinel, .sentinel, .sentinel, .sentinel, .sentinel, .sentinel, .sentinel, .sentinel, .sentinel, .sentinel, .sentinel, .sentinel, .pinned] true :=
  OpenClaim.laidByTextAt_pinned rfl rfl tie rfl rfl rfl rfl (fun y hy _e => by
    simp only [Rows.kernPlaysUptoRow, List.zip_cons_cons, List.zip_nil_right, List.mem_cons, List.mem_nil_iff, or_false] at hy
    rcases hy with rfl | rfl | rfl | rfl | rfl | rfl | rfl | rfl | rfl | rfl | rfl | rfl | rfl | rfl | rfl | rfl | rfl | rfl | rfl | rfl | rfl | rfl | rfl | rfl | rfl | rfl | rfl
    · cases _e
    · cases _e
    · cases _e
    · cases _e
    · cases _e
    · cases _e
    · cases _e
    · cases _e
    · cases _e
    · cases _e
    · cases _e
    · cases _e
    · cases _e
    · cases _e
    · cases _e
    · cases _e
    · cases _e
    · cases _e
    · cases _e
    · cases _e
    · cases _e
    · cases _e
    · cases _e
    · cases _e
    · cases _e
    · cases _e
    · exact ⟨pin_laid_unicode_utf8_first, by kernel_rfl⟩) fits1
end Go.Proofs.YteeeaeiafdgpkaaGreatDoor
