/-
  DERIVED. GIVEN WITH THE SEED: THE PROGRAM's TIES (one call each: nine closed facts by the kernel) AND EACH ROW's TIE, after the 31st guide's Derived/Test/Toyas{Tie, Card}.lean. No idea stands in it: it is a product of the set-up. Laid BY PROGRAM, IN A SANDBOX (cutbox-door.mjs). By AI agents, Wed Nov 11 2026. No macro, syntax, notation, axiom, sorry.
-/
import Derived.Test.YtjhmehmmpfnnkaaDoorRows
import Derived.LaidByTextLater
import Derived.SevenTiedAt
import Derived.LaidSub
import Derived.LaidOnce
namespace Go.Proofs.YtjhmehmmpfnnkaaDoor
open Go
set_option maxRecDepth 100000
theorem seatTie1 : Tryd.prog.laidByTextLater [("unicode/utf8.acceptRanges", Rows.laid_unicode_utf8_acceptRanges), ("tidewater/api.ErrRange", Rows.laid_tidewater_api_ErrRange), ("tidewater/api.ErrShort", Rows.laid_tidewater_api_ErrShort), ("tidewater/api.ErrLong", Rows.laid_tidewater_api_ErrLong), ("tidewater/api.ErrForm", Rows.laid_tidewater_api_ErrForm), ("tidewater/api.ErrSum", Rows.laid_tidewater_api_ErrSum), ("tidewater/api.ErrRune", Rows.laid_tidewater_api_ErrRune), ("tidewater/api.ErrName", Rows.laid_tidewater_api_ErrName), ("tidewater/api.ErrSealed", Rows.laid_tidewater_api_ErrSealed), ("tidewater/api.ErrWritten", Rows.laid_tidewater_api_ErrWritten), ("tidewater/api.ErrUnwritten", Rows.laid_tidewater_api_ErrUnwritten), ("tidewater/api.ErrTrimmed", Rows.laid_tidewater_api_ErrTrimmed), ("tidewater/api.ErrDown", Rows.laid_tidewater_api_ErrDown), ("tidewater/api.ErrFull", Rows.laid_tidewater_api_ErrFull), ("tidewater/api.ErrEpoch", Rows.laid_tidewater_api_ErrEpoch), ("tidewater/api.ErrMoved", Rows.laid_tidewater_api_ErrMoved), ("tidewater/api.ErrNone", Rows.laid_tidewater_api_ErrNone), ("tidewater/api.ErrState", Rows.laid_tidewater_api_ErrState), ("tidewater/api.ErrClash", Rows.laid_tidewater_api_ErrClash), ("tidewater/api.ErrStale", Rows.laid_tidewater_api_ErrStale)] [.data, .sentinel, .sentinel, .sentinel, .sentinel, .sentinel, .sentinel, .sentinel, .sentinel, .sentinel, .sentinel, .sentinel, .sentinel, .sentinel, .sentinel, .sentinel, .sentinel, .sentinel, .sentinel, .sentinel] true :=
  Program.laidByTextLater_by_one 380 8 33 (by kernel_rfl) (by kernel_rfl) (by kernel_rfl) (by kernel_rfl) (by kernel_rfl) (by kernel_rfl) (fun _ _ => by kernel_rfl)
theorem pin_laid_unicode_utf8_first : Tryd.pinned.checked.prog.pinnedFits "unicode/utf8.first" = true := by kernel_rfl
theorem noOwnUnsafe : Tryd.pinned.checked.prog.headLifts.contains "ownunsafe" = false := by kernel_rfl
theorem tie : Tryd.prog.laidByTextLater [("tidewater/api.ErrShort", Rows.laid_tidewater_api_ErrShort), ("tidewater/api.ErrForm", Rows.laid_tidewater_api_ErrForm), ("tidewater/api.ErrRune", Rows.laid_tidewater_api_ErrRune), ("tidewater/api.ErrName", Rows.laid_tidewater_api_ErrName), ("tidewater/api.ErrNone", Rows.laid_tidewater_api_ErrNone)] [.sentinel, .sentinel, .sentinel, .sentinel, .sentinel] true :=
  Program.laidByTextLater.sub seatTie1 ["tidewater/api.ErrShort", "tidewater/api.ErrForm", "tidewater/api.ErrRune", "tidewater/api.ErrName", "tidewater/api.ErrNone"] (by kernel_rfl) (by kernel_rfl)
theorem linesSplit_row_tie : Rows.linesSplitRow.laidByTextAt .later Tryd.pinned [.sentinel, .sentinel, .sentinel, .sentinel, .sentinel] true :=
  OpenClaim.laidByTextAt_later rfl rfl tie noOwnUnsafe
theorem tie2 : Tryd.prog.laidByTextLater [("tidewater/api.ErrRange", Rows.laid_tidewater_api_ErrRange), ("tidewater/api.ErrShort", Rows.laid_tidewater_api_ErrShort), ("tidewater/api.ErrLong", Rows.laid_tidewater_api_ErrLong), ("tidewater/api.ErrForm", Rows.laid_tidewater_api_ErrForm), ("tidewater/api.ErrSum", Rows.laid_tidewater_api_ErrSum), ("tidewater/api.ErrRune", Rows.laid_tidewater_api_ErrRune), ("tidewater/api.ErrName", Rows.laid_tidewater_api_ErrName), ("tidewater/api.ErrSealed", Rows.laid_tidewater_api_ErrSealed), ("tidewater/api.ErrWritten", Rows.laid_tidewater_api_ErrWritten), ("tidewater/api.ErrUnwritten", Rows.laid_tidewater_api_ErrUnwritten), ("tidewater/api.ErrTrimmed", Rows.laid_tidewater_api_ErrTrimmed), ("tidewater/api.ErrDown", Rows.laid_tidewater_api_ErrDown), ("tidewater/api.ErrFull", Rows.laid_tidewater_api_ErrFull), ("tidewater/api.ErrEpoch", Rows.laid_tidewater_api_ErrEpoch), ("tidewater/api.ErrMoved", Rows.laid_tidewater_api_ErrMoved), ("tidewater/api.ErrNone", Rows.laid_tidewater_api_ErrNone), ("tidewater/api.ErrState", Rows.laid_tidewater_api_ErrState), ("tidewater/api.ErrClash", Rows.laid_tidewater_api_ErrClash), ("tidewater/api.ErrStale", Rows.laid_tidewater_api_ErrStale)] [.sentinel, .sentinel, .sentinel, .sentinel, .sentinel, .sentinel, .sentinel, .sentinel, .sentinel, .sentinel, .sentinel, .sentinel, .sentinel, .sentinel, .sentinel, .sentinel, .sentinel, .sentinel, .sentinel] true :=
  Program.laidByTextLater.sub seatTie1 ["tidewater/api.ErrRange", "tidewater/api.ErrShort", "tidewater/api.ErrLong", "tidewater/api.ErrForm", "tidewater/api.ErrSum", "tidewater/api.ErrRune", "tidewater/api.ErrName", "tidewater/api.ErrSealed", "tidewater/api.ErrWritten", "tidewater/api.ErrUnwritten", "tidewater/api.ErrTrimmed", "tidewater/api.ErrDown", "tidewater/api.ErrFull", "tidewater/api.ErrEpoch", "tidewater/api.ErrMoved", "tidewater/api.ErrNone", "tidewater/api.ErrState", "tidewater/api.ErrClash", "tidewater/api.ErrStale"] (by kernel_rfl) (by kernel_rfl)
theorem linesWords_row_tie : Rows.linesWordsRow.laidByTextAt .later Tryd.pinned [.sentinel, .sentinel, .sentinel, .sentinel, .sentinel, .sentinel, .sentinel, .sentinel, .sentinel, .sentinel, .sentinel, .sentinel, .sentinel, .sentinel, .sentinel, .sentinel, .sentinel, .sentinel, .sentinel] true :=
  OpenClaim.laidByTextAt_later rfl rfl tie2 noOwnUnsafe
theorem linesParse_row_tie : Rows.linesParseRow.laidByTextAt .later Tryd.pinned [.sentinel, .sentinel, .sentinel, .sentinel, .sentinel, .sentinel, .sentinel, .sentinel, .sentinel, .sentinel, .sentinel, .sentinel, .sentinel, .sentinel, .sentinel, .sentinel, .sentinel, .sentinel, .sentinel] true :=
  OpenClaim.laidByTextAt_later rfl rfl tie2 noOwnUnsafe
theorem linesText_row_tie : Rows.linesTextRow.laidByTextAt .later Tryd.pinned [.sentinel, .sentinel, .sentinel, .sentinel, .sentinel, .sentinel, .sentinel, .sentinel, .sentinel, .sentinel, .sentinel, .sentinel, .sentinel, .sentinel, .sentinel, .sentinel, .sentinel, .sentinel, .sentinel] true :=
  OpenClaim.laidByTextAt_later rfl rfl tie2 noOwnUnsafe
theorem fits3 : Tryd.pinned.checked.prog.listedFits [("unicode/utf8.acceptRanges", Rows.laid_unicode_utf8_acceptRanges), ("tidewater/api.ErrRange", Rows.laid_tidewater_api_ErrRange), ("tidewater/api.ErrShort", Rows.laid_tidewater_api_ErrShort), ("tidewater/api.ErrLong", Rows.laid_tidewater_api_ErrLong), ("tidewater/api.ErrForm", Rows.laid_tidewater_api_ErrForm), ("tidewater/api.ErrSum", Rows.laid_tidewater_api_ErrSum), ("tidewater/api.ErrRune", Rows.laid_tidewater_api_ErrRune), ("tidewater/api.ErrName", Rows.laid_tidewater_api_ErrName), ("tidewater/api.ErrSealed", Rows.laid_tidewater_api_ErrSealed), ("tidewater/api.ErrWritten", Rows.laid_tidewater_api_ErrWritten), ("tidewater/api.ErrUnwritten", Rows.laid_tidewater_api_ErrUnwritten), ("tidewater/api.ErrTrimmed", Rows.laid_tidewater_api_ErrTrimmed), ("tidewater/api.ErrDown", Rows.laid_tidewater_api_ErrDown), ("tidewater/api.ErrFull", Rows.laid_tidewater_api_ErrFull), ("tidewater/api.ErrEpoch", Rows.laid_tidewater_api_ErrEpoch), ("tidewater/api.ErrMoved", Rows.laid_tidewater_api_ErrMoved), ("tidewater/api.ErrNone", Rows.laid_tidewater_api_ErrNone), ("tidewater/api.ErrState", Rows.laid_tidewater_api_ErrState), ("tidewater/api.ErrClash", Rows.laid_tidewater_api_ErrClash), ("tidewater/api.ErrStale", Rows.laid_tidewater_api_ErrStale), ("unicode/utf8.first", Rows.laid_unicode_utf8_first)] = true := by
  unfold Program.listedFits
  rw [noOwnUnsafe]
  kernel_rfl
theorem tie3 : Tryd.prog.laidByTextLater [("unicode/utf8.acceptRanges", Rows.laid_unicode_utf8_acceptRanges), ("tidewater/api.ErrRange", Rows.laid_tidewater_api_ErrRange), ("tidewater/api.ErrShort", Rows.laid_tidewater_api_ErrShort), ("tidewater/api.ErrLong", Rows.laid_tidewater_api_ErrLong), ("tidewater/api.ErrForm", Rows.laid_tidewater_api_ErrForm), ("tidewater/api.ErrSum", Rows.laid_tidewater_api_ErrSum), ("tidewater/api.ErrRune", Rows.laid_tidewater_api_ErrRune), ("tidewater/api.ErrName", Rows.laid_tidewater_api_ErrName), ("tidewater/api.ErrSealed", Rows.laid_tidewater_api_ErrSealed), ("tidewater/api.ErrWritten", Rows.laid_tidewater_api_ErrWritten), ("tidewater/api.ErrUnwritten", Rows.laid_tidewater_api_ErrUnwritten), ("tidewater/api.ErrTrimmed", Rows.laid_tidewater_api_ErrTrimmed), ("tidewater/api.ErrDown", Rows.laid_tidewater_api_ErrDown), ("tidewater/api.ErrFull", Rows.laid_tidewater_api_ErrFull), ("tidewater/api.ErrEpoch", Rows.laid_tidewater_api_ErrEpoch), ("tidewater/api.ErrMoved", Rows.laid_tidewater_api_ErrMoved), ("tidewater/api.ErrNone", Rows.laid_tidewater_api_ErrNone), ("tidewater/api.ErrState", Rows.laid_tidewater_api_ErrState), ("tidewater/api.ErrClash", Rows.laid_tidewater_api_ErrClash), ("tidewater/api.ErrStale", Rows.laid_tidewater_api_ErrStale)] [.data, .sentinel, .sentinel, .sentinel, .sentinel, .sentinel, .sentinel, .sentinel, .sentinel, .sentinel, .sentinel, .sentinel, .sentinel, .sentinel, .sentinel, .sentinel, .sentinel, .sentinel, .sentinel, .sentinel] true :=
  Program.laidByTextLater.sub seatTie1 ["unicode/utf8.acceptRanges", "tidewater/api.ErrRange", "tidewater/api.ErrShort", "tidewater/api.ErrLong", "tidewater/api.ErrForm", "tidewater/api.ErrSum", "tidewater/api.ErrRune", "tidewater/api.ErrName", "tidewater/api.ErrSealed", "tidewater/api.ErrWritten", "tidewater/api.ErrUnwritten", "tidewater/api.ErrTrimmed", "tidewater/api.ErrDown", "tidewater/api.ErrFull", "tidewater/api.ErrEpoch", "tidewater/api.ErrMoved", "tidewater/api.ErrNone", "tidewater/api.ErrState", "tidewater/api.ErrClash", "tidewater/api.ErrStale"] (by kernel_rfl) (by kernel_rfl)
theorem linesScript_row_tie : Rows.linesScriptRow.laidByTextAt .later Tryd.pinned [.data, .sentinel, .sentinel, .sentinel, .sentinel, .sentinel, .sentinel, .sentinel, .sentinel, .sentinel, .sentinel, .sentinel, .sentinel, .sentinel, .sentinel, .sentinel, .sentinel, .sentinel, .sentinel, .sentinel, .pinned] true :=
  OpenClaim.laidByTextAt_pinned rfl rfl tie3 rfl rfl rfl rfl (fun y hy _e => by
    simp only [Rows.linesScriptRow, List.zip_cons_cons, List.zip_nil_right, List.mem_cons, List.mem_nil_iff, or_false] at hy
    rcases hy with rfl | rfl | rfl | rfl | rfl | rfl | rfl | rfl | rfl | rfl | rfl | rfl | rfl | rfl | rfl | rfl | rfl | rfl | rfl | rfl | rfl
    · cases _e
    · cases _e
    · cases _e
    · cases _e
    · cases _e
    · cases _e
    · cases _e
    · cases _e
    · cases _e
    · cases _e
    · cases _e
    · cases _e
    · cases _e
    · cases _e
    · cases _e
    · cases _e
    · cases _e
    · cases _e
    · cases _e
    · cases _e
    · exact ⟨pin_laid_unicode_utf8_first, by kernel_rfl⟩) fits3
theorem linesSplitUpto_row_tie : Rows.linesSplitUptoRow.laidByTextAt .later Tryd.pinned [.sentinel, .sentinel, .sentinel, .sentinel, .sentinel] true :=
  OpenClaim.laidByTextAt_later rfl rfl tie noOwnUnsafe
theorem linesWordsUpto_row_tie : Rows.linesWordsUptoRow.laidByTextAt .later Tryd.pinned [.sentinel, .sentinel, .sentinel, .sentinel, .sentinel, .sentinel, .sentinel, .sentinel, .sentinel, .sentinel, .sentinel, .sentinel, .sentinel, .sentinel, .sentinel, .sentinel, .sentinel, .sentinel, .sentinel] true :=
  OpenClaim.laidByTextAt_later rfl rfl tie2 noOwnUnsafe
theorem linesParseUpto_row_tie : Rows.linesParseUptoRow.laidByTextAt .later Tryd.pinned [.sentinel, .sentinel, .sentinel, .sentinel, .sentinel, .sentinel, .sentinel, .sentinel, .sentinel, .sentinel, .sentinel, .sentinel, .sentinel, .sentinel, .sentinel, .sentinel, .sentinel, .sentinel, .sentinel] true :=
  OpenClaim.laidByTextAt_later rfl rfl tie2 noOwnUnsafe
theorem linesTextUpto_row_tie : Rows.linesTextUptoRow.laidByTextAt .later Tryd.pinned [.sentinel, .sentinel, .sentinel, .sentinel, .sentinel, .sentinel, .sentinel, .sentinel, .sentinel, .sentinel, .sentinel, .sentinel, .sentinel, .sentinel, .sentinel, .sentinel, .sentinel, .sentinel, .sentinel] true :=
  OpenClaim.laidByTextAt_later rfl rfl tie2 noOwnUnsafe
theorem linesScriptUpto_row_tie : Rows.linesScriptUptoRow.laidByTextAt .later Tryd.pinned [.data, .sentinel, .sentinel, .sentinel, .sentinel, .sentinel, .sentinel, .sentinel, .sentinel, .sentinel, .sentinel, .sentinel, .sentinel, .sentinel, .sentinel, .sentinel, .sentinel, .sentinel, .sentinel, .sentinel, .pinned] true :=
  OpenClaim.laidByTextAt_pinned rfl rfl tie3 rfl rfl rfl rfl (fun y hy _e => by
    simp only [Rows.linesScriptUptoRow, List.zip_cons_cons, List.zip_nil_right, List.mem_cons, List.mem_nil_iff, or_false] at hy
    rcases hy with rfl | rfl | rfl | rfl | rfl | rfl | rfl | rfl | rfl | rfl | rfl | rfl | rfl | rfl | rfl | rfl | rfl | rfl | rfl | rfl | rfl
    · cases _e
    · cases _e
    · cases _e
    · cases _e
    · cases _e
    · cases _e
    · cases _e
    · cases _e
    · cases _e
    · cases _e
    · cases _e
    · cases _e
    · cases _e
    · cases _e
    · cases _e
    · cases _e
    · cases _e
    · cases _e
    · cases _e
    · cases _e
    · exact ⟨pin_laid_unicode_utf8_first, by kernel_rfl⟩) fits3
end Go.Proofs.YtjhmehmmpfnnkaaDoor
