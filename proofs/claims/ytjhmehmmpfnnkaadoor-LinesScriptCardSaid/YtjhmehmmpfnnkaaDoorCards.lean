/-
  DERIVED. GIVEN WITH THE SEED: THE CARDS: each row of YtjhmehmmpfnnkaaDoorRows.lean that lists a variable, with what it lists TIED to the program's text (the seventh form; the later family's looks); each row that meets fmt, with fmt's text TOLD by the authors' own Lean function (tested against real Go, not proved from fmt's source: count such statements apart). THE CARD IS WHAT COUNTS. Prove the row's statement (the work); the ties are given (YtjhmehmmpfnnkaaDoorTie.lean); close each card by the builder's one call (the guide's Derived/Test/ToyasCard.lean, 'card_holds'). Laid BY PROGRAM, IN A SANDBOX (cutbox-door.mjs). By AI agents, Wed Nov 11 2026. No macro, syntax, notation, axiom, sorry.
-/
import Derived.Test.YtjhmehmmpfnnkaaDoorRows
import GoSem.ClaimSeven
namespace Go.Proofs.YtjhmehmmpfnnkaaDoor
namespace Rows

/-- THE TIED CARD OF 'tidewaterlaw31.LinesSplit'. -/
def linesSplitCard : Claim7 := { stood := { row := linesSplitRow, standIns := [], harness := (true, "46c49261d62c025a1983762829c99f038489f4078ea18df14aee2d482ef058f2"), looks := true }, kinds := [], alts := [], laidByText := true, laidKinds := [.sentinel, .sentinel, .sentinel, .sentinel, .sentinel], laidTests := true, laidLooks := .later }
def LinesSplitCardSaid : Prop := Claim7.holds Tryd.pinned (.plain (OpenSpec.ofChange linesSplitSpec)) linesSplitCard

/-- THE TIED CARD OF 'tidewaterlaw31.LinesWords'. -/
def linesWordsCard : Claim7 := { stood := { row := linesWordsRow, standIns := [], harness := (true, "46c49261d62c025a1983762829c99f038489f4078ea18df14aee2d482ef058f2"), looks := true }, kinds := [], alts := [], laidByText := true, laidKinds := [.sentinel, .sentinel, .sentinel, .sentinel, .sentinel, .sentinel, .sentinel, .sentinel, .sentinel, .sentinel, .sentinel, .sentinel, .sentinel, .sentinel, .sentinel, .sentinel, .sentinel, .sentinel, .sentinel], laidTests := true, laidLooks := .later }
def LinesWordsCardSaid : Prop := Claim7.holds Tryd.pinned (.plain (OpenSpec.ofChange linesWordsSpec)) linesWordsCard

/-- THE TIED CARD OF 'tidewaterlaw31.LinesParse'. -/
def linesParseCard : Claim7 := { stood := { row := linesParseRow, standIns := [], harness := (true, "46c49261d62c025a1983762829c99f038489f4078ea18df14aee2d482ef058f2"), looks := true }, kinds := [], alts := [], laidByText := true, laidKinds := [.sentinel, .sentinel, .sentinel, .sentinel, .sentinel, .sentinel, .sentinel, .sentinel, .sentinel, .sentinel, .sentinel, .sentinel, .sentinel, .sentinel, .sentinel, .sentinel, .sentinel, .sentinel, .sentinel], laidTests := true, laidLooks := .later }
def LinesParseCardSaid : Prop := Claim7.holds Tryd.pinned (.plain (OpenSpec.ofChange linesParseSpec)) linesParseCard

/-- THE TIED CARD OF 'tidewaterlaw31.LinesText'. -/
def linesTextCard : Claim7 := { stood := { row := linesTextRow, standIns := [], harness := (true, "46c49261d62c025a1983762829c99f038489f4078ea18df14aee2d482ef058f2"), looks := true }, kinds := [], alts := [], laidByText := true, laidKinds := [.sentinel, .sentinel, .sentinel, .sentinel, .sentinel, .sentinel, .sentinel, .sentinel, .sentinel, .sentinel, .sentinel, .sentinel, .sentinel, .sentinel, .sentinel, .sentinel, .sentinel, .sentinel, .sentinel], laidTests := true, laidLooks := .later }
def LinesTextCardSaid : Prop := Claim7.holds Tryd.pinned (.plain (OpenSpec.ofChange linesTextSpec)) linesTextCard

/-- THE TIED CARD OF 'tidewaterlaw31.LinesScript'. -/
def linesScriptCard : Claim7 := { stood := { row := linesScriptRow, standIns := [], harness := (true, "46c49261d62c025a1983762829c99f038489f4078ea18df14aee2d482ef058f2"), looks := true }, kinds := [], alts := [], laidByText := true, laidKinds := [.data, .sentinel, .sentinel, .sentinel, .sentinel, .sentinel, .sentinel, .sentinel, .sentinel, .sentinel, .sentinel, .sentinel, .sentinel, .sentinel, .sentinel, .sentinel, .sentinel, .sentinel, .sentinel, .sentinel, .pinned], laidTests := true, laidLooks := .later }
def LinesScriptCardSaid : Prop := Claim7.holds Tryd.pinned (.plain (OpenSpec.ofChange linesScriptSpec)) linesScriptCard

/-- THE SECOND FORM's CARD OF 'tidewaterlaw31.LinesSplit'. -/
def linesSplitUptoCard : Claim7 := { stood := { row := linesSplitUptoRow, standIns := [], harness := (true, "46c49261d62c025a1983762829c99f038489f4078ea18df14aee2d482ef058f2"), looks := true }, kinds := [], alts := [], laidByText := true, laidKinds := [.sentinel, .sentinel, .sentinel, .sentinel, .sentinel], laidTests := true, laidLooks := .later }
def LinesSplitUptoCardSaid : Prop := Claim7.holds Tryd.pinned (.plain (OpenSpec.upto linesSplitSpec)) linesSplitUptoCard

/-- THE SECOND FORM's CARD OF 'tidewaterlaw31.LinesWords'. -/
def linesWordsUptoCard : Claim7 := { stood := { row := linesWordsUptoRow, standIns := [], harness := (true, "46c49261d62c025a1983762829c99f038489f4078ea18df14aee2d482ef058f2"), looks := true }, kinds := [], alts := [], laidByText := true, laidKinds := [.sentinel, .sentinel, .sentinel, .sentinel, .sentinel, .sentinel, .sentinel, .sentinel, .sentinel, .sentinel, .sentinel, .sentinel, .sentinel, .sentinel, .sentinel, .sentinel, .sentinel, .sentinel, .sentinel], laidTests := true, laidLooks := .later }
def LinesWordsUptoCardSaid : Prop := Claim7.holds Tryd.pinned (.plain (OpenSpec.upto linesWordsSpec)) linesWordsUptoCard

/-- THE SECOND FORM's CARD OF 'tidewaterlaw31.LinesParse'. -/
def linesParseUptoCard : Claim7 := { stood := { row := linesParseUptoRow, standIns := [], harness := (true, "46c49261d62c025a1983762829c99f038489f4078ea18df14aee2d482ef058f2"), looks := true }, kinds := [], alts := [], laidByText := true, laidKinds := [.sentinel, .sentinel, .sentinel, .sentinel, .sentinel, .sentinel, .sentinel, .sentinel, .sentinel, .sentinel, .sentinel, .sentinel, .sentinel, .sentinel, .sentinel, .sentinel, .sentinel, .sentinel, .sentinel], laidTests := true, laidLooks := .later }
def LinesParseUptoCardSaid : Prop := Claim7.holds Tryd.pinned (.plain (OpenSpec.upto linesParseSpec)) linesParseUptoCard

/-- THE SECOND FORM's CARD OF 'tidewaterlaw31.LinesText'. -/
def linesTextUptoCard : Claim7 := { stood := { row := linesTextUptoRow, standIns := [], harness := (true, "46c49261d62c025a1983762829c99f038489f4078ea18df14aee2d482ef058f2"), looks := true }, kinds := [], alts := [], laidByText := true, laidKinds := [.sentinel, .sentinel, .sentinel, .sentinel, .sentinel, .sentinel, .sentinel, .sentinel, .sentinel, .sentinel, .sentinel, .sentinel, .sentinel, .sentinel, .sentinel, .sentinel, .sentinel, .sentinel, .sentinel], laidTests := true, laidLooks := .later }
def LinesTextUptoCardSaid : Prop := Claim7.holds Tryd.pinned (.plain (OpenSpec.upto linesTextSpec)) linesTextUptoCard

/-- THE SECOND FORM's CARD OF 'tidewaterlaw31.LinesScript'. -/
def linesScriptUptoCard : Claim7 := { stood := { row := linesScriptUptoRow, standIns := [], harness := (true, "46c49261d62c025a1983762829c99f038489f4078ea18df14aee2d482ef058f2"), looks := true }, kinds := [], alts := [], laidByText := true, laidKinds := [.data, .sentinel, .sentinel, .sentinel, .sentinel, .sentinel, .sentinel, .sentinel, .sentinel, .sentinel, .sentinel, .sentinel, .sentinel, .sentinel, .sentinel, .sentinel, .sentinel, .sentinel, .sentinel, .sentinel, .pinned], laidTests := true, laidLooks := .later }
def LinesScriptUptoCardSaid : Prop := Claim7.holds Tryd.pinned (.plain (OpenSpec.upto linesScriptSpec)) linesScriptUptoCard
end Rows
end Go.Proofs.YtjhmehmmpfnnkaaDoor
