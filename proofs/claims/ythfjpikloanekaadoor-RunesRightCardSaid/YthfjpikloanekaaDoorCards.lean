/-
  DERIVED. GIVEN WITH THE SEED: THE CARDS: each row of YthfjpikloanekaaDoorRows.lean that lists a variable, with what it lists TIED to the program's text (the seventh form; the later family's looks); each row that meets fmt, with fmt's text TOLD by the authors' own Lean function (tested against real Go, not proved from fmt's source: count such statements apart). THE CARD IS WHAT COUNTS. Prove the row's statement (the work); the ties are given (YthfjpikloanekaaDoorTie.lean); close each card by the builder's one call (the guide's Derived/Test/ToyasCard.lean, 'card_holds'). Laid BY PROGRAM, IN A SANDBOX (cutbox-door.mjs). By AI agents, Wed Nov 11 2026. No macro, syntax, notation, axiom, sorry.
-/
import Derived.Test.YthfjpikloanekaaDoorRows
import GoSem.ClaimSeven
namespace Go.Proofs.YthfjpikloanekaaDoor
namespace Rows

/-- THE TIED CARD OF 'tidewaterlaw02.RunesRight'. -/
def runesRightCard : Claim7 := { stood := { row := runesRightRow, standIns := [], harness := (true, "6665ab56919f948cc1d5428140c1abf1b4c0d5eb169a7a01992cbf3cff1083c7"), looks := true }, kinds := [], alts := [], laidByText := true, laidKinds := [.sentinel, .sentinel, .sentinel, .sentinel, .sentinel, .sentinel, .sentinel, .sentinel, .sentinel, .sentinel, .sentinel, .sentinel, .sentinel, .sentinel, .sentinel, .sentinel, .sentinel, .sentinel, .sentinel], laidTests := true, laidLooks := .later }
def RunesRightCardSaid : Prop := Claim7.holds Tryd.pinned (.plain (OpenSpec.ofChange runesRightSpec)) runesRightCard

/-- THE SECOND FORM's CARD OF 'tidewaterlaw02.RunesRight'. -/
def runesRightUptoCard : Claim7 := { stood := { row := runesRightUptoRow, standIns := [], harness := (true, "6665ab56919f948cc1d5428140c1abf1b4c0d5eb169a7a01992cbf3cff1083c7"), looks := true }, kinds := [], alts := [], laidByText := true, laidKinds := [.sentinel, .sentinel, .sentinel, .sentinel, .sentinel, .sentinel, .sentinel, .sentinel, .sentinel, .sentinel, .sentinel, .sentinel, .sentinel, .sentinel, .sentinel, .sentinel, .sentinel, .sentinel, .sentinel], laidTests := true, laidLooks := .later }
def RunesRightUptoCardSaid : Prop := Claim7.holds Tryd.pinned (.plain (OpenSpec.upto runesRightSpec)) runesRightUptoCard
end Rows
end Go.Proofs.YthfjpikloanekaaDoor
