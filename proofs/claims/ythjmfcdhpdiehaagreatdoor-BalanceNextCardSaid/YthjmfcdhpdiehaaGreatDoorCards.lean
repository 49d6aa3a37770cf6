/-
  DERIVED. GIVEN WITH THE SEED: THE CARDS: each row of YthjmfcdhpdiehaaGreatDoorRows.lean that lists a variable, with what it lists TIED to the program's text (the seventh form; the later family's looks); each row that meets fmt, with fmt's text TOLD by the authors' own Lean function (tested against real Go, not proved from fmt's source: count such statements apart). THE CARD IS WHAT COUNTS. Prove the row's statement (the work); the ties are given (YthjmfcdhpdiehaaGreatDoorTie.lean); close each card by the builder's one call (the guide's Derived/Test/ToyasCard.lean, 'card_holds'). Laid BY PROGRAM, IN A SANDBOX (cutbox-door.mjs). By AI agents, Wed Nov 11 2026. No macro, syntax, notation, axiom, sorry.
-/
import Derived.Test.YthjmfcdhpdiehaaGreatDoorRows
import GoSem.ClaimSeven
namespace Go.Proofs.YthjmfcdhpdiehaaGreatDoor
namespace Rows

/-- THE TIED CARD OF 'tidewaterlaw40.BalanceEnds'. -/
def balanceEndsCard : Claim7 := { stood := { row := balanceEndsRow, standIns := [], harness := (true, "c251e2aea08c175e706c00e39a148c162743f9d20c8923ef77b35efd20379aca"), looks := true }, kinds := [], alts := [], laidByText := true, laidKinds := [.sentinel, .sentinel, .sentinel, .sentinel, .sentinel, .sentinel], laidTests := true, laidLooks := .later }
def BalanceEndsCardSaid : Prop := Claim7.holds Tryz.pinned (.plain (OpenSpec.ofChange balanceEndsSpec)) balanceEndsCard

/-- THE TIED CARD OF 'tidewaterlaw40.BalanceCounts'. -/
def balanceCountsCard : Claim7 := { stood := { row := balanceCountsRow, standIns := [], harness := (true, "c251e2aea08c175e706c00e39a148c162743f9d20c8923ef77b35efd20379aca"), looks := true }, kinds := [], alts := [], laidByText := true, laidKinds := [.sentinel, .sentinel, .sentinel, .sentinel, .sentinel, .sentinel], laidTests := true, laidLooks := .later }
def BalanceCountsCardSaid : Prop := Claim7.holds Tryz.pinned (.plain (OpenSpec.ofChange balanceCountsSpec)) balanceCountsCard

/-- THE TIED CARD OF 'tidewaterlaw40.BalanceLoads'. -/
def balanceLoadsCard : Claim7 := { stood := { row := balanceLoadsRow, standIns := [], harness := (true, "c251e2aea08c175e706c00e39a148c162743f9d20c8923ef77b35efd20379aca"), looks := true }, kinds := [], alts := [], laidByText := true, laidKinds := [.sentinel, .sentinel, .sentinel, .sentinel, .sentinel, .sentinel, .sentinel, .sentinel, .sentinel, .sentinel, .sentinel, .sentinel, .sentinel, .sentinel, .sentinel, .sentinel, .sentinel, .sentinel, .sentinel], laidTests := true, laidLooks := .later }
def BalanceLoadsCardSaid : Prop := Claim7.holds Tryz.pinned (.plain (OpenSpec.ofChange balanceLoadsSpec)) balanceLoadsCard

/-- THE TIED CARD OF 'tidewaterlaw40.BalanceNext'. -/
def balanceNextCard : Claim7 := { stood := { row := balanceNextRow, standIns := [], harness := (true, "c251e2aea08c175e706c00e39a148c162743f9d20c8923ef77b35efd20379aca"), looks := true }, kinds := [], alts := [], laidByText := true, laidKinds := [.sentinel, .sentinel, .sentinel, .sentinel, .sentinel, .sentinel, .sentinel, .sentinel, .sentinel, .sentinel, .sentinel, .sentinel, .sentinel, .sentinel, .sentinel, .sentinel, .sentinel, .sentinel, .sentinel], laidTests := true, laidLooks := .later }
def BalanceNextCardSaid : Prop := Claim7.holds Tryz.pinned (.plain (OpenSpec.ofChange balanceNextSpec)) balanceNextCard

/-- THE SECOND FORM's CARD OF 'tidewaterlaw40.BalanceEnds'. -/
def balanceEndsUptoCard : Claim7 := { stood := { row := balanceEndsUptoRow, standIns := [], harness := (true, "c251e2aea08c175e706c00e39a148c162743f9d20c8923ef77b35efd20379aca"), looks := true }, kinds := [], alts := [], laidByText := true, laidKinds := [.sentinel, .sentinel, .sentinel, .sentinel, .sentinel, .sentinel], laidTests := true, laidLooks := .later }
def BalanceEndsUptoCardSaid : Prop := Claim7.holds Tryz.pinned (.plain (OpenSpec.upto balanceEndsSpec)) balanceEndsUptoCard

/-- THE SECOND FORM's CARD OF 'tidewaterlaw40.BalanceCounts'. -/
def balanceCountsUptoCard : Claim7 := { stood := { row := balanceCountsUptoRow, standIns := [], harness := (true, "c251e2aea08c175e706c00e39a148c162743f9d20c8923ef77b35efd20379aca"), looks := true }, kinds := [], alts := [], laidByText := true, laidKinds := [.sentinel, .sentinel, .sentinel, .sentinel, .sentinel, .sentinel], laidTests := true, laidLooks := .later }
def BalanceCountsUptoCardSaid : Prop := Claim7.holds Tryz.pinned (.plain (OpenSpec.upto balanceCountsSpec)) balanceCountsUptoCard

/-- THE SECOND FORM's CARD OF 'tidewaterlaw40.BalanceLoads'. -/
def balanceLoadsUptoCard : Claim7 := { stood := { row := balanceLoadsUptoRow, standIns := [], harness := (true, "c251e2aea08c175e706c00e39a148c162743f9d20c8923ef77b35efd20379aca"), looks := true }, kinds := [], alts := [], laidByText := true, laidKinds := [.sentinel, .sentinel, .sentinel, .sentinel, .sentinel, .sentinel, .sentinel, .sentinel, .sentinel, .sentinel, .sentinel, .sentinel, .sentinel, .sentinel, .sentinel, .sentinel, .sentinel, .sentinel, .sentinel], laidTests := true, laidLooks := .later }
def BalanceLoadsUptoCardSaid : Prop := Claim7.holds Tryz.pinned (.plain (OpenSpec.upto balanceLoadsSpec)) balanceLoadsUptoCard

/-- THE SECOND FORM's CARD OF 'tidewaterlaw40.BalanceNext'. -/
def balanceNextUptoCard : Claim7 := { stood := { row := balanceNextUptoRow, standIns := [], harness := (true, "c251e2aea08c175e706c00e39a148c162743f9d20c8923ef77b35efd20379aca"), looks := true }, kinds := [], alts := [], laidByText := true, laidKinds := [.sentinel, .sentinel, .sentinel, .sentinel, .sentinel, .sentinel, .sentinel, .sentinel, .sentinel, .sentinel, .sentinel, .sentinel, .sentinel, .sentinel, .sentinel, .sentinel, .sentinel, .sentinel, .sentinel], laidTests := true, laidLooks := .later }
def BalanceNextUptoCardSaid : Prop := Claim7.holds Tryz.pinned (.plain (OpenSpec.upto balanceNextSpec)) balanceNextUptoCard
end Rows
end Go.Proofs.YthjmfcdhpdiehaaGreatDoor
