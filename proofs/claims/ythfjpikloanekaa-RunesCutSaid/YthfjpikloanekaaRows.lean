/-
  No cell of these rows narrows 'for every input' (looked for: loops, veiled, ifaces, maps, wideKeys, modest, calm, conditions, laid).
  DERIVED. THE GIVEN ROWS OF THIS SEAT. 4 by the template 'for every input the law returns true; each argument reads behind the call as it read before'; 0 by the template 'total and deterministic' (their statements: YthfjpikloanekaaTotals.lean).
  GIVEN WITH THE SEED: the statements are not yours to turn. If you find one false, say at which input.
  Laid BY PROGRAM, IN A SANDBOX (cutbox-rows.mjs): the forced cells as the released guide's own fill.sh prints them over the translation 16fa37a1e3a9a5a1… (all of the seat's roots in one cut). By AI agents, Wed Nov 11 2026. No macro, syntax, notation, axiom, sorry.
-/
import Derived.Test.YthfjpikloanekaaChecked
import GoSem.Claim
import GoSem.ClaimJoined
import GoSem.ClaimMapViews
import Derived.JoinedTies
import Derived.KernelRfl
namespace Go.Proofs.Ythfjpikloanekaa
/- THE CELL 'sum', in the pinned program and in every row, IS THE sha256 OF THE DUMP (.gsa) THAT YthfjpikloanekaaProg.lean LOADS. Nothing in Lean hashes anything: it is a label: what it is worth is what the hold of that sum in a sandbox is worth. -/
noncomputable def Try.pinned : Pinned := { name := "ythfjpikloanekaa", sum := "16fa37a1e3a9a5a10829af4a913460f568f2432124eddc579a72195e16bcb50e", checked := Try.checked }
namespace Rows
def none {H : Type} : Left H := { results := [], args := [] }

/-- 'tidewaterlaw02.RunesAfter': WHATEVER THE INPUT: true; the input reads as it did. -/
def runesAfterSpec : ChangeSpec := { name := "runesAfter", fn := fun _ => fun
  | [d1, d2] => { results := [.lit (.bool true)], args := [d1, d2] }
  | _ => none }
def runesAfterRow : OpenClaim := { program := "ythfjpikloanekaa", sum := "16fa37a1e3a9a5a10829af4a913460f568f2432124eddc579a72195e16bcb50e", func := "tidewater/tidewaterlaw02.RunesAfter", spec := "runesAfter", unfollowed := true, recurses := true, apart := false }
def RunesAfterSaid : Prop := runesAfterRow.holds Try.pinned (OpenSpec.ofChange runesAfterSpec)

/-- ITS FALSE NEIGHBOUR: 'it returns false'. Refute it at one input. -/
def runesAfterWrong : ChangeSpec := { name := "runesAfter", fn := fun _ => fun
  | [d1, d2] => { results := [.lit (.bool false)], args := [d1, d2] }
  | _ => none }
def RunesAfterWrongFalsely : Prop := runesAfterRow.holds Try.pinned (OpenSpec.ofChange runesAfterWrong)

/-- 'tidewaterlaw02.RunesFields': WHATEVER THE INPUT: true; the input reads as it did. -/
def runesFieldsSpec : ChangeSpec := { name := "runesFields", fn := fun _ => fun
  | [d] => { results := [.lit (.bool true)], args := [d] }
  | _ => none }
def runesFieldsRow : OpenClaim := { program := "ythfjpikloanekaa", sum := "16fa37a1e3a9a5a10829af4a913460f568f2432124eddc579a72195e16bcb50e", func := "tidewater/tidewaterlaw02.RunesFields", spec := "runesFields", unfollowed := true, recurses := true, apart := false }
def RunesFieldsSaid : Prop := runesFieldsRow.holds Try.pinned (OpenSpec.ofChange runesFieldsSpec)

/-- ITS FALSE NEIGHBOUR: 'it returns false'. Refute it at one input. -/
def runesFieldsWrong : ChangeSpec := { name := "runesFields", fn := fun _ => fun
  | [d] => { results := [.lit (.bool false)], args := [d] }
  | _ => none }
def RunesFieldsWrongFalsely : Prop := runesFieldsRow.holds Try.pinned (OpenSpec.ofChange runesFieldsWrong)

/-- 'tidewaterlaw02.RunesCut': WHATEVER THE INPUT: true; the input reads as it did. -/
def runesCutSpec : ChangeSpec := { name := "runesCut", fn := fun _ => fun
  | [d1, d2] => { results := [.lit (.bool true)], args := [d1, d2] }
  | _ => none }
def runesCutRow : OpenClaim := { program := "ythfjpikloanekaa", sum := "16fa37a1e3a9a5a10829af4a913460f568f2432124eddc579a72195e16bcb50e", func := "tidewater/tidewaterlaw02.RunesCut", spec := "runesCut", unfollowed := true, recurses := true, apart := false }
def RunesCutSaid : Prop := runesCutRow.holds Try.pinned (OpenSpec.ofChange runesCutSpec)

/-- ITS FALSE NEIGHBOUR: 'it returns false'. Refute it at one input. -/
def runesCutWrong : ChangeSpec := { name := "runesCut", fn := fun _ => fun
  | [d1, d2] => { results := [.lit (.bool false)], args := [d1, d2] }
  | _ => none }
def RunesCutWrongFalsely : Prop := runesCutRow.holds Try.pinned (OpenSpec.ofChange runesCutWrong)

/-- 'tidewaterlaw02.RunesCompare': WHATEVER THE INPUT: true; the input reads as it did. -/
def runesCompareSpec : ChangeSpec := { name := "runesCompare", fn := fun _ => fun
  | [d1, d2] => { results := [.lit (.bool true)], args := [d1, d2] }
  | _ => none }
def runesCompareRow : OpenClaim := { program := "ythfjpikloanekaa", sum := "16fa37a1e3a9a5a10829af4a913460f568f2432124eddc579a72195e16bcb50e", func := "tidewater/tidewaterlaw02.RunesCompare", spec := "runesCompare", unfollowed := true, recurses := true, apart := false }
def RunesCompareSaid : Prop := runesCompareRow.holds Try.pinned (OpenSpec.ofChange runesCompareSpec)

/-- ITS FALSE NEIGHBOUR: 'it returns false'. Refute it at one input. -/
def runesCompareWrong : ChangeSpec := { name := "runesCompare", fn := fun _ => fun
  | [d1, d2] => { results := [.lit (.bool false)], args := [d1, d2] }
  | _ => none }
def RunesCompareWrongFalsely : Prop := runesCompareRow.holds Try.pinned (OpenSpec.ofChange runesCompareWrong)

/- THE SECOND FORM. 'bulk': how many values and letters a reading holds, each counted each time it is reached (what is shared counts as often as it is met; a slice's spare places count too). A statement '..UptoSaid' is the law's where the arguments, and the package variables that the reading takes, are together of bulk at most 1048576: NARROWER than '..Said'. Prove '..Said' where nothing that the law and all that it calls make is longer than what came in: it says more and counts as full. Else prove '..UptoSaid'. A law counts once. -/
mutual
def uptoBulk {H : Type} : DataW H → Nat
  | .lit (.string bytes) => bytes.length + 1
  | .lit _ => 1
  | .nil => 1
  | .ptr d => uptoBulk d + 1
  | .slice elems spare => uptoBulkAll elems + uptoBulkAll spare + 1
  | .agg parts => uptoBulkAll parts + 1
  | .iface _ d => uptoBulk d + 1
  | .map entries => uptoBulkEntries entries + 1
  | .held _ => 1
def uptoBulkAll {H : Type} : List (DataW H) → Nat
  | [] => 0
  | d :: r => uptoBulk d + uptoBulkAll r
def uptoBulkEntries {H : Type} : List (Lit × DataW H) → Nat
  | [] => 0
  | x :: r => uptoBulkEntry x + uptoBulkEntries r
def uptoBulkEntry {H : Type} : Lit × DataW H → Nat
  | (.string bytes, d) => bytes.length + uptoBulk d + 1
  | (_, d) => uptoBulk d + 1
 end
def uptoSmall : (H : Type) → List (DataW H) → Bool := fun _ ds => decide (uptoBulkAll ds ≤ 1048576)
def OpenSpec.upto (s : _root_.Go.ChangeSpec) : _root_.Go.OpenSpec := { _root_.Go.OpenSpec.ofChange s with cond := some uptoSmall }

/-- 'tidewaterlaw02.RunesAfter', WHERE WHAT IT READS IS OF BULK AT MOST 1048576: true; the input reads as it did. -/
def runesAfterUptoRow : OpenClaim := { program := "ythfjpikloanekaa", sum := "16fa37a1e3a9a5a10829af4a913460f568f2432124eddc579a72195e16bcb50e", func := "tidewater/tidewaterlaw02.RunesAfter", spec := "runesAfter", unfollowed := true, recurses := true, apart := false, narrowed := true }
def RunesAfterUptoSaid : Prop := runesAfterUptoRow.holds Try.pinned (OpenSpec.upto runesAfterSpec)

/-- 'tidewaterlaw02.RunesFields', WHERE WHAT IT READS IS OF BULK AT MOST 1048576: true; the input reads as it did. -/
def runesFieldsUptoRow : OpenClaim := { program := "ythfjpikloanekaa", sum := "16fa37a1e3a9a5a10829af4a913460f568f2432124eddc579a72195e16bcb50e", func := "tidewater/tidewaterlaw02.RunesFields", spec := "runesFields", unfollowed := true, recurses := true, apart := false, narrowed := true }
def RunesFieldsUptoSaid : Prop := runesFieldsUptoRow.holds Try.pinned (OpenSpec.upto runesFieldsSpec)

/-- 'tidewaterlaw02.RunesCut', WHERE WHAT IT READS IS OF BULK AT MOST 1048576: true; the input reads as it did. -/
def runesCutUptoRow : OpenClaim := { program := "ythfjpikloanekaa", sum := "16fa37a1e3a9a5a10829af4a913460f568f2432124eddc579a72195e16bcb50e", func := "tidewater/tidewaterlaw02.RunesCut", spec := "runesCut", unfollowed := true, recurses := true, apart := false, narrowed := true }
def RunesCutUptoSaid : Prop := runesCutUptoRow.holds Try.pinned (OpenSpec.upto runesCutSpec)

/-- 'tidewaterlaw02.RunesCompare', WHERE WHAT IT READS IS OF BULK AT MOST 1048576: true; the input reads as it did. -/
def runesCompareUptoRow : OpenClaim := { program := "ythfjpikloanekaa", sum := "16fa37a1e3a9a5a10829af4a913460f568f2432124eddc579a72195e16bcb50e", func := "tidewater/tidewaterlaw02.RunesCompare", spec := "runesCompare", unfollowed := true, recurses := true, apart := false, narrowed := true }
def RunesCompareUptoSaid : Prop := runesCompareUptoRow.holds Try.pinned (OpenSpec.upto runesCompareSpec)

end Rows
end Go.Proofs.Ythfjpikloanekaa
