/-
  The walk of the law BalanceCounts.
-/
import Derived.Test.YthjmfcdhpdiehaaGreatDoorM26
import Derived.Test.YthjmfcdhpdiehaaGreatDoorM31
namespace Go.Proofs.YthjmfcdhpdiehaaGreatDoor
open Go.RowKit Utf
set_option maxRecDepth 100000
set_option linter.unusedSimpArgs false
set_option linter.unusedVariables false

theorem wpList_load_hidW {P : Program} {ops : Array Oper} {rest : List Oper} {o : Oper} {a : Act} {w : World} {Q : Exit → Act → World → Prop} (hw : Region.wanted o (yielded ops a.tmps) = true) (ty : TypeId) (x : Operand) (ho : o.op = .load ty x) (g : Nat) (hx : a.eval x = .pointer (some ⟨g, 0, none⟩)) (t : TypeId) (cs : Array Value) (hB : Blk w g t cs) (d : TypeDesc)
    (hu : P.underlying ty = some d) (hd : (match d with | .struct _ | .array _ _ => true | _ => false) = true) (hi : (P.info? ty).map (·.size) = some cs.size) (h : Hid (wpList P ops Q rest (a.put o.dst (.agg cs)) w)) : wpList P ops Q (o :: rest) a w :=
  BigFrame.wpList_want hw fun _ hK => wp_load_row ty x ho g hx t cs (0, 0) d hB hu hd hi (hK _ _ h.out)
/-- How the second loop stands. -/
structure CW (wc : World) (b3 : Nat) (mk : PM) (W : World) : Prop where
  bel : Below wc.heap.size wc W
  mp : MapAt W wc.heap.size b3 mk
theorem CW.next {wc W W' : World} {b3 : Nat} {mk : PM} (h : CW wc b3 mk W) (hb : Below W.heap.size W W') : CW wc b3 mk W' := ⟨h.bel.trans (hb.mono h.bel.size), h.mp.below hb⟩
end Go.Proofs.YthjmfcdhpdiehaaGreatDoor
