/-
  The statements' 'alive', and the row's step for a law over texts.
-/
import Derived.Test.YthfjpikloanekaaDoorFCount
import Derived.Test.YthfjpikloanekaaDoorFAfter
namespace Go.Proofs.YthfjpikloanekaaDoor
open Go.RowKit Utf
set_option maxRecDepth 100000
set_option linter.unusedSimpArgs false
set_option linter.unusedVariables false

theorem alive_c1 : (mkS [97, 195, 164]).data.toList = encAll [97, 228] := by decide +kernel
theorem alive_c2 : (mkS [97, 98]).data.toList = encAll [97, 98] := by decide +kernel
theorem alive_c3 : ((mkS (encAll ((afterL [97, 98]).getD []))).toList == [97, 99]) = true := by
  rw [Lib.toList_data]; decide +kernel

set_option maxHeartbeats 1000000 in
theorem alive_any (w : World) :
    Calls Tryd.prog 4 #[] w fun e w' => e = .returned (.bool true) ∧ Below w.heap.size w w' := by
  have hc1 := fun W => count_some (mkS [97, 195, 164]) [97, 228] W (by rw [mkS_size]; decide) (by intro c hc; simp at hc; rcases hc with rfl | rfl <;> decide +kernel) alive_c1
  have hc2 := fun W => after_some (mkS [97, 98]) [97, 98] W (by rw [mkS_size]; decide) (by intro c hc; simp at hc; rcases hc with rfl | rfl <;> decide +kernel) alive_c2
  have HC1 := Lib.hid hc1
  have HC2 := Lib.hid hc2
  clear hc1 hc2
  go_enter Tryd.func4, Tryd.ntmps4
  go_wp2_with fail
  refine (HC1.out _).mono ?_
  rintro e w1 ⟨rfl, hb1⟩
  go_wp2_with fail
  refine (HC2.out _).mono ?_
  rintro e w2 ⟨rfl, hb2⟩
  have h3 := alive_c3
  generalize mkS (encAll ((afterL [97, 98]).getD [])) = s at *
  go_wp2_with fail
  go_ret
  exact ⟨rfl, hb1.trans (hb2.mono hb1.size)⟩
end Go.Proofs.YthfjpikloanekaaDoor
