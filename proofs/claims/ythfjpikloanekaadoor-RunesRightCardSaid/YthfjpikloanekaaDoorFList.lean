/-
  Contracts: list_none, list_some.
-/
import Derived.Test.YthfjpikloanekaaDoorFRight
namespace Go.Proofs.YthfjpikloanekaaDoor
open Go.RowKit Utf
set_option maxRecDepth 100000
set_option linter.unusedSimpArgs false
set_option linter.unusedVariables false

set_option maxHeartbeats 400000 in
theorem list_none (s : ByteArray) (w : World) (hs : s.size ≤ maxLen) (hd : dec s.data.toList = none) :
    Calls Tryd.prog 13 #[.string s] w fun e w' => e = .returned (.slice none 0 0) ∧ Below w.heap.size w w' := by
  have HD := Lib.hid hd
  clear hd
  go_enter Tryd.func13, Tryd.ntmps13
  go_wp2_with (go_at_call 6; refine (right_any _ _ hs).mono ?_; rintro e w' ⟨rfl, hb⟩; rw [HD.out])
  go_ret
  exact ⟨rfl, by assumption⟩

set_option maxHeartbeats 400000 in
theorem list_some (s : ByteArray) (rs : List Nat) (w : World) (hs : s.size ≤ 1000000) (ho : allOk rs) (h : s.data.toList = encAll rs) :
    Calls Tryd.prog 13 #[.string s] w fun e w' => ∃ v, e = .returned v ∧ Below w.heap.size w w' ∧ w'.ownsRow w.heap.size 21 1 v rs.length (runeRow rs) := by
  have hs' : s.size ≤ maxLen := by unfold maxLen; omega
  have hd := dec_encAll ho
  rw [← h] at hd
  have hl := len_le h
  have hcv : ∀ W : World, (convert 9 35 (.string s)).run Tryd.prog W = _ := fun W => run_runes_of_string W 9 35 21 s Tryd.underlying9 Tryd.underlying35 Tryd.underlying21 (by rw [runesFrom_all ho h]; simp [runeRow]; omega)
  rw [runesFrom_all ho h] at hcv
  have hrl : (runeRow rs).toArray.size = rs.length := by simp [runeRow]
  rw [hrl] at hcv
  have HD := Lib.hid hd
  have HO := Lib.hid h
  have HL := Lib.hid hrl
  clear hd h hrl
  go_enter Tryd.func13, Tryd.ntmps13
  go_wp2_with fail
  refine (right_any _ _ hs').mono ?_
  rintro e w1 ⟨rfl, hb1⟩
  rw [HD.out]
  have HW1 := Lib.hid hb1.size
  go_wp2_with fail
  go_ret
  refine ⟨_, rfl, ?_, ?_⟩
  · exact hb1.drew.alloc HW1.out _
  · have hge := grownCap_ge w1 rs.length 0 21
    have hle := grownCap_le_maxLen w1 rs.length 0 21 (by unfold maxLen; omega)
    refine ⟨by simp [runeRow], .inr ⟨_, _, _, rfl, HW1.out, heap_alloc_new w1.drew _, hge, hle, ?_, ?_⟩⟩
    · rw [Array.size_append, HL.out]; simp; omega
    · simp [runeRow]
end Go.Proofs.YthfjpikloanekaaDoor
