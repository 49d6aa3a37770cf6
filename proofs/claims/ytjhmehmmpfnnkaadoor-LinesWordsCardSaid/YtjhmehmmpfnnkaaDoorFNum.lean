/-
  tidewaternum.Num: the number of an error.
-/
import Derived.Test.YtjhmehmmpfnnkaaDoorErr
namespace Go.Proofs.YtjhmehmmpfnnkaaDoor
open Go.RowKit
set_option maxRecDepth 100000
set_option linter.unusedSimpArgs false
set_option linter.unusedVariables false

theorem is_err {W : World} {ea : Nat → Addr} (h : ErrsAt W ea) (i j : Nat) (hi : i < 19) (hj : j < 19) :
    Calls Tryd.prog 33 #[errV ea i, errV ea j] W fun e w' => e = .returned (.bool (decide (i = j))) ∧ w' = W := by
  by_cases hij : i = j
  · subst hij
    rw [decide_eq_true rfl]
    exact is_same _ _
  · rw [decide_eq_false hij]
    obtain ⟨ci, ti, hci⟩ := h.block i hi
    obtain ⟨cj, tj, hcj⟩ := h.block j hj
    exact is_other _ _ ci cj ti tj W (h.apart i j hi hj hij) hci hcj

set_option maxHeartbeats 1000000 in
theorem num_nil (w : World) :
    Calls Tryd.prog 14 #[.nilIface] w fun e w' => e = .returned (.int .i64 0) ∧ Below w.heap.size w w' := by
  go_enter Tryd.func14, Tryd.ntmps14
  go_wp2_with fail
  go_ret
  exact ⟨rfl, Below.refl _ _⟩

/-- The row of all errors. -/
def errRow (ea : Nat → Addr) : List Value := (List.range 19).map (errV ea)
theorem errRow_len (ea : Nat → Addr) : (errRow ea).length = 19 := by simp [errRow]

set_option maxHeartbeats 4000000 in
theorem num_err (ea : Nat → Addr) (n : Nat) (w : World) (hn : n < 19) (h : ErrsAt w ea) :
    Calls Tryd.prog 14 #[errV ea n] w fun e w' => e = .returned (.int .i64 ((n : Int) + 1)) ∧ Below w.heap.size w w' := by
  have c0 : w.cell? ⟨2, 0, none⟩ = some (errV ea 0) := h.cell 0 (by omega)
  have c1 : w.cell? ⟨3, 0, none⟩ = some (errV ea 1) := h.cell 1 (by omega)
  have c2 : w.cell? ⟨4, 0, none⟩ = some (errV ea 2) := h.cell 2 (by omega)
  have c3 : w.cell? ⟨1, 0, none⟩ = some (errV ea 3) := h.cell 3 (by omega)
  have c4 : w.cell? ⟨5, 0, none⟩ = some (errV ea 4) := h.cell 4 (by omega)
  have c5 : w.cell? ⟨0, 0, none⟩ = some (errV ea 5) := h.cell 5 (by omega)
  have c6 : w.cell? ⟨6, 0, none⟩ = some (errV ea 6) := h.cell 6 (by omega)
  have c7 : w.cell? ⟨7, 0, none⟩ = some (errV ea 7) := h.cell 7 (by omega)
  have c8 : w.cell? ⟨8, 0, none⟩ = some (errV ea 8) := h.cell 8 (by omega)
  have c9 : w.cell? ⟨9, 0, none⟩ = some (errV ea 9) := h.cell 9 (by omega)
  have c10 : w.cell? ⟨10, 0, none⟩ = some (errV ea 10) := h.cell 10 (by omega)
  have c11 : w.cell? ⟨11, 0, none⟩ = some (errV ea 11) := h.cell 11 (by omega)
  have c12 : w.cell? ⟨12, 0, none⟩ = some (errV ea 12) := h.cell 12 (by omega)
  have c13 : w.cell? ⟨13, 0, none⟩ = some (errV ea 13) := h.cell 13 (by omega)
  have c14 : w.cell? ⟨14, 0, none⟩ = some (errV ea 14) := h.cell 14 (by omega)
  have c15 : w.cell? ⟨15, 0, none⟩ = some (errV ea 15) := h.cell 15 (by omega)
  have c16 : w.cell? ⟨16, 0, none⟩ = some (errV ea 16) := h.cell 16 (by omega)
  have c17 : w.cell? ⟨17, 0, none⟩ = some (errV ea 17) := h.cell 17 (by omega)
  have c18 : w.cell? ⟨18, 0, none⟩ = some (errV ea 18) := h.cell 18 (by omega)
  have hne := fun W => Go.run_eql_iface_nil_left (P := Tryd.prog) W 163 (.pointer (some (ea n))) Tryd.underlying26
  have H := Lib.hid h
  clear h
  simp only [errV] at *
  go_enter Tryd.func14, Tryd.ntmps14
  go_wp2_with fail
  go_loopw [30] (fun i w2 => ∃ k : Nat, k ≤ n ∧ i = .int .i64 k ∧ w2 = w.alloc (.cells (errRow ea).toArray 26)) (fun i _ => 19 - (intOf i).toNat)
  case atStart => exact ⟨0, Nat.zero_le _, rfl, by simp [errRow, errV, List.range_succ]⟩
  case round =>
    obtain ⟨k, hk, rfl, rfl⟩ := hrel
    clear c0 c1 c2 c3 c4 c5 c6 c7 c8 c9 c10 c11 c12 c13 c14 c15 c16 c17 c18 hne
    have hB : Below w.heap.size w (w.alloc (.cells (errRow ea).toArray 26)) := (Below.refl _ _).alloc (Nat.le_refl _) _
    have hc : (w.alloc (.cells (errRow ea).toArray 26)).cell? ⟨w.heap.size, k, none⟩ = some (.iface 163 (.pointer (some (ea k)))) := by
      have := new_cells (errRow ea) w 26 k (errV ea k) (by simp [errRow, List.getElem?_map, List.getElem?_range (show k < 19 by omega)])
      rw [addr_add, Nat.zero_add] at this
      exact this
    have HB := Lib.hid hB
    have HE := Lib.hid (is_err (H.out.below hB) n k hn (by omega))
    clear hB
    generalize w.alloc (.cells (errRow ea).toArray 26) = W at *
    have hk19 : (k : Int) < 19 := by omega
    by_cases hkn : n = k
    · have HK := Lib.hid hkn
      clear hkn
      go_wp2_with fail
      refine HE.out.mono ?_
      rintro e w' ⟨rfl, rfl⟩
      rw [decide_eq_true HK.out]
      go_wp2_with fail
      go_ret
      exact ⟨ret_int (by rw [HK.out]), HB.out⟩
    · have HK := Lib.hid hkn
      clear hkn
      go_wp2_with fail
      refine HE.out.mono ?_
      rintro e w' ⟨rfl, rfl⟩
      rw [decide_eq_false HK.out]
      go_wp2_with fail
      go_roundw
      case rel => exact ⟨k + 1, by have := HK.out; omega, by go_num, by first | rfl | trivial⟩
      case measure => simp [intOf]; omega
end Go.Proofs.YtjhmehmmpfnnkaaDoor
