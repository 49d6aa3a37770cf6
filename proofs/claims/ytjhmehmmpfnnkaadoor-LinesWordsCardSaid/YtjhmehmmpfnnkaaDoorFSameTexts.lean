/-
  Contracts: sameTexts_any.
-/
import Derived.Test.YtjhmehmmpfnnkaaDoorAKit
namespace Go.Proofs.YtjhmehmmpfnnkaaDoor
open Go.RowKit Utf
set_option maxRecDepth 100000
set_option linter.unusedSimpArgs false
set_option linter.unusedVariables false

set_option maxHeartbeats 1000000 in
theorem sameTexts_any (a b : List ByteArray) (aa ab : Option Addr) (ca cb : Nat) (w : World) (hla : a.length ≤ 1000000) (hlb : b.length ≤ 1000000)
    (hra : RowAt w aa (strRow a)) (hrb : RowAt w ab (strRow b)) :
    Calls Tryd.prog 11 #[.slice aa a.length ca, .slice ab b.length cb] w fun e w' => e = .returned (.bool (decide (a = b))) ∧ Below w.heap.size w w' := by
  have HA := Lib.hid hra
  have HB := Lib.hid hrb
  clear hra hrb
  by_cases hl : a.length = b.length
  · have hl' : ((a.length : Int) != (b.length : Int)) = false := by simp [hl]
    have HL := Lib.hid hl
    clear hl
    go_enter Tryd.func11, Tryd.ntmps11
    go_wp2_with fail
    go_loopw [13] (fun i w5 => ∃ k n : Nat, k ≤ a.length ∧ i = .int .i64 k ∧ w5 = w.drewN n ∧ Hid (a.take k = b.take k)) (fun i _ => a.length - (intOf i).toNat)
    case atStart => exact ⟨0, 0, Nat.zero_le _, rfl, rfl, rfl⟩
    case round =>
      obtain ⟨k, n, hka, rfl, rfl, HC⟩ := hrel
      by_cases hlt : k < a.length
      · have hltb : k < b.length := by have := HL.out; omega
        obtain ⟨ba, oa, rfl, hca⟩ := HA.out k (by rw [strRow_len]; exact hlt)
        rw [strRow_at] at hca
        obtain ⟨bb, ob, rfl, hcb⟩ := HB.out k (by rw [strRow_len]; exact hltb)
        rw [strRow_at] at hcb
        have HK := Lib.hid (fun h : a[k] = b[k] => show a.take (k + 1) = b.take (k + 1) by rw [List.take_succ_eq_append_getElem hlt, List.take_succ_eq_append_getElem hltb, HC.out, h])
        have HT := Lib.hid (fun (h : a[k] ≠ b[k]) (h2 : a = b) => h (by simp only [h2]))
        generalize a[k] = x at *
        generalize b[k] = y at *
        by_cases hz : x = y
        · have hz' : (!(x.toList == y.toList)) = false := by rw [str_beq]; simp [hz]
          have hz2 : (x.toList == y.toList) = true := by rw [str_beq]; simp [hz]
          have HZ := Lib.hid (HK.out hz)
          clear hz
          go_wp2_with fail
          go_quiet (fail)
          go_wp2_with fail
          go_roundw
          case rel => exact ⟨k + 1, _, by omega, by go_num, rfl, HZ.out⟩
          case measure => simp [intOf]; omega
        · have hz' : (!(x.toList == y.toList)) = true := by rw [str_beq]; simp [hz]
          have hz2 : (x.toList == y.toList) = false := by rw [str_beq]; simp [hz]
          have HZ := Lib.hid (HT.out hz)
          clear hz
          go_wp2_with fail
          go_quiet (fail)
          go_wp2_with fail
          go_ret
          refine ⟨?_, below_drewN (below_drewN (Below.refl _ _) _) _⟩
          rw [decide_eq_false HZ.out]
          rfl
      · obtain rfl : k = a.length := by omega
        go_wp2_with fail
        go_ret
        refine ⟨?_, below_drewN (Below.refl _ _) _⟩
        have h1 := HC.out
        rw [List.take_length, HL.out, List.take_length] at h1
        rw [decide_eq_true h1]
        rfl
  · have hl' : ((a.length : Int) != (b.length : Int)) = true := by simp; omega
    have HL := Lib.hid (show ¬ a = b from fun h => hl (by rw [h]))
    clear hl
    go_enter Tryd.func11, Tryd.ntmps11
    go_wp2_with fail
    go_ret
    refine ⟨?_, Below.refl _ _⟩
    rw [decide_eq_false HL.out]
    rfl
end Go.Proofs.YtjhmehmmpfnnkaaDoor
