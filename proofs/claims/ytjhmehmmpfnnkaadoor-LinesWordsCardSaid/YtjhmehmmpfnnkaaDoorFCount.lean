/-
  Contracts: count_none, count_some.
-/
import Derived.Test.YtjhmehmmpfnnkaaDoorFRight
namespace Go.Proofs.YtjhmehmmpfnnkaaDoor
open Go.RowKit Utf
set_option maxRecDepth 100000
set_option linter.unusedSimpArgs false
set_option linter.unusedVariables false

set_option maxHeartbeats 400000 in
theorem count_none (s : ByteArray) (w : World) (hs : s.size ≤ maxLen) (hd : dec s.data.toList = none) :
    Calls Tryd.prog 28 #[.string s] w fun e w' => e = .returned (.int .i64 (-1)) ∧ Below w.heap.size w w' := by
  have HD := Lib.hid hd
  clear hd
  go_enter Tryd.func28, Tryd.ntmps28
  go_wp2_with fail
  refine (right_any _ _ hs).mono ?_
  rintro e w1 ⟨rfl, hb1⟩
  rw [HD.out]
  go_wp2_with fail
  go_ret
  exact ⟨rfl, hb1⟩

set_option maxHeartbeats 400000 in
theorem count_some (s : ByteArray) (rs : List Nat) (w : World) (hs : s.size ≤ 1000000) (ho : allOk rs) (h : s.data.toList = encAll rs) :
    Calls Tryd.prog 28 #[.string s] w fun e w' => e = .returned (.int .i64 rs.length) ∧ Below w.heap.size w w' := by
  have hs' : s.size ≤ maxLen := by unfold maxLen; omega
  have hd := dec_encAll ho
  rw [← h] at hd
  have hl := len_le h
  have HN := Lib.hid (fun (w : World) k hk ty => next_off (P := Tryd.prog) ho h w k hk ty)
  have HE := Lib.hid (fun (w : World) ty => next_off_end (P := Tryd.prog) h w ty)
  have HLE := Lib.hid (fun k => off_le h k)
  have HLT := Lib.hid (fun k hk => off_lt h k hk)
  have HS := Lib.hid (off_succ rs)
  have HP := Lib.hid (fun c => enc_length c)
  have HD := Lib.hid hd
  clear hd h
  go_enter Tryd.func28, Tryd.ntmps28
  go_wp2_with fail
  refine (right_any _ _ hs').mono ?_
  rintro e w1 ⟨rfl, hb1⟩
  rw [HD.out]
  go_wp2_with fail
  go_loopw [3] (fun n w2 => ∃ k : Nat, k ≤ rs.length ∧ n = .int .i64 k ∧ w2 = w1.iter s (off rs k)) (fun _ w2 => s.size - w2.iterPos w1.heap.size)
  case atStart => exact ⟨0, Nat.zero_le _, rfl, rfl⟩
  case round =>
    obtain ⟨k, hk, rfl, rfl⟩ := hrel
    by_cases hlt : k < rs.length
    · have hnx := HN.out w1 k hlt
      go_wp2_with fail
      go_roundw
      case rel => exact ⟨k + 1, by omega, by go_num, rfl⟩
      case measure => have := HLT.out k hlt; have := HS.out k hlt; have := HP.out rs[k]; simp; omega
    · obtain rfl : k = rs.length := by omega
      have hnx := HE.out w1
      go_wp2_with fail
      go_ret
      exact ⟨rfl, hb1.alloc hb1.size _⟩
end Go.Proofs.YtjhmehmmpfnnkaaDoor
