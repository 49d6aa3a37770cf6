/-
  Contracts: cut_some, first_none, rest_none, first_some, rest_some.
-/
import Derived.Test.YtjhmehmmpfnnkaaDoorFRight
namespace Go.Proofs.YtjhmehmmpfnnkaaDoor
open Go.RowKit Utf
set_option maxRecDepth 100000
set_option linter.unusedSimpArgs false
set_option linter.unusedVariables false

set_option maxHeartbeats 400000 in
theorem cut_some (s : ByteArray) (rs : List Nat) (n : Int) (w : World) (hs : s.size ≤ 1000000) (ho : allOk rs) (h : s.data.toList = encAll rs) (hn : -9223372036854775808 ≤ n ∧ n ≤ 9223372036854775807) :
    Calls Tryd.prog 55 #[.string s, .int .i64 n] w fun e w' => e = .returned (.int .i64 (off rs (min n.toNat rs.length) : Nat)) ∧ Below w.heap.size w w' := by
  have hl := len_le h
  have HN := Lib.hid (fun (w : World) k hk ty => next_off (P := Tryd.prog) ho h w k hk ty)
  have HE := Lib.hid (fun (w : World) ty => next_off_end (P := Tryd.prog) h w ty)
  have HLT := Lib.hid (fun k hk => off_lt h k hk)
  have HA := Lib.hid (off_all h)
  have HS := Lib.hid (off_succ rs)
  have HP := Lib.hid (fun c => enc_length c)
  clear h
  obtain ⟨hn1, hn2⟩ := hn
  go_enter Tryd.func55, Tryd.ntmps55
  go_wp2_with fail
  go_loopw [1] (fun v w2 => ∃ (k : Nat) (m : Int), k ≤ rs.length ∧ v = .int .i64 m ∧ w2 = w.iter s (off rs k) ∧ m = n - k ∧ (0 ≤ m ∨ k = 0)) (fun _ w2 => s.size - w2.iterPos w.heap.size)
  case atStart => exact ⟨0, n, Nat.zero_le _, rfl, rfl, by simp, Or.inr rfl⟩
  case round =>
    obtain ⟨k, m, hk, rfl, rfl, hm, hm0⟩ := hrel
    have HM := Lib.hid hm
    clear hm
    have HM0 := Lib.hid hm0
    clear hm0
    by_cases hlt : k < rs.length
    · have hnx := HN.out w k hlt
      by_cases hz : m ≤ 0
      · go_wp2_with fail
        go_ret
        refine ⟨ret_int ?_, (Below.refl _ _).alloc (Nat.le_refl _) _⟩
        have := HM.out
        have := HM0.out
        have e : min n.toNat rs.length = k := by omega
        rw [e]
      · have hm1 : 1 ≤ m := by omega
        have hm2 : m ≤ 9223372036854775807 := by have := HM.out; omega
        go_wp2_with fail
        go_roundw
        case rel => exact ⟨k + 1, m - 1, by omega, by go_num, rfl, by have := HM.out; omega, by omega⟩
        case measure => have := HLT.out k hlt; have := HS.out k hlt; have := HP.out rs[k]; simp; omega
    · obtain rfl : k = rs.length := by omega
      have hnx := HE.out w
      go_wp2_with fail
      go_ret
      refine ⟨ret_int ?_, (Below.refl _ _).alloc (Nat.le_refl _) _⟩
      have := HM.out
      have := HM0.out
      have e : min n.toNat rs.length = rs.length := by omega
      rw [e, HA.out]

set_option maxHeartbeats 400000 in
theorem first_none (s : ByteArray) (n : Int) (w : World) (hs : s.size ≤ maxLen) (hd : dec s.data.toList = none) :
    Calls Tryd.prog 29 #[.string s, .int .i64 n] w fun e w' => e = .returned (.string ByteArray.empty) ∧ Below w.heap.size w w' := by
  have HD := Lib.hid hd
  clear hd
  go_enter Tryd.func29, Tryd.ntmps29
  go_wp2_with fail
  refine (right_any _ _ hs).mono ?_
  rintro e w1 ⟨rfl, hb1⟩
  rw [HD.out]
  go_wp2_with fail
  go_ret
  exact ⟨rfl, hb1⟩

set_option maxHeartbeats 400000 in
theorem rest_none (s : ByteArray) (n : Int) (w : World) (hs : s.size ≤ maxLen) (hd : dec s.data.toList = none) :
    Calls Tryd.prog 30 #[.string s, .int .i64 n] w fun e w' => e = .returned (.string ByteArray.empty) ∧ Below w.heap.size w w' := by
  have HD := Lib.hid hd
  clear hd
  go_enter Tryd.func30, Tryd.ntmps30
  go_wp2_with fail
  refine (right_any _ _ hs).mono ?_
  rintro e w1 ⟨rfl, hb1⟩
  rw [HD.out]
  go_wp2_with fail
  go_ret
  exact ⟨rfl, hb1⟩

set_option maxHeartbeats 400000 in
theorem first_some (s : ByteArray) (rs : List Nat) (n : Int) (w : World) (hs : s.size ≤ 1000000) (ho : allOk rs) (h : s.data.toList = encAll rs) (hn : -9223372036854775808 ≤ n ∧ n ≤ 9223372036854775807) :
    Calls Tryd.prog 29 #[.string s, .int .i64 n] w fun e w' => e = .returned (.string (mkS (encAll (rs.take n.toNat)))) ∧ Below w.heap.size w w' := by
  have hs' : s.size ≤ maxLen := by unfold maxLen; omega
  have hd := dec_encAll ho
  rw [← h] at hd
  have hle := off_le h (min n.toNat rs.length)
  have HT := Lib.hid (off_take h (min n.toNat rs.length))
  have HC := Lib.hid (fun (W : World) => cut_some s rs n W hs ho h hn)
  have HD := Lib.hid hd
  clear hd h hn
  go_enter Tryd.func29, Tryd.ntmps29
  go_wp2_with fail
  refine (right_any _ _ hs').mono ?_
  rintro e w1 ⟨rfl, hb1⟩
  rw [HD.out]
  go_wp2_with fail
  refine (HC.out _).mono ?_
  rintro e w2 ⟨rfl, hb2⟩
  generalize hp : off rs (min n.toNat rs.length) = p at *
  have HPp := Lib.hid hp
  clear hp
  have hp2 : p ≤ 9223372036854775807 := by omega
  go_wp2_with fail
  go_ret
  refine ⟨?_, hb1.trans (hb2.mono hb1.size)⟩
  refine ret_str ?_
  rw [mkS_data, Lib.extract_data, List.drop_zero, Nat.sub_zero, HT.out]
  congr 1
  rw [List.take_eq_take_iff]
  omega

set_option maxHeartbeats 400000 in
theorem rest_some (s : ByteArray) (rs : List Nat) (n : Int) (w : World) (hs : s.size ≤ 1000000) (ho : allOk rs) (h : s.data.toList = encAll rs) (hn : -9223372036854775808 ≤ n ∧ n ≤ 9223372036854775807) :
    Calls Tryd.prog 30 #[.string s, .int .i64 n] w fun e w' => e = .returned (.string (mkS (encAll (rs.drop n.toNat)))) ∧ Below w.heap.size w w' := by
  have hs' : s.size ≤ maxLen := by unfold maxLen; omega
  have hd := dec_encAll ho
  rw [← h] at hd
  have hle := off_le h (min n.toNat rs.length)
  have HT := Lib.hid (off_drop h (min n.toNat rs.length))
  have HC := Lib.hid (fun (W : World) => cut_some s rs n W hs ho h hn)
  have HD := Lib.hid hd
  clear hd h hn
  go_enter Tryd.func30, Tryd.ntmps30
  go_wp2_with fail
  refine (right_any _ _ hs').mono ?_
  rintro e w1 ⟨rfl, hb1⟩
  rw [HD.out]
  go_wp2_with fail
  refine (HC.out _).mono ?_
  rintro e w2 ⟨rfl, hb2⟩
  generalize hp : off rs (min n.toNat rs.length) = p at *
  have HPp := Lib.hid hp
  clear hp
  have hp2 : p ≤ 9223372036854775807 := by omega
  go_wp2_with fail
  go_ret
  refine ⟨?_, hb1.trans (hb2.mono hb1.size)⟩
  refine ret_str ?_
  rw [mkS_data, Lib.extract_data, HT.out, List.take_of_length_le]
  · congr 1
    by_cases hle2 : n.toNat ≤ rs.length
    · rw [Nat.min_eq_left hle2]
    · rw [Nat.min_eq_right (by omega), List.drop_length, List.drop_of_length_le (by omega)]
  · rw [← HT.out, List.length_drop, ← Lib.size_eq]
    omega
end Go.Proofs.YtjhmehmmpfnnkaaDoor
