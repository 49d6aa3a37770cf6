/-
  runes.Common, tidewaterref02.Compare, tidewaternum.SameTexts, tidewaterref02.Text.
-/
import Derived.Test.YthfjpikloanekaaRunesB
namespace Go.Proofs.Ythfjpikloanekaa
open Go.RowKit Utf
set_option maxRecDepth 100000
set_option linter.unusedSimpArgs false
set_option linter.unusedVariables false

theorem commonL_skip (a b : List Nat) (k : Nat) (ha : k < a.length) (hb : k < b.length) (h : a[k] = b[k]) : commonL (a.drop k) (b.drop k) = commonL (a.drop (k + 1)) (b.drop (k + 1)) + 1 := by
  rw [List.drop_eq_getElem_cons ha, List.drop_eq_getElem_cons hb, h]
  simp [commonL]
theorem commonL_stop (a b : List Nat) (k : Nat) (ha : k < a.length) (hb : k < b.length) (h : a[k] ≠ b[k]) : commonL (a.drop k) (b.drop k) = 0 := by
  rw [List.drop_eq_getElem_cons ha, List.drop_eq_getElem_cons hb]
  simp [commonL, h]
theorem commonL_nil (a b : List Nat) (h : a = [] ∨ b = []) : commonL a b = 0 := by
  rcases h with rfl | rfl
  · cases b <;> rfl
  · cases a <;> rfl

set_option maxHeartbeats 1000000 in
theorem common_some (s t : ByteArray) (a b : List Nat) (w : World) (hs : s.size ≤ 1000000) (ht : t.size ≤ 1000000) (ho : allOk a) (hp : allOk b) (h1 : s.data.toList = encAll a) (h2 : t.data.toList = encAll b) :
    Calls Try.prog 19 #[.string s, .string t] w fun e w' => e = .returned (.int .i64 (commonL a b : Nat)) ∧ Below w.heap.size w w' := by
  have HA := Lib.hid (fun W => list_some s a W hs ho h1)
  have HB := Lib.hid (fun W => list_some t b W ht hp h2)
  have hla : a.length ≤ 1000000 := by have := len_le h1; omega
  have hlb : b.length ≤ 1000000 := by have := len_le h2; omega
  have HO := Lib.hid (okR_lt ho)
  have HP := Lib.hid (okR_lt hp)
  clear h1 h2 ho hp
  go_enter Try.func19, Try.ntmps19
  go_wp2_with fail
  refine (HA.out _).mono ?_
  rintro e w3 ⟨v3, rfl, hb3, hown3⟩
  obtain ⟨a3, c3, rfl, hr3, -⟩ := own_row hown3
  have R3 := Lib.hid hr3
  clear hr3 hown3
  go_wp2_with fail
  refine (HB.out _).mono ?_
  rintro e w4 ⟨v4, rfl, hb4, hown4⟩
  obtain ⟨a4, c4, rfl, hr4, -⟩ := own_row hown4
  have R4 := Lib.hid hr4
  have R5 := Lib.hid (R3.out.below hb4)
  clear hr4 hown4 R3
  have HBB := Lib.hid (hb3.trans (hb4.mono hb3.size))
  clear hb3 hb4
  go_wp2_with fail
  go_loopw [7] (fun i w5 => ∃ k n : Nat, k ≤ a.length ∧ k ≤ b.length ∧ i = .int .i64 k ∧ w5 = w4.drewN n ∧ Hid (commonL a b = commonL (a.drop k) (b.drop k) + k)) (fun i _ => a.length - (intOf i).toNat)
  case atStart => exact ⟨0, 0, Nat.zero_le _, Nat.zero_le _, rfl, rfl, rfl⟩
  case round =>
    obtain ⟨k, n, hka, hkb, rfl, rfl, HC⟩ := hrel
    by_cases hlt : k < a.length
    · by_cases hltb : k < b.length
      · obtain ⟨ba, oa, rfl, hca⟩ := R5.out k (by rw [runeRow_len]; exact hlt)
        rw [runeRow_at] at hca
        obtain ⟨bb, ob, rfl, hcb⟩ := R4.out k (by rw [runeRow_len]; exact hltb)
        rw [runeRow_at] at hcb
        have HK := Lib.hid (commonL_skip a b k hlt hltb)
        have HT := Lib.hid (commonL_stop a b k hlt hltb)
        generalize a[k] = x at *
        generalize b[k] = y at *
        have hI1 : (k : Int) < (a.length : Int) := by omega
        have hI2 : (k : Int) < (b.length : Int) := by omega
        by_cases hz : x = y
        · have hz' : ((x : Int) == (y : Int)) = true := by simp [hz]
          have HZ := Lib.hid hz
          clear hz
          go_wp2_with fail
          go_quiet (fail)
          go_wp2_with fail
          go_roundw
          case rel => exact ⟨k + 1, _, by omega, by omega, by go_num, rfl, by have := HC.out; have := HK.out HZ.out; show _ = _; omega⟩
          case measure => simp [intOf]; omega
        · have hz' : ((x : Int) == (y : Int)) = false := by simp; omega
          have HZ := Lib.hid hz
          clear hz
          go_wp2_with fail
          go_quiet (fail)
          go_wp2_with fail
          go_ret
          refine ⟨ret_int ?_, below_drewN (below_drewN HBB.out _) _⟩
          have := HC.out
          have := HT.out HZ.out
          omega
      · have hI1 : (k : Int) < (a.length : Int) := by omega
        have hI2 : decide ((k : Int) < (b.length : Int)) = false := by simp; omega
        go_wp2_with fail
        go_quiet (fail)
        go_wp2_with fail
        go_ret
        refine ⟨ret_int ?_, below_drewN (below_drewN HBB.out _) _⟩
        have h1 := HC.out
        rw [commonL_nil _ _ (Or.inr (List.drop_of_length_le (by omega)))] at h1
        omega
    · have hI1 : decide ((k : Int) < (a.length : Int)) = false := by simp; omega
      go_wp2_with fail
      go_quiet (fail)
      go_wp2_with fail
      go_ret
      refine ⟨ret_int ?_, below_drewN (below_drewN HBB.out _) _⟩
      have h1 := HC.out
      rw [commonL_nil _ _ (Or.inl (List.drop_of_length_le (by omega)))] at h1
      omega

set_option maxHeartbeats 1000000 in
theorem refCompare_any (a b : List Nat) (aa ab : Option Addr) (ca cb : Nat) (w : World) (hla : a.length ≤ 1000000) (hlb : b.length ≤ 1000000)
    (hra : RowAt w aa (natRow a)) (hrb : RowAt w ab (natRow b)) :
    Calls Try.prog 20 #[.slice aa a.length ca, .slice ab b.length cb] w fun e w' => e = .returned (.int .i64 (cmpL a b)) ∧ Below w.heap.size w w' := by
  have HA := Lib.hid hra
  have HB := Lib.hid hrb
  clear hra hrb
  go_enter Try.func20, Try.ntmps20
  go_wp2_with fail
  go_loopw [5] (fun i w5 => ∃ k n : Nat, k ≤ a.length ∧ k ≤ b.length ∧ i = .int .i64 k ∧ w5 = w.drewN n ∧ Hid (cmpL a b = cmpL (a.drop k) (b.drop k))) (fun i _ => a.length - (intOf i).toNat)
  case atStart => exact ⟨0, 0, Nat.zero_le _, Nat.zero_le _, rfl, rfl, rfl⟩
  case round =>
    obtain ⟨k, n, hka, hkb, rfl, rfl, HC⟩ := hrel
    by_cases hlt : k < a.length
    · by_cases hltb : k < b.length
      · obtain ⟨ba, oa, rfl, hca⟩ := HA.out k (by rw [natRow_len]; exact hlt)
        rw [natRow_at] at hca
        obtain ⟨bb, ob, rfl, hcb⟩ := HB.out k (by rw [natRow_len]; exact hltb)
        rw [natRow_at] at hcb
        have HK := Lib.hid (cmpL_skip a b k hlt hltb)
        have HT := Lib.hid (cmpL_at a b k hlt hltb)
        generalize a[k] = x at *
        generalize b[k] = y at *
        by_cases hz : (x : Int) < y
        · have HZ := Lib.hid (HT.out (by simp [cmp2]; omega))
          have HX := Lib.hid (show cmp2 x y = -1 by simp [cmp2]; omega)
          go_wp2_with fail
          go_quiet (fail)
          go_wp2_with fail
          go_ret
          exact ⟨ret_int (by rw [HC.out, HZ.out, HX.out]), below_drewN (below_drewN (Below.refl _ _) _) _⟩
        · by_cases hz2 : (y : Int) < x
          · have HZ := Lib.hid (HT.out (by simp [cmp2]; omega))
            have HX := Lib.hid (show cmp2 x y = 1 by simp [cmp2]; omega)
            go_wp2_with fail
            go_quiet (fail)
            go_wp2_with fail
            go_quiet (fail)
            go_wp2_with fail
            go_ret
            exact ⟨ret_int (by rw [HC.out, HZ.out, HX.out]), below_drewN (below_drewN (below_drewN (Below.refl _ _) _) _) _⟩
          · have HZ := Lib.hid (HK.out (by omega))
            go_wp2_with fail
            go_quiet (fail)
            go_wp2_with fail
            go_quiet (fail)
            go_wp2_with fail
            go_roundw
            case rel => exact ⟨k + 1, _, by omega, by omega, by go_num, rfl, HC.out.trans HZ.out⟩
            case measure => simp [intOf]; omega
      · obtain rfl : k = b.length := by omega
        have hI : ¬ (a.length : Int) < (b.length : Int) := by omega
        have hI2 : (b.length : Int) < (a.length : Int) := by omega
        go_wp2_with fail
        go_ret
        refine ⟨ret_int ?_, below_drewN (Below.refl _ _) _⟩
        rw [HC.out, List.drop_length, List.drop_eq_getElem_cons hlt]
        rfl
    · obtain rfl : k = a.length := by omega
      by_cases hltb : a.length < b.length
      · have hI : (a.length : Int) < (b.length : Int) := by omega
        go_wp2_with fail
        go_ret
        refine ⟨ret_int ?_, below_drewN (Below.refl _ _) _⟩
        rw [HC.out, List.drop_length, List.drop_eq_getElem_cons hltb]
        rfl
      · have hI : ¬ (a.length : Int) < (b.length : Int) := by omega
        have hI2 : ¬ (b.length : Int) < (a.length : Int) := by omega
        go_wp2_with fail
        go_ret
        refine ⟨ret_int ?_, below_drewN (Below.refl _ _) _⟩
        rw [HC.out, List.drop_length, List.drop_of_length_le (by omega)]
        rfl

def strRow (l : List ByteArray) : List Value := l.map Value.string
theorem strRow_len (l : List ByteArray) : (strRow l).length = l.length := by simp [strRow]
theorem strRow_at (l : List ByteArray) (k : Nat) (h : k < (strRow l).length) : (strRow l)[k] = .string (l[k]'(by rw [← strRow_len]; exact h)) := by simp [strRow]

theorem str_beq (a b : ByteArray) : (a.toList == b.toList) = decide (a = b) := by
  rw [Bool.eq_iff_iff]
  simp only [beq_iff_eq, decide_eq_true_eq, Lib.toList_data]
  exact ⟨str_ext, fun h => by rw [h]⟩

set_option maxHeartbeats 1000000 in
theorem sameTexts_any (a b : List ByteArray) (aa ab : Option Addr) (ca cb : Nat) (w : World) (hla : a.length ≤ 1000000) (hlb : b.length ≤ 1000000)
    (hra : RowAt w aa (strRow a)) (hrb : RowAt w ab (strRow b)) :
    Calls Try.prog 14 #[.slice aa a.length ca, .slice ab b.length cb] w fun e w' => e = .returned (.bool (decide (a = b))) ∧ Below w.heap.size w w' := by
  have HA := Lib.hid hra
  have HB := Lib.hid hrb
  clear hra hrb
  by_cases hl : a.length = b.length
  · have hl' : ((a.length : Int) != (b.length : Int)) = false := by simp [hl]
    have HL := Lib.hid hl
    clear hl
    go_enter Try.func14, Try.ntmps14
    go_wp2_with fail
    go_loopw [13] (fun i w5 => ∃ k n : Nat, k ≤ a.length ∧ i = .int .i64 k ∧ w5 = w.drewN n ∧ Hid (a.take k = b.take k)) (fun i _ => a.length - (intOf i).toNat)
    case atStart => exact ⟨0, 0, Nat.zero_le _, rfl, rfl, rfl⟩
    case round =>
      obtain ⟨k, n, hka, rfl, rfl, HC⟩ := hrel
      by_cases hlt : k < a.length
      · have hltb : k < b.length := by have := HL.out; omega
        obtain ⟨ba, oa, rfl, hca⟩ := HA.out k (by rw [strRow_len]; exact hlt)
        rw [strRow_at] at hca
        obtain ⟨bb, ob, rfl, hcb⟩ := HB.out k (by rw [strRow_len]; exact hltb)
        rw [strRow_at] at hcb
        have HK := Lib.hid (fun h : a[k] = b[k] => show a.take (k + 1) = b.take (k + 1) by rw [List.take_succ_eq_append_getElem hlt, List.take_succ_eq_append_getElem hltb, HC.out, h])
        have HT := Lib.hid (fun (h : a[k] ≠ b[k]) (h2 : a = b) => h (by simp only [h2]))
        generalize a[k] = x at *
        generalize b[k] = y at *
        by_cases hz : x = y
        · have hz' : (!(x.toList == y.toList)) = false := by rw [str_beq]; simp [hz]
          have hz2 : (x.toList == y.toList) = true := by rw [str_beq]; simp [hz]
          have HZ := Lib.hid (HK.out hz)
          clear hz
          go_wp2_with fail
          go_quiet (fail)
          go_wp2_with fail
          go_roundw
          case rel => exact ⟨k + 1, _, by omega, by go_num, rfl, HZ.out⟩
          case measure => simp [intOf]; omega
        · have hz' : (!(x.toList == y.toList)) = true := by rw [str_beq]; simp [hz]
          have hz2 : (x.toList == y.toList) = false := by rw [str_beq]; simp [hz]
          have HZ := Lib.hid (HT.out hz)
          clear hz
          go_wp2_with fail
          go_quiet (fail)
          go_wp2_with fail
          go_ret
          refine ⟨?_, below_drewN (below_drewN (Below.refl _ _) _) _⟩
          rw [decide_eq_false HZ.out]
          rfl
      · obtain rfl : k = a.length := by omega
        go_wp2_with fail
        go_ret
        refine ⟨?_, below_drewN (Below.refl _ _) _⟩
        have h1 := HC.out
        rw [List.take_length, HL.out, List.take_length] at h1
        rw [decide_eq_true h1]
        rfl
  · have hl' : ((a.length : Int) != (b.length : Int)) = true := by simp; omega
    have HL := Lib.hid (show ¬ a = b from fun h => hl (by rw [h]))
    clear hl
    go_enter Try.func14, Try.ntmps14
    go_wp2_with fail
    go_ret
    refine ⟨?_, Below.refl _ _⟩
    rw [decide_eq_false HL.out]
    rfl
end Go.Proofs.Ythfjpikloanekaa
