/-
  runes.list, Count, cut, First, Rest.
-/
import Derived.Test.YthfjpikloanekaaRight
import Derived.Test.YthfjpikloanekaaRefRunes
import Derived.Laws.IdiomStrings
namespace Go.Proofs.Ythfjpikloanekaa
open Go.RowKit Utf
set_option maxRecDepth 100000
set_option linter.unusedSimpArgs false
set_option linter.unusedVariables false

/-- Where the k-th rune begins. -/
def off (rs : List Nat) (k : Nat) : Nat := (encAll (rs.take k)).length
theorem off_zero (rs : List Nat) : off rs 0 = 0 := rfl
theorem off_all {s : ByteArray} {rs : List Nat} (h : s.data.toList = encAll rs) : off rs rs.length = s.size := by
  unfold off
  rw [List.take_length, ← h, ← Lib.size_eq]
theorem off_succ (rs : List Nat) (k : Nat) (hk : k < rs.length) : off rs (k + 1) = off rs k + (enc rs[k]).length := by
  unfold off
  rw [List.take_succ_eq_append_getElem hk, encAll_append, List.length_append, encAll_cons, encAll_nil, List.append_nil]
theorem off_lt {s : ByteArray} {rs : List Nat} (h : s.data.toList = encAll rs) (k : Nat) (hk : k < rs.length) : off rs k < s.size := by
  have h2 := enc_length rs[k]
  have h3 : s.size = (encAll rs).length := by rw [← h, ← Lib.size_eq]
  have h4 : encAll rs = encAll (rs.take k) ++ encAll (rs.drop k) := by rw [← encAll_append, List.take_append_drop]
  rw [h3, h4, List.length_append, List.drop_eq_getElem_cons hk, encAll_cons, List.length_append, off]
  omega
theorem off_le {s : ByteArray} {rs : List Nat} (h : s.data.toList = encAll rs) (k : Nat) : off rs k ≤ s.size := by
  have h3 : s.size = (encAll rs).length := by rw [← h, ← Lib.size_eq]
  have h4 : encAll rs = encAll (rs.take k) ++ encAll (rs.drop k) := by rw [← encAll_append, List.take_append_drop]
  rw [h3, h4, List.length_append]
  exact Nat.le_add_right _ _
theorem off_drop {s : ByteArray} {rs : List Nat} (h : s.data.toList = encAll rs) (k : Nat) : s.data.toList.drop (off rs k) = encAll (rs.drop k) := by
  have h4 : encAll rs = encAll (rs.take k) ++ encAll (rs.drop k) := by rw [← encAll_append, List.take_append_drop]
  rw [h, h4, off, List.drop_left]
theorem off_take {s : ByteArray} {rs : List Nat} (h : s.data.toList = encAll rs) (k : Nat) : s.data.toList.take (off rs k) = encAll (rs.take k) := by
  have h4 : encAll rs = encAll (rs.take k) ++ encAll (rs.drop k) := by rw [← encAll_append, List.take_append_drop]
  rw [h, h4, off, List.take_left]
theorem len_le {s : ByteArray} {rs : List Nat} (h : s.data.toList = encAll rs) : rs.length ≤ s.size := by
  have := encAll_length rs
  rw [← h, ← Lib.size_eq] at this
  exact this

theorem decode_off {s : ByteArray} {rs : List Nat} (ho : allOk rs) (h : s.data.toList = encAll rs) (k : Nat) (hk : k < rs.length) : Utf8.decode s (off rs k) = (rs[k], (enc rs[k]).length) := by
  rw [decode_dec1 s _ (off_lt h k hk), off_drop h k, List.drop_eq_getElem_cons hk, encAll_cons, dec1_enc _ (ho _ (List.getElem_mem hk))]
  rfl

/-- 'next' on the iterator of a right text. -/
theorem next_off {P : Program} {s : ByteArray} {rs : List Nat} (ho : allOk rs) (h : s.data.toList = encAll rs) (w : World) (k : Nat) (hk : k < rs.length) (ty : TypeId) :
    (Instr.next (.pointer (some ⟨w.heap.size, 0, none⟩)) true ty).run P (w.iter s (off rs k)) = .ok (.tuple #[.bool true, .int .i64 (off rs k), .int .i32 (rs[k] : Int)]) (w.iter s (off rs (k + 1))) := by
  rw [run_next_any w s _ ty (off_lt h k hk), decode_off ho h k hk, off_succ rs k hk]
theorem next_off_end {P : Program} {s : ByteArray} {rs : List Nat} (h : s.data.toList = encAll rs) (w : World) (ty : TypeId) :
    (Instr.next (.pointer (some ⟨w.heap.size, 0, none⟩)) true ty).run P (w.iter s (off rs rs.length)) = .ok (.tuple #[.bool false]) (w.iter s (off rs rs.length)) :=
  run_next_end w s _ ty (by rw [off_all h]; omega)

def runeRow (rs : List Nat) : List Value := rs.map fun (c : Nat) => Value.int .i32 (c : Int)
theorem runeRow_len (rs : List Nat) : (runeRow rs).length = rs.length := by simp [runeRow]

theorem runesFrom_off {s : ByteArray} {rs : List Nat} (ho : allOk rs) (h : s.data.toList = encAll rs) : ∀ (m bound k : Nat) (acc : Array Value), m = rs.length - k → k ≤ rs.length → m ≤ bound →
    Conv.runesFrom s bound (off rs k) acc = acc ++ (runeRow (rs.drop k)).toArray := by
  intro m
  induction m with
  | zero =>
    intro bound k acc hm hk hb
    obtain rfl : k = rs.length := by omega
    rw [off_all h]
    cases bound <;> simp [Conv.runesFrom, runeRow]
  | succ m ih =>
    intro bound k acc hm hk hb
    have hlt : k < rs.length := by omega
    cases bound with
    | zero => omega
    | succ bound =>
      unfold Conv.runesFrom
      rw [if_pos (off_lt h k hlt), decode_off ho h k hlt]
      have := ih bound (k + 1) (acc.push (.int .i32 (Int.ofNat rs[k]))) (by omega) (by omega) (by omega)
      rw [off_succ rs k hlt] at this
      simp only
      have e : List.drop k rs = rs[k] :: List.drop (k + 1) rs := List.drop_eq_getElem_cons hlt
      rw [this, e]
      generalize List.drop (k + 1) rs = t
      simp [runeRow]
theorem runesFrom_all {s : ByteArray} {rs : List Nat} (ho : allOk rs) (h : s.data.toList = encAll rs) : Conv.runesFrom s s.size 0 #[] = (runeRow rs).toArray := by
  have := runesFrom_off ho h rs.length s.size 0 #[] (by omega) (Nat.zero_le _) (len_le h)
  rw [off_zero] at this
  rw [this]; simp

set_option maxHeartbeats 400000 in
theorem list_none (s : ByteArray) (w : World) (hs : s.size ≤ maxLen) (hd : dec s.data.toList = none) :
    Calls Try.prog 22 #[.string s] w fun e w' => e = .returned (.slice none 0 0) ∧ Below w.heap.size w w' := by
  have HD := Lib.hid hd
  clear hd
  go_enter Try.func22, Try.ntmps22
  go_wp2_with (go_at_call 12; refine (right_any _ _ hs).mono ?_; rintro e w' ⟨rfl, hb⟩; rw [HD.out])
  go_ret
  exact ⟨rfl, by assumption⟩

set_option maxHeartbeats 400000 in
theorem list_some (s : ByteArray) (rs : List Nat) (w : World) (hs : s.size ≤ 1000000) (ho : allOk rs) (h : s.data.toList = encAll rs) :
    Calls Try.prog 22 #[.string s] w fun e w' => ∃ v, e = .returned v ∧ Below w.heap.size w w' ∧ w'.ownsRow w.heap.size 21 1 v rs.length (runeRow rs) := by
  have hs' : s.size ≤ maxLen := by unfold maxLen; omega
  have hd := dec_encAll ho
  rw [← h] at hd
  have hl := len_le h
  have hcv : ∀ W : World, (convert 9 40 (.string s)).run Try.prog W = _ := fun W => run_runes_of_string W 9 40 21 s Try.underlying9 Try.underlying40 Try.underlying21 (by rw [runesFrom_all ho h]; simp [runeRow]; omega)
  rw [runesFrom_all ho h] at hcv
  have hrl : (runeRow rs).toArray.size = rs.length := by simp [runeRow]
  rw [hrl] at hcv
  have HD := Lib.hid hd
  have HO := Lib.hid h
  have HL := Lib.hid hrl
  clear hd h hrl
  go_enter Try.func22, Try.ntmps22
  go_wp2_with fail
  refine (right_any _ _ hs').mono ?_
  rintro e w1 ⟨rfl, hb1⟩
  rw [HD.out]
  have HW1 := Lib.hid hb1.size
  go_wp2_with fail
  go_ret
  refine ⟨_, rfl, ?_, ?_⟩
  · exact hb1.drew.alloc HW1.out _
  · have hge := grownCap_ge w1 rs.length 0 21
    have hle := grownCap_le_maxLen w1 rs.length 0 21 (by unfold maxLen; omega)
    refine ⟨by simp [runeRow], .inr ⟨_, _, _, rfl, HW1.out, heap_alloc_new w1.drew _, hge, hle, ?_, ?_⟩⟩
    · rw [Array.size_append, HL.out]; simp; omega
    · simp [runeRow]

set_option maxHeartbeats 400000 in
theorem count_none (s : ByteArray) (w : World) (hs : s.size ≤ maxLen) (hd : dec s.data.toList = none) :
    Calls Try.prog 21 #[.string s] w fun e w' => e = .returned (.int .i64 (-1)) ∧ Below w.heap.size w w' := by
  have HD := Lib.hid hd
  clear hd
  go_enter Try.func21, Try.ntmps21
  go_wp2_with fail
  refine (right_any _ _ hs).mono ?_
  rintro e w1 ⟨rfl, hb1⟩
  rw [HD.out]
  go_wp2_with fail
  go_ret
  exact ⟨rfl, hb1⟩

set_option maxHeartbeats 400000 in
theorem count_some (s : ByteArray) (rs : List Nat) (w : World) (hs : s.size ≤ 1000000) (ho : allOk rs) (h : s.data.toList = encAll rs) :
    Calls Try.prog 21 #[.string s] w fun e w' => e = .returned (.int .i64 rs.length) ∧ Below w.heap.size w w' := by
  have hs' : s.size ≤ maxLen := by unfold maxLen; omega
  have hd := dec_encAll ho
  rw [← h] at hd
  have hl := len_le h
  have HN := Lib.hid (fun (w : World) k hk ty => next_off (P := Try.prog) ho h w k hk ty)
  have HE := Lib.hid (fun (w : World) ty => next_off_end (P := Try.prog) h w ty)
  have HLE := Lib.hid (fun k => off_le h k)
  have HLT := Lib.hid (fun k hk => off_lt h k hk)
  have HS := Lib.hid (off_succ rs)
  have HP := Lib.hid (fun c => enc_length c)
  have HD := Lib.hid hd
  clear hd h
  go_enter Try.func21, Try.ntmps21
  go_wp2_with fail
  refine (right_any _ _ hs').mono ?_
  rintro e w1 ⟨rfl, hb1⟩
  rw [HD.out]
  go_wp2_with fail
  go_loopw [3] (fun n w2 => ∃ k : Nat, k ≤ rs.length ∧ n = .int .i64 k ∧ w2 = w1.iter s (off rs k)) (fun _ w2 => s.size - w2.iterPos w1.heap.size)
  case atStart => exact ⟨0, Nat.zero_le _, rfl, rfl⟩
  case round =>
    obtain ⟨k, hk, rfl, rfl⟩ := hrel
    by_cases hlt : k < rs.length
    · have hnx := HN.out w1 k hlt
      go_wp2_with fail
      go_roundw
      case rel => exact ⟨k + 1, by omega, by go_num, rfl⟩
      case measure => have := HLT.out k hlt; have := HS.out k hlt; have := HP.out rs[k]; simp; omega
    · obtain rfl : k = rs.length := by omega
      have hnx := HE.out w1
      go_wp2_with fail
      go_ret
      exact ⟨rfl, hb1.alloc hb1.size _⟩

set_option maxHeartbeats 400000 in
theorem cut_some (s : ByteArray) (rs : List Nat) (n : Int) (w : World) (hs : s.size ≤ 1000000) (ho : allOk rs) (h : s.data.toList = encAll rs) (hn : -9223372036854775808 ≤ n ∧ n ≤ 9223372036854775807) :
    Calls Try.prog 25 #[.string s, .int .i64 n] w fun e w' => e = .returned (.int .i64 (off rs (min n.toNat rs.length) : Nat)) ∧ Below w.heap.size w w' := by
  have hl := len_le h
  have HN := Lib.hid (fun (w : World) k hk ty => next_off (P := Try.prog) ho h w k hk ty)
  have HE := Lib.hid (fun (w : World) ty => next_off_end (P := Try.prog) h w ty)
  have HLT := Lib.hid (fun k hk => off_lt h k hk)
  have HA := Lib.hid (off_all h)
  have HS := Lib.hid (off_succ rs)
  have HP := Lib.hid (fun c => enc_length c)
  clear h
  obtain ⟨hn1, hn2⟩ := hn
  go_enter Try.func25, Try.ntmps25
  go_wp2_with fail
  go_loopw [1] (fun v w2 => ∃ (k : Nat) (m : Int), k ≤ rs.length ∧ v = .int .i64 m ∧ w2 = w.iter s (off rs k) ∧ m = n - k ∧ (0 ≤ m ∨ k = 0)) (fun _ w2 => s.size - w2.iterPos w.heap.size)
  case atStart => exact ⟨0, n, Nat.zero_le _, rfl, rfl, by simp, Or.inr rfl⟩
  case round =>
    obtain ⟨k, m, hk, rfl, rfl, hm, hm0⟩ := hrel
    have HM := Lib.hid hm
    clear hm
    have HM0 := Lib.hid hm0
    clear hm0
    by_cases hlt : k < rs.length
    · have hnx := HN.out w k hlt
      by_cases hz : m ≤ 0
      · go_wp2_with fail
        go_ret
        refine ⟨ret_int ?_, (Below.refl _ _).alloc (Nat.le_refl _) _⟩
        have := HM.out
        have := HM0.out
        have e : min n.toNat rs.length = k := by omega
        rw [e]
      · have hm1 : 1 ≤ m := by omega
        have hm2 : m ≤ 9223372036854775807 := by have := HM.out; omega
        go_wp2_with fail
        go_roundw
        case rel => exact ⟨k + 1, m - 1, by omega, by go_num, rfl, by have := HM.out; omega, by omega⟩
        case measure => have := HLT.out k hlt; have := HS.out k hlt; have := HP.out rs[k]; simp; omega
    · obtain rfl : k = rs.length := by omega
      have hnx := HE.out w
      go_wp2_with fail
      go_ret
      refine ⟨ret_int ?_, (Below.refl _ _).alloc (Nat.le_refl _) _⟩
      have := HM.out
      have := HM0.out
      have e : min n.toNat rs.length = rs.length := by omega
      rw [e, HA.out]

set_option maxHeartbeats 400000 in
theorem first_none (s : ByteArray) (n : Int) (w : World) (hs : s.size ≤ maxLen) (hd : dec s.data.toList = none) :
    Calls Try.prog 16 #[.string s, .int .i64 n] w fun e w' => e = .returned (.string ByteArray.empty) ∧ Below w.heap.size w w' := by
  have HD := Lib.hid hd
  clear hd
  go_enter Try.func16, Try.ntmps16
  go_wp2_with fail
  refine (right_any _ _ hs).mono ?_
  rintro e w1 ⟨rfl, hb1⟩
  rw [HD.out]
  go_wp2_with fail
  go_ret
  exact ⟨rfl, hb1⟩
set_option maxHeartbeats 400000 in
theorem rest_none (s : ByteArray) (n : Int) (w : World) (hs : s.size ≤ maxLen) (hd : dec s.data.toList = none) :
    Calls Try.prog 17 #[.string s, .int .i64 n] w fun e w' => e = .returned (.string ByteArray.empty) ∧ Below w.heap.size w w' := by
  have HD := Lib.hid hd
  clear hd
  go_enter Try.func17, Try.ntmps17
  go_wp2_with fail
  refine (right_any _ _ hs).mono ?_
  rintro e w1 ⟨rfl, hb1⟩
  rw [HD.out]
  go_wp2_with fail
  go_ret
  exact ⟨rfl, hb1⟩

/-- The text of a row of bytes. -/
def mkS (l : List UInt8) : ByteArray := ⟨l.toArray⟩
theorem mkS_data (l : List UInt8) : (mkS l).data.toList = l := rfl
theorem mkS_size (l : List UInt8) : (mkS l).size = l.length := by rw [Lib.size_eq, mkS_data]

set_option maxHeartbeats 400000 in
theorem first_some (s : ByteArray) (rs : List Nat) (n : Int) (w : World) (hs : s.size ≤ 1000000) (ho : allOk rs) (h : s.data.toList = encAll rs) (hn : -9223372036854775808 ≤ n ∧ n ≤ 9223372036854775807) :
    Calls Try.prog 16 #[.string s, .int .i64 n] w fun e w' => e = .returned (.string (mkS (encAll (rs.take n.toNat)))) ∧ Below w.heap.size w w' := by
  have hs' : s.size ≤ maxLen := by unfold maxLen; omega
  have hd := dec_encAll ho
  rw [← h] at hd
  have hle := off_le h (min n.toNat rs.length)
  have HT := Lib.hid (off_take h (min n.toNat rs.length))
  have HC := Lib.hid (fun (W : World) => cut_some s rs n W hs ho h hn)
  have HD := Lib.hid hd
  clear hd h hn
  go_enter Try.func16, Try.ntmps16
  go_wp2_with fail
  refine (right_any _ _ hs').mono ?_
  rintro e w1 ⟨rfl, hb1⟩
  rw [HD.out]
  go_wp2_with fail
  refine (HC.out _).mono ?_
  rintro e w2 ⟨rfl, hb2⟩
  generalize hp : off rs (min n.toNat rs.length) = p at *
  have HPp := Lib.hid hp
  clear hp
  have hp2 : p ≤ 9223372036854775807 := by omega
  go_wp2_with fail
  go_ret
  refine ⟨?_, hb1.trans (hb2.mono hb1.size)⟩
  refine ret_str ?_
  rw [mkS_data, Lib.extract_data, List.drop_zero, Nat.sub_zero, HT.out]
  congr 1
  rw [List.take_eq_take_iff]
  omega

set_option maxHeartbeats 400000 in
theorem rest_some (s : ByteArray) (rs : List Nat) (n : Int) (w : World) (hs : s.size ≤ 1000000) (ho : allOk rs) (h : s.data.toList = encAll rs) (hn : -9223372036854775808 ≤ n ∧ n ≤ 9223372036854775807) :
    Calls Try.prog 17 #[.string s, .int .i64 n] w fun e w' => e = .returned (.string (mkS (encAll (rs.drop n.toNat)))) ∧ Below w.heap.size w w' := by
  have hs' : s.size ≤ maxLen := by unfold maxLen; omega
  have hd := dec_encAll ho
  rw [← h] at hd
  have hle := off_le h (min n.toNat rs.length)
  have HT := Lib.hid (off_drop h (min n.toNat rs.length))
  have HC := Lib.hid (fun (W : World) => cut_some s rs n W hs ho h hn)
  have HD := Lib.hid hd
  clear hd h hn
  go_enter Try.func17, Try.ntmps17
  go_wp2_with fail
  refine (right_any _ _ hs').mono ?_
  rintro e w1 ⟨rfl, hb1⟩
  rw [HD.out]
  go_wp2_with fail
  refine (HC.out _).mono ?_
  rintro e w2 ⟨rfl, hb2⟩
  generalize hp : off rs (min n.toNat rs.length) = p at *
  have HPp := Lib.hid hp
  clear hp
  have hp2 : p ≤ 9223372036854775807 := by omega
  go_wp2_with fail
  go_ret
  refine ⟨?_, hb1.trans (hb2.mono hb1.size)⟩
  refine ret_str ?_
  rw [mkS_data, Lib.extract_data, HT.out, List.take_of_length_le]
  · congr 1
    by_cases hle2 : n.toNat ≤ rs.length
    · rw [Nat.min_eq_left hle2]
    · rw [Nat.min_eq_right (by omega), List.drop_length, List.drop_of_length_le (by omega)]
  · rw [← HT.out, List.length_drop, ← Lib.size_eq]
    omega
end Go.Proofs.Ythfjpikloanekaa
