/-
  For every two texts the law RunesCompare returns true: runes.Compare and runes.Common are the document's, and Compare is the order of the bytes.
  Conditions: none beyond the row's own reach.
-/
import Derived.Test.YthfjpikloanekaaRunesAlive
import Derived.Test.YthfjpikloanekaaRunesOrd
import Derived.ProofKit
import Derived.OpenShut
import Derived.ShutString
import Derived.ChangeOld
import Derived.Below
namespace Go.Proofs.Ythfjpikloanekaa.runesCompare
open Go.ChangeShapes Go.WideShapes Go.ChangeAt Go.RowKit Utf
open Go.ChangeMaps (open_string shut_string)
set_option linter.unusedVariables false
set_option linter.unusedSimpArgs false
set_option maxRecDepth 100000

set_option maxHeartbeats 1000000 in
theorem common_gen (s t : ByteArray) (a b : List Nat) (w : World) (hla : a.length ≤ 1000000) (hlb : b.length ≤ 1000000)
    (hA : ∀ W, Calls Try.prog 22 #[.string s] W fun e w' => ∃ v, e = .returned v ∧ Below W.heap.size W w' ∧ w'.ownsRow W.heap.size 21 1 v a.length (runeRow a))
    (hB : ∀ W, Calls Try.prog 22 #[.string t] W fun e w' => ∃ v, e = .returned v ∧ Below W.heap.size W w' ∧ w'.ownsRow W.heap.size 21 1 v b.length (runeRow b)) :
    Calls Try.prog 19 #[.string s, .string t] w fun e w' => e = .returned (.int .i64 (commonL a b : Nat)) ∧ Below w.heap.size w w' := by
  have HA := Lib.hid hA
  have HB := Lib.hid hB
  clear hA hB
  go_enter Try.func19, Try.ntmps19
  go_wp2_with fail
  refine (HA.out _).mono ?_
  rintro e w3 ⟨v3, rfl, hb3, hown3⟩
  obtain ⟨a3, c3, rfl, hr3, -⟩ := own_row hown3
  have R3 := Lib.hid hr3
  clear hr3 hown3
  go_wp2_with fail
  refine (HB.out _).mono ?_
  rintro e w4 ⟨v4, rfl, hb4, hown4⟩
  obtain ⟨a4, c4, rfl, hr4, -⟩ := own_row hown4
  have R4 := Lib.hid hr4
  have R5 := Lib.hid (R3.out.below hb4)
  clear hr4 hown4 R3
  have HBB := Lib.hid (hb3.trans (hb4.mono hb3.size))
  clear hb3 hb4
  go_wp2_with fail
  go_loopw [7] (fun i w5 => ∃ k n : Nat, k ≤ a.length ∧ k ≤ b.length ∧ i = .int .i64 k ∧ w5 = w4.drewN n ∧ Hid (commonL a b = commonL (a.drop k) (b.drop k) + k)) (fun i _ => a.length - (intOf i).toNat)
  case atStart => exact ⟨0, 0, Nat.zero_le _, Nat.zero_le _, rfl, rfl, rfl⟩
  case round =>
    obtain ⟨k, n, hka, hkb, rfl, rfl, HC⟩ := hrel
    by_cases hlt : k < a.length
    · by_cases hltb : k < b.length
      · obtain ⟨ba, oa, rfl, hca⟩ := R5.out k (by rw [runeRow_len]; exact hlt)
        rw [runeRow_at] at hca
        obtain ⟨bb, ob, rfl, hcb⟩ := R4.out k (by rw [runeRow_len]; exact hltb)
        rw [runeRow_at] at hcb
        have HK := Lib.hid (commonL_skip a b k hlt hltb)
        have HT := Lib.hid (commonL_stop a b k hlt hltb)
        generalize a[k] = x at *
        generalize b[k] = y at *
        have hI1 : (k : Int) < (a.length : Int) := by omega
        have hI2 : (k : Int) < (b.length : Int) := by omega
        by_cases hz : x = y
        · have hz' : ((x : Int) == (y : Int)) = true := by simp [hz]
          have HZ := Lib.hid hz
          clear hz
          go_wp2_with fail
          go_quiet (fail)
          go_wp2_with fail
          go_roundw
          case rel => exact ⟨k + 1, _, by omega, by omega, by go_num, rfl, by have := HC.out; have := HK.out HZ.out; show _ = _; omega⟩
          case measure => simp [intOf]; omega
        · have hz' : ((x : Int) == (y : Int)) = false := by simp; omega
          have HZ := Lib.hid hz
          clear hz
          go_wp2_with fail
          go_quiet (fail)
          go_wp2_with fail
          go_ret
          refine ⟨ret_int ?_, below_drewN (below_drewN HBB.out _) _⟩
          have := HC.out
          have := HT.out HZ.out
          omega
      · have hI1 : (k : Int) < (a.length : Int) := by omega
        have hI2 : decide ((k : Int) < (b.length : Int)) = false := by simp; omega
        go_wp2_with fail
        go_quiet (fail)
        go_wp2_with fail
        go_ret
        refine ⟨ret_int ?_, below_drewN (below_drewN HBB.out _) _⟩
        have h1 := HC.out
        rw [commonL_nil _ _ (Or.inr (List.drop_of_length_le (by omega)))] at h1
        omega
    · have hI1 : decide ((k : Int) < (a.length : Int)) = false := by simp; omega
      go_wp2_with fail
      go_quiet (fail)
      go_wp2_with fail
      go_ret
      refine ⟨ret_int ?_, below_drewN (below_drewN HBB.out _) _⟩
      have h1 := HC.out
      rw [commonL_nil _ _ (Or.inl (List.drop_of_length_le (by omega)))] at h1
      omega

theorem list_nil (s : ByteArray) (hs : s.size ≤ maxLen) (hd : dec s.data.toList = none) (W : World) :
    Calls Try.prog 22 #[.string s] W fun e w' => ∃ v, e = .returned v ∧ Below W.heap.size W w' ∧ w'.ownsRow W.heap.size 21 1 v ([] : List Nat).length (runeRow []) :=
  (list_none s W hs hd).mono fun _ _ ⟨h1, h2⟩ => ⟨_, h1, h2, World.ownsRow_nil _ _ _ _⟩
theorem list_any (s : ByteArray) (hs : s.size ≤ 1000000) : ∃ a : List Nat, a.length ≤ 1000000 ∧ (dec s.data.toList = none → a = []) ∧ ∀ W, Calls Try.prog 22 #[.string s] W fun e w' => ∃ v, e = .returned v ∧ Below W.heap.size W w' ∧ w'.ownsRow W.heap.size 21 1 v a.length (runeRow a) := by
  cases hd : dec s.data.toList with
  | none => exact ⟨[], by simp, fun _ => rfl, list_nil s (by unfold maxLen; omega) hd⟩
  | some a =>
    obtain ⟨ho, h⟩ := dec_some hd
    exact ⟨a, by have := len_le h; omega, fun h' => (by cases h'), fun W => list_some s a W hs ho h⟩
theorem common_none (s t : ByteArray) (w : World) (hs : s.size ≤ 1000000) (ht : t.size ≤ 1000000) (hd : dec s.data.toList = none ∨ dec t.data.toList = none) :
    Calls Try.prog 19 #[.string s, .string t] w fun e w' => e = .returned (.int .i64 0) ∧ Below w.heap.size w w' := by
  obtain ⟨a, ha, ha0, hA⟩ := list_any s hs
  obtain ⟨b, hb, hb0, hB⟩ := list_any t ht
  refine (common_gen s t a b w ha hb hA hB).mono fun e w' ⟨h1, h2⟩ => ⟨?_, h2⟩
  rw [h1, commonL_nil a b (hd.imp ha0 hb0)]
  rfl

/-- What the order of the runes says of the texts. -/
theorem order_facts {s t : ByteArray} {a b : List Nat} (ho : allOk a) (hp : allOk b) (h1 : s.data.toList = encAll a) (h2 : t.data.toList = encAll b) :
    Op.bytesLess s.toList t.toList = decide (cmpL a b < 0) ∧ (s.toList == t.toList) = decide (cmpL a b = 0) := by
  rw [Lib.toList_data, Lib.toList_data, h1, h2]
  refine ⟨cmpL_lt_iff ho hp, ?_⟩
  rw [← cmpL_eq_iff ho hp]
  rw [Bool.eq_iff_iff]; simp

set_option maxHeartbeats 4000000 in
theorem walk (s t : ByteArray) (w : World) (hm : s.size ≤ maxLen) (hm2 : t.size ≤ maxLen) :
    Calls Try.prog 6 #[.string s, .string t] w fun e w' => e = .returned (.bool true) ∧ Below w.heap.size w w' := by
  by_cases h300 : (300 : Int) < (s.size : Int)
  · unfold maxLen at hm hm2
    go_enter Try.func6, Try.ntmps6
    go_wp2_with fail
    refine (alive_any _).mono ?_
    rintro e w1 ⟨rfl, hb1⟩
    go_wp2_with fail
    go_ret
    exact ⟨rfl, hb1⟩
  · by_cases h301 : (300 : Int) < (t.size : Int)
    · unfold maxLen at hm hm2
      go_enter Try.func6, Try.ntmps6
      go_wp2_with fail
      refine (alive_any _).mono ?_
      rintro e w1 ⟨rfl, hb1⟩
      go_wp2_with fail
      go_ret
      exact ⟨rfl, hb1⟩
    · have hs : s.size ≤ 1000000 := by omega
      have ht : t.size ≤ 1000000 := by omega
      have HRS := Lib.hid (fun W => refRunes_any s W hs)
      have HRT := Lib.hid (fun W => refRunes_any t W ht)
      cases hd : dec s.data.toList with
      | none =>
        have HD := Lib.hid hd
        have HC := Lib.hid (fun W => compare_none s t W hm hm2 (.inl hd))
        have HM := Lib.hid (fun W => common_none s t W hs ht (.inl hd))
        clear hd
        unfold maxLen at hm hm2
        go_enter Try.func6, Try.ntmps6
        go_wp2_with fail
        refine (alive_any _).mono ?_
        rintro e w1 ⟨rfl, hb1⟩
        go_wp2_with fail
        refine (HRS.out _).mono ?_
        rintro e w2 ⟨v2, rfl, hb2, -, -⟩
        rw [HD.out]
        go_wp2_with fail
        refine (HRT.out _).mono ?_
        rintro e w3 ⟨v3, rfl, hb3, -, -⟩
        go_wp2_with fail
        refine (HC.out _).mono ?_
        rintro e w4 ⟨rfl, hb4⟩
        go_wp2_with fail
        refine (HM.out _).mono ?_
        rintro e w5 ⟨rfl, hb5⟩
        have B2 := hb1.trans (hb2.mono hb1.size)
        have B3 := B2.trans (hb3.mono B2.size)
        have B4 := B3.trans (hb4.mono B3.size)
        have B5 := Lib.hid (B4.trans (hb5.mono B4.size))
        clear B2 B3 B4 hb1 hb2 hb3 hb4 hb5
        go_wp2_with fail
        go_ret
        exact ⟨rfl, B5.out⟩
      | some a =>
        obtain ⟨ho, h1⟩ := dec_some hd
        have HD := Lib.hid hd
        cases hd2 : dec t.data.toList with
        | none =>
          have HD2 := Lib.hid hd2
          have HC := Lib.hid (fun W => compare_none s t W hm hm2 (.inr hd2))
          have HM := Lib.hid (fun W => common_none s t W hs ht (.inr hd2))
          clear hd hd2 h1 ho
          unfold maxLen at hm hm2
          go_enter Try.func6, Try.ntmps6
          go_wp2_with fail
          refine (alive_any _).mono ?_
          rintro e w1 ⟨rfl, hb1⟩
          go_wp2_with fail
          refine (HRS.out _).mono ?_
          rintro e w2 ⟨v2, rfl, hb2, -, -⟩
          rw [HD.out]
          go_wp2_with fail
          refine (HRT.out _).mono ?_
          rintro e w3 ⟨v3, rfl, hb3, -, -⟩
          rw [HD2.out]
          go_wp2_with fail
          refine (HC.out _).mono ?_
          rintro e w4 ⟨rfl, hb4⟩
          go_wp2_with fail
          refine (HM.out _).mono ?_
          rintro e w5 ⟨rfl, hb5⟩
          have B2 := hb1.trans (hb2.mono hb1.size)
          have B3 := B2.trans (hb3.mono B2.size)
          have B4 := B3.trans (hb4.mono B3.size)
          have B5 := Lib.hid (B4.trans (hb5.mono B4.size))
          clear B2 B3 B4 hb1 hb2 hb3 hb4 hb5
          go_wp2_with fail
          go_ret
          exact ⟨rfl, B5.out⟩
        | some b =>
          obtain ⟨hp, h2⟩ := dec_some hd2
          have HD2 := Lib.hid hd2
          have hla : a.length ≤ 1000000 := by have := len_le h1; omega
          have hlb : b.length ≤ 1000000 := by have := len_le h2; omega
          have HC := Lib.hid (fun W => compare_some s t a b W hs ht ho hp h1 h2)
          have HC2 := Lib.hid (fun W => compare_some t s b a W ht hs hp ho h2 h1)
          have HM := Lib.hid (fun W => common_some s t a b W hs ht ho hp h1 h2)
          have HR := Lib.hid (fun W aa ab ca cb => refCompare_any a b aa ab ca cb W hla hlb)
          obtain ⟨hlt, heq⟩ := order_facts ho hp h1 h2
          have hflip := cmpL_flip a b
          have hrange := cmpL_range a b
          clear hd hd2 h1 h2 ho hp
          unfold maxLen at hm hm2
          have HLT := Lib.hid hlt
          have HEQ := Lib.hid heq
          have HFL := Lib.hid hflip
          have HRG := Lib.hid hrange
          clear hlt heq hflip hrange
          go_enter Try.func6, Try.ntmps6
          go_wp2_with fail
          refine (alive_any _).mono ?_
          rintro e w1 ⟨rfl, hb1⟩
          go_wp2_with fail
          refine (HRS.out _).mono ?_
          rintro e w2 ⟨v2, rfl, hb2, hown2, -⟩
          have O2 := Lib.hid (hown2 a HD.out)
          clear hown2
          rw [HD.out]
          go_wp2_with fail
          refine (HRT.out _).mono ?_
          rintro e w3 ⟨v3, rfl, hb3, hown3, -⟩
          have O3 := Lib.hid (hown3 b HD2.out)
          clear hown3
          rw [HD2.out]
          obtain ⟨a2, c2, rfl, hr2, -⟩ := own_row O2.out
          obtain ⟨a3, c3, rfl, hr3, -⟩ := own_row O3.out
          have R2 := Lib.hid (hr2.below hb3)
          have R3 := Lib.hid hr3
          have B3 := Lib.hid ((hb1.trans (hb2.mono hb1.size)).trans (hb3.mono (hb1.trans (hb2.mono hb1.size)).size))
          clear hr2 hr3 hb1 hb2 hb3 O2 O3
          go_wp2_with fail
          go_loopw [9] (fun i w5 => ∃ k n : Nat, k ≤ a.length ∧ k ≤ b.length ∧ i = .int .i64 k ∧ w5 = w3.drewN n ∧ Hid (commonL a b = commonL (a.drop k) (b.drop k) + k)) (fun i _ => a.length - (intOf i).toNat)
          case atStart => exact ⟨0, 0, Nat.zero_le _, Nat.zero_le _, rfl, rfl, rfl⟩
          case round =>
            obtain ⟨k, n, hka, hkb, rfl, rfl, HCO⟩ := hrel
            by_cases hgo : k < a.length ∧ k < b.length ∧ a[k]?.getD 0 = b[k]?.getD 0
            · obtain ⟨hlt, hltb, hz⟩ := hgo
              obtain ⟨ba, oa, rfl, hca⟩ := R2.out k (by rw [natRow_len]; exact hlt)
              rw [natRow_at] at hca
              obtain ⟨bb, ob, rfl, hcb⟩ := R3.out k (by rw [natRow_len]; exact hltb)
              rw [natRow_at] at hcb
              rw [List.getElem?_eq_getElem hlt, List.getElem?_eq_getElem hltb, Option.getD_some, Option.getD_some] at hz
              have HK := Lib.hid (commonL_skip a b k hlt hltb hz)
              generalize a[k] = x at *
              generalize b[k] = y at *
              have hI1 : (k : Int) < (a.length : Int) := by omega
              have hI2 : (k : Int) < (b.length : Int) := by omega
              have hz' : ((x : Int) == (y : Int)) = true := by simp [hz]
              clear hz
              go_wp2_with fail
              go_quiet (fail)
              go_wp2_with fail
              go_roundw
              case rel => exact ⟨k + 1, _, by omega, by omega, by go_num, rfl, by have := HCO.out; have := HK.out; show _ = _; omega⟩
              case measure => simp [intOf]; omega
            · have hn0 : commonL (a.drop k) (b.drop k) = 0 := by
                by_cases hlt : k < a.length
                · by_cases hltb : k < b.length
                  · exact commonL_stop a b k hlt hltb (fun h => hgo ⟨hlt, hltb, by rw [List.getElem?_eq_getElem hlt, List.getElem?_eq_getElem hltb]; simp [h]⟩)
                  · exact commonL_nil _ _ (Or.inr (List.drop_of_length_le (by omega)))
                · exact commonL_nil _ _ (Or.inl (List.drop_of_length_le (by omega)))
              have HN0 := Lib.hid (show commonL a b = k by have := HCO.out; omega)
              clear hn0
              have htest : (¬ k < a.length) ∨ (k < a.length ∧ ¬ k < b.length) ∨ (k < a.length ∧ k < b.length ∧ a[k]?.getD 0 ≠ b[k]?.getD 0) := by
                by_cases hlt : k < a.length
                · by_cases hltb : k < b.length
                  · exact .inr (.inr ⟨hlt, hltb, fun h => hgo ⟨hlt, hltb, h⟩⟩)
                  · exact .inr (.inl ⟨hlt, hltb⟩)
                · exact .inl hlt
              clear hgo HCO
              rcases htest with hlt | ⟨hlt, hltb⟩ | ⟨hlt, hltb, hz⟩
              · have hI1 : decide ((k : Int) < (a.length : Int)) = false := by simp; omega
                go_wp2_with fail
                go_quiet (fail)
                go_wp2_with fail
                have B4 := Lib.hid (below_drewN B3.out (n + nq))
                have R2' := Lib.hid (show RowAt (w3.drewN (n + nq)) _ (natRow a) from R2.out)
                have R3' := Lib.hid (show RowAt (w3.drewN (n + nq)) _ (natRow b) from R3.out)
                refine (HC.out _).mono ?_
                rintro e w4 ⟨rfl, hb4⟩
                have B5 := Lib.hid (B4.out.trans (hb4.mono B4.out.size))
                have R2'' := Lib.hid (R2'.out.below hb4)
                have R3'' := Lib.hid (R3'.out.below hb4)
                clear hb4
                go_wp2_with fail
                refine (HR.out _ _ _ _ _ R2''.out R3''.out).mono ?_
                rintro e w5 ⟨rfl, hb5⟩
                have B6 := Lib.hid (B5.out.trans (hb5.mono B5.out.size))
                clear hb5
                have hlt := HLT.out
                have heq := HEQ.out
                have hC2 := HC2
                rw [HFL.out] at hC2
                have hrg := HRG.out
                clear HLT HEQ HFL HRG HC2 HC HR
                generalize cmpL a b = c at *
                rcases hrg with rfl | rfl | rfl
                all_goals
                  first
                    | have hlt1 : Op.bytesLess s.toList t.toList = true := hlt.trans (by decide)
                    | have hlt1 : Op.bytesLess s.toList t.toList = false := hlt.trans (by decide)
                  first
                    | have heq1 : (s.toList == t.toList) = true := heq.trans (by decide)
                    | have heq1 : (s.toList == t.toList) = false := heq.trans (by decide)
                  clear hlt heq
                  go_wp2_with fail
                  refine (HM.out _).mono ?_
                  rintro e w6 ⟨rfl, hb6⟩
                  have B7 := Lib.hid (B6.out.trans (hb6.mono B6.out.size))
                  clear hb6
                  rw [HN0.out]
                  go_wp2_with fail
                  refine (hC2.out _).mono ?_
                  rintro e w7 ⟨rfl, hb7⟩
                  have B8 := Lib.hid (B7.out.trans (hb7.mono B7.out.size))
                  clear hb7
                  go_wp2_with fail
                  go_ret
                  exact ⟨rfl, B8.out⟩
              · have hI1 : (k : Int) < (a.length : Int) := by omega
                have hI2 : decide ((k : Int) < (b.length : Int)) = false := by simp; omega
                go_wp2_with fail
                go_quiet (fail)
                go_wp2_with fail
                have B4 := Lib.hid (below_drewN B3.out (n + nq))
                have R2' := Lib.hid (show RowAt (w3.drewN (n + nq)) _ (natRow a) from R2.out)
                have R3' := Lib.hid (show RowAt (w3.drewN (n + nq)) _ (natRow b) from R3.out)
                refine (HC.out _).mono ?_
                rintro e w4 ⟨rfl, hb4⟩
                have B5 := Lib.hid (B4.out.trans (hb4.mono B4.out.size))
                have R2'' := Lib.hid (R2'.out.below hb4)
                have R3'' := Lib.hid (R3'.out.below hb4)
                clear hb4
                go_wp2_with fail
                refine (HR.out _ _ _ _ _ R2''.out R3''.out).mono ?_
                rintro e w5 ⟨rfl, hb5⟩
                have B6 := Lib.hid (B5.out.trans (hb5.mono B5.out.size))
                clear hb5
                have hlt := HLT.out
                have heq := HEQ.out
                have hC2 := HC2
                rw [HFL.out] at hC2
                have hrg := HRG.out
                clear HLT HEQ HFL HRG HC2 HC HR
                generalize cmpL a b = c at *
                rcases hrg with rfl | rfl | rfl
                all_goals
                  first
                    | have hlt1 : Op.bytesLess s.toList t.toList = true := hlt.trans (by decide)
                    | have hlt1 : Op.bytesLess s.toList t.toList = false := hlt.trans (by decide)
                  first
                    | have heq1 : (s.toList == t.toList) = true := heq.trans (by decide)
                    | have heq1 : (s.toList == t.toList) = false := heq.trans (by decide)
                  clear hlt heq
                  go_wp2_with fail
                  refine (HM.out _).mono ?_
                  rintro e w6 ⟨rfl, hb6⟩
                  have B7 := Lib.hid (B6.out.trans (hb6.mono B6.out.size))
                  clear hb6
                  rw [HN0.out]
                  go_wp2_with fail
                  refine (hC2.out _).mono ?_
                  rintro e w7 ⟨rfl, hb7⟩
                  have B8 := Lib.hid (B7.out.trans (hb7.mono B7.out.size))
                  clear hb7
                  go_wp2_with fail
                  go_ret
                  exact ⟨rfl, B8.out⟩
              · obtain ⟨ba, oa, rfl, hca⟩ := R2.out k (by rw [natRow_len]; exact hlt)
                rw [natRow_at] at hca
                obtain ⟨bb, ob, rfl, hcb⟩ := R3.out k (by rw [natRow_len]; exact hltb)
                rw [natRow_at] at hcb
                rw [List.getElem?_eq_getElem hlt, List.getElem?_eq_getElem hltb, Option.getD_some, Option.getD_some] at hz
                generalize a[k] = x at *
                generalize b[k] = y at *
                have hI1 : (k : Int) < (a.length : Int) := by omega
                have hI2 : (k : Int) < (b.length : Int) := by omega
                have hz' : ((x : Int) == (y : Int)) = false := by simp; omega
                clear hz
                go_wp2_with fail
                go_quiet (fail)
                go_wp2_with fail
                have B4 := Lib.hid (below_drewN B3.out (n + nq))
                have R2' := Lib.hid (show RowAt (w3.drewN (n + nq)) _ (natRow a) from R2.out)
                have R3' := Lib.hid (show RowAt (w3.drewN (n + nq)) _ (natRow b) from R3.out)
                refine (HC.out _).mono ?_
                rintro e w4 ⟨rfl, hb4⟩
                have B5 := Lib.hid (B4.out.trans (hb4.mono B4.out.size))
                have R2'' := Lib.hid (R2'.out.below hb4)
                have R3'' := Lib.hid (R3'.out.below hb4)
                clear hb4
                go_wp2_with fail
                refine (HR.out _ _ _ _ _ R2''.out R3''.out).mono ?_
                rintro e w5 ⟨rfl, hb5⟩
                have B6 := Lib.hid (B5.out.trans (hb5.mono B5.out.size))
                clear hb5
                have hlt := HLT.out
                have heq := HEQ.out
                have hC2 := HC2
                rw [HFL.out] at hC2
                have hrg := HRG.out
                clear HLT HEQ HFL HRG HC2 HC HR
                generalize cmpL a b = c at *
                rcases hrg with rfl | rfl | rfl
                all_goals
                  first
                    | have hlt1 : Op.bytesLess s.toList t.toList = true := hlt.trans (by decide)
                    | have hlt1 : Op.bytesLess s.toList t.toList = false := hlt.trans (by decide)
                  first
                    | have heq1 : (s.toList == t.toList) = true := heq.trans (by decide)
                    | have heq1 : (s.toList == t.toList) = false := heq.trans (by decide)
                  clear hlt heq
                  go_wp2_with fail
                  refine (HM.out _).mono ?_
                  rintro e w6 ⟨rfl, hb6⟩
                  have B7 := Lib.hid (B6.out.trans (hb6.mono B6.out.size))
                  clear hb6
                  rw [HN0.out]
                  go_wp2_with fail
                  refine (hC2.out _).mono ?_
                  rintro e w7 ⟨rfl, hb7⟩
                  have B8 := Lib.hid (B7.out.trans (hb7.mono B7.out.size))
                  clear hb7
                  go_wp2_with fail
                  go_ret
                  exact ⟨rfl, B8.out⟩


theorem own : ownKnob Try.prog.godebug = none := by kernel_rfl

set_option maxRecDepth 100000 in
theorem lifted (os : Os) (started : os.Started) (H : Type) (enc : TypeId × Value → H) :
    ReturnsInHanded {} Try.checked os 6 .any (Rows.runesCompareSpec.pre6 enc Try.prog Try.f6 Rows.runesCompareRow.domain false) (Rows.runesCompareSpec.post enc Try.prog Try.f6 false true false false) := by
  refine returnsInHanded_of_change (C := Try.checked) own started (by kernel_rfl) Try.func6
    (ChangeSpec.witness6 (enc := enc) (C := Try.checked) false ⟨#[], #[.string ByteArray.empty, .string ByteArray.empty], []⟩ 8 (by kernel_rfl) (by kernel_rfl) (by kernel_rfl) (by kernel_rfl)) ?_
  intro W base args ds gs before hval0 hW hcnd _
  have hval : ∀ (j : Nat) t v, Try.f6.params[j]? = some t → args[j]? = some v → Value.okWide Try.prog W .any base t v := hval0
  have hW' := hW
  obtain ⟨p, q, hA0, hV, rfl, hfz, hnd⟩ := hW
  have hA : DataW.TrodAll enc Try.prog W 0 (fun _ => true) true Try.f6.params.toList args.toList ds p := hA0
  rw [Try.params6] at hA hval
  obtain ⟨v0, vs0, d0, ds0, p0, q0, hargs, rfl, rfl, h0, r0⟩ := trodAll_cons hA
  obtain ⟨v1, vs1, d1, ds1, p1, q1, rfl, rfl, rfl, h1, r1⟩ := trodAll_cons r0
  obtain ⟨rfl, rfl, rfl⟩ := trodAll_nil r1
  obtain rfl : args = #[v0, v1] := by cases args; simp_all
  obtain ⟨rfl, rfl⟩ := trodVars_none hV
  obtain ⟨a0, rfl, rfl, rfl, w0⟩ := open_string Try.underlying9 (hval 0 9 v0 rfl rfl) h0
  obtain ⟨a1, rfl, rfl, rfl, w1⟩ := open_string Try.underlying9 (hval 1 9 v1 rfl rfl) h1
  clear hA0 hval0
  refine (walk a0 a1 W w0 w1).mono fun e W' ⟨he, bel⟩ => ?_
  subst he
  exact ⟨_, rfl, _, _, _, [], _, [], hW', trodAll_mk1 (shut_bool Try.underlying4 _), (trodAll_cons_mk (shut_string Try.underlying9 w0) (trodAll_cons_mk (shut_string Try.underlying9 w1) trodAll_mk0)), rfl, bel.frame _, fun h => by cases h⟩

theorem over : Rows.runesCompareRow.holds Try.pinned (OpenSpec.ofChange Rows.runesCompareSpec) :=
  OpenClaim.holds_of_wide 6 Try.f6 rfl rfl rfl rfl rfl rfl rfl ⟨rfl, rfl, rfl, rfl, rfl⟩ rfl rfl rfl rfl rfl (by kernel_rfl) Try.func6 (by kernel_rfl)
    (of_decide_eq_true (by kernel_rfl)) (by unfold Func.isWrapper; first | (rw [if_pos (by decide +kernel)]; kernel_rfl) | (rw [if_neg (by decide +kernel)]; exact ⟨rfl, rfl⟩))
    (fun os started H enc _ => lifted os started H enc)

/-- The statement. -/
theorem proved : Rows.RunesCompareSaid := over
#print axioms proved
end Go.Proofs.Ythfjpikloanekaa.runesCompare
