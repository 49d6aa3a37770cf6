/-
  The walk of the law RunesRight.
-/
import Derived.Test.YthfjpikloanekaaDoorFAlive
import Derived.Test.YthfjpikloanekaaDoorFNum
import Derived.Test.YthfjpikloanekaaDoorFRefKey
namespace Go.Proofs.YthfjpikloanekaaDoor
open Go.RowKit Utf
set_option maxRecDepth 100000
set_option linter.unusedSimpArgs false
set_option linter.unusedVariables false

theorem keyNum_mem (s : ByteArray) : keyNum s < 20 := by
  unfold keyNum; split
  · omega
  · split <;> try omega
    split <;> try omega
    split <;> omega

theorem num_of (ea : Nat → Addr) (n : Nat) (w : World) (hn : n < 20) (h : ErrsAt w ea) :
    Calls Tryd.prog 8 #[errOf ea n] w fun e w' => e = .returned (.int .i64 (n : Nat)) ∧ Below w.heap.size w w' := by
  unfold errOf
  by_cases h0 : n = 0
  · subst h0
    exact num_nil w
  · rw [if_neg h0]
    have := num_err ea (n - 1) w (by omega) h
    rw [show (((n - 1 : Nat) : Int) + 1) = (n : Int) by omega] at this
    exact this

theorem i64eq (n : Int) : ((n : Int) == n) = true := by simp

set_option maxHeartbeats 2000000 in
theorem right_walk (ea : Nat → Addr) (s : ByteArray) (w : World) (hm : s.size ≤ maxLen) (he : ErrsAt w ea) :
    Calls Tryd.prog 3 #[.string s] w fun e w' => e = .returned (.bool true) ∧ Below w.heap.size w w' := by
  by_cases h500 : (500 : Int) < (s.size : Int)
  · clear he
    unfold maxLen at hm
    go_enter Tryd.func3, Tryd.ntmps3
    go_wp2_with fail
    refine (alive_any _).mono ?_
    rintro e w1 ⟨rfl, hb1⟩
    go_wp2_with fail
    go_ret
    exact ⟨rfl, hb1⟩
  · have hs : s.size ≤ 1000000 := by omega
    have HE := Lib.hid he
    have HRR := Lib.hid (fun W => refRunes_any s W hs)
    have HR := Lib.hid (fun W => right_any s W hm)
    have HK := Lib.hid (fun W h => key_any ea s W hs h)
    have HF := Lib.hid (fun W => refKey_any s W hs)
    have HN := Lib.hid (fun W h => num_of ea (keyNum s) W (keyNum_mem s) h)
    clear he
    generalize keyNum s = kn at *
    cases hd : dec s.data.toList with
    | none =>
      have HC := Lib.hid (fun W => count_none s W hm hd)
      have HD := Lib.hid hd
      rw [hd] at HRR HR
      clear hd
      unfold maxLen at hm
      go_enter Tryd.func3, Tryd.ntmps3
      go_wp2_with fail
      refine (alive_any _).mono ?_
      rintro e w1 ⟨rfl, hb1⟩
      have E1 := Lib.hid (HE.out.below hb1)
      go_wp2_with fail
      refine (HRR.out _).mono ?_
      rintro e w2 ⟨v2, rfl, hb2, -, -⟩
      have E2 := Lib.hid (E1.out.below hb2)
      have B2 := Lib.hid (hb1.trans (hb2.mono hb1.size))
      clear hb1 hb2 E1
      go_wp2_with fail
      refine (HR.out _).mono ?_
      rintro e w3 ⟨rfl, hb3⟩
      have E3 := Lib.hid (E2.out.below hb3)
      have B3 := Lib.hid (B2.out.trans (hb3.mono B2.out.size))
      clear hb3 E2 B2
      go_wp2_with fail
      refine (HC.out _).mono ?_
      rintro e w4 ⟨rfl, hb4⟩
      have E4 := Lib.hid (E3.out.below hb4)
      have B4 := Lib.hid (B3.out.trans (hb4.mono B3.out.size))
      clear hb4 E3 B3
      go_wp2_with fail
      refine (HK.out _ E4.out).mono ?_
      rintro e w5 ⟨rfl, hb5⟩
      have E5 := Lib.hid (E4.out.below hb5)
      have B5 := Lib.hid (B4.out.trans (hb5.mono B4.out.size))
      clear hb5 E4 B4
      go_wp2_with fail
      refine (HN.out _ E5.out).mono ?_
      rintro e w6 ⟨rfl, hb6⟩
      have B6 := Lib.hid (B5.out.trans (hb6.mono B5.out.size))
      clear hb6 E5 B5
      go_wp2_with fail
      refine (HF.out _).mono ?_
      rintro e w7 ⟨rfl, hb7⟩
      have B7 := Lib.hid (B6.out.trans (hb7.mono B6.out.size))
      clear hb7 B6
      go_wp2_with fail
      go_ret
      exact ⟨by first | rfl | simp, B7.out⟩
    | some rs =>
      obtain ⟨ho, h⟩ := dec_some hd
      have hl := len_le h
      have hl2 : rs.length ≤ 500 := by omega
      have HC := Lib.hid (fun W => count_some s rs W hs ho h)
      have HD := Lib.hid hd
      rw [hd] at HRR HR
      clear hd h ho
      unfold maxLen at hm
      go_enter Tryd.func3, Tryd.ntmps3
      go_wp2_with fail
      refine (alive_any _).mono ?_
      rintro e w1 ⟨rfl, hb1⟩
      have E1 := Lib.hid (HE.out.below hb1)
      go_wp2_with fail
      refine (HRR.out _).mono ?_
      rintro e w2 ⟨v2, rfl, hb2, hown2, -⟩
      have O2 := Lib.hid (hown2 rs rfl)
      clear hown2
      have E2 := Lib.hid (E1.out.below hb2)
      have B2 := Lib.hid (hb1.trans (hb2.mono hb1.size))
      obtain ⟨a2, c2, rfl, hr2, -⟩ := own_row O2.out
      have R2 := Lib.hid hr2
      clear hb1 hb2 E1 hr2 O2
      go_wp2_with fail
      refine (HR.out _).mono ?_
      rintro e w3 ⟨rfl, hb3⟩
      have E3 := Lib.hid (E2.out.below hb3)
      have B3 := Lib.hid (B2.out.trans (hb3.mono B2.out.size))
      clear hb3 E2 B2
      go_wp2_with fail
      refine (HC.out _).mono ?_
      rintro e w4 ⟨rfl, hb4⟩
      have E4 := Lib.hid (E3.out.below hb4)
      have B4 := Lib.hid (B3.out.trans (hb4.mono B3.out.size))
      clear hb4 E3 B3
      go_wp2_with fail
      refine (HK.out _ E4.out).mono ?_
      rintro e w5 ⟨rfl, hb5⟩
      have E5 := Lib.hid (E4.out.below hb5)
      have B5 := Lib.hid (B4.out.trans (hb5.mono B4.out.size))
      clear hb5 E4 B4
      go_wp2_with fail
      refine (HN.out _ E5.out).mono ?_
      rintro e w6 ⟨rfl, hb6⟩
      have B6 := Lib.hid (B5.out.trans (hb6.mono B5.out.size))
      clear hb6 E5 B5
      go_wp2_with fail
      refine (HF.out _).mono ?_
      rintro e w7 ⟨rfl, hb7⟩
      have B7 := Lib.hid (B6.out.trans (hb7.mono B6.out.size))
      clear hb7 B6
      go_wp2_with fail
      go_ret
      exact ⟨by first | rfl | simp, B7.out⟩
end Go.Proofs.YthfjpikloanekaaDoor
