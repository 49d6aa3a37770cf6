/-
  tidewaterref02.Key.
-/
import Derived.Test.YthfjpikloanekaaDoorFKey
namespace Go.Proofs.YthfjpikloanekaaDoor
open Go.RowKit Utf
set_option maxRecDepth 100000
set_option linter.unusedSimpArgs false
set_option linter.unusedVariables false

set_option maxHeartbeats 1000000 in
theorem refKey_any (s : ByteArray) (w : World) (hs : s.size ≤ 1000000) :
    Calls Tryd.prog 10 #[.string s] w fun e w' => e = .returned (.int .i64 (keyNum s : Nat)) ∧ Below w.heap.size w w' := by
  have HR := Lib.hid (fun W => refRunes_any s W hs)
  cases hd : dec s.data.toList with
  | none =>
    have HK := Lib.hid (keyNum_none hd)
    have HD := Lib.hid hd
    clear hd
    go_enter Tryd.func10, Tryd.ntmps10
    go_wp2_with fail
    refine (HR.out _).mono ?_
    rintro e w1 ⟨v1, rfl, hb1, -, -⟩
    rw [HD.out]
    go_wp2_with fail
    go_ret
    exact ⟨by rw [HK.out]; rfl, hb1⟩
  | some rs =>
    obtain ⟨ho, h⟩ := dec_some hd
    have hl := len_le h
    have hkn := keyNum_some hd
    have HD := Lib.hid hd
    clear hd h ho
    by_cases h0 : rs.length = 0
    · rw [if_pos h0] at hkn
      have HKN := Lib.hid hkn
      clear hkn
      have hz : ((rs.length : Int) == 0) = true := by simp [h0]
      clear h0
      go_enter Tryd.func10, Tryd.ntmps10
      go_wp2_with fail
      refine (HR.out _).mono ?_
      rintro e w1 ⟨v1, rfl, hb1, hown1, -⟩
      obtain ⟨a1, c1, rfl, -, -⟩ := own_row (hown1 rs HD.out)
      clear hown1
      rw [HD.out]
      go_wp2_with fail
      go_ret
      exact ⟨by rw [HKN.out]; rfl, hb1⟩
    · rw [if_neg h0] at hkn
      have hz : ((rs.length : Int) == 0) = false := beq_eq_false_iff_ne.2 (by omega)
      by_cases h24 : 24 < rs.length
      · rw [if_pos h24] at hkn
        have HKN := Lib.hid hkn
        have hz3 : (24 : Int) < (rs.length : Int) := by omega
        clear hkn h0
        go_enter Tryd.func10, Tryd.ntmps10
        go_wp2_with fail
        refine (HR.out _).mono ?_
        rintro e w1 ⟨v1, rfl, hb1, hown1, -⟩
        obtain ⟨a1, c1, rfl, -, -⟩ := own_row (hown1 rs HD.out)
        clear hown1
        rw [HD.out]
        go_wp2_with fail
        go_ret
        exact ⟨by rw [HKN.out]; rfl, hb1⟩
      · rw [if_neg h24] at hkn
        have HKN := Lib.hid hkn
        have hz3 : ¬ (24 : Int) < (rs.length : Int) := by omega
        clear hkn h0
        go_enter Tryd.func10, Tryd.ntmps10
        go_wp2_with fail
        refine (HR.out _).mono ?_
        rintro e w1 ⟨v1, rfl, hb1, hown1, -⟩
        obtain ⟨a1, c1, rfl, hr1, -⟩ := own_row (hown1 rs HD.out)
        have HR1 := Lib.hid hr1
        clear hown1 hr1
        rw [HD.out]
        go_wp2_with fail
        go_loop [25] (fun i => ∃ k : Nat, k ≤ rs.length ∧ i = .int .i64 k ∧ Hid ((rs.take k).any badR = false)) (fun i => rs.length - (intOf i).toNat)
        case atStart => exact ⟨0, Nat.zero_le _, rfl, rfl⟩
        case round =>
          obtain ⟨k, hk, rfl, HA⟩ := hrel
          by_cases hlt : k < rs.length
          · obtain ⟨b, of, rfl, hc⟩ := HR1.out k (by rw [natRow_len]; exact hlt)
            rw [natRow_at] at hc
            have HST := Lib.hid (any_step hlt HA.out)
            have HHI := Lib.hid (any_hit hlt)
            generalize rs[k] = c at *
            by_cases hb32 : (c : Int) < 32
            · have HBAD := Lib.hid (HHI.out (by simp [badR]; omega))
              go_wp2_with fail
              go_ret
              exact ⟨by rw [HKN.out, if_pos HBAD.out]; rfl, hb1⟩
            · by_cases hb127 : c = 127
              · have hq : ((c : Int) == 127) = true := by simp [hb127]
                have HBAD := Lib.hid (HHI.out (by simp [badR, hb127]))
                clear hb127
                go_wp2_with fail
                go_ret
                exact ⟨by rw [HKN.out, if_pos HBAD.out]; rfl, hb1⟩
              · have hq : ((c : Int) == 127) = false := by simp; omega
                have HG := Lib.hid (HST.out (by simp [badR]; omega))
                clear hb127
                go_wp2_with fail
                go_round
                case rel => exact ⟨k + 1, by omega, by go_num, HG.out⟩
                case measure => simp [intOf]; omega
          · obtain rfl : k = rs.length := by omega
            have HG := Lib.hid (show rs.any badR = false by have := HA.out; rwa [List.take_length] at this)
            go_wp2_with fail
            go_ret
            exact ⟨by rw [HKN.out, if_neg (by rw [HG.out]; simp)]; rfl, hb1⟩
end Go.Proofs.YthfjpikloanekaaDoor
