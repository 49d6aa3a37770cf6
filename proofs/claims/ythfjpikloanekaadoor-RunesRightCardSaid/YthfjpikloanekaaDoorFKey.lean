/-
  runes.Key and tidewaterref02.Key.
-/
import Derived.Test.YthfjpikloanekaaDoorFCount
import Derived.Test.YthfjpikloanekaaDoorFRunes
import Derived.Test.YthfjpikloanekaaDoorErr
namespace Go.Proofs.YthfjpikloanekaaDoor
open Go.RowKit Utf
set_option maxRecDepth 100000
set_option linter.unusedSimpArgs false
set_option linter.unusedVariables false

/-- A rune that no key has. -/
def badR (c : Nat) : Bool := decide (c < 32) || decide (c = 127)
/-- The number of a key's error. -/
def keyNum (s : ByteArray) : Nat := match dec s.data.toList with
  | none => 6
  | some rs => if rs.length = 0 then 2 else if 24 < rs.length then 3 else if rs.any badR then 7 else 0
/-- An error by its number. -/
def errOf (ea : Nat → Addr) (n : Nat) : Value := if n = 0 then .nilIface else errV ea (n - 1)

theorem keyNum_none {s : ByteArray} (h : dec s.data.toList = none) : keyNum s = 6 := by simp [keyNum, h]
theorem keyNum_some {s : ByteArray} {rs : List Nat} (h : dec s.data.toList = some rs) : keyNum s = if rs.length = 0 then 2 else if 24 < rs.length then 3 else if rs.any badR then 7 else 0 := by simp [keyNum, h]

theorem any_step {rs : List Nat} {k : Nat} (hk : k < rs.length) (h : (rs.take k).any badR = false) (hb : badR rs[k] = false) : (rs.take (k + 1)).any badR = false := by
  rw [List.take_succ_eq_append_getElem hk, List.any_append, h]
  simp [hb]
theorem any_hit {rs : List Nat} {k : Nat} (hk : k < rs.length) (hb : badR rs[k] = true) : rs.any badR = true := by
  rw [List.any_eq_true]
  exact ⟨_, List.getElem_mem hk, hb⟩

set_option maxHeartbeats 1000000 in
theorem key_any (ea : Nat → Addr) (s : ByteArray) (w : World) (hs : s.size ≤ 1000000) (he : ErrsAt w ea) :
    Calls Tryd.prog 9 #[.string s] w fun e w' => e = .returned (errOf ea (keyNum s)) ∧ Below w.heap.size w w' := by
  have hs' : s.size ≤ maxLen := by unfold maxLen; omega
  have H := Lib.hid he
  clear he
  cases hd : dec s.data.toList with
  | none =>
    have HC := Lib.hid (fun W => count_none s W hs' hd)
    rw [keyNum_none hd]
    have HE := Lib.hid (show errOf ea 6 = .iface 56 (.pointer (some (ea 5))) from rfl)
    clear hd
    go_enter Tryd.func9, Tryd.ntmps9
    go_wp2_with fail
    refine (HC.out _).mono ?_
    rintro e w1 ⟨rfl, hb1⟩
    have c5 : w1.cell? ⟨5, 0, none⟩ = some (.iface 56 (.pointer (some (ea 5)))) := (H.out.below hb1).cell 5 (by omega)
    go_wp2_with fail
    go_ret
    exact ⟨by rw [HE.out]; rfl, hb1⟩
  | some rs =>
    obtain ⟨ho, h⟩ := dec_some hd
    have hl := len_le h
    have HC := Lib.hid (fun W => count_some s rs W hs ho h)
    have HN := Lib.hid (fun (w : World) k hk ty => next_off (P := Tryd.prog) ho h w k hk ty)
    have HX := Lib.hid (fun (w : World) ty => next_off_end (P := Tryd.prog) h w ty)
    have HLT := Lib.hid (fun k hk => off_lt h k hk)
    have HS := Lib.hid (off_succ rs)
    have HP := Lib.hid (fun c => enc_length c)
    have hkn := keyNum_some hd
    have HOK := Lib.hid (fun k (hk : k < rs.length) => (okR_def rs[k]).1 (ho _ (List.getElem_mem hk)))
    clear hd h ho
    by_cases h0 : rs.length = 0
    · rw [if_pos h0] at hkn
      rw [hkn]
      clear hkn
      have hz : ((rs.length : Int) == 0) = true := by simp [h0]
      have hz2 : ¬ (rs.length : Int) < 0 := Int.not_lt.2 (Int.natCast_nonneg _)
      have HE := Lib.hid (show errOf ea 2 = .iface 56 (.pointer (some (ea 1))) from rfl)
      clear h0
      go_enter Tryd.func9, Tryd.ntmps9
      go_wp2_with fail
      refine (HC.out _).mono ?_
      rintro e w1 ⟨rfl, hb1⟩
      have c5 : w1.cell? ⟨1, 0, none⟩ = some (.iface 56 (.pointer (some (ea 1)))) := (H.out.below hb1).cell 1 (by omega)
      go_wp2_with fail
      go_ret
      exact ⟨by rw [HE.out]; rfl, hb1⟩
    · rw [if_neg h0] at hkn
      have hz : ((rs.length : Int) == 0) = false := beq_eq_false_iff_ne.2 (by omega)
      have hz2 : ¬ (rs.length : Int) < 0 := by omega
      by_cases h24 : 24 < rs.length
      · rw [if_pos h24] at hkn
        rw [hkn]
        clear hkn
        have hz3 : (24 : Int) < (rs.length : Int) := by omega
        have HE := Lib.hid (show errOf ea 3 = .iface 56 (.pointer (some (ea 2))) from rfl)
        clear h0
        go_enter Tryd.func9, Tryd.ntmps9
        go_wp2_with fail
        refine (HC.out _).mono ?_
        rintro e w1 ⟨rfl, hb1⟩
        have c5 : w1.cell? ⟨2, 0, none⟩ = some (.iface 56 (.pointer (some (ea 2)))) := (H.out.below hb1).cell 2 (by omega)
        go_wp2_with fail
        go_ret
        exact ⟨by rw [HE.out]; rfl, hb1⟩
      · rw [if_neg h24] at hkn
        have HKN := Lib.hid hkn
        clear hkn
        have hz3 : ¬ (24 : Int) < (rs.length : Int) := by omega
        clear h0
        go_enter Tryd.func9, Tryd.ntmps9
        go_wp2_with fail
        refine (HC.out _).mono ?_
        rintro e w1 ⟨rfl, hb1⟩
        have c5 : w1.cell? ⟨6, 0, none⟩ = some (.iface 56 (.pointer (some (ea 6)))) := (H.out.below hb1).cell 6 (by omega)
        have hlt5 := World.block_lt_of_cell? w1 _ c5
        go_wp2_with fail
        go_loopw [] (fun w2 => ∃ k : Nat, k ≤ rs.length ∧ w2 = w1.iter s (off rs k) ∧ Hid ((rs.take k).any badR = false)) (fun w2 => s.size - w2.iterPos w1.heap.size)
        case atStart => exact ⟨0, Nat.zero_le _, rfl, rfl⟩
        case round =>
          obtain ⟨k, hk, rfl, HA⟩ := hrel
          by_cases hlt : k < rs.length
          · have hnx := HN.out w1 k hlt
            have HST := Lib.hid (any_step hlt HA.out)
            have HHI := Lib.hid (any_hit hlt)
            have hok := HOK.out k hlt
            have HO1 := Lib.hid (HS.out k hlt)
            have HO2 := Lib.hid (HLT.out k hlt)
            have HO3 := Lib.hid (HP.out rs[k])
            generalize rs[k] = c at *
            have hcb : c ≤ 1114111 := by omega
            clear hok
            have c6 : (w1.iter s (off rs (k + 1))).cell? ⟨6, 0, none⟩ = some (.iface 56 (.pointer (some (ea 6)))) := ((Below.refl _ w1).alloc (Nat.le_refl _) _).cell hlt5 |>.trans c5
            by_cases hb32 : (c : Int) < 32
            · have HBAD := Lib.hid (HHI.out (by simp [badR]; omega))
              go_wp2_with fail
              go_ret
              refine ⟨?_, hb1.alloc hb1.size _⟩
              rw [HKN.out, if_pos HBAD.out]
              rfl
            · by_cases hb127 : c = 127
              · have hq : ((c : Int) == 127) = true := by simp [hb127]
                have HBAD := Lib.hid (HHI.out (by simp [badR, hb127]))
                clear hb127
                go_wp2_with fail
                go_ret
                refine ⟨?_, hb1.alloc hb1.size _⟩
                rw [HKN.out, if_pos HBAD.out]
                rfl
              · have hq : ((c : Int) == 127) = false := by simp; omega
                have HG := Lib.hid (HST.out (by simp [badR]; omega))
                clear hb127
                go_wp2_with fail
                go_roundw
                case rel => exact ⟨k + 1, by omega, rfl, HG.out⟩
                case measure => have := HO1.out; have := HO2.out; have := HO3.out; simp; omega
          · obtain rfl : k = rs.length := by omega
            have hnx := HX.out w1
            have HG := Lib.hid (show rs.any badR = false by have := HA.out; rwa [List.take_length] at this)
            go_wp2_with fail
            go_ret
            refine ⟨?_, hb1.alloc hb1.size _⟩
            rw [HKN.out, if_neg (by rw [HG.out]; simp)]
            rfl
end Go.Proofs.YthfjpikloanekaaDoor
