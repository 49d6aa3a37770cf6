/-
  For every two texts the law RunesAfter returns true: runes.After is the least text behind all that begin with one, as the document defines it, and is greater than each of them.
  Conditions: none beyond the row's own reach.
-/
import Derived.Test.YthfjpikloanekaaRunesAlive
import Derived.Test.YthfjpikloanekaaRunesOrd
import Derived.ProofKit
import Derived.OpenShut
import Derived.ShutString
import Derived.ChangeOld
import Derived.Below
namespace Go.Proofs.Ythfjpikloanekaa.runesAfter
open Go.ChangeShapes Go.WideShapes Go.ChangeAt Go.RowKit Utf
open Go.ChangeMaps (open_string shut_string)
set_option linter.unusedVariables false
set_option linter.unusedSimpArgs false
set_option maxRecDepth 100000

theorem nil_eq : ((mkS ([] : List UInt8)).toList == ([] : List UInt8)) = true := by rw [Lib.toList_data]; rfl
theorem nil_isEmpty : (mkS ([] : List UInt8)).toList.isEmpty = true := by rw [Lib.toList_data]; rfl

set_option maxHeartbeats 2000000 in
theorem walk (s m : ByteArray) (w : World) (hm : s.size ≤ maxLen) (hm2 : m.size ≤ maxLen) :
    Calls Try.prog 3 #[.string s, .string m] w fun e w' => e = .returned (.bool true) ∧ Below w.heap.size w w' := by
  by_cases h300 : (300 : Int) < (s.size : Int)
  · unfold maxLen at hm hm2
    go_enter Try.func3, Try.ntmps3
    go_wp2_with fail
    refine (alive_any _).mono ?_
    rintro e w1 ⟨rfl, hb1⟩
    go_wp2_with fail
    go_ret
    exact ⟨rfl, hb1⟩
  · by_cases h301 : (300 : Int) < (m.size : Int)
    · unfold maxLen at hm hm2
      go_enter Try.func3, Try.ntmps3
      go_wp2_with fail
      refine (alive_any _).mono ?_
      rintro e w1 ⟨rfl, hb1⟩
      go_wp2_with fail
      go_ret
      exact ⟨rfl, hb1⟩
    · have hs : s.size ≤ 1000000 := by omega
      have HRR := Lib.hid (fun W => refRunes_any s W hs)
      cases hd : dec s.data.toList with
      | none =>
        have HF := Lib.hid (fun W => after_none s W hm hd)
        have HD := Lib.hid hd
        clear hd
        unfold maxLen at hm hm2
        go_enter Try.func3, Try.ntmps3
        go_wp2_with fail
        refine (alive_any _).mono ?_
        rintro e w1 ⟨rfl, hb1⟩
        go_wp2_with fail
        refine (HF.out _).mono ?_
        rintro e w2 ⟨rfl, hb2⟩
        go_wp2_with fail
        refine (HRR.out _).mono ?_
        rintro e w3 ⟨v3, rfl, hb3, -, -⟩
        rw [HD.out]
        have hne := nil_eq
        have hni := nil_isEmpty
        generalize mkS ([] : List UInt8) = z at *
        go_wp2_with fail
        go_ret
        have B2 := hb1.trans (hb2.mono hb1.size)
        exact ⟨by first | rfl | simp_all, B2.trans (hb3.mono B2.size)⟩
      | some rs =>
        obtain ⟨ho, h⟩ := dec_some hd
        have hl := len_le h
        have HF := Lib.hid (fun W => after_some s rs W hs ho h)
        have HRA := Lib.hid (fun B v W hv => refAfter_any rs B v W (by omega) ho hv)
        have HD := Lib.hid hd
        cases ha : afterL rs with
        | none =>
          have HA := Lib.hid ha
          clear hd h ho ha
          unfold maxLen at hm hm2
          go_enter Try.func3, Try.ntmps3
          go_wp2_with fail
          refine (alive_any _).mono ?_
          rintro e w1 ⟨rfl, hb1⟩
          go_wp2_with fail
          refine (HF.out _).mono ?_
          rintro e w2 ⟨rfl, hb2⟩
          go_wp2_with fail
          refine (HRR.out _).mono ?_
          rintro e w3 ⟨v3, rfl, hb3, hown3, -⟩
          have O3 := Lib.hid (hown3 rs HD.out)
          clear hown3
          rw [HD.out]
          go_wp2_with fail
          refine (HRA.out _ _ _ O3.out).mono ?_
          rintro e w4 ⟨v4, rfl, hb4, -⟩
          rw [HA.out]
          have hne := nil_eq
          have hni := nil_isEmpty
          have hz : mkS (encAll ((none : Option (List Nat)).getD [])) = mkS [] := rfl
          rw [hz]
          clear hz
          generalize mkS ([] : List UInt8) = z at *
          go_wp2_with fail
          go_ret
          have B2 := hb1.trans (hb2.mono hb1.size)
          have B3 := B2.trans (hb3.mono B2.size)
          exact ⟨by first | rfl | simp_all, B3.trans (hb4.mono B3.size)⟩
        | some t =>
          have HA := Lib.hid ha
          have hto := afterAt_ok ho rs.length t (Nat.le_refl _) ha
          have htl := afterAt_len rs.length t ha
          have htl2 : t.length ≤ 1000000 := by omega
          have hts : (mkS (encAll t)).size ≤ maxLen := by rw [mkS_size]; have := encAll_le t; unfold maxLen; omega
          have hdt : dec (mkS (encAll t)).data.toList = some t := by rw [mkS_data]; exact dec_encAll hto
          have heq : ((mkS (encAll t)).toList == (mkS (encAll t)).toList) = true := by rw [str_beq]; simp
          have HRI := Lib.hid (fun W => right_any (mkS (encAll t)) W hts)
          have hsum : (s ++ m).size ≤ maxLen := by rw [ByteArray.size_append]; unfold maxLen; omega
          have HRM := Lib.hid (fun W => right_any (s ++ m) W hsum)
          have hsd : (s ++ m).data.toList = encAll rs ++ m.data.toList := by rw [ByteArray.data_append, Array.toList_append, h]
          have hless : ∀ us, dec (s ++ m).data.toList = some us → Op.bytesLess (s ++ m).toList (mkS (encAll t)).toList = true := by
            intro us hus
            rw [hsd, dec_append ho, Option.map_eq_some_iff] at hus
            obtain ⟨ms, hms, rfl⟩ := hus
            obtain ⟨h1, h2⟩ := dec_some hms
            rw [Lib.toList_data, Lib.toList_data, hsd, h2, mkS_data, ← encAll_append]
            exact after_less ho ha
          have HL := Lib.hid hless
          have HDT := Lib.hid hdt
          have HTO := Lib.hid hto
          clear hd h ho ha hto htl hdt hsd hless hts hsum
          unfold maxLen at hm hm2
          go_enter Try.func3, Try.ntmps3
          go_wp2_with fail
          refine (alive_any _).mono ?_
          rintro e w1 ⟨rfl, hb1⟩
          go_wp2_with fail
          refine (HF.out _).mono ?_
          rintro e w2 ⟨rfl, hb2⟩
          go_wp2_with fail
          refine (HRR.out _).mono ?_
          rintro e w3 ⟨v3, rfl, hb3, hown3, -⟩
          have O3 := Lib.hid (hown3 rs HD.out)
          clear hown3
          rw [HD.out]
          go_wp2_with fail
          refine (HRA.out _ _ _ O3.out).mono ?_
          rintro e w4 ⟨v4, rfl, hb4, hown4⟩
          have O4 := Lib.hid (hown4 t HA.out)
          clear hown4
          obtain ⟨a4, c4, rfl, hr4, -⟩ := own_row O4.out
          have R4 := Lib.hid hr4
          clear hr4
          rw [HA.out]
          go_wp2_with fail
          refine (refText_any t a4 c4 _ htl2 HTO.out R4.out).mono ?_
          rintro e w5 ⟨rfl, hb5⟩
          generalize mkS (encAll t) = z at *
          have B2 := hb1.trans (hb2.mono hb1.size)
          have B3 := B2.trans (hb3.mono B2.size)
          have B4 := B3.trans (hb4.mono B3.size)
          have B5 := Lib.hid (B4.trans (hb5.mono B4.size))
          clear B2 B3 B4 hb1 hb2 hb3 hb4 hb5
          go_wp2_with fail
          refine (HRI.out _).mono ?_
          rintro e w6 ⟨rfl, hb6⟩
          rw [HDT.out]
          have B6 := Lib.hid (B5.out.trans (hb6.mono B5.out.size))
          clear hb6 B5
          go_wp2_with fail
          refine (HRM.out _).mono ?_
          rintro e w7 ⟨rfl, hb7⟩
          have B7 := Lib.hid (B6.out.trans (hb7.mono B6.out.size))
          clear hb7 B6
          cases hdm : dec (s ++ m).data.toList with
          | none =>
            clear HL
            go_wp2_with fail
            go_ret
            exact ⟨rfl, B7.out⟩
          | some us =>
            have hle := HL.out us hdm
            clear HL hdm
            go_wp2_with fail
            go_ret
            exact ⟨rfl, B7.out⟩


theorem own : ownKnob Try.prog.godebug = none := by kernel_rfl

set_option maxRecDepth 100000 in
theorem lifted (os : Os) (started : os.Started) (H : Type) (enc : TypeId × Value → H) :
    ReturnsInHanded {} Try.checked os 3 .any (Rows.runesAfterSpec.pre6 enc Try.prog Try.f3 Rows.runesAfterRow.domain false) (Rows.runesAfterSpec.post enc Try.prog Try.f3 false true false false) := by
  refine returnsInHanded_of_change (C := Try.checked) own started (by kernel_rfl) Try.func3
    (ChangeSpec.witness6 (enc := enc) (C := Try.checked) false ⟨#[], #[.string ByteArray.empty, .string ByteArray.empty], []⟩ 8 (by kernel_rfl) (by kernel_rfl) (by kernel_rfl) (by kernel_rfl)) ?_
  intro W base args ds gs before hval0 hW hcnd _
  have hval : ∀ (j : Nat) t v, Try.f3.params[j]? = some t → args[j]? = some v → Value.okWide Try.prog W .any base t v := hval0
  have hW' := hW
  obtain ⟨p, q, hA0, hV, rfl, hfz, hnd⟩ := hW
  have hA : DataW.TrodAll enc Try.prog W 0 (fun _ => true) true Try.f3.params.toList args.toList ds p := hA0
  rw [Try.params3] at hA hval
  obtain ⟨v0, vs0, d0, ds0, p0, q0, hargs, rfl, rfl, h0, r0⟩ := trodAll_cons hA
  obtain ⟨v1, vs1, d1, ds1, p1, q1, rfl, rfl, rfl, h1, r1⟩ := trodAll_cons r0
  obtain ⟨rfl, rfl, rfl⟩ := trodAll_nil r1
  obtain rfl : args = #[v0, v1] := by cases args; simp_all
  obtain ⟨rfl, rfl⟩ := trodVars_none hV
  obtain ⟨a0, rfl, rfl, rfl, w0⟩ := open_string Try.underlying9 (hval 0 9 v0 rfl rfl) h0
  obtain ⟨a1, rfl, rfl, rfl, w1⟩ := open_string Try.underlying9 (hval 1 9 v1 rfl rfl) h1
  clear hA0 hval0
  refine (walk a0 a1 W w0 w1).mono fun e W' ⟨he, bel⟩ => ?_
  subst he
  exact ⟨_, rfl, _, _, _, [], _, [], hW', trodAll_mk1 (shut_bool Try.underlying4 _), (trodAll_cons_mk (shut_string Try.underlying9 w0) (trodAll_cons_mk (shut_string Try.underlying9 w1) trodAll_mk0)), rfl, bel.frame _, fun h => by cases h⟩

theorem over : Rows.runesAfterRow.holds Try.pinned (OpenSpec.ofChange Rows.runesAfterSpec) :=
  OpenClaim.holds_of_wide 3 Try.f3 rfl rfl rfl rfl rfl rfl rfl ⟨rfl, rfl, rfl, rfl, rfl⟩ rfl rfl rfl rfl rfl (by kernel_rfl) Try.func3 (by kernel_rfl)
    (of_decide_eq_true (by kernel_rfl)) (by unfold Func.isWrapper; first | (rw [if_pos (by decide +kernel)]; kernel_rfl) | (rw [if_neg (by decide +kernel)]; exact ⟨rfl, rfl⟩))
    (fun os started H enc _ => lifted os started H enc)

/-- The statement. -/
theorem proved : Rows.RunesAfterSaid := over
#print axioms proved
end Go.Proofs.Ythfjpikloanekaa.runesAfter
