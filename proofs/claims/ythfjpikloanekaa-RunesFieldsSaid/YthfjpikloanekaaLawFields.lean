/-
  For every text the law RunesFields returns true: runes.Fields gives the parts between blanks that the document's definition gives.
  Conditions: none beyond the row's own reach.
-/
import Derived.Test.YthfjpikloanekaaRunesAlive
import Derived.ProofKit
import Derived.OpenShut
import Derived.ShutString
import Derived.ChangeOld
import Derived.Below
namespace Go.Proofs.Ythfjpikloanekaa.runesFields
open Go.ChangeShapes Go.WideShapes Go.ChangeAt Go.RowKit Utf
open Go.ChangeMaps (open_string shut_string)
set_option linter.unusedVariables false
set_option linter.unusedSimpArgs false
set_option maxRecDepth 100000

theorem fieldTexts_le (rs : List Nat) : (fieldTexts (fieldsGo [] rs)).length = (fieldsGo [] rs).length := fieldTexts_len _

set_option maxHeartbeats 1000000 in
theorem walk (s : ByteArray) (w : World) (hm : s.size ≤ maxLen) :
    Calls Try.prog 4 #[.string s] w fun e w' => e = .returned (.bool true) ∧ Below w.heap.size w w' := by
  by_cases h500 : (500 : Int) < (s.size : Int)
  · unfold maxLen at hm
    go_enter Try.func4, Try.ntmps4
    go_wp2_with fail
    refine (alive_any _).mono ?_
    rintro e w1 ⟨rfl, hb1⟩
    go_wp2_with fail
    go_ret
    exact ⟨rfl, hb1⟩
  · have hs : s.size ≤ 1000000 := by omega
    cases hd : dec s.data.toList with
    | none =>
      have HF := Lib.hid (fun W => fields_none s W hm hd)
      have HRR := Lib.hid (fun W => refRunes_any s W hs)
      have HD := Lib.hid hd
      clear hd
      unfold maxLen at hm
      go_enter Try.func4, Try.ntmps4
      go_wp2_with fail
      refine (alive_any _).mono ?_
      rintro e w1 ⟨rfl, hb1⟩
      go_wp2_with fail
      refine (HF.out _).mono ?_
      rintro e w2 ⟨rfl, hb2⟩
      go_wp2_with fail
      refine (HRR.out _).mono ?_
      rintro e w3 ⟨v3, rfl, hb3, -, -⟩
      rw [HD.out]
      go_wp2_with fail
      go_ret
      exact ⟨rfl, (hb1.trans (hb2.mono hb1.size)).trans (hb3.mono (hb1.trans (hb2.mono hb1.size)).size)⟩
    | some rs =>
      obtain ⟨ho, h⟩ := dec_some hd
      have hl := len_le h
      have HF := Lib.hid (fun W => fields_some s rs W hs ho h)
      have HRR := Lib.hid (fun W => refRunes_any s W hs)
      have HRF := Lib.hid (fun B v W hv => refFields_any rs B v W (by omega) ho hv)
      have HFB := Lib.hid (fieldsGo_len rs [])
      have HD := Lib.hid hd
      clear hd h ho
      unfold maxLen at hm
      go_enter Try.func4, Try.ntmps4
      go_wp2_with fail
      refine (alive_any _).mono ?_
      rintro e w1 ⟨rfl, hb1⟩
      go_wp2_with fail
      refine (HF.out _).mono ?_
      rintro e w2 ⟨v2, rfl, hb2, hown2⟩
      obtain ⟨a2, c2, rfl, hr2, -⟩ := OwnE.row hown2
      have R2 := Lib.hid hr2
      clear hr2 hown2
      go_wp2_with fail
      refine (HRR.out _).mono ?_
      rintro e w3 ⟨v3, rfl, hb3, hown3, -⟩
      have O3 := Lib.hid (hown3 rs HD.out)
      clear hown3
      rw [HD.out]
      go_wp2_with fail
      refine (HRF.out _ _ _ O3.out).mono ?_
      rintro e w4 ⟨v4, rfl, hb4, hown4⟩
      obtain ⟨a4, c4, rfl, hr4, -⟩ := OwnE.row hown4
      have R4 := Lib.hid hr4
      have R2' := Lib.hid ((R2.out.below hb3).below hb4)
      clear hr4 hown4
      go_wp2_with fail
      have hft := fieldTexts_len (fieldsGo [] rs)
      have HST := Lib.hid (sameTexts_any (fieldTexts (fieldsGo [] rs)) (fieldTexts (fieldsGo [] rs)) a2 a4 c2 c4 w4 (by rw [hft]; have := HFB.out; omega) (by rw [hft]; have := HFB.out; omega) R2'.out R4.out)
      rw [hft] at HST
      clear hft
      refine HST.out.mono ?_
      rintro e w5 ⟨rfl, hb5⟩
      have B2 := hb1.trans (hb2.mono hb1.size)
      have B3 := B2.trans (hb3.mono B2.size)
      have B4 := B3.trans (hb4.mono B3.size)
      have B5 := Lib.hid (B4.trans (hb5.mono B4.size))
      clear B2 B3 B4 hb1 hb2 hb3 hb4 hb5
      rw [decide_eq_true rfl]
      go_wp2_with fail
      go_ret
      exact ⟨rfl, B5.out⟩


theorem own : ownKnob Try.prog.godebug = none := by kernel_rfl

set_option maxRecDepth 100000 in
theorem lifted (os : Os) (started : os.Started) (H : Type) (enc : TypeId × Value → H) :
    ReturnsInHanded {} Try.checked os 4 .any (Rows.runesFieldsSpec.pre6 enc Try.prog Try.f4 Rows.runesFieldsRow.domain false) (Rows.runesFieldsSpec.post enc Try.prog Try.f4 false true false false) := by
  refine returnsInHanded_of_change (C := Try.checked) own started (by kernel_rfl) Try.func4
    (ChangeSpec.witness6 (enc := enc) (C := Try.checked) false ⟨#[], #[.string ByteArray.empty], []⟩ 8 (by kernel_rfl) (by kernel_rfl) (by kernel_rfl) (by kernel_rfl)) ?_
  intro W base args ds gs before hval0 hW hcnd _
  have hval : ∀ (j : Nat) t v, Try.f4.params[j]? = some t → args[j]? = some v → Value.okWide Try.prog W .any base t v := hval0
  have hW' := hW
  obtain ⟨p, q, hA0, hV, rfl, hfz, hnd⟩ := hW
  have hA : DataW.TrodAll enc Try.prog W 0 (fun _ => true) true Try.f4.params.toList args.toList ds p := hA0
  rw [Try.params4] at hA hval
  obtain ⟨v0, vs0, d0, ds0, p0, q0, hargs, rfl, rfl, h0, r0⟩ := trodAll_cons hA
  obtain ⟨rfl, rfl, rfl⟩ := trodAll_nil r0
  obtain rfl : args = #[v0] := by cases args; simp_all
  obtain ⟨rfl, rfl⟩ := trodVars_none hV
  obtain ⟨a0, rfl, rfl, rfl, w0⟩ := open_string Try.underlying9 (hval 0 9 v0 rfl rfl) h0
  clear hA0 hval0
  refine (walk a0 W w0).mono fun e W' ⟨he, bel⟩ => ?_
  subst he
  exact ⟨_, rfl, _, _, _, [], _, [], hW', trodAll_mk1 (shut_bool Try.underlying4 _), (trodAll_cons_mk (shut_string Try.underlying9 w0) trodAll_mk0), rfl, bel.frame _, fun h => by cases h⟩

theorem over : Rows.runesFieldsRow.holds Try.pinned (OpenSpec.ofChange Rows.runesFieldsSpec) :=
  OpenClaim.holds_of_wide 4 Try.f4 rfl rfl rfl rfl rfl rfl rfl ⟨rfl, rfl, rfl, rfl, rfl⟩ rfl rfl rfl rfl rfl (by kernel_rfl) Try.func4 (by kernel_rfl)
    (of_decide_eq_true (by kernel_rfl)) (by unfold Func.isWrapper; first | (rw [if_pos (by decide +kernel)]; kernel_rfl) | (rw [if_neg (by decide +kernel)]; exact ⟨rfl, rfl⟩))
    (fun os started H enc _ => lifted os started H enc)

/-- The statement. -/
theorem proved : Rows.RunesFieldsSaid := over
#print axioms proved
end Go.Proofs.Ythfjpikloanekaa.runesFields
