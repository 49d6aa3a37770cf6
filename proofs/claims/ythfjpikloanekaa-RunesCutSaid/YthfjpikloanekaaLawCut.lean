/-
  For every text and number the law RunesCut returns true: runes.First and runes.Rest are the document's, and put together they are the text.
  Conditions: none beyond the row's own reach.
-/
import Derived.Test.YthfjpikloanekaaRunesAlive
import Derived.Test.YthfjpikloanekaaRunesOrd
import Derived.ProofKit
import Derived.OpenShut
import Derived.ShutString
import Derived.ChangeOld
import Derived.Below
namespace Go.Proofs.Ythfjpikloanekaa.runesCut
open Go.ChangeShapes Go.WideShapes Go.ChangeAt Go.RowKit Utf
open Go.ChangeMaps (open_string shut_string)
set_option linter.unusedVariables false
set_option linter.unusedSimpArgs false
set_option maxRecDepth 100000

theorem nil_eq : ((ByteArray.empty).toList == ([] : List UInt8)) = true := by rw [Lib.toList_data]; rfl
theorem nil_isEmpty : (ByteArray.empty).toList.isEmpty = true := by rw [Lib.toList_data]; rfl
theorem mk_eq (l : List UInt8) : ((mkS l).toList == (mkS l).toList) = true := by rw [str_beq]; simp
theorem cat_eq (s : ByteArray) (rs : List Nat) (k : Nat) (h : s.data.toList = encAll rs) : ((mkS (encAll (rs.take k)) ++ mkS (encAll (rs.drop k))).toList == s.toList) = true := by
  rw [str_beq]
  apply decide_eq_true
  apply str_ext
  rw [ByteArray.data_append, Array.toList_append, mkS_data, mkS_data, ← encAll_append, List.take_append_drop, h]

/-- The rows of a slice's beginning and of its end. -/
theorem row_take {w : World} {ao : Option Addr} {rs : List Nat} (h : RowAt w ao (natRow rs)) (k : Nat) : RowAt w ao (natRow (rs.take k)) := by
  intro i hi
  rw [natRow_len, List.length_take] at hi
  obtain ⟨b, o, e, hc⟩ := h i (by rw [natRow_len]; omega)
  refine ⟨b, o, e, ?_⟩
  rw [natRow_at] at hc ⊢
  rw [List.getElem_take]
  exact hc
theorem row_drop {w : World} {b o : Nat} {rs : List Nat} (h : RowAt w (some ⟨b, o, none⟩) (natRow rs)) (k : Nat) : RowAt w (some ⟨b, o + k, none⟩) (natRow (rs.drop k)) := by
  intro i hi
  rw [natRow_len, List.length_drop] at hi
  obtain ⟨b', o', e, hc⟩ := h (k + i) (by rw [natRow_len]; omega)
  cases e
  refine ⟨b, o + k, rfl, ?_⟩
  rw [natRow_at] at hc ⊢
  rw [List.getElem_drop, Nat.add_assoc]
  exact hc

theorem row_drop_map {w : World} {ao : Option Addr} {rs : List Nat} (h : RowAt w ao (natRow rs)) (hsp : ∀ ad, ao = some ad → ad.spot = none) (k : Nat) : RowAt w (Option.map (fun x => x.add k) ao) (natRow (rs.drop k)) := by
  intro i hi
  have hi' := hi
  rw [natRow_len, List.length_drop] at hi'
  obtain ⟨b, o, e, hc⟩ := h (k + i) (by rw [natRow_len]; omega)
  subst e
  have := row_drop h k i hi
  obtain ⟨b', o', e', hc'⟩ := this
  cases e'
  exact ⟨b, o + k, by rw [Option.map_some, addr_add], hc'⟩

set_option maxHeartbeats 4000000 in
theorem walk (s : ByteArray) (n : Int) (w : World) (hm : s.size ≤ maxLen) (hwf : (Lit.int .i64 n).wf = true) :
    Calls Try.prog 5 #[.string s, .int .i64 n] w fun e w' => e = .returned (.bool true) ∧ Below w.heap.size w w' := by
  have hn := bounds_i64 hwf
  have hn1 := hn.1
  have hn2 := hn.2
  by_cases h500 : (500 : Int) < (s.size : Int)
  · unfold maxLen at hm
    clear hn
    go_enter Try.func5, Try.ntmps5
    go_wp2_with fail
    refine (alive_any _).mono ?_
    rintro e w1 ⟨rfl, hb1⟩
    go_wp2_with fail
    go_ret
    exact ⟨rfl, hb1⟩
  · have hs : s.size ≤ 1000000 := by omega
    have HRR := Lib.hid (fun W => refRunes_any s W hs)
    cases hd : dec s.data.toList with
    | none =>
      have HF := Lib.hid (fun W => first_none s n W hm hd)
      have HG := Lib.hid (fun W => rest_none s n W hm hd)
      have HD := Lib.hid hd
      clear hd hn
      unfold maxLen at hm
      go_enter Try.func5, Try.ntmps5
      go_wp2_with fail
      refine (alive_any _).mono ?_
      rintro e w1 ⟨rfl, hb1⟩
      go_wp2_with fail
      refine (HF.out _).mono ?_
      rintro e w2 ⟨rfl, hb2⟩
      go_wp2_with fail
      refine (HG.out _).mono ?_
      rintro e w3 ⟨rfl, hb3⟩
      go_wp2_with fail
      refine (HRR.out _).mono ?_
      rintro e w4 ⟨v4, rfl, hb4, -, -⟩
      rw [HD.out]
      have hne := nil_eq
      have hni := nil_isEmpty
      generalize ByteArray.empty = z at *
      go_wp2_with fail
      go_ret
      have B2 := hb1.trans (hb2.mono hb1.size)
      have B3 := B2.trans (hb3.mono B2.size)
      exact ⟨by first | rfl | simp_all, B3.trans (hb4.mono B3.size)⟩
    | some rs =>
      obtain ⟨ho, h⟩ := dec_some hd
      have hl := len_le h
      have HF := Lib.hid (fun W => first_some s rs n W hs ho h hn)
      have HG := Lib.hid (fun W => rest_some s rs n W hs ho h hn)
      have HCAT := Lib.hid (fun k => cat_eq s rs k h)
      have HD := Lib.hid hd
      have HO := Lib.hid ho
      clear hd h ho hn
      unfold maxLen at hm
      go_enter Try.func5, Try.ntmps5
      go_wp2_with fail
      refine (alive_any _).mono ?_
      rintro e w1 ⟨rfl, hb1⟩
      go_wp2_with fail
      refine (HF.out _).mono ?_
      rintro e w2 ⟨rfl, hb2⟩
      go_wp2_with fail
      refine (HG.out _).mono ?_
      rintro e w3 ⟨rfl, hb3⟩
      go_wp2_with fail
      refine (HRR.out _).mono ?_
      rintro e w4 ⟨v4, rfl, hb4, hown4, -⟩
      have O4 := Lib.hid (hown4 rs HD.out)
      clear hown4
      rw [HD.out]
      have B2 := hb1.trans (hb2.mono hb1.size)
      have B3 := B2.trans (hb3.mono B2.size)
      have B4 := Lib.hid (B3.trans (hb4.mono B3.size))
      clear B2 B3 hb1 hb2 hb3 hb4
      obtain ⟨k, hk, hkt⟩ : ∃ k : Nat, k ≤ rs.length ∧ rs.take n.toNat = rs.take k ∧ rs.drop n.toNat = rs.drop k ∧ ((n < 0 ∧ k = 0) ∨ (0 ≤ n ∧ n ≤ rs.length ∧ (k : Int) = n) ∨ ((rs.length : Int) < n ∧ k = rs.length)) := by
        by_cases h0 : n < 0
        · exact ⟨0, Nat.zero_le _, by rw [show n.toNat = 0 by omega], by rw [show n.toNat = 0 by omega], .inl ⟨h0, rfl⟩⟩
        · by_cases h1 : n ≤ rs.length
          · exact ⟨n.toNat, by omega, rfl, rfl, .inr (.inl ⟨by omega, h1, by omega⟩)⟩
          · exact ⟨rs.length, Nat.le_refl _, by rw [List.take_length, List.take_of_length_le (by omega)], by rw [List.drop_length, List.drop_of_length_le (by omega)], .inr (.inr ⟨by omega, rfl⟩)⟩
      obtain ⟨hk1, hk2, hk3⟩ := hkt
      rw [hk1, hk2]
      clear hk1 hk2
      have hcat := HCAT.out k
      have hq1 := mk_eq (encAll (rs.take k))
      have hq2 := mk_eq (encAll (rs.drop k))
      have hz1 : (mkS (encAll (rs.take k))).size ≤ 4000000 := by rw [mkS_size]; have := encAll_le (rs.take k); rw [List.length_take] at this; omega
      have hz2 : (mkS (encAll (rs.drop k))).size ≤ 4000000 := by rw [mkS_size]; have := encAll_le (rs.drop k); rw [List.length_drop] at this; omega
      obtain ⟨a4, c4, rfl, hr4, -, hcap, hcm, hao, hsp⟩ := own_row O4.out
      unfold maxLen at hcm
      have HR4 := Lib.hid hr4
      have hto := allOk_append.1 (by rw [List.take_append_drop]; exact HO.out : allOk (rs.take k ++ rs.drop k))
      have HT1 := Lib.hid (fun (W : World) (ao : Option Addr) (cap : Nat) (m : Nat) (hm : (rs.take k).length = m) (hr : RowAt W ao (natRow (rs.take k))) => (by subst hm; exact refText_any (rs.take k) ao cap W (by rw [List.length_take]; omega) hto.1 hr : Calls Try.prog 11 #[.slice ao m cap] W fun e w' => e = .returned (.string (mkS (encAll (rs.take k)))) ∧ Below W.heap.size W w'))
      have HT2 := Lib.hid (fun (W : World) (ao : Option Addr) (cap : Nat) (m : Nat) (hm : (rs.drop k).length = m) (hr : RowAt W ao (natRow (rs.drop k))) => (by subst hm; exact refText_any (rs.drop k) ao cap W (by rw [List.length_drop]; omega) hto.2 hr : Calls Try.prog 11 #[.slice ao m cap] W fun e w' => e = .returned (.string (mkS (encAll (rs.drop k)))) ∧ Below W.heap.size W w'))
      have HL1 := Lib.hid (show (rs.take k).length = k by rw [List.length_take]; omega)
      have HL2 := Lib.hid (show (rs.drop k).length = rs.length - k by rw [List.length_drop])
      clear hr4 hto
      have HRT := Lib.hid (fun (W : World) (hb : Below w4.heap.size w4 W) => row_take (HR4.out.below hb) k)
      have HRD := Lib.hid (fun (W : World) (hb : Below w4.heap.size w4 W) => row_drop_map (HR4.out.below hb) hsp k)
      have HRV := Lib.hid (fun (W : World) (hv : c4 = k) => show RowAt W a4 (natRow (rs.drop k)) from fun i hi => by rw [natRow_len, List.length_drop] at hi; omega)
      have HRZ := Lib.hid (fun (W : World) (hb : Below w4.heap.size w4 W) (h0 : k = 0) => show RowAt W a4 (natRow (rs.drop k)) from by subst h0; exact HR4.out.below hb)
      clear hsp
      generalize mkS (encAll (rs.take k)) = x1 at *
      generalize mkS (encAll (rs.drop k)) = x2 at *
      have HK := Lib.hid hk
      rcases hk3 with ⟨h0, rfl⟩ | ⟨h0, h1, rfl⟩ | ⟨h1, rfl⟩
      · go_wp2_with fail
        refine (HT1.out _ _ _ _ HL1.out (HRT.out _ (Below.refl _ _))).mono ?_
        rintro e w5 ⟨rfl, hb5⟩
        have B5 := Lib.hid hb5
        clear hb5
        have HZ2 := Lib.hid (fun W hb => HT2.out W a4 c4 rs.length (by simp) (HRZ.out W hb (by first | rfl | trivial)))
        clear HT2 HRZ HRV HRD
        go_wp2_with fail
        refine (HZ2.out _ B5.out).mono ?_
        rintro e w6 ⟨rfl, hb6⟩
        have B6 := Lib.hid (B4.out.trans ((B5.out.trans (hb6.mono B5.out.size)).mono B4.out.size))
        clear hb6
        go_wp2_with fail
        go_ret
        exact ⟨rfl, B6.out⟩
      · go_wp2_with fail
        refine (HT1.out _ _ _ _ HL1.out (HRT.out _ (Below.refl _ _))).mono ?_
        rintro e w5 ⟨rfl, hb5⟩
        have B5 := Lib.hid hb5
        clear hb5
        by_cases hv : c4 = k
        · have HZ2 := Lib.hid (fun W => HT2.out W a4 0 (rs.length - k) (by simp) (HRV.out W hv))
          clear HT2 HRZ HRV HRD
          go_wp2_with fail
          refine (HZ2.out _).mono ?_
          rintro e w6 ⟨rfl, hb6⟩
          have B6 := Lib.hid (B4.out.trans ((B5.out.trans (hb6.mono B5.out.size)).mono B4.out.size))
          clear hb6
          go_wp2_with fail
          go_ret
          exact ⟨rfl, B6.out⟩
        · have HZ2 := Lib.hid (fun W hb => HT2.out W (Option.map (fun x => x.add k) a4) (c4 - k) (rs.length - k) (by simp) (HRD.out W hb))
          clear HT2 HRZ HRV HRD
          go_wp2_with fail
          refine (HZ2.out _ B5.out).mono ?_
          rintro e w6 ⟨rfl, hb6⟩
          have B6 := Lib.hid (B4.out.trans ((B5.out.trans (hb6.mono B5.out.size)).mono B4.out.size))
          clear hb6
          go_wp2_with fail
          go_ret
          exact ⟨rfl, B6.out⟩
      · go_wp2_with fail
        refine (HT1.out _ _ _ _ HL1.out (HRT.out _ (Below.refl _ _))).mono ?_
        rintro e w5 ⟨rfl, hb5⟩
        have B5 := Lib.hid hb5
        clear hb5
        by_cases hv : c4 = rs.length
        · have HZ2 := Lib.hid (fun W => HT2.out W a4 0 0 (by simp) (HRV.out W hv))
          clear HT2 HRZ HRV HRD
          go_wp2_with fail
          refine (HZ2.out _).mono ?_
          rintro e w6 ⟨rfl, hb6⟩
          have B6 := Lib.hid (B4.out.trans ((B5.out.trans (hb6.mono B5.out.size)).mono B4.out.size))
          clear hb6
          go_wp2_with fail
          go_ret
          exact ⟨rfl, B6.out⟩
        · have HZ2 := Lib.hid (fun W hb => HT2.out W (Option.map (fun x => x.add rs.length) a4) (c4 - rs.length) 0 (by simp) (HRD.out W hb))
          clear HT2 HRZ HRV HRD
          go_wp2_with fail
          refine (HZ2.out _ B5.out).mono ?_
          rintro e w6 ⟨rfl, hb6⟩
          have B6 := Lib.hid (B4.out.trans ((B5.out.trans (hb6.mono B5.out.size)).mono B4.out.size))
          clear hb6
          go_wp2_with fail
          go_ret
          exact ⟨rfl, B6.out⟩


theorem own : ownKnob Try.prog.godebug = none := by kernel_rfl

set_option maxRecDepth 100000 in
theorem lifted (os : Os) (started : os.Started) (H : Type) (enc : TypeId × Value → H) :
    ReturnsInHanded {} Try.checked os 5 .any (Rows.runesCutSpec.pre6 enc Try.prog Try.f5 Rows.runesCutRow.domain false) (Rows.runesCutSpec.post enc Try.prog Try.f5 false true false false) := by
  refine returnsInHanded_of_change (C := Try.checked) own started (by kernel_rfl) Try.func5
    (ChangeSpec.witness6 (enc := enc) (C := Try.checked) false ⟨#[], #[.string ByteArray.empty, .int .i64 0], []⟩ 8 (by kernel_rfl) (by kernel_rfl) (by kernel_rfl) (by kernel_rfl)) ?_
  intro W base args ds gs before hval0 hW hcnd _
  have hval : ∀ (j : Nat) t v, Try.f5.params[j]? = some t → args[j]? = some v → Value.okWide Try.prog W .any base t v := hval0
  have hW' := hW
  obtain ⟨p, q, hA0, hV, rfl, hfz, hnd⟩ := hW
  have hA : DataW.TrodAll enc Try.prog W 0 (fun _ => true) true Try.f5.params.toList args.toList ds p := hA0
  rw [Try.params5] at hA hval
  obtain ⟨v0, vs0, d0, ds0, p0, q0, hargs, rfl, rfl, h0, r0⟩ := trodAll_cons hA
  obtain ⟨v1, vs1, d1, ds1, p1, q1, rfl, rfl, rfl, h1, r1⟩ := trodAll_cons r0
  obtain ⟨rfl, rfl, rfl⟩ := trodAll_nil r1
  obtain rfl : args = #[v0, v1] := by cases args; simp_all
  obtain ⟨rfl, rfl⟩ := trodVars_none hV
  obtain ⟨a0, rfl, rfl, rfl, w0⟩ := open_string Try.underlying9 (hval 0 9 v0 rfl rfl) h0
  obtain ⟨a1, rfl, rfl, rfl, w1⟩ := open_int Try.underlying3 (hval 1 3 v1 rfl rfl) h1
  clear hA0 hval0
  refine (walk a0 a1 W w0 w1).mono fun e W' ⟨he, bel⟩ => ?_
  subst he
  exact ⟨_, rfl, _, _, _, [], _, [], hW', trodAll_mk1 (shut_bool Try.underlying4 _), (trodAll_cons_mk (shut_string Try.underlying9 w0) (trodAll_cons_mk (shut_int Try.underlying3 w1) trodAll_mk0)), rfl, bel.frame _, fun h => by cases h⟩

theorem over : Rows.runesCutRow.holds Try.pinned (OpenSpec.ofChange Rows.runesCutSpec) :=
  OpenClaim.holds_of_wide 5 Try.f5 rfl rfl rfl rfl rfl rfl rfl ⟨rfl, rfl, rfl, rfl, rfl⟩ rfl rfl rfl rfl rfl (by kernel_rfl) Try.func5 (by kernel_rfl)
    (of_decide_eq_true (by kernel_rfl)) (by unfold Func.isWrapper; first | (rw [if_pos (by decide +kernel)]; kernel_rfl) | (rw [if_neg (by decide +kernel)]; exact ⟨rfl, rfl⟩))
    (fun os started H enc _ => lifted os started H enc)

/-- The statement. -/
theorem proved : Rows.RunesCutSaid := over
#print axioms proved
end Go.Proofs.Ythfjpikloanekaa.runesCut
