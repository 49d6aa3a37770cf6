/-
  Contracts: cmp_any, cmpFunc_any, compare_some, compare_none.
  Contracts: refRunes_any.
  The values of package api's errors: what the listed variables give; errors.Is between two of them.
  runes.Key under the six errors that shards and balance give; runes.Compare of whatever keys; the order of texts.
  Package span's end, less, Right, Has, Cut, Join, over plain functions.
-/
import Derived.Test.YthjmfcdhpdiehaaGreatDoorM03
import Derived.Test.YthjmfcdhpdiehaaGreatDoorM02
import Derived.LaidEql
import Derived.Stop.Asserts
import Derived.RowKitTokens
import Derived.LaidLaws
namespace Go.Proofs.YthjmfcdhpdiehaaGreatDoor
open Go.RowKit Utf
set_option maxRecDepth 100000
set_option linter.unusedSimpArgs false
set_option linter.unusedVariables false

set_option maxHeartbeats 400000 in
theorem cmp_any (a b : Nat) (w : World) (ha : a < 2147483648) (hb : b < 2147483648) :
    Calls Tryz.prog 96 #[.int .i32 (a : Int), .int .i32 (b : Int)] w fun e w' => e = .returned (.int .i64 (cmp2 a b)) ∧ w' = w := by
  have ea : ((a : Int) != a) = false := by simp
  have eb : ((b : Int) != b) = false := by simp
  by_cases h1 : (a : Int) < b
  · go_enter Tryz.func96, Tryz.ntmps96
    go_wp2
    go_ret
    exact ⟨ret_int (by rw [cmp2, if_pos (by omega)]), rfl⟩
  · by_cases h2 : (b : Int) < a
    · go_enter Tryz.func96, Tryz.ntmps96
      go_wp2
      go_ret
      exact ⟨ret_int (by rw [cmp2, if_neg (by omega), if_pos (by omega)]), rfl⟩
    · go_enter Tryz.func96, Tryz.ntmps96
      go_wp2
      go_ret
      exact ⟨ret_int (by rw [cmp2, if_neg (by omega), if_neg (by omega)]), rfl⟩

set_option maxHeartbeats 1000000 in
theorem cmpFunc_any (a b : List Nat) (aa ab : Option Addr) (ca cb : Nat) (w : World) (hla : a.length ≤ 1000000) (hlb : b.length ≤ 1000000) (ho : ∀ c ∈ a, c < 2147483648) (hp : ∀ c ∈ b, c < 2147483648)
    (hra : RowAt w aa (runeRow a)) (hrb : RowAt w ab (runeRow b)) :
    Calls Tryz.prog 94 #[.slice aa a.length ca, .slice ab b.length cb, .func (.func 96) #[] #[]] w fun e w' => e = .returned (.int .i64 (cmpL a b)) ∧ w' = w := by
  have HO := Lib.hid ho
  have HP := Lib.hid hp
  have HA := Lib.hid hra
  have HB := Lib.hid hrb
  clear ho hp hra hrb
  go_enter Tryz.func94, Tryz.ntmps94
  go_wp2_with fail
  go_loop [13] (fun i => ∃ k : Nat, k ≤ a.length ∧ k ≤ b.length ∧ i = .int .i64 k ∧ Hid (cmpL a b = cmpL (a.drop k) (b.drop k))) (fun i => a.length - (intOf i).toNat)
  case atStart => exact ⟨0, Nat.zero_le _, Nat.zero_le _, rfl, rfl⟩
  case round =>
    obtain ⟨k, hka, hkb, rfl, HC⟩ := hrel
    by_cases hlt : k < a.length
    · obtain ⟨ba, oa, rfl, hca⟩ := HA.out k (by rw [runeRow_len]; exact hlt)
      rw [runeRow_at] at hca
      by_cases hltb : k < b.length
      · obtain ⟨bb, ob, rfl, hcb⟩ := HB.out k (by rw [runeRow_len]; exact hltb)
        rw [runeRow_at] at hcb
        have hx := HO.out a[k] (List.getElem_mem hlt)
        have hy := HP.out b[k] (List.getElem_mem hltb)
        have HK := Lib.hid (cmpL_skip a b k hlt hltb)
        have HT := Lib.hid (cmpL_at a b k hlt hltb)
        generalize a[k] = x at *
        generalize b[k] = y at *
        by_cases hz : cmp2 x y = 0
        · have hz' : (cmp2 x y != 0) = false := by simp [hz]
          have HZ := Lib.hid (HC.out.trans (HK.out (cmp2_zero hz)))
          clear hz
          go_wp2_with fail
          refine (cmp_any x y _ hx hy).mono ?_
          rintro e w' ⟨rfl, rfl⟩
          generalize cmp2 x y = z at *
          go_wp2_with fail
          go_round
          case rel => exact ⟨k + 1, by omega, by omega, by go_num, HZ.out⟩
          case measure => simp [intOf]; omega
        · have hz' : (cmp2 x y != 0) = true := by simp [hz]
          have HZ := Lib.hid hz
          clear hz
          go_wp2_with fail
          refine (cmp_any x y _ hx hy).mono ?_
          rintro e w' ⟨rfl, rfl⟩
          generalize hz : cmp2 x y = z at *
          have HZ2 := Lib.hid hz
          clear hz
          go_wp2_with fail
          go_ret
          exact ⟨ret_int ((HC.out.trans (HT.out HZ.out)).symm), rfl⟩
      · obtain rfl : k = b.length := by omega
        go_wp2_with fail
        go_ret
        refine ⟨ret_int ?_, rfl⟩
        rw [HC.out, List.drop_length, List.drop_eq_getElem_cons hlt]
        rfl
    · obtain rfl : k = a.length := by omega
      by_cases hltb : a.length < b.length
      · go_wp2_with fail
        go_ret
        refine ⟨ret_int ?_, rfl⟩
        rw [HC.out, List.drop_length, List.drop_eq_getElem_cons hltb]
        rfl
      · go_wp2_with fail
        go_ret
        refine ⟨ret_int ?_, rfl⟩
        rw [HC.out, List.drop_length, List.drop_of_length_le (by omega)]
        rfl

set_option maxHeartbeats 400000 in
theorem compare_some (s t : ByteArray) (a b : List Nat) (w : World) (hs : s.size ≤ 1000000) (ht : t.size ≤ 1000000) (ho : allOk a) (hp : allOk b) (h1 : s.data.toList = encAll a) (h2 : t.data.toList = encAll b) :
    Calls Tryz.prog 63 #[.string s, .string t] w fun e w' => e = .returned (.int .i64 (cmpL a b)) ∧ Below w.heap.size w w' := by
  have hs' : s.size ≤ maxLen := by unfold maxLen; omega
  have ht' : t.size ≤ maxLen := by unfold maxLen; omega
  have HA := Lib.hid (fun W => list_some s a W hs ho h1)
  have HB := Lib.hid (fun W => list_some t b W ht hp h2)
  have hla : a.length ≤ 1000000 := by have := len_le h1; omega
  have hlb : b.length ≤ 1000000 := by have := len_le h2; omega
  have hd := dec_encAll ho
  rw [← h1] at hd
  have hd2 := dec_encAll hp
  rw [← h2] at hd2
  have HD := Lib.hid hd
  have HD2 := Lib.hid hd2
  clear hd hd2 h1 h2
  go_enter Tryz.func63, Tryz.ntmps63
  go_wp2_with fail
  refine (right_any _ _ hs').mono ?_
  rintro e w1 ⟨rfl, hb1⟩
  rw [HD.out]
  go_wp2_with fail
  refine (right_any _ _ ht').mono ?_
  rintro e w2 ⟨rfl, hb2⟩
  rw [HD2.out]
  go_wp2_with fail
  refine (HA.out _).mono ?_
  rintro e w3 ⟨v3, rfl, hb3, hown3⟩
  obtain ⟨a3, c3, rfl, hr3, -⟩ := own_row hown3
  have R3 := Lib.hid hr3
  clear hr3 hown3
  go_wp2_with fail
  refine (HB.out _).mono ?_
  rintro e w4 ⟨v4, rfl, hb4, hown4⟩
  obtain ⟨a4, c4, rfl, hr4, -⟩ := own_row hown4
  have R4 := Lib.hid hr4
  clear hr4 hown4
  go_wp2_with fail
  refine (cmpFunc_any a b a3 a4 c3 c4 _ hla hlb (okR_lt ho) (okR_lt hp) (R3.out.below hb4) R4.out).mono ?_
  rintro e w5 ⟨rfl, rfl⟩
  go_wp2_with fail
  go_ret
  have z1 := hb1.size
  have z2 := hb2.size
  have z3 := hb3.size
  exact ⟨rfl, ((hb1.trans (hb2.mono z1)).trans (hb3.mono (by omega))).trans (hb4.mono (by omega))⟩

set_option maxHeartbeats 400000 in
theorem compare_none (s t : ByteArray) (w : World) (hs : s.size ≤ maxLen) (ht : t.size ≤ maxLen) (h : dec s.data.toList = none ∨ dec t.data.toList = none) :
    Calls Tryz.prog 63 #[.string s, .string t] w fun e w' => e = .returned (.int .i64 0) ∧ Below w.heap.size w w' := by
  cases hd : dec s.data.toList with
  | none =>
    have HD := Lib.hid hd
    clear hd h
    go_enter Tryz.func63, Tryz.ntmps63
    go_wp2_with fail
    refine (right_any _ _ hs).mono ?_
    rintro e w1 ⟨rfl, hb1⟩
    rw [HD.out]
    go_wp2_with fail
    go_ret
    exact ⟨rfl, hb1⟩
  | some rs =>
    have HE := Lib.hid (h.resolve_left (by rw [hd]; simp))
    have HD := Lib.hid hd
    clear hd h
    go_enter Tryz.func63, Tryz.ntmps63
    go_wp2_with fail
    refine (right_any _ _ hs).mono ?_
    rintro e w1 ⟨rfl, hb1⟩
    rw [HD.out]
    go_wp2_with fail
    refine (right_any _ _ ht).mono ?_
    rintro e w2 ⟨rfl, hb2⟩
    rw [HE.out]
    go_wp2_with fail
    go_ret
    exact ⟨rfl, hb1.trans (hb2.mono hb1.size)⟩
end Go.Proofs.YthjmfcdhpdiehaaGreatDoor

namespace Go.Proofs.YthjmfcdhpdiehaaGreatDoor
open Go.RowKit Utf
set_option maxRecDepth 100000
set_option linter.unusedSimpArgs false
set_option linter.unusedVariables false

set_option maxHeartbeats 4000000 in
theorem refRunes_any (s : ByteArray) (w : World) (hs : s.size ≤ 1000000) :
    Calls Tryz.prog 82 #[.string s] w fun e w' =>
      ∃ v, e = .returned (.tuple #[v, .bool (dec s.data.toList).isSome]) ∧ Below w.heap.size w w' ∧
        (∀ rs, dec s.data.toList = some rs → w'.ownsRow w.heap.size 3 1 v rs.length (natRow rs)) ∧ (dec s.data.toList = none → v = .slice none 0 0) := by
  obtain ⟨i0, hi, hz0, hz1, hz2⟩ := info_parts Tryz.infoInt
  go_enter Tryz.func82, Tryz.ntmps82
  go_wp2
  go_loopw [4, 5] (fun v i wr => ∃ (rs : List Nat), i = .int .i64 (encAll rs).length ∧ allOk rs ∧ s.data.toList = encAll rs ++ s.data.toList.drop (encAll rs).length ∧ Below w.heap.size w wr ∧ wr.ownsRow w.heap.size 3 1 v rs.length (natRow rs))
    (fun _ i _ => s.size - (intOf i).toNat)
  case atStart =>
    exact ⟨[], rfl, allOk_nil, rfl, (Below.refl _ _).alloc (Nat.le_refl _) _, World.ownsRow_made w #[] 0 (Nat.le_refl _) (by simp [maxLen]) rfl⟩
  case round =>
    obtain ⟨rs, rfl, ho, hx, hbel, hown⟩ := hrel
    have hlen : rs.length ≤ s.size := by
      have h1 := encAll_length rs
      have h2 := congrArg List.length hx
      simp only [List.length_append, ← Lib.size_eq] at h2
      omega
    have hstep := fun c n => dec_step (c := c) (n := n) ho hx
    have hstuck := dec_stuck ho hx
    have hdone := dec_done ho hx
    clear hx ho
    generalize hpos : (encAll rs).length = pos at *
    clear hpos
    by_cases hp : pos < s.size
    · replace hstuck := hstuck hp
      clear hdone
      have e0 := byteAt_eq s pos hp
      have hb256 : s[pos].toNat < 256 := s[pos].toNat_lt
      have hstuck2 := dec1_short2 hp
      have hstuck3 := dec1_short3 hp
      have hstuck4 := dec1_short4 hp
      have hstuck0 := dec1_at0 hp
      rcases (show (s[pos].toNat < 128) ∨ (128 ≤ s[pos].toNat ∧ s[pos].toNat < 192 ∨ 248 ≤ s[pos].toNat) ∨ (192 ≤ s[pos].toNat ∧ s[pos].toNat < 224) ∨ (224 ≤ s[pos].toNat ∧ s[pos].toNat < 240) ∨ (240 ≤ s[pos].toNat ∧ s[pos].toNat < 248) by omega) with hb | hb | hb | hb | hb
      · have hshort : pos + 1 ≤ s.size ∨ ¬ pos + 0 < s.size := by omega
        rcases hshort with hshort | hshort
        · obtain ⟨c0, hc0⟩ : ∃ c0, c0 + 0 = s[pos].toNat := ⟨s[pos].toNat - 0, by omega⟩
          have hkind := dec1_kind (s := s) (p := pos) (n := 1) (least := 0) (c0 := c0) hshort (by omega)
          have HP := Lib.hid (part_bound (s := s) (p := pos) (c0 := c0) (by omega))
          have HOK := Lib.hid (fun h => hstep _ _ (hkind.1 h))
          have HNO := Lib.hid (fun h => hstuck (hkind.2 h))
          have hq : decide ((s.size : Int) - (pos : Int) < 1) = false := by simp; omega
          have hsub : ((s[pos].toNat : Nat) : Int) = (c0 : Int) := by omega
          have HS := Lib.hid hsub
          have hc0b : c0 < 128 := by omega
          clear hstuck hstep hstuck2 hstuck3 hstuck4 hstuck0 e0 hc0 hkind hsub
          go_wp2_with fail
          go_quiet (fail)
          generalize hbb : s[pos].toNat = b at *
          clear hbb
          have hT0 : (b : Int) < 128 := by omega
          go_wp2_with fail
          rw [HS.out]
          have hbel2 := below_drewN hbel nq
          have hown2 : (wr.drewN nq).ownsRow w.heap.size 3 1 u4 rs.length (natRow rs) := hown
          clear hbel hown
          generalize wr.drewN nq = w1 at *
          go_loopw [8, 9] (fun c k w2 => ∃ j : Nat, k = .int .i64 j ∧ 1 ≤ j ∧ j ≤ 1 ∧ conts s pos j ∧ c = .int .i64 (part s pos c0 j : Nat) ∧ w2 = w1) (fun _ k _ => (4 - intOf k).toNat)
          case atStart => exact ⟨1, rfl, by omega, by omega, fun i h1 h2 => by omega, rfl, rfl⟩
          case round =>
            obtain ⟨j, rfl, hj1, hj2, hcs, rfl, rfl⟩ := hrel
            have hpb := HP.out j (by omega) hcs
            by_cases hjn : j < 1
            · omega
            · obtain rfl : j = 1 := by omega
              have hc1 : part s pos c0 1 < 128 := by simp only [part]; omega
              generalize hcc : part s pos c0 1 = c at *
              have HCC := Lib.hid hcc
              clear hcc
              by_cases h1 : (c : Int) < 0
              · have HN := Lib.hid (HNO.out (fun hc => by omega))
                first
                  | (exfalso; omega)
                  | (go_wp2_with fail
                     go_ret2
                     rw [HN.out]
                     exact ⟨_, rfl, hbel2, fun _ h => (by cases h), fun _ => rfl⟩)
              · by_cases h2 : (1114111 : Int) < (c : Int)
                · have HN := Lib.hid (HNO.out (fun hc => by have := hc.2.2; rw [okR_def] at this; omega))
                  first
                    | (exfalso; omega)
                    | (go_wp2_with fail
                       go_ret2
                       rw [HN.out]
                       exact ⟨_, rfl, hbel2, fun _ h => (by cases h), fun _ => rfl⟩)
                · by_cases h3 : (55296 : Int) ≤ (c : Int) ∧ (c : Int) ≤ 57343
                  · have HN := Lib.hid (HNO.out (fun hc => by have := hc.2.2; rw [okR_def] at this; omega))
                    obtain ⟨h3, h4⟩ := h3
                    first
                      | (exfalso; omega)
                      | (go_wp2_with fail
                         go_ret2
                         rw [HN.out]
                         exact ⟨_, rfl, hbel2, fun _ h => (by cases h), fun _ => rfl⟩)
                  · have HOK2 := Lib.hid (HOK.out ⟨hcs, by omega, by rw [okR_def]; omega⟩)
                    have HBS := Lib.hid hbel2.size
                    have h3' : (¬ (55296 : Int) ≤ (c : Int)) ∨ ((55296 : Int) ≤ (c : Int) ∧ ¬ (c : Int) ≤ 57343) := by omega
                    clear h3
                    rcases h3' with h3 | ⟨h3, h4⟩
                    all_goals (try (exfalso; omega))
                    all_goals
                      go_wp2_with (at_builtin; refine wpList_append_own _ rfl _ _ 37 rfl w.heap.size 3 i0 (.int .i64 0) 1 8 Tryz.underlying37 hi hz0 hz1 hz2 rfl (by decide) _ _ _ rfl (hown2.alloc _) ⟨wr.heap.size, 0, none⟩ 1 1 [.int .i64 (c : Int)] rfl rfl (one_cell _ _ _) (by intro u hu; simp at hu; subst hu; rfl) (by unfold maxLen; omega) (by omega) (by have := HBS.out; simp; omega) ?_; intro v' w2 hown' hgrow _; have hown3 := app_nat hown'; have hbel3 : Below w.heap.size w w2 := (hbel2.alloc HBS.out _).grown hgrow (by have := HBS.out; simp; omega) (fun k hk => (hown2.lt k hk).1); clear hown' hgrow hown2 hbel2)
                      go_roundw
                      case rel => exact ⟨rs ++ [c], by rw [HOK2.out.2.1]; go_num, HOK2.out.1, HOK2.out.2.2, by assumption, by assumption⟩
                      case measure => simp [intOf]; omega
        · omega
      · have HN := Lib.hid (hstuck (hstuck0 (by omega) (by omega)))
        clear hstuck hstep hstuck2 hstuck3 hstuck4 hstuck0 e0
        go_wp2_with fail
        go_quiet (fail)
        rcases hb with hb | hb
        all_goals
          go_wp2_with fail
          go_ret2
          rw [HN.out]
          exact ⟨_, rfl, below_drewN hbel _, fun _ h => (by cases h), fun _ => rfl⟩
      · have hshort : pos + 2 ≤ s.size ∨ ¬ pos + 1 < s.size := by omega
        rcases hshort with hshort | hshort
        · obtain ⟨c0, hc0⟩ : ∃ c0, c0 + 192 = s[pos].toNat := ⟨s[pos].toNat - 192, by omega⟩
          have hkind := dec1_kind (s := s) (p := pos) (n := 2) (least := 128) (c0 := c0) hshort (by omega)
          have HP := Lib.hid (part_bound (s := s) (p := pos) (c0 := c0) (by omega))
          have HOK := Lib.hid (fun h => hstep _ _ (hkind.1 h))
          have HNO := Lib.hid (fun h => hstuck (hkind.2 h))
          have hq : decide ((s.size : Int) - (pos : Int) < 2) = false := by simp; omega
          have hsub : ((s[pos].toNat : Nat) : Int) - 192 = (c0 : Int) := by omega
          have HS := Lib.hid hsub
          have hc0b : c0 < 128 := by omega
          clear hstuck hstep hstuck2 hstuck3 hstuck4 hstuck0 e0 hc0 hkind hsub
          go_wp2_with fail
          go_quiet (fail)
          generalize hbb : s[pos].toNat = b at *
          clear hbb
          have hT0 : ¬ (b : Int) < 128 := by omega
          have hT1 : (192 : Int) ≤ (b : Int) := by omega
          have hT2 : (b : Int) < 224 := by omega
          go_wp2_with fail
          rw [HS.out]
          have hbel2 := below_drewN hbel nq
          have hown2 : (wr.drewN nq).ownsRow w.heap.size 3 1 u4 rs.length (natRow rs) := hown
          clear hbel hown
          generalize wr.drewN nq = w1 at *
          go_loopw [8, 9] (fun c k w2 => ∃ j : Nat, k = .int .i64 j ∧ 1 ≤ j ∧ j ≤ 2 ∧ conts s pos j ∧ c = .int .i64 (part s pos c0 j : Nat) ∧ w2 = w1) (fun _ k _ => (4 - intOf k).toNat)
          case atStart => exact ⟨1, rfl, by omega, by omega, fun i h1 h2 => by omega, rfl, rfl⟩
          case round =>
            obtain ⟨j, rfl, hj1, hj2, hcs, rfl, rfl⟩ := hrel
            have hpb := HP.out j (by omega) hcs
            by_cases hjn : j < 2
            · have hidx : pos + j < s.size := by omega
              have EB := Lib.hid (byteAt_eq s (pos + j) hidx)
              have PS := Lib.hid (part_succ (s := s) (p := pos) (c0 := c0) hj1)
              have hd256 : s[pos + j].toNat < 256 := s[pos + j].toNat_lt
              by_cases h1 : ((s[pos + j].toNat : Nat) : Int) < 128
              · have HN := Lib.hid (HNO.out (fun hc => by have := hc.1 j hj1 hjn; rw [EB.out] at this; omega))
                first
                  | (exfalso; omega)
                  | (go_wp2_with fail
                     go_ret2
                     rw [HN.out]
                     exact ⟨_, rfl, hbel2, fun _ h => (by cases h), fun _ => rfl⟩)
              · by_cases h2 : 191 < ((s[pos + j].toNat : Nat) : Int)
                · have HN := Lib.hid (HNO.out (fun hc => by have := hc.1 j hj1 hjn; rw [EB.out] at this; omega))
                  first
                    | (exfalso; omega)
                    | (go_wp2_with fail
                       go_ret2
                       rw [HN.out]
                       exact ⟨_, rfl, hbel2, fun _ h => (by cases h), fun _ => rfl⟩)
                · have HC := Lib.hid (conts_succ hcs (by rw [EB.out]; omega))
                  go_wp2_with fail
                  go_roundw
                  case rel => exact ⟨j + 1, by go_num, by omega, by omega, HC.out, by rw [PS.out, EB.out]; go_num, by first | rfl | trivial⟩
                  case measure => simp [intOf]; omega
            · obtain rfl : j = 2 := by omega
              generalize hcc : part s pos c0 2 = c at *
              have HCC := Lib.hid hcc
              clear hcc
              by_cases h1 : (c : Int) < 128
              · have HN := Lib.hid (HNO.out (fun hc => by omega))
                first
                  | (exfalso; omega)
                  | (go_wp2_with fail
                     go_ret2
                     rw [HN.out]
                     exact ⟨_, rfl, hbel2, fun _ h => (by cases h), fun _ => rfl⟩)
              · by_cases h2 : (1114111 : Int) < (c : Int)
                · have HN := Lib.hid (HNO.out (fun hc => by have := hc.2.2; rw [okR_def] at this; omega))
                  first
                    | (exfalso; omega)
                    | (go_wp2_with fail
                       go_ret2
                       rw [HN.out]
                       exact ⟨_, rfl, hbel2, fun _ h => (by cases h), fun _ => rfl⟩)
                · by_cases h3 : (55296 : Int) ≤ (c : Int) ∧ (c : Int) ≤ 57343
                  · have HN := Lib.hid (HNO.out (fun hc => by have := hc.2.2; rw [okR_def] at this; omega))
                    obtain ⟨h3, h4⟩ := h3
                    first
                      | (exfalso; omega)
                      | (go_wp2_with fail
                         go_ret2
                         rw [HN.out]
                         exact ⟨_, rfl, hbel2, fun _ h => (by cases h), fun _ => rfl⟩)
                  · have HOK2 := Lib.hid (HOK.out ⟨hcs, by omega, by rw [okR_def]; omega⟩)
                    have HBS := Lib.hid hbel2.size
                    have h3' : (¬ (55296 : Int) ≤ (c : Int)) ∨ ((55296 : Int) ≤ (c : Int) ∧ ¬ (c : Int) ≤ 57343) := by omega
                    clear h3
                    rcases h3' with h3 | ⟨h3, h4⟩
                    all_goals (try (exfalso; omega))
                    all_goals
                      go_wp2_with (at_builtin; refine wpList_append_own _ rfl _ _ 37 rfl w.heap.size 3 i0 (.int .i64 0) 1 8 Tryz.underlying37 hi hz0 hz1 hz2 rfl (by decide) _ _ _ rfl (hown2.alloc _) ⟨wr.heap.size, 0, none⟩ 1 1 [.int .i64 (c : Int)] rfl rfl (one_cell _ _ _) (by intro u hu; simp at hu; subst hu; rfl) (by unfold maxLen; omega) (by omega) (by have := HBS.out; simp; omega) ?_; intro v' w2 hown' hgrow _; have hown3 := app_nat hown'; have hbel3 : Below w.heap.size w w2 := (hbel2.alloc HBS.out _).grown hgrow (by have := HBS.out; simp; omega) (fun k hk => (hown2.lt k hk).1); clear hown' hgrow hown2 hbel2)
                      go_roundw
                      case rel => exact ⟨rs ++ [c], by rw [HOK2.out.2.1]; go_num, HOK2.out.1, HOK2.out.2.2, by assumption, by assumption⟩
                      case measure => simp [intOf]; omega
        · have HN := Lib.hid (hstuck (hstuck2 (by omega) hshort))
          have hq : (s.size : Int) - (pos : Int) < 2 := by omega
          clear hstuck hstep hstuck2 hstuck3 hstuck4 hstuck0 e0
          go_wp2_with fail
          go_quiet (fail)
          go_wp2_with fail
          go_ret2
          rw [HN.out]
          exact ⟨_, rfl, below_drewN hbel _, fun _ h => (by cases h), fun _ => rfl⟩
      · have hshort : pos + 3 ≤ s.size ∨ ¬ pos + 2 < s.size := by omega
        rcases hshort with hshort | hshort
        · obtain ⟨c0, hc0⟩ : ∃ c0, c0 + 224 = s[pos].toNat := ⟨s[pos].toNat - 224, by omega⟩
          have hkind := dec1_kind (s := s) (p := pos) (n := 3) (least := 2048) (c0 := c0) hshort (by omega)
          have HP := Lib.hid (part_bound (s := s) (p := pos) (c0 := c0) (by omega))
          have HOK := Lib.hid (fun h => hstep _ _ (hkind.1 h))
          have HNO := Lib.hid (fun h => hstuck (hkind.2 h))
          have hq : decide ((s.size : Int) - (pos : Int) < 3) = false := by simp; omega
          have hsub : ((s[pos].toNat : Nat) : Int) - 224 = (c0 : Int) := by omega
          have HS := Lib.hid hsub
          have hc0b : c0 < 128 := by omega
          clear hstuck hstep hstuck2 hstuck3 hstuck4 hstuck0 e0 hc0 hkind hsub
          go_wp2_with fail
          go_quiet (fail)
          generalize hbb : s[pos].toNat = b at *
          clear hbb
          have hT0 : ¬ (b : Int) < 128 := by omega
          have hT1 : (192 : Int) ≤ (b : Int) := by omega
          have hT2 : ¬ (b : Int) < 224 := by omega
          have hT3 : (224 : Int) ≤ (b : Int) := by omega
          have hT4 : (b : Int) < 240 := by omega
          go_wp2_with fail
          rw [HS.out]
          have hbel2 := below_drewN hbel nq
          have hown2 : (wr.drewN nq).ownsRow w.heap.size 3 1 u4 rs.length (natRow rs) := hown
          clear hbel hown
          generalize wr.drewN nq = w1 at *
          go_loopw [8, 9] (fun c k w2 => ∃ j : Nat, k = .int .i64 j ∧ 1 ≤ j ∧ j ≤ 3 ∧ conts s pos j ∧ c = .int .i64 (part s pos c0 j : Nat) ∧ w2 = w1) (fun _ k _ => (4 - intOf k).toNat)
          case atStart => exact ⟨1, rfl, by omega, by omega, fun i h1 h2 => by omega, rfl, rfl⟩
          case round =>
            obtain ⟨j, rfl, hj1, hj2, hcs, rfl, rfl⟩ := hrel
            have hpb := HP.out j (by omega) hcs
            by_cases hjn : j < 3
            · have hidx : pos + j < s.size := by omega
              have EB := Lib.hid (byteAt_eq s (pos + j) hidx)
              have PS := Lib.hid (part_succ (s := s) (p := pos) (c0 := c0) hj1)
              have hd256 : s[pos + j].toNat < 256 := s[pos + j].toNat_lt
              by_cases h1 : ((s[pos + j].toNat : Nat) : Int) < 128
              · have HN := Lib.hid (HNO.out (fun hc => by have := hc.1 j hj1 hjn; rw [EB.out] at this; omega))
                first
                  | (exfalso; omega)
                  | (go_wp2_with fail
                     go_ret2
                     rw [HN.out]
                     exact ⟨_, rfl, hbel2, fun _ h => (by cases h), fun _ => rfl⟩)
              · by_cases h2 : 191 < ((s[pos + j].toNat : Nat) : Int)
                · have HN := Lib.hid (HNO.out (fun hc => by have := hc.1 j hj1 hjn; rw [EB.out] at this; omega))
                  first
                    | (exfalso; omega)
                    | (go_wp2_with fail
                       go_ret2
                       rw [HN.out]
                       exact ⟨_, rfl, hbel2, fun _ h => (by cases h), fun _ => rfl⟩)
                · have HC := Lib.hid (conts_succ hcs (by rw [EB.out]; omega))
                  go_wp2_with fail
                  go_roundw
                  case rel => exact ⟨j + 1, by go_num, by omega, by omega, HC.out, by rw [PS.out, EB.out]; go_num, by first | rfl | trivial⟩
                  case measure => simp [intOf]; omega
            · obtain rfl : j = 3 := by omega
              generalize hcc : part s pos c0 3 = c at *
              have HCC := Lib.hid hcc
              clear hcc
              by_cases h1 : (c : Int) < 2048
              · have HN := Lib.hid (HNO.out (fun hc => by omega))
                first
                  | (exfalso; omega)
                  | (go_wp2_with fail
                     go_ret2
                     rw [HN.out]
                     exact ⟨_, rfl, hbel2, fun _ h => (by cases h), fun _ => rfl⟩)
              · by_cases h2 : (1114111 : Int) < (c : Int)
                · have HN := Lib.hid (HNO.out (fun hc => by have := hc.2.2; rw [okR_def] at this; omega))
                  first
                    | (exfalso; omega)
                    | (go_wp2_with fail
                       go_ret2
                       rw [HN.out]
                       exact ⟨_, rfl, hbel2, fun _ h => (by cases h), fun _ => rfl⟩)
                · by_cases h3 : (55296 : Int) ≤ (c : Int) ∧ (c : Int) ≤ 57343
                  · have HN := Lib.hid (HNO.out (fun hc => by have := hc.2.2; rw [okR_def] at this; omega))
                    obtain ⟨h3, h4⟩ := h3
                    first
                      | (exfalso; omega)
                      | (go_wp2_with fail
                         go_ret2
                         rw [HN.out]
                         exact ⟨_, rfl, hbel2, fun _ h => (by cases h), fun _ => rfl⟩)
                  · have HOK2 := Lib.hid (HOK.out ⟨hcs, by omega, by rw [okR_def]; omega⟩)
                    have HBS := Lib.hid hbel2.size
                    have h3' : (¬ (55296 : Int) ≤ (c : Int)) ∨ ((55296 : Int) ≤ (c : Int) ∧ ¬ (c : Int) ≤ 57343) := by omega
                    clear h3
                    rcases h3' with h3 | ⟨h3, h4⟩
                    all_goals (try (exfalso; omega))
                    all_goals
                      go_wp2_with (at_builtin; refine wpList_append_own _ rfl _ _ 37 rfl w.heap.size 3 i0 (.int .i64 0) 1 8 Tryz.underlying37 hi hz0 hz1 hz2 rfl (by decide) _ _ _ rfl (hown2.alloc _) ⟨wr.heap.size, 0, none⟩ 1 1 [.int .i64 (c : Int)] rfl rfl (one_cell _ _ _) (by intro u hu; simp at hu; subst hu; rfl) (by unfold maxLen; omega) (by omega) (by have := HBS.out; simp; omega) ?_; intro v' w2 hown' hgrow _; have hown3 := app_nat hown'; have hbel3 : Below w.heap.size w w2 := (hbel2.alloc HBS.out _).grown hgrow (by have := HBS.out; simp; omega) (fun k hk => (hown2.lt k hk).1); clear hown' hgrow hown2 hbel2)
                      go_roundw
                      case rel => exact ⟨rs ++ [c], by rw [HOK2.out.2.1]; go_num, HOK2.out.1, HOK2.out.2.2, by assumption, by assumption⟩
                      case measure => simp [intOf]; omega
        · have HN := Lib.hid (hstuck (hstuck3 (by omega) hshort))
          have hq : (s.size : Int) - (pos : Int) < 3 := by omega
          clear hstuck hstep hstuck2 hstuck3 hstuck4 hstuck0 e0
          go_wp2_with fail
          go_quiet (fail)
          go_wp2_with fail
          go_ret2
          rw [HN.out]
          exact ⟨_, rfl, below_drewN hbel _, fun _ h => (by cases h), fun _ => rfl⟩
      · have hshort : pos + 4 ≤ s.size ∨ ¬ pos + 3 < s.size := by omega
        rcases hshort with hshort | hshort
        · obtain ⟨c0, hc0⟩ : ∃ c0, c0 + 240 = s[pos].toNat := ⟨s[pos].toNat - 240, by omega⟩
          have hkind := dec1_kind (s := s) (p := pos) (n := 4) (least := 65536) (c0 := c0) hshort (by omega)
          have HP := Lib.hid (part_bound (s := s) (p := pos) (c0 := c0) (by omega))
          have HOK := Lib.hid (fun h => hstep _ _ (hkind.1 h))
          have HNO := Lib.hid (fun h => hstuck (hkind.2 h))
          have hq : decide ((s.size : Int) - (pos : Int) < 4) = false := by simp; omega
          have hsub : ((s[pos].toNat : Nat) : Int) - 240 = (c0 : Int) := by omega
          have HS := Lib.hid hsub
          have hc0b : c0 < 128 := by omega
          clear hstuck hstep hstuck2 hstuck3 hstuck4 hstuck0 e0 hc0 hkind hsub
          go_wp2_with fail
          go_quiet (fail)
          generalize hbb : s[pos].toNat = b at *
          clear hbb
          have hT0 : ¬ (b : Int) < 128 := by omega
          have hT1 : (192 : Int) ≤ (b : Int) := by omega
          have hT2 : ¬ (b : Int) < 224 := by omega
          have hT3 : (224 : Int) ≤ (b : Int) := by omega
          have hT4 : ¬ (b : Int) < 240 := by omega
          have hT5 : (240 : Int) ≤ (b : Int) := by omega
          have hT6 : (b : Int) < 248 := by omega
          go_wp2_with fail
          rw [HS.out]
          have hbel2 := below_drewN hbel nq
          have hown2 : (wr.drewN nq).ownsRow w.heap.size 3 1 u4 rs.length (natRow rs) := hown
          clear hbel hown
          generalize wr.drewN nq = w1 at *
          go_loopw [8, 9] (fun c k w2 => ∃ j : Nat, k = .int .i64 j ∧ 1 ≤ j ∧ j ≤ 4 ∧ conts s pos j ∧ c = .int .i64 (part s pos c0 j : Nat) ∧ w2 = w1) (fun _ k _ => (4 - intOf k).toNat)
          case atStart => exact ⟨1, rfl, by omega, by omega, fun i h1 h2 => by omega, rfl, rfl⟩
          case round =>
            obtain ⟨j, rfl, hj1, hj2, hcs, rfl, rfl⟩ := hrel
            have hpb := HP.out j (by omega) hcs
            by_cases hjn : j < 4
            · have hidx : pos + j < s.size := by omega
              have EB := Lib.hid (byteAt_eq s (pos + j) hidx)
              have PS := Lib.hid (part_succ (s := s) (p := pos) (c0 := c0) hj1)
              have hd256 : s[pos + j].toNat < 256 := s[pos + j].toNat_lt
              by_cases h1 : ((s[pos + j].toNat : Nat) : Int) < 128
              · have HN := Lib.hid (HNO.out (fun hc => by have := hc.1 j hj1 hjn; rw [EB.out] at this; omega))
                first
                  | (exfalso; omega)
                  | (go_wp2_with fail
                     go_ret2
                     rw [HN.out]
                     exact ⟨_, rfl, hbel2, fun _ h => (by cases h), fun _ => rfl⟩)
              · by_cases h2 : 191 < ((s[pos + j].toNat : Nat) : Int)
                · have HN := Lib.hid (HNO.out (fun hc => by have := hc.1 j hj1 hjn; rw [EB.out] at this; omega))
                  first
                    | (exfalso; omega)
                    | (go_wp2_with fail
                       go_ret2
                       rw [HN.out]
                       exact ⟨_, rfl, hbel2, fun _ h => (by cases h), fun _ => rfl⟩)
                · have HC := Lib.hid (conts_succ hcs (by rw [EB.out]; omega))
                  go_wp2_with fail
                  go_roundw
                  case rel => exact ⟨j + 1, by go_num, by omega, by omega, HC.out, by rw [PS.out, EB.out]; go_num, by first | rfl | trivial⟩
                  case measure => simp [intOf]; omega
            · obtain rfl : j = 4 := by omega
              generalize hcc : part s pos c0 4 = c at *
              have HCC := Lib.hid hcc
              clear hcc
              by_cases h1 : (c : Int) < 65536
              · have HN := Lib.hid (HNO.out (fun hc => by omega))
                first
                  | (exfalso; omega)
                  | (go_wp2_with fail
                     go_ret2
                     rw [HN.out]
                     exact ⟨_, rfl, hbel2, fun _ h => (by cases h), fun _ => rfl⟩)
              · by_cases h2 : (1114111 : Int) < (c : Int)
                · have HN := Lib.hid (HNO.out (fun hc => by have := hc.2.2; rw [okR_def] at this; omega))
                  first
                    | (exfalso; omega)
                    | (go_wp2_with fail
                       go_ret2
                       rw [HN.out]
                       exact ⟨_, rfl, hbel2, fun _ h => (by cases h), fun _ => rfl⟩)
                · by_cases h3 : (55296 : Int) ≤ (c : Int) ∧ (c : Int) ≤ 57343
                  · have HN := Lib.hid (HNO.out (fun hc => by have := hc.2.2; rw [okR_def] at this; omega))
                    obtain ⟨h3, h4⟩ := h3
                    first
                      | (exfalso; omega)
                      | (go_wp2_with fail
                         go_ret2
                         rw [HN.out]
                         exact ⟨_, rfl, hbel2, fun _ h => (by cases h), fun _ => rfl⟩)
                  · have HOK2 := Lib.hid (HOK.out ⟨hcs, by omega, by rw [okR_def]; omega⟩)
                    have HBS := Lib.hid hbel2.size
                    have h3' : (¬ (55296 : Int) ≤ (c : Int)) ∨ ((55296 : Int) ≤ (c : Int) ∧ ¬ (c : Int) ≤ 57343) := by omega
                    clear h3
                    rcases h3' with h3 | ⟨h3, h4⟩
                    all_goals (try (exfalso; omega))
                    all_goals
                      go_wp2_with (at_builtin; refine wpList_append_own _ rfl _ _ 37 rfl w.heap.size 3 i0 (.int .i64 0) 1 8 Tryz.underlying37 hi hz0 hz1 hz2 rfl (by decide) _ _ _ rfl (hown2.alloc _) ⟨wr.heap.size, 0, none⟩ 1 1 [.int .i64 (c : Int)] rfl rfl (one_cell _ _ _) (by intro u hu; simp at hu; subst hu; rfl) (by unfold maxLen; omega) (by omega) (by have := HBS.out; simp; omega) ?_; intro v' w2 hown' hgrow _; have hown3 := app_nat hown'; have hbel3 : Below w.heap.size w w2 := (hbel2.alloc HBS.out _).grown hgrow (by have := HBS.out; simp; omega) (fun k hk => (hown2.lt k hk).1); clear hown' hgrow hown2 hbel2)
                      go_roundw
                      case rel => exact ⟨rs ++ [c], by rw [HOK2.out.2.1]; go_num, HOK2.out.1, HOK2.out.2.2, by assumption, by assumption⟩
                      case measure => simp [intOf]; omega
        · have HN := Lib.hid (hstuck (hstuck4 (by omega) hshort))
          have hq : (s.size : Int) - (pos : Int) < 4 := by omega
          clear hstuck hstep hstuck2 hstuck3 hstuck4 hstuck0 e0
          go_wp2_with fail
          go_quiet (fail)
          go_wp2_with fail
          go_ret2
          rw [HN.out]
          exact ⟨_, rfl, below_drewN hbel _, fun _ h => (by cases h), fun _ => rfl⟩
    · have HN := Lib.hid (hdone hp)
      clear hstuck hstep hdone
      go_wp2_with fail
      go_ret2
      rw [HN.out]
      exact ⟨_, rfl, hbel, fun _ h => (by cases h; exact hown), fun h => (by cases h)⟩
end Go.Proofs.YthjmfcdhpdiehaaGreatDoor

namespace Go.Proofs.YthjmfcdhpdiehaaGreatDoor
open Go.RowKit Go.Extern.Stop Go.Stop Go.Extern Go.ChangeShapes
set_option maxRecDepth 100000
set_option linter.unusedSimpArgs false
set_option linter.unusedVariables false

/-- The variables' blocks, in the order of the numbers of errors. -/
def errG (i : Nat) : Nat := [1, 2, 3, 0, 4, 5, 6, 7, 8, 9, 10, 11, 12, 13, 14, 15, 16, 17, 18].getD i 0

/-- Error number i + 1, a pointer to an errorString. -/
def errV (ea : Nat → Addr) (i : Nat) : Value := .iface 184 (.pointer (some (ea i)))

/-- What the listed variables give: each holds a pointer of its own. -/
structure ErrsAt (W : World) (ea : Nat → Addr) : Prop where
  cell : ∀ i, i < 19 → W.cell? ⟨errG i, 0, none⟩ = some (errV ea i)
  block : ∀ i, i < 19 → ∃ c t, W.heap[(ea i).block]? = some (.cells c t (0, 0))
  apart : ∀ i j, i < 19 → j < 19 → i ≠ j → ea i ≠ ea j

theorem ErrsAt.below {W W' : World} {ea : Nat → Addr} (h : ErrsAt W ea) (hb : Below W.heap.size W W') : ErrsAt W' ea :=
  ⟨fun i hi => (hb.cell (World.block_lt_of_cell? W _ (h.cell i hi))).trans (h.cell i hi),
   fun i hi => by obtain ⟨c, t, hc⟩ := h.block i hi; exact ⟨c, t, (hb.block _ (Array.getElem?_eq_some_iff.1 hc).1).trans hc⟩, h.apart⟩

/-! ### errors.Is -/
theorem Tryz.isTypeOf (v : Value) (w : World) : (Extern.ReflectliteType.typeOf #[.iface 184 v]).run Tryz.prog w = .ok (.iface 173 (.agg #[.pointer (some ⟨19, 184, none⟩)])) w := by kernel_rfl
def cmpM : Array Value → Sem Value := Extern.ReflectliteType.method fun t => do Extern.Rtype.noPackHeld "Comparable" t; pure (.bool (← typeInfo t).comparable)
theorem Tryz.isComparable (w : World) : (cmpM #[.agg #[.pointer (some ⟨19, 184, none⟩)]]).run Tryz.prog w = .ok (.bool true) w := by kernel_rfl
theorem Tryz.isMethodComparable (v : Value) (w : World) : (Go.method 331 173 v "Comparable").run Tryz.prog w = .ok (145, v) w := by kernel_rfl
theorem Tryz.isComp : (Tryz.prog.info? 184).map (·.comparable) = some true := by kernel_rfl
theorem Tryz.isSize : (Tryz.prog.info? 216).map (·.size) = some 1 := by kernel_rfl
theorem Tryz.noIsE (v : Value) (xT : TypeId) (w : World) : (Instr.typeAssert (.iface 184 v) xT 175 true).run Tryz.prog w = .ok (.tuple #[.nilIface, .bool false]) w := run_typeAssert_lacksB Tryz.underlying175 (by kernel_rfl) (by kernel_rfl) v xT w
theorem Tryz.noUnwrapE (v : Value) (xT : TypeId) (w : World) : (Instr.typeAssert (.iface 184 v) xT 178 true).run Tryz.prog w = .ok (.tuple #[.nilIface, .bool false]) w := run_typeAssert_lacksB Tryz.underlying178 (by kernel_rfl) (by kernel_rfl) v xT w
theorem Tryz.noUnwrapsE (v : Value) (xT : TypeId) (w : World) : (Instr.typeAssert (.iface 184 v) xT 180 true).run Tryz.prog w = .ok (.tuple #[.nilIface, .bool false]) w := run_typeAssert_lacksB Tryz.underlying180 (by kernel_rfl) (by kernel_rfl) v xT w

set_option maxHeartbeats 1000000 in
/-- errors.Is(x, x). -/
theorem is_same (a : Addr) (w : World) :
    Calls Tryz.prog 52 #[.iface 184 (.pointer (some a)), .iface 184 (.pointer (some a))] w fun e w' => e = .returned (.bool true) ∧ w' = w := by
  obtain ⟨i, hi, hcmp⟩ := Option.map_eq_some_iff.1 Tryz.isComp
  obtain ⟨j, hj, hjs⟩ := Option.map_eq_some_iff.1 Tryz.isSize
  have h8 := @run_callFunc_extern Tryz.prog 83 _ Extern.ReflectliteType.typeOf Tryz.func83 (by kernel_rfl) (by kernel_rfl) (by kernel_rfl) (by kernel_rfl)
  have h32 := @run_callFunc_extern Tryz.prog 145 _ cmpM Tryz.func145 (by kernel_rfl) (by kernel_rfl) (by kernel_rfl) (by kernel_rfl)
  have tT := Tryz.isTypeOf
  have cT := Tryz.isComparable
  have mR := Tryz.isMethodComparable
  have heq := run_eql_iface_ptr_same (P := Tryz.prog) w a Tryz.underlying34 Tryz.underlying184 hi hcmp hj
  go_enter Tryz.func52, Tryz.ntmps52
  go_wp2
  refine wp_loop_rounds 1 ?_
  rw [rounds_succ]
  go_wp2
  go_ret
  exact ⟨rfl, rfl⟩

set_option maxHeartbeats 1000000 in
/-- errors.Is(x, y), two different ones. -/
theorem is_other (a b : Addr) (ca cb : Array Value) (ta tb : TypeId) (w : World) (hne : a ≠ b) (ha : w.heap[a.block]? = some (.cells ca ta (0, 0))) (hb : w.heap[b.block]? = some (.cells cb tb (0, 0))) :
    Calls Tryz.prog 52 #[.iface 184 (.pointer (some a)), .iface 184 (.pointer (some b))] w fun e w' => e = .returned (.bool false) ∧ w' = w := by
  obtain ⟨i, hi, hcmp⟩ := Option.map_eq_some_iff.1 Tryz.isComp
  obtain ⟨j, hj, hjs⟩ := Option.map_eq_some_iff.1 Tryz.isSize
  have h8 := @run_callFunc_extern Tryz.prog 83 _ Extern.ReflectliteType.typeOf Tryz.func83 (by kernel_rfl) (by kernel_rfl) (by kernel_rfl) (by kernel_rfl)
  have h32 := @run_callFunc_extern Tryz.prog 145 _ cmpM Tryz.func145 (by kernel_rfl) (by kernel_rfl) (by kernel_rfl) (by kernel_rfl)
  have tT := Tryz.isTypeOf
  have cT := Tryz.isComparable
  have mR := Tryz.isMethodComparable
  have nE := Tryz.noIsE
  have uE := Tryz.noUnwrapE
  have vE := Tryz.noUnwrapsE
  have heq := run_eql_iface_ptr_other (P := Tryz.prog) w Tryz.underlying34 Tryz.underlying184 hi hcmp hj (by rw [hjs]; decide) hne ha hb
  go_enter Tryz.func52, Tryz.ntmps52
  go_wp2
  refine wp_loop_rounds 1 ?_
  rw [rounds_succ]
  go_wp2
  go_ret
  exact ⟨rfl, rfl⟩
end Go.Proofs.YthjmfcdhpdiehaaGreatDoor

namespace Go.Proofs.YthjmfcdhpdiehaaGreatDoor
open Go.RowKit Utf
set_option maxRecDepth 100000
set_option linter.unusedSimpArgs false
set_option linter.unusedVariables false


/-- The listed variables that shards, span, entry and balance read: each holds a pointer to an errorString. -/
structure BErr (W : World) (ea : Nat → Addr) : Prop where
  cell : ∀ i, (i = 0 ∨ i = 1 ∨ i = 2 ∨ i = 3 ∨ i = 5 ∨ i = 6) → W.cell? ⟨errG i, 0, none⟩ = some (errV ea i)
theorem BErr.below {W W' : World} {ea : Nat → Addr} (h : BErr W ea) (hb : Below W.heap.size W W') : BErr W' ea :=
  ⟨fun i hi => (hb.cell (World.block_lt_of_cell? W _ (h.cell i hi))).trans (h.cell i hi)⟩
theorem ErrsAt.berr {W : World} {ea : Nat → Addr} (h : ErrsAt W ea) : BErr W ea := ⟨fun i hi => h.cell i (by omega)⟩

/-- A rune that no key has. -/
def badR (c : Nat) : Bool := decide (c < 32) || decide (c = 127)
/-- The number of a key's error. -/
def keyNum (s : ByteArray) : Nat := match dec s.data.toList with
  | none => 6
  | some rs => if rs.length = 0 then 2 else if 24 < rs.length then 3 else if rs.any badR then 7 else 0
/-- An error by its number. -/
def errOf (ea : Nat → Addr) (n : Nat) : Value := if n = 0 then .nilIface else errV ea (n - 1)

theorem keyNum_none {s : ByteArray} (h : dec s.data.toList = none) : keyNum s = 6 := by simp [keyNum, h]
theorem keyNum_some {s : ByteArray} {rs : List Nat} (h : dec s.data.toList = some rs) : keyNum s = if rs.length = 0 then 2 else if 24 < rs.length then 3 else if rs.any badR then 7 else 0 := by simp [keyNum, h]

theorem any_step {rs : List Nat} {k : Nat} (hk : k < rs.length) (h : (rs.take k).any badR = false) (hb : badR rs[k] = false) : (rs.take (k + 1)).any badR = false := by
  rw [List.take_succ_eq_append_getElem hk, List.any_append, h]
  simp [hb]
theorem any_hit {rs : List Nat} {k : Nat} (hk : k < rs.length) (hb : badR rs[k] = true) : rs.any badR = true := by
  rw [List.any_eq_true]
  exact ⟨_, List.getElem_mem hk, hb⟩

set_option maxHeartbeats 1000000 in
theorem key_any (ea : Nat → Addr) (s : ByteArray) (w : World) (hs : s.size ≤ 1000000) (he : BErr w ea) :
    Calls Tryz.prog 62 #[.string s] w fun e w' => e = .returned (errOf ea (keyNum s)) ∧ Below w.heap.size w w' := by
  have hs' : s.size ≤ maxLen := by unfold maxLen; omega
  have H := Lib.hid he
  clear he
  cases hd : dec s.data.toList with
  | none =>
    have HC := Lib.hid (fun W => count_none s W hs' hd)
    rw [keyNum_none hd]
    have HE := Lib.hid (show errOf ea 6 = .iface 184 (.pointer (some (ea 5))) from rfl)
    clear hd
    go_enter Tryz.func62, Tryz.ntmps62
    go_wp2_with fail
    refine (HC.out _).mono ?_
    rintro e w1 ⟨rfl, hb1⟩
    have c5 : w1.cell? ⟨5, 0, none⟩ = some (.iface 184 (.pointer (some (ea 5)))) := (H.out.below hb1).cell 5 (by omega)
    go_wp2_with fail
    go_ret
    exact ⟨by rw [HE.out]; rfl, hb1⟩
  | some rs =>
    obtain ⟨ho, h⟩ := dec_some hd
    have hl := len_le h
    have HC := Lib.hid (fun W => count_some s rs W hs ho h)
    have HN := Lib.hid (fun (w : World) k hk ty => next_off (P := Tryz.prog) ho h w k hk ty)
    have HX := Lib.hid (fun (w : World) ty => next_off_end (P := Tryz.prog) h w ty)
    have HLT := Lib.hid (fun k hk => off_lt h k hk)
    have HS := Lib.hid (off_succ rs)
    have HP := Lib.hid (fun c => enc_length c)
    have hkn := keyNum_some hd
    have HOK := Lib.hid (fun k (hk : k < rs.length) => (okR_def rs[k]).1 (ho _ (List.getElem_mem hk)))
    clear hd h ho
    by_cases h0 : rs.length = 0
    · rw [if_pos h0] at hkn
      rw [hkn]
      clear hkn
      have hz : ((rs.length : Int) == 0) = true := by simp [h0]
      have hz2 : ¬ (rs.length : Int) < 0 := Int.not_lt.2 (Int.natCast_nonneg _)
      have HE := Lib.hid (show errOf ea 2 = .iface 184 (.pointer (some (ea 1))) from rfl)
      clear h0
      go_enter Tryz.func62, Tryz.ntmps62
      go_wp2_with fail
      refine (HC.out _).mono ?_
      rintro e w1 ⟨rfl, hb1⟩
      have c5 : w1.cell? ⟨2, 0, none⟩ = some (.iface 184 (.pointer (some (ea 1)))) := (H.out.below hb1).cell 1 (by omega)
      go_wp2_with fail
      go_ret
      exact ⟨by rw [HE.out]; rfl, hb1⟩
    · rw [if_neg h0] at hkn
      have hz : ((rs.length : Int) == 0) = false := beq_eq_false_iff_ne.2 (by omega)
      have hz2 : ¬ (rs.length : Int) < 0 := by omega
      by_cases h24 : 24 < rs.length
      · rw [if_pos h24] at hkn
        rw [hkn]
        clear hkn
        have hz3 : (24 : Int) < (rs.length : Int) := by omega
        have HE := Lib.hid (show errOf ea 3 = .iface 184 (.pointer (some (ea 2))) from rfl)
        clear h0
        go_enter Tryz.func62, Tryz.ntmps62
        go_wp2_with fail
        refine (HC.out _).mono ?_
        rintro e w1 ⟨rfl, hb1⟩
        have c5 : w1.cell? ⟨3, 0, none⟩ = some (.iface 184 (.pointer (some (ea 2)))) := (H.out.below hb1).cell 2 (by omega)
        go_wp2_with fail
        go_ret
        exact ⟨by rw [HE.out]; rfl, hb1⟩
      · rw [if_neg h24] at hkn
        have HKN := Lib.hid hkn
        clear hkn
        have hz3 : ¬ (24 : Int) < (rs.length : Int) := by omega
        clear h0
        go_enter Tryz.func62, Tryz.ntmps62
        go_wp2_with fail
        refine (HC.out _).mono ?_
        rintro e w1 ⟨rfl, hb1⟩
        have c5 : w1.cell? ⟨6, 0, none⟩ = some (.iface 184 (.pointer (some (ea 6)))) := (H.out.below hb1).cell 6 (by omega)
        have hlt5 := World.block_lt_of_cell? w1 _ c5
        go_wp2_with fail
        go_loopw [] (fun w2 => ∃ k : Nat, k ≤ rs.length ∧ w2 = w1.iter s (off rs k) ∧ Hid ((rs.take k).any badR = false)) (fun w2 => s.size - w2.iterPos w1.heap.size)
        case atStart => exact ⟨0, Nat.zero_le _, rfl, rfl⟩
        case round =>
          obtain ⟨k, hk, rfl, HA⟩ := hrel
          by_cases hlt : k < rs.length
          · have hnx := HN.out w1 k hlt
            have HST := Lib.hid (any_step hlt HA.out)
            have HHI := Lib.hid (any_hit hlt)
            have hok := HOK.out k hlt
            have HO1 := Lib.hid (HS.out k hlt)
            have HO2 := Lib.hid (HLT.out k hlt)
            have HO3 := Lib.hid (HP.out rs[k])
            generalize rs[k] = c at *
            have hcb : c ≤ 1114111 := by omega
            clear hok
            have c6 : (w1.iter s (off rs (k + 1))).cell? ⟨6, 0, none⟩ = some (.iface 184 (.pointer (some (ea 6)))) := ((Below.refl _ w1).alloc (Nat.le_refl _) _).cell hlt5 |>.trans c5
            by_cases hb32 : (c : Int) < 32
            · have HBAD := Lib.hid (HHI.out (by simp [badR]; omega))
              go_wp2_with fail
              go_ret
              refine ⟨?_, hb1.alloc hb1.size _⟩
              rw [HKN.out, if_pos HBAD.out]
              rfl
            · by_cases hb127 : c = 127
              · have hq : ((c : Int) == 127) = true := by simp [hb127]
                have HBAD := Lib.hid (HHI.out (by simp [badR, hb127]))
                clear hb127
                go_wp2_with fail
                go_ret
                refine ⟨?_, hb1.alloc hb1.size _⟩
                rw [HKN.out, if_pos HBAD.out]
                rfl
              · have hq : ((c : Int) == 127) = false := by simp; omega
                have HG := Lib.hid (HST.out (by simp [badR]; omega))
                clear hb127
                go_wp2_with fail
                go_roundw
                case rel => exact ⟨k + 1, by omega, rfl, HG.out⟩
                case measure => have := HO1.out; have := HO2.out; have := HO3.out; simp; omega
          · obtain rfl : k = rs.length := by omega
            have hnx := HX.out w1
            have HG := Lib.hid (show rs.any badR = false by have := HA.out; rwa [List.take_length] at this)
            go_wp2_with fail
            go_ret
            refine ⟨?_, hb1.alloc hb1.size _⟩
            rw [HKN.out, if_neg (by rw [HG.out]; simp)]
            rfl
/-! ### Keys, plain -/
/-- A key: right, not empty, not long, of its runes. -/
def isKey (s : ByteArray) : Bool := decide (keyNum s = 0)
theorem isKey_dec {s : ByteArray} (h : isKey s = true) : ∃ rs, dec s.data.toList = some rs ∧ allOk rs ∧ s.data.toList = encAll rs ∧ rs.length ≠ 0 := by
  unfold isKey at h
  have h0 := of_decide_eq_true h
  cases hd : dec s.data.toList with
  | none => rw [keyNum_none hd] at h0; cases h0
  | some rs =>
    obtain ⟨h1, h2⟩ := dec_some hd
    refine ⟨rs, rfl, h1, h2, fun h3 => ?_⟩
    rw [keyNum_some hd, if_pos h3] at h0
    cases h0
/-- The order of texts by their bytes. -/
def bLt (a b : ByteArray) : Bool := Op.bytesLess a.data.toList b.data.toList
/-- A text that may be an end. -/
def isEnd (s : ByteArray) : Bool := s.data.toList.isEmpty || isKey s
/-- Both read as UTF-8. -/
def isR (s : ByteArray) : Prop := ∃ rs, dec s.data.toList = some rs
theorem isEnd_R {s : ByteArray} (h : isEnd s = true) : isR s := by
  unfold isEnd at h
  rcases Bool.or_eq_true_iff.1 h with h | h
  · rw [List.isEmpty_iff] at h
    exact ⟨[], by rw [h]; rfl⟩
  · obtain ⟨rs, h1, -⟩ := isKey_dec h
    exact ⟨rs, h1⟩
theorem isKey_R {s : ByteArray} (h : isKey s = true) : isR s := by
  obtain ⟨rs, h1, -⟩ := isKey_dec h
  exact ⟨rs, h1⟩
/-- What runes.Compare says of two right texts. -/
def cmpB (a b : ByteArray) : Int := if bLt a b then -1 else if bLt b a then 1 else 0

theorem cmpB_eq {a b : ByteArray} {x y : List Nat} (hx : allOk x) (hy : allOk y) (ha : a.data.toList = encAll x) (hb : b.data.toList = encAll y) : cmpL x y = cmpB a b := by
  have h1 := cmpL_lt_iff hx hy
  have h2 := cmpL_lt_iff hy hx
  have h3 := cmpL_flip x y
  unfold cmpB bLt
  rw [ha, hb, h1, h2, h3]
  rcases cmpL_range x y with h | h | h <;> rw [h] <;> rfl
set_option maxHeartbeats 400000 in
theorem compare_any (s t : ByteArray) (w : World) (hs : s.size ≤ 1000000) (ht : t.size ≤ 1000000) (h1 : isR s) (h2 : isR t) :
    Calls Tryz.prog 63 #[.string s, .string t] w fun e w' => e = .returned (.int .i64 (cmpB s t)) ∧ Below w.heap.size w w' := by
  obtain ⟨a, ha⟩ := h1
  obtain ⟨b, hb⟩ := h2
  obtain ⟨o1, e1⟩ := dec_some ha
  obtain ⟨o2, e2⟩ := dec_some hb
  rw [← cmpB_eq o1 o2 e1 e2]
  exact compare_some s t a b w hs ht o1 o2 e1 e2
theorem cmpB_neg (a b : ByteArray) : decide (cmpB a b < 0) = bLt a b := by
  unfold cmpB
  cases h : bLt a b
  · cases h2 : bLt b a <;> rfl
  · rfl
theorem bLt_irrefl (a : ByteArray) : bLt a a = false := less_irrefl _
theorem bLt_asymm {a b : ByteArray} (h : bLt a b = true) : bLt b a = false := less_asymm _ _ h
theorem bLt_total {a b : ByteArray} (h1 : bLt a b = false) (h2 : bLt b a = false) : a = b := by
  apply str_ext
  unfold bLt at h1 h2
  generalize a.data.toList = x at *
  generalize b.data.toList = y at *
  clear a b
  induction x generalizing y with
  | nil => cases y with
    | nil => rfl
    | cons c y => simp [Op.bytesLess] at h1
  | cons d x ih => cases y with
    | nil => simp [Op.bytesLess] at h2
    | cons c y =>
      simp only [Op.bytesLess, Bool.or_eq_false_iff, Bool.and_eq_false_iff, decide_eq_false_iff_not, UInt8.not_lt] at h1 h2
      have hcd : d = c := UInt8.le_antisymm h2.1 h1.1
      subst hcd
      simp only [beq_self_eq_true, Bool.true_eq_false, false_or] at h1 h2
      rw [ih _ h1.2 h2.2]
theorem bLt_trans {a b c : ByteArray} (h1 : bLt a b = true) (h2 : bLt b c = true) : bLt a c = true := by
  unfold bLt at *
  generalize a.data.toList = x at *
  generalize b.data.toList = y at *
  generalize c.data.toList = z at *
  clear a b c
  induction x generalizing y z with
  | nil =>
    cases z with
    | nil => cases y <;> simp [Op.bytesLess] at h1 h2
    | cons e z => simp [Op.bytesLess]
  | cons d x ih =>
    cases y with
    | nil => simp [Op.bytesLess] at h1
    | cons e y =>
      cases z with
      | nil => simp [Op.bytesLess] at h2
      | cons f z =>
        simp only [Op.bytesLess, Bool.or_eq_true, Bool.and_eq_true, decide_eq_true_eq, beq_iff_eq] at *
        rcases h1 with h1 | ⟨rfl, h1⟩
        · rcases h2 with h2 | ⟨rfl, h2⟩
          · exact .inl (UInt8.lt_trans h1 h2)
          · exact .inl h1
        · rcases h2 with h2 | ⟨rfl, h2⟩
          · exact .inl h2
          · exact .inr ⟨rfl, ih _ h1 _ h2⟩
end Go.Proofs.YthjmfcdhpdiehaaGreatDoor

namespace Go.Proofs.YthjmfcdhpdiehaaGreatDoor
open Go.RowKit Utf
set_option maxRecDepth 100000
set_option linter.unusedSimpArgs false
set_option linter.unusedVariables false

/-! ### Plain -/
def lessB (k hi : ByteArray) : Bool := hi.data.toList.isEmpty || bLt k hi
def spanR (lo hi : ByteArray) : Bool := isEnd lo && isEnd hi && lessB lo hi
def hasB (lo hi k : ByteArray) : Bool := spanR lo hi && isKey k && !(bLt k lo) && lessB k hi

theorem str_empty (s : ByteArray) : (s.toList == (ByteArray.mk #[]).toList) = s.data.toList.isEmpty := by
  rw [str_beq]
  cases h : s.data.toList with
  | nil =>
    have : s = ByteArray.mk #[] := str_ext (by rw [h])
    simp [this]
  | cons c l =>
    have : s ≠ ByteArray.mk #[] := fun e => by rw [e] at h; cases h
    simp [this]

theorem byte_nil : (ByteArray.mk #[]).toList = [] := by simp
theorem str_nil {s : ByteArray} (h : s.data.toList.isEmpty = true) : s.toList = [] := by
  have h1 := str_empty s
  rw [h] at h1
  have h2 := eq_of_beq h1
  rw [h2, byte_nil]
theorem str_cons {s : ByteArray} (h : s.data.toList.isEmpty = false) : ¬ s.toList = [] ∧ s.toList.isEmpty = false := by
  have h1 := str_empty s
  rw [h] at h1
  have h2 : ¬ s.toList = [] := fun h0 => by rw [h0, byte_nil] at h1; cases h1
  exact ⟨h2, by rw [List.isEmpty_eq_false_iff]; exact h2⟩
theorem errOf_none (ea : Nat → Addr) {s : ByteArray} (h : isKey s = true) : errOf ea (keyNum s) = .nilIface := by
  unfold isKey at h
  rw [of_decide_eq_true h]
  rfl
theorem errOf_some (ea : Nat → Addr) {s : ByteArray} (h : isKey s = false) : ∃ n, errOf ea (keyNum s) = .iface 184 (.pointer (some (ea n))) ∧ keyNum s = n + 1 := by
  unfold isKey at h
  have h0 := of_decide_eq_false h
  cases hk : keyNum s with
  | zero => exact absurd hk h0
  | succ n => exact ⟨n, rfl, rfl⟩
/-- runes.Key, parted. -/
theorem key_good (ea : Nat → Addr) (s : ByteArray) (w : World) (hs : s.size ≤ 1000000) (he : BErr w ea) (h : isKey s = true) :
    Calls Tryz.prog 62 #[.string s] w fun e w' => e = .returned .nilIface ∧ Below w.heap.size w w' := by
  rw [← errOf_none ea h]
  exact key_any ea s w hs he
theorem key_bad (ea : Nat → Addr) (s : ByteArray) (w : World) (hs : s.size ≤ 1000000) (he : BErr w ea) (h : isKey s = false) :
    Calls Tryz.prog 62 #[.string s] w fun e w' => (∃ a, e = .returned (.iface 184 (.pointer (some a)))) ∧ Below w.heap.size w w' := by
  obtain ⟨n, h1, h2⟩ := errOf_some ea h
  refine (key_any ea s w hs he).mono fun e w' ⟨h3, h4⟩ => ⟨⟨ea n, by rw [h3, h1]⟩, h4⟩

set_option maxHeartbeats 1000000 in
theorem end_any (ea : Nat → Addr) (s : ByteArray) (w : World) (hs : s.size ≤ 1000000) (he : BErr w ea) :
    Calls Tryz.prog 99 #[.string s] w fun e w' => e = .returned (.bool (isEnd s)) ∧ Below w.heap.size w w' := by
  have HE := Lib.hid he
  clear he
  cases h0 : s.data.toList.isEmpty with
  | true =>
    have h1 : s.toList = [] := str_nil h0
    have HR := Lib.hid (show isEnd s = true by simp [isEnd, h0])
    clear h0
    go_enter Tryz.func99, Tryz.ntmps99
    go_wp2_with fail
    go_ret
    exact ⟨by rw [HR.out]; rfl, Below.refl _ _⟩
  | false =>
    have h1 : ¬ s.toList = [] := (str_cons h0).1
    have h1' : s.toList.isEmpty = false := (str_cons h0).2
    have HR := Lib.hid (show isEnd s = isKey s by simp [isEnd, h0])
    clear h0
    cases hk : isKey s with
    | true =>
      have HK := Lib.hid hk
      clear hk
      go_enter Tryz.func99, Tryz.ntmps99
      go_wp2_with fail
      refine (key_good ea s _ hs HE.out HK.out).mono ?_
      rintro e w1 ⟨rfl, hb⟩
      go_wp2_with fail
      go_ret
      exact ⟨by rw [HR.out, HK.out]; rfl, hb⟩
    | false =>
      have HK := Lib.hid hk
      clear hk
      have hq : ∀ (a : Addr) (w : World), (Op.equal 34 (.iface 184 (.pointer (some a))) .nilIface).run Tryz.prog w = .ok false w := fun a w => by kernel_rfl
      go_enter Tryz.func99, Tryz.ntmps99
      go_wp2_with fail
      refine (key_bad ea s _ hs HE.out HK.out).mono ?_
      rintro e w1 ⟨⟨a, rfl⟩, hb⟩
      go_wp2_with fail
      go_ret
      exact ⟨by rw [HR.out, HK.out]; rfl, hb⟩

set_option maxHeartbeats 1000000 in
theorem less_any (k hi : ByteArray) (w : World) (hs : k.size ≤ 1000000) (ht : hi.size ≤ 1000000) (h1 : isR k) (h2 : isR hi) :
    Calls Tryz.prog 78 #[.string k, .string hi] w fun e w' => e = .returned (.bool (lessB k hi)) ∧ Below w.heap.size w w' := by
  have H1 := Lib.hid h1
  have H2 := Lib.hid h2
  clear h1 h2
  cases h0 : hi.data.toList.isEmpty with
  | true =>
    have h1 : hi.toList = [] := str_nil h0
    have HR := Lib.hid (show lessB k hi = true by simp [lessB, h0])
    clear h0
    go_enter Tryz.func78, Tryz.ntmps78
    go_wp2_with fail
    go_ret
    exact ⟨by rw [HR.out]; rfl, Below.refl _ _⟩
  | false =>
    have h1 : ¬ hi.toList = [] := (str_cons h0).1
    have h1' : hi.toList.isEmpty = false := (str_cons h0).2
    have HR := Lib.hid (show lessB k hi = decide (cmpB k hi < 0) by rw [cmpB_neg]; simp [lessB, h0])
    clear h0
    go_enter Tryz.func78, Tryz.ntmps78
    go_wp2_with fail
    refine (compare_any k hi _ hs ht H1.out H2.out).mono ?_
    rintro e w1 ⟨rfl, hb⟩
    generalize cmpB k hi = c at *
    go_wp2_with fail
    go_ret
    exact ⟨by rw [HR.out]; rfl, hb⟩
end Go.Proofs.YthjmfcdhpdiehaaGreatDoor
