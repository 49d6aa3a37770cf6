/-
  Contracts: refRunes_any.
  Contracts: refText_any.
-/
import Derived.Test.YtjhmehmmpfnnkaaDoorM02
namespace Go.Proofs.YtjhmehmmpfnnkaaDoor
open Go.RowKit Utf
set_option maxRecDepth 100000
set_option linter.unusedSimpArgs false
set_option linter.unusedVariables false

set_option maxHeartbeats 4000000 in
theorem refRunes_any (s : ByteArray) (w : World) (hs : s.size ≤ 1000000) :
    Calls Tryd.prog 31 #[.string s] w fun e w' =>
      ∃ v, e = .returned (.tuple #[v, .bool (dec s.data.toList).isSome]) ∧ Below w.heap.size w w' ∧
        (∀ rs, dec s.data.toList = some rs → w'.ownsRow w.heap.size 3 1 v rs.length (natRow rs)) ∧ (dec s.data.toList = none → v = .slice none 0 0) := by
  obtain ⟨i0, hi, hz0, hz1, hz2⟩ := info_parts Tryd.infoInt
  go_enter Tryd.func31, Tryd.ntmps31
  go_wp2
  go_loopw [4, 5] (fun v i wr => ∃ (rs : List Nat), i = .int .i64 (encAll rs).length ∧ allOk rs ∧ s.data.toList = encAll rs ++ s.data.toList.drop (encAll rs).length ∧ Below w.heap.size w wr ∧ wr.ownsRow w.heap.size 3 1 v rs.length (natRow rs))
    (fun _ i _ => s.size - (intOf i).toNat)
  case atStart =>
    exact ⟨[], rfl, allOk_nil, rfl, (Below.refl _ _).alloc (Nat.le_refl _) _, World.ownsRow_made w #[] 0 (Nat.le_refl _) (by simp [maxLen]) rfl⟩
  case round =>
    obtain ⟨rs, rfl, ho, hx, hbel, hown⟩ := hrel
    have hlen : rs.length ≤ s.size := by
      have h1 := encAll_length rs
      have h2 := congrArg List.length hx
      simp only [List.length_append, ← Lib.size_eq] at h2
      omega
    have hstep := fun c n => dec_step (c := c) (n := n) ho hx
    have hstuck := dec_stuck ho hx
    have hdone := dec_done ho hx
    clear hx ho
    generalize hpos : (encAll rs).length = pos at *
    clear hpos
    by_cases hp : pos < s.size
    · replace hstuck := hstuck hp
      clear hdone
      have e0 := byteAt_eq s pos hp
      have hb256 : s[pos].toNat < 256 := s[pos].toNat_lt
      have hstuck2 := dec1_short2 hp
      have hstuck3 := dec1_short3 hp
      have hstuck4 := dec1_short4 hp
      have hstuck0 := dec1_at0 hp
      rcases (show (s[pos].toNat < 128) ∨ (128 ≤ s[pos].toNat ∧ s[pos].toNat < 192 ∨ 248 ≤ s[pos].toNat) ∨ (192 ≤ s[pos].toNat ∧ s[pos].toNat < 224) ∨ (224 ≤ s[pos].toNat ∧ s[pos].toNat < 240) ∨ (240 ≤ s[pos].toNat ∧ s[pos].toNat < 248) by omega) with hb | hb | hb | hb | hb
      · have hshort : pos + 1 ≤ s.size ∨ ¬ pos + 0 < s.size := by omega
        rcases hshort with hshort | hshort
        · obtain ⟨c0, hc0⟩ : ∃ c0, c0 + 0 = s[pos].toNat := ⟨s[pos].toNat - 0, by omega⟩
          have hkind := dec1_kind (s := s) (p := pos) (n := 1) (least := 0) (c0 := c0) hshort (by omega)
          have HP := Lib.hid (part_bound (s := s) (p := pos) (c0 := c0) (by omega))
          have HOK := Lib.hid (fun h => hstep _ _ (hkind.1 h))
          have HNO := Lib.hid (fun h => hstuck (hkind.2 h))
          have hq : decide ((s.size : Int) - (pos : Int) < 1) = false := by simp; omega
          have hsub : ((s[pos].toNat : Nat) : Int) = (c0 : Int) := by omega
          have HS := Lib.hid hsub
          have hc0b : c0 < 128 := by omega
          clear hstuck hstep hstuck2 hstuck3 hstuck4 hstuck0 e0 hc0 hkind hsub
          go_wp2_with fail
          go_quiet (fail)
          generalize hbb : s[pos].toNat = b at *
          clear hbb
          have hT0 : (b : Int) < 128 := by omega
          go_wp2_with fail
          rw [HS.out]
          have hbel2 := below_drewN hbel nq
          have hown2 : (wr.drewN nq).ownsRow w.heap.size 3 1 u4 rs.length (natRow rs) := hown
          clear hbel hown
          generalize wr.drewN nq = w1 at *
          go_loopw [8, 9] (fun c k w2 => ∃ j : Nat, k = .int .i64 j ∧ 1 ≤ j ∧ j ≤ 1 ∧ conts s pos j ∧ c = .int .i64 (part s pos c0 j : Nat) ∧ w2 = w1) (fun _ k _ => (4 - intOf k).toNat)
          case atStart => exact ⟨1, rfl, by omega, by omega, fun i h1 h2 => by omega, rfl, rfl⟩
          case round =>
            obtain ⟨j, rfl, hj1, hj2, hcs, rfl, rfl⟩ := hrel
            have hpb := HP.out j (by omega) hcs
            by_cases hjn : j < 1
            · omega
            · obtain rfl : j = 1 := by omega
              have hc1 : part s pos c0 1 < 128 := by simp only [part]; omega
              generalize hcc : part s pos c0 1 = c at *
              have HCC := Lib.hid hcc
              clear hcc
              by_cases h1 : (c : Int) < 0
              · have HN := Lib.hid (HNO.out (fun hc => by omega))
                first
                  | (exfalso; omega)
                  | (go_wp2_with fail
                     go_ret2
                     rw [HN.out]
                     exact ⟨_, rfl, hbel2, fun _ h => (by cases h), fun _ => rfl⟩)
              · by_cases h2 : (1114111 : Int) < (c : Int)
                · have HN := Lib.hid (HNO.out (fun hc => by have := hc.2.2; rw [okR_def] at this; omega))
                  first
                    | (exfalso; omega)
                    | (go_wp2_with fail
                       go_ret2
                       rw [HN.out]
                       exact ⟨_, rfl, hbel2, fun _ h => (by cases h), fun _ => rfl⟩)
                · by_cases h3 : (55296 : Int) ≤ (c : Int) ∧ (c : Int) ≤ 57343
                  · have HN := Lib.hid (HNO.out (fun hc => by have := hc.2.2; rw [okR_def] at this; omega))
                    obtain ⟨h3, h4⟩ := h3
                    first
                      | (exfalso; omega)
                      | (go_wp2_with fail
                         go_ret2
                         rw [HN.out]
                         exact ⟨_, rfl, hbel2, fun _ h => (by cases h), fun _ => rfl⟩)
                  · have HOK2 := Lib.hid (HOK.out ⟨hcs, by omega, by rw [okR_def]; omega⟩)
                    have HBS := Lib.hid hbel2.size
                    have h3' : (¬ (55296 : Int) ≤ (c : Int)) ∨ ((55296 : Int) ≤ (c : Int) ∧ ¬ (c : Int) ≤ 57343) := by omega
                    clear h3
                    rcases h3' with h3 | ⟨h3, h4⟩
                    all_goals (try (exfalso; omega))
                    all_goals
                      go_wp2_with (at_builtin; refine wpList_append_own _ rfl _ _ 23 rfl w.heap.size 3 i0 (.int .i64 0) 1 8 Tryd.underlying23 hi hz0 hz1 hz2 rfl (by decide) _ _ _ rfl (hown2.alloc _) ⟨wr.heap.size, 0, none⟩ 1 1 [.int .i64 (c : Int)] rfl rfl (one_cell _ _ _) (by intro u hu; simp at hu; subst hu; rfl) (by unfold maxLen; omega) (by omega) (by have := HBS.out; simp; omega) ?_; intro v' w2 hown' hgrow _; have hown3 := app_nat hown'; have hbel3 : Below w.heap.size w w2 := (hbel2.alloc HBS.out _).grown hgrow (by have := HBS.out; simp; omega) (fun k hk => (hown2.lt k hk).1); clear hown' hgrow hown2 hbel2)
                      go_roundw
                      case rel => exact ⟨rs ++ [c], by rw [HOK2.out.2.1]; go_num, HOK2.out.1, HOK2.out.2.2, by assumption, by assumption⟩
                      case measure => simp [intOf]; omega
        · omega
      · have HN := Lib.hid (hstuck (hstuck0 (by omega) (by omega)))
        clear hstuck hstep hstuck2 hstuck3 hstuck4 hstuck0 e0
        go_wp2_with fail
        go_quiet (fail)
        rcases hb with hb | hb
        all_goals
          go_wp2_with fail
          go_ret2
          rw [HN.out]
          exact ⟨_, rfl, below_drewN hbel _, fun _ h => (by cases h), fun _ => rfl⟩
      · have hshort : pos + 2 ≤ s.size ∨ ¬ pos + 1 < s.size := by omega
        rcases hshort with hshort | hshort
        · obtain ⟨c0, hc0⟩ : ∃ c0, c0 + 192 = s[pos].toNat := ⟨s[pos].toNat - 192, by omega⟩
          have hkind := dec1_kind (s := s) (p := pos) (n := 2) (least := 128) (c0 := c0) hshort (by omega)
          have HP := Lib.hid (part_bound (s := s) (p := pos) (c0 := c0) (by omega))
          have HOK := Lib.hid (fun h => hstep _ _ (hkind.1 h))
          have HNO := Lib.hid (fun h => hstuck (hkind.2 h))
          have hq : decide ((s.size : Int) - (pos : Int) < 2) = false := by simp; omega
          have hsub : ((s[pos].toNat : Nat) : Int) - 192 = (c0 : Int) := by omega
          have HS := Lib.hid hsub
          have hc0b : c0 < 128 := by omega
          clear hstuck hstep hstuck2 hstuck3 hstuck4 hstuck0 e0 hc0 hkind hsub
          go_wp2_with fail
          go_quiet (fail)
          generalize hbb : s[pos].toNat = b at *
          clear hbb
          have hT0 : ¬ (b : Int) < 128 := by omega
          have hT1 : (192 : Int) ≤ (b : Int) := by omega
          have hT2 : (b : Int) < 224 := by omega
          go_wp2_with fail
          rw [HS.out]
          have hbel2 := below_drewN hbel nq
          have hown2 : (wr.drewN nq).ownsRow w.heap.size 3 1 u4 rs.length (natRow rs) := hown
          clear hbel hown
          generalize wr.drewN nq = w1 at *
          go_loopw [8, 9] (fun c k w2 => ∃ j : Nat, k = .int .i64 j ∧ 1 ≤ j ∧ j ≤ 2 ∧ conts s pos j ∧ c = .int .i64 (part s pos c0 j : Nat) ∧ w2 = w1) (fun _ k _ => (4 - intOf k).toNat)
          case atStart => exact ⟨1, rfl, by omega, by omega, fun i h1 h2 => by omega, rfl, rfl⟩
          case round =>
            obtain ⟨j, rfl, hj1, hj2, hcs, rfl, rfl⟩ := hrel
            have hpb := HP.out j (by omega) hcs
            by_cases hjn : j < 2
            · have hidx : pos + j < s.size := by omega
              have EB := Lib.hid (byteAt_eq s (pos + j) hidx)
              have PS := Lib.hid (part_succ (s := s) (p := pos) (c0 := c0) hj1)
              have hd256 : s[pos + j].toNat < 256 := s[pos + j].toNat_lt
              by_cases h1 : ((s[pos + j].toNat : Nat) : Int) < 128
              · have HN := Lib.hid (HNO.out (fun hc => by have := hc.1 j hj1 hjn; rw [EB.out] at this; omega))
                first
                  | (exfalso; omega)
                  | (go_wp2_with fail
                     go_ret2
                     rw [HN.out]
                     exact ⟨_, rfl, hbel2, fun _ h => (by cases h), fun _ => rfl⟩)
              · by_cases h2 : 191 < ((s[pos + j].toNat : Nat) : Int)
                · have HN := Lib.hid (HNO.out (fun hc => by have := hc.1 j hj1 hjn; rw [EB.out] at this; omega))
                  first
                    | (exfalso; omega)
                    | (go_wp2_with fail
                       go_ret2
                       rw [HN.out]
                       exact ⟨_, rfl, hbel2, fun _ h => (by cases h), fun _ => rfl⟩)
                · have HC := Lib.hid (conts_succ hcs (by rw [EB.out]; omega))
                  go_wp2_with fail
                  go_roundw
                  case rel => exact ⟨j + 1, by go_num, by omega, by omega, HC.out, by rw [PS.out, EB.out]; go_num, by first | rfl | trivial⟩
                  case measure => simp [intOf]; omega
            · obtain rfl : j = 2 := by omega
              generalize hcc : part s pos c0 2 = c at *
              have HCC := Lib.hid hcc
              clear hcc
              by_cases h1 : (c : Int) < 128
              · have HN := Lib.hid (HNO.out (fun hc => by omega))
                first
                  | (exfalso; omega)
                  | (go_wp2_with fail
                     go_ret2
                     rw [HN.out]
                     exact ⟨_, rfl, hbel2, fun _ h => (by cases h), fun _ => rfl⟩)
              · by_cases h2 : (1114111 : Int) < (c : Int)
                · have HN := Lib.hid (HNO.out (fun hc => by have := hc.2.2; rw [okR_def] at this; omega))
                  first
                    | (exfalso; omega)
                    | (go_wp2_with fail
                       go_ret2
                       rw [HN.out]
                       exact ⟨_, rfl, hbel2, fun _ h => (by cases h), fun _ => rfl⟩)
                · by_cases h3 : (55296 : Int) ≤ (c : Int) ∧ (c : Int) ≤ 57343
                  · have HN := Lib.hid (HNO.out (fun hc => by have := hc.2.2; rw [okR_def] at this; omega))
                    obtain ⟨h3, h4⟩ := h3
                    first
                      | (exfalso; omega)
                      | (go_wp2_with fail
                         go_ret2
                         rw [HN.out]
                         exact ⟨_, rfl, hbel2, fun _ h => (by cases h), fun _ => rfl⟩)
                  · have HOK2 := Lib.hid (HOK.out ⟨hcs, by omega, by rw [okR_def]; omega⟩)
                    have HBS := Lib.hid hbel2.size
                    have h3' : (¬ (55296 : Int) ≤ (c : Int)) ∨ ((55296 : Int) ≤ (c : Int) ∧ ¬ (c : Int) ≤ 57343) := by omega
                    clear h3
                    rcases h3' with h3 | ⟨h3, h4⟩
                    all_goals (try (exfalso; omega))
                    all_goals
                      go_wp2_with (at_builtin; refine wpList_append_own _ rfl _ _ 23 rfl w.heap.size 3 i0 (.int .i64 0) 1 8 Tryd.underlying23 hi hz0 hz1 hz2 rfl (by decide) _ _ _ rfl (hown2.alloc _) ⟨wr.heap.size, 0, none⟩ 1 1 [.int .i64 (c : Int)] rfl rfl (one_cell _ _ _) (by intro u hu; simp at hu; subst hu; rfl) (by unfold maxLen; omega) (by omega) (by have := HBS.out; simp; omega) ?_; intro v' w2 hown' hgrow _; have hown3 := app_nat hown'; have hbel3 : Below w.heap.size w w2 := (hbel2.alloc HBS.out _).grown hgrow (by have := HBS.out; simp; omega) (fun k hk => (hown2.lt k hk).1); clear hown' hgrow hown2 hbel2)
                      go_roundw
                      case rel => exact ⟨rs ++ [c], by rw [HOK2.out.2.1]; go_num, HOK2.out.1, HOK2.out.2.2, by assumption, by assumption⟩
                      case measure => simp [intOf]; omega
        · have HN := Lib.hid (hstuck (hstuck2 (by omega) hshort))
          have hq : (s.size : Int) - (pos : Int) < 2 := by omega
          clear hstuck hstep hstuck2 hstuck3 hstuck4 hstuck0 e0
          go_wp2_with fail
          go_quiet (fail)
          go_wp2_with fail
          go_ret2
          rw [HN.out]
          exact ⟨_, rfl, below_drewN hbel _, fun _ h => (by cases h), fun _ => rfl⟩
      · have hshort : pos + 3 ≤ s.size ∨ ¬ pos + 2 < s.size := by omega
        rcases hshort with hshort | hshort
        · obtain ⟨c0, hc0⟩ : ∃ c0, c0 + 224 = s[pos].toNat := ⟨s[pos].toNat - 224, by omega⟩
          have hkind := dec1_kind (s := s) (p := pos) (n := 3) (least := 2048) (c0 := c0) hshort (by omega)
          have HP := Lib.hid (part_bound (s := s) (p := pos) (c0 := c0) (by omega))
          have HOK := Lib.hid (fun h => hstep _ _ (hkind.1 h))
          have HNO := Lib.hid (fun h => hstuck (hkind.2 h))
          have hq : decide ((s.size : Int) - (pos : Int) < 3) = false := by simp; omega
          have hsub : ((s[pos].toNat : Nat) : Int) - 224 = (c0 : Int) := by omega
          have HS := Lib.hid hsub
          have hc0b : c0 < 128 := by omega
          clear hstuck hstep hstuck2 hstuck3 hstuck4 hstuck0 e0 hc0 hkind hsub
          go_wp2_with fail
          go_quiet (fail)
          generalize hbb : s[pos].toNat = b at *
          clear hbb
          have hT0 : ¬ (b : Int) < 128 := by omega
          have hT1 : (192 : Int) ≤ (b : Int) := by omega
          have hT2 : ¬ (b : Int) < 224 := by omega
          have hT3 : (224 : Int) ≤ (b : Int) := by omega
          have hT4 : (b : Int) < 240 := by omega
          go_wp2_with fail
          rw [HS.out]
          have hbel2 := below_drewN hbel nq
          have hown2 : (wr.drewN nq).ownsRow w.heap.size 3 1 u4 rs.length (natRow rs) := hown
          clear hbel hown
          generalize wr.drewN nq = w1 at *
          go_loopw [8, 9] (fun c k w2 => ∃ j : Nat, k = .int .i64 j ∧ 1 ≤ j ∧ j ≤ 3 ∧ conts s pos j ∧ c = .int .i64 (part s pos c0 j : Nat) ∧ w2 = w1) (fun _ k _ => (4 - intOf k).toNat)
          case atStart => exact ⟨1, rfl, by omega, by omega, fun i h1 h2 => by omega, rfl, rfl⟩
          case round =>
            obtain ⟨j, rfl, hj1, hj2, hcs, rfl, rfl⟩ := hrel
            have hpb := HP.out j (by omega) hcs
            by_cases hjn : j < 3
            · have hidx : pos + j < s.size := by omega
              have EB := Lib.hid (byteAt_eq s (pos + j) hidx)
              have PS := Lib.hid (part_succ (s := s) (p := pos) (c0 := c0) hj1)
              have hd256 : s[pos + j].toNat < 256 := s[pos + j].toNat_lt
              by_cases h1 : ((s[pos + j].toNat : Nat) : Int) < 128
              · have HN := Lib.hid (HNO.out (fun hc => by have := hc.1 j hj1 hjn; rw [EB.out] at this; omega))
                first
                  | (exfalso; omega)
                  | (go_wp2_with fail
                     go_ret2
                     rw [HN.out]
                     exact ⟨_, rfl, hbel2, fun _ h => (by cases h), fun _ => rfl⟩)
              · by_cases h2 : 191 < ((s[pos + j].toNat : Nat) : Int)
                · have HN := Lib.hid (HNO.out (fun hc => by have := hc.1 j hj1 hjn; rw [EB.out] at this; omega))
                  first
                    | (exfalso; omega)
                    | (go_wp2_with fail
                       go_ret2
                       rw [HN.out]
                       exact ⟨_, rfl, hbel2, fun _ h => (by cases h), fun _ => rfl⟩)
                · have HC := Lib.hid (conts_succ hcs (by rw [EB.out]; omega))
                  go_wp2_with fail
                  go_roundw
                  case rel => exact ⟨j + 1, by go_num, by omega, by omega, HC.out, by rw [PS.out, EB.out]; go_num, by first | rfl | trivial⟩
                  case measure => simp [intOf]; omega
            · obtain rfl : j = 3 := by omega
              generalize hcc : part s pos c0 3 = c at *
              have HCC := Lib.hid hcc
              clear hcc
              by_cases h1 : (c : Int) < 2048
              · have HN := Lib.hid (HNO.out (fun hc => by omega))
                first
                  | (exfalso; omega)
                  | (go_wp2_with fail
                     go_ret2
                     rw [HN.out]
                     exact ⟨_, rfl, hbel2, fun _ h => (by cases h), fun _ => rfl⟩)
              · by_cases h2 : (1114111 : Int) < (c : Int)
                · have HN := Lib.hid (HNO.out (fun hc => by have := hc.2.2; rw [okR_def] at this; omega))
                  first
                    | (exfalso; omega)
                    | (go_wp2_with fail
                       go_ret2
                       rw [HN.out]
                       exact ⟨_, rfl, hbel2, fun _ h => (by cases h), fun _ => rfl⟩)
                · by_cases h3 : (55296 : Int) ≤ (c : Int) ∧ (c : Int) ≤ 57343
                  · have HN := Lib.hid (HNO.out (fun hc => by have := hc.2.2; rw [okR_def] at this; omega))
                    obtain ⟨h3, h4⟩ := h3
                    first
                      | (exfalso; omega)
                      | (go_wp2_with fail
                         go_ret2
                         rw [HN.out]
                         exact ⟨_, rfl, hbel2, fun _ h => (by cases h), fun _ => rfl⟩)
                  · have HOK2 := Lib.hid (HOK.out ⟨hcs, by omega, by rw [okR_def]; omega⟩)
                    have HBS := Lib.hid hbel2.size
                    have h3' : (¬ (55296 : Int) ≤ (c : Int)) ∨ ((55296 : Int) ≤ (c : Int) ∧ ¬ (c : Int) ≤ 57343) := by omega
                    clear h3
                    rcases h3' with h3 | ⟨h3, h4⟩
                    all_goals (try (exfalso; omega))
                    all_goals
                      go_wp2_with (at_builtin; refine wpList_append_own _ rfl _ _ 23 rfl w.heap.size 3 i0 (.int .i64 0) 1 8 Tryd.underlying23 hi hz0 hz1 hz2 rfl (by decide) _ _ _ rfl (hown2.alloc _) ⟨wr.heap.size, 0, none⟩ 1 1 [.int .i64 (c : Int)] rfl rfl (one_cell _ _ _) (by intro u hu; simp at hu; subst hu; rfl) (by unfold maxLen; omega) (by omega) (by have := HBS.out; simp; omega) ?_; intro v' w2 hown' hgrow _; have hown3 := app_nat hown'; have hbel3 : Below w.heap.size w w2 := (hbel2.alloc HBS.out _).grown hgrow (by have := HBS.out; simp; omega) (fun k hk => (hown2.lt k hk).1); clear hown' hgrow hown2 hbel2)
                      go_roundw
                      case rel => exact ⟨rs ++ [c], by rw [HOK2.out.2.1]; go_num, HOK2.out.1, HOK2.out.2.2, by assumption, by assumption⟩
                      case measure => simp [intOf]; omega
        · have HN := Lib.hid (hstuck (hstuck3 (by omega) hshort))
          have hq : (s.size : Int) - (pos : Int) < 3 := by omega
          clear hstuck hstep hstuck2 hstuck3 hstuck4 hstuck0 e0
          go_wp2_with fail
          go_quiet (fail)
          go_wp2_with fail
          go_ret2
          rw [HN.out]
          exact ⟨_, rfl, below_drewN hbel _, fun _ h => (by cases h), fun _ => rfl⟩
      · have hshort : pos + 4 ≤ s.size ∨ ¬ pos + 3 < s.size := by omega
        rcases hshort with hshort | hshort
        · obtain ⟨c0, hc0⟩ : ∃ c0, c0 + 240 = s[pos].toNat := ⟨s[pos].toNat - 240, by omega⟩
          have hkind := dec1_kind (s := s) (p := pos) (n := 4) (least := 65536) (c0 := c0) hshort (by omega)
          have HP := Lib.hid (part_bound (s := s) (p := pos) (c0 := c0) (by omega))
          have HOK := Lib.hid (fun h => hstep _ _ (hkind.1 h))
          have HNO := Lib.hid (fun h => hstuck (hkind.2 h))
          have hq : decide ((s.size : Int) - (pos : Int) < 4) = false := by simp; omega
          have hsub : ((s[pos].toNat : Nat) : Int) - 240 = (c0 : Int) := by omega
          have HS := Lib.hid hsub
          have hc0b : c0 < 128 := by omega
          clear hstuck hstep hstuck2 hstuck3 hstuck4 hstuck0 e0 hc0 hkind hsub
          go_wp2_with fail
          go_quiet (fail)
          generalize hbb : s[pos].toNat = b at *
          clear hbb
          have hT0 : ¬ (b : Int) < 128 := by omega
          have hT1 : (192 : Int) ≤ (b : Int) := by omega
          have hT2 : ¬ (b : Int) < 224 := by omega
          have hT3 : (224 : Int) ≤ (b : Int) := by omega
          have hT4 : ¬ (b : Int) < 240 := by omega
          have hT5 : (240 : Int) ≤ (b : Int) := by omega
          have hT6 : (b : Int) < 248 := by omega
          go_wp2_with fail
          rw [HS.out]
          have hbel2 := below_drewN hbel nq
          have hown2 : (wr.drewN nq).ownsRow w.heap.size 3 1 u4 rs.length (natRow rs) := hown
          clear hbel hown
          generalize wr.drewN nq = w1 at *
          go_loopw [8, 9] (fun c k w2 => ∃ j : Nat, k = .int .i64 j ∧ 1 ≤ j ∧ j ≤ 4 ∧ conts s pos j ∧ c = .int .i64 (part s pos c0 j : Nat) ∧ w2 = w1) (fun _ k _ => (4 - intOf k).toNat)
          case atStart => exact ⟨1, rfl, by omega, by omega, fun i h1 h2 => by omega, rfl, rfl⟩
          case round =>
            obtain ⟨j, rfl, hj1, hj2, hcs, rfl, rfl⟩ := hrel
            have hpb := HP.out j (by omega) hcs
            by_cases hjn : j < 4
            · have hidx : pos + j < s.size := by omega
              have EB := Lib.hid (byteAt_eq s (pos + j) hidx)
              have PS := Lib.hid (part_succ (s := s) (p := pos) (c0 := c0) hj1)
              have hd256 : s[pos + j].toNat < 256 := s[pos + j].toNat_lt
              by_cases h1 : ((s[pos + j].toNat : Nat) : Int) < 128
              · have HN := Lib.hid (HNO.out (fun hc => by have := hc.1 j hj1 hjn; rw [EB.out] at this; omega))
                first
                  | (exfalso; omega)
                  | (go_wp2_with fail
                     go_ret2
                     rw [HN.out]
                     exact ⟨_, rfl, hbel2, fun _ h => (by cases h), fun _ => rfl⟩)
              · by_cases h2 : 191 < ((s[pos + j].toNat : Nat) : Int)
                · have HN := Lib.hid (HNO.out (fun hc => by have := hc.1 j hj1 hjn; rw [EB.out] at this; omega))
                  first
                    | (exfalso; omega)
                    | (go_wp2_with fail
                       go_ret2
                       rw [HN.out]
                       exact ⟨_, rfl, hbel2, fun _ h => (by cases h), fun _ => rfl⟩)
                · have HC := Lib.hid (conts_succ hcs (by rw [EB.out]; omega))
                  go_wp2_with fail
                  go_roundw
                  case rel => exact ⟨j + 1, by go_num, by omega, by omega, HC.out, by rw [PS.out, EB.out]; go_num, by first | rfl | trivial⟩
                  case measure => simp [intOf]; omega
            · obtain rfl : j = 4 := by omega
              generalize hcc : part s pos c0 4 = c at *
              have HCC := Lib.hid hcc
              clear hcc
              by_cases h1 : (c : Int) < 65536
              · have HN := Lib.hid (HNO.out (fun hc => by omega))
                first
                  | (exfalso; omega)
                  | (go_wp2_with fail
                     go_ret2
                     rw [HN.out]
                     exact ⟨_, rfl, hbel2, fun _ h => (by cases h), fun _ => rfl⟩)
              · by_cases h2 : (1114111 : Int) < (c : Int)
                · have HN := Lib.hid (HNO.out (fun hc => by have := hc.2.2; rw [okR_def] at this; omega))
                  first
                    | (exfalso; omega)
                    | (go_wp2_with fail
                       go_ret2
                       rw [HN.out]
                       exact ⟨_, rfl, hbel2, fun _ h => (by cases h), fun _ => rfl⟩)
                · by_cases h3 : (55296 : Int) ≤ (c : Int) ∧ (c : Int) ≤ 57343
                  · have HN := Lib.hid (HNO.out (fun hc => by have := hc.2.2; rw [okR_def] at this; omega))
                    obtain ⟨h3, h4⟩ := h3
                    first
                      | (exfalso; omega)
                      | (go_wp2_with fail
                         go_ret2
                         rw [HN.out]
                         exact ⟨_, rfl, hbel2, fun _ h => (by cases h), fun _ => rfl⟩)
                  · have HOK2 := Lib.hid (HOK.out ⟨hcs, by omega, by rw [okR_def]; omega⟩)
                    have HBS := Lib.hid hbel2.size
                    have h3' : (¬ (55296 : Int) ≤ (c : Int)) ∨ ((55296 : Int) ≤ (c : Int) ∧ ¬ (c : Int) ≤ 57343) := by omega
                    clear h3
                    rcases h3' with h3 | ⟨h3, h4⟩
                    all_goals (try (exfalso; omega))
                    all_goals
                      go_wp2_with (at_builtin; refine wpList_append_own _ rfl _ _ 23 rfl w.heap.size 3 i0 (.int .i64 0) 1 8 Tryd.underlying23 hi hz0 hz1 hz2 rfl (by decide) _ _ _ rfl (hown2.alloc _) ⟨wr.heap.size, 0, none⟩ 1 1 [.int .i64 (c : Int)] rfl rfl (one_cell _ _ _) (by intro u hu; simp at hu; subst hu; rfl) (by unfold maxLen; omega) (by omega) (by have := HBS.out; simp; omega) ?_; intro v' w2 hown' hgrow _; have hown3 := app_nat hown'; have hbel3 : Below w.heap.size w w2 := (hbel2.alloc HBS.out _).grown hgrow (by have := HBS.out; simp; omega) (fun k hk => (hown2.lt k hk).1); clear hown' hgrow hown2 hbel2)
                      go_roundw
                      case rel => exact ⟨rs ++ [c], by rw [HOK2.out.2.1]; go_num, HOK2.out.1, HOK2.out.2.2, by assumption, by assumption⟩
                      case measure => simp [intOf]; omega
        · have HN := Lib.hid (hstuck (hstuck4 (by omega) hshort))
          have hq : (s.size : Int) - (pos : Int) < 4 := by omega
          clear hstuck hstep hstuck2 hstuck3 hstuck4 hstuck0 e0
          go_wp2_with fail
          go_quiet (fail)
          go_wp2_with fail
          go_ret2
          rw [HN.out]
          exact ⟨_, rfl, below_drewN hbel _, fun _ h => (by cases h), fun _ => rfl⟩
    · have HN := Lib.hid (hdone hp)
      clear hstuck hstep hdone
      go_wp2_with fail
      go_ret2
      rw [HN.out]
      exact ⟨_, rfl, hbel, fun _ h => (by cases h; exact hown), fun h => (by cases h)⟩
end Go.Proofs.YtjhmehmmpfnnkaaDoor

namespace Go.Proofs.YtjhmehmmpfnnkaaDoor
open Go.RowKit Utf
set_option maxRecDepth 100000
set_option linter.unusedSimpArgs false
set_option linter.unusedVariables false

set_option maxHeartbeats 2000000 in
theorem refText_any (rs : List Nat) (ao : Option Addr) (cap : Nat) (w : World) (hl : rs.length ≤ 1000000) (ho : allOk rs) (hr : RowAt w ao (natRow rs)) :
    Calls Tryd.prog 32 #[.slice ao rs.length cap] w fun e w' => e = .returned (.string (mkS (encAll rs))) ∧ Below w.heap.size w w' := by
  obtain ⟨i0, hi, hz0, hz1, hz2⟩ := info_parts Tryd.infoByte
  have HO := Lib.hid ho
  have HR := Lib.hid hr
  clear ho hr
  go_enter Tryd.func32, Tryd.ntmps32
  go_wp2_with fail
  go_loopw [3, 9] (fun v i wr => ∃ k : Nat, k ≤ rs.length ∧ i = .int .i64 k ∧ Below w.heap.size w wr ∧ wr.ownsRow w.heap.size 5 1 v (encAll (rs.take k)).length (byteRow (encAll (rs.take k)))) (fun _ i _ => rs.length - (intOf i).toNat)
  case atStart => exact ⟨0, Nat.zero_le _, rfl, (Below.refl _ _).alloc (Nat.le_refl _) _, World.ownsRow_made w #[] 0 (Nat.le_refl _) (by simp [maxLen]) rfl⟩
  case round =>
    obtain ⟨k, hk, rfl, hbel, hown⟩ := hrel
    have HBS := Lib.hid hbel.size
    by_cases hlt : k < rs.length
    · obtain ⟨b, of, rfl, hc⟩ := HR.out k (by rw [natRow_len]; exact hlt)
      rw [natRow_at] at hc
      replace hc := (hbel.cell (World.block_lt_of_cell? w _ hc)).trans hc
      have hok := HO.out _ (List.getElem_mem hlt)
      have HT := Lib.hid (show encAll (rs.take (k + 1)) = encAll (rs.take k) ++ enc rs[k] by rw [List.take_succ_eq_append_getElem hlt, encAll_append, encAll_cons, encAll_nil, List.append_nil])
      generalize rs[k] = c at *
      generalize hpre : encAll (rs.take k) = pre at *
      have hpl : pre.length ≤ 4000000 := by rw [← hpre]; have := encAll_le (rs.take k); rw [List.length_take] at this; omega
      clear hpre
      have hcb : c ≤ 1114111 := by rw [okR_def] at hok; omega
      by_cases h1 : (c : Int) < 128
      · go_wp2_with (at_builtin; refine app1 rfl _ _ 41 rfl 5 i0 (.int .u8 0) 1 Tryd.underlying41 hi hz0 hz1 hz2 rfl w.heap.size _ _ _ rfl hown w.heap.size (Nat.le_refl _) hbel HBS.out _ rfl rfl (by omega) (by omega) ?_)
        refine Lib.hid ?_
        intro v' w2 hown' hbel' _
        go_wp2_with fail
        go_roundw
        case rel => exact ⟨k + 1, by omega, by go_num, hbel', by rw [HT.out]; exact own_enc (byteRow_enc1 (by omega)) rfl hown'⟩
        case measure => simp [intOf]; omega
      · by_cases h2 : (c : Int) < 2048
        · have HE := Lib.hid (byteRow_enc2 (c := c) (by omega) (by omega))
          go_wp2_with (at_builtin; refine appN rfl _ _ 41 rfl 5 i0 (.int .u8 0) 1 Tryd.underlying41 hi hz0 hz1 hz2 rfl w.heap.size _ _ _ rfl hown w.heap.size (Nat.le_refl _) hbel HBS.out [Value.int .u8 (192 + (c : Int) / 64), .int .u8 (128 + (c : Int) % 64)] 2 rfl (by intro u hu; simp at hu; rcases hu with rfl | rfl <;> rfl) rfl (by omega) (by omega) ?_)
          refine Lib.hid ?_
          intro v' w2 hown' hbel' _
          go_wp2_with fail
          go_roundw
          case rel => exact ⟨k + 1, by omega, by go_num, hbel', by rw [HT.out]; exact own_enc (HE.out) rfl hown'⟩
          case measure => simp [intOf]; omega
        · by_cases h3 : (c : Int) < 65536
          · have HE := Lib.hid (byteRow_enc3 (c := c) (by omega) (by omega) hok)
            go_wp2_with (at_builtin; refine appN rfl _ _ 41 rfl 5 i0 (.int .u8 0) 1 Tryd.underlying41 hi hz0 hz1 hz2 rfl w.heap.size _ _ _ rfl hown w.heap.size (Nat.le_refl _) hbel HBS.out [Value.int .u8 (224 + (c : Int) / 4096), .int .u8 (128 + (c : Int) / 64 % 64), .int .u8 (128 + (c : Int) % 64)] 3 rfl (by intro u hu; simp at hu; rcases hu with rfl | rfl | rfl <;> rfl) rfl (by omega) (by omega) ?_)
            refine Lib.hid ?_
            intro v' w2 hown' hbel' _
            go_wp2_with fail
            go_roundw
            case rel => exact ⟨k + 1, by omega, by go_num, hbel', by rw [HT.out]; exact own_enc (HE.out) rfl hown'⟩
            case measure => simp [intOf]; omega
          · have HE := Lib.hid (byteRow_enc4 (c := c) (by omega) hok)
            go_wp2_with (at_builtin; refine appN rfl _ _ 41 rfl 5 i0 (.int .u8 0) 1 Tryd.underlying41 hi hz0 hz1 hz2 rfl w.heap.size _ _ _ rfl hown w.heap.size (Nat.le_refl _) hbel HBS.out [Value.int .u8 (240 + (c : Int) / 262144), .int .u8 (128 + (c : Int) / 4096 % 64), .int .u8 (128 + (c : Int) / 64 % 64), .int .u8 (128 + (c : Int) % 64)] 4 rfl (by intro u hu; simp at hu; rcases hu with rfl | rfl | rfl | rfl <;> rfl) rfl (by omega) (by omega) ?_)
            refine Lib.hid ?_
            intro v' w2 hown' hbel' _
            go_wp2_with fail
            go_roundw
            case rel => exact ⟨k + 1, by omega, by go_num, hbel', by rw [HT.out]; exact own_enc (HE.out) rfl hown'⟩
            case measure => simp [intOf]; omega
    · obtain rfl : k = rs.length := by omega
      rw [List.take_length] at hown
      have hcv := fun h => conv_bytes (P := Tryd.prog) (src := 41) (dst := 9) hown h Tryd.underlying5 Tryd.underlying9
      replace hcv := hcv Tryd.underlying41
      go_wp2_with fail
      go_ret
      exact ⟨rfl, hbel⟩
end Go.Proofs.YtjhmehmmpfnnkaaDoor
