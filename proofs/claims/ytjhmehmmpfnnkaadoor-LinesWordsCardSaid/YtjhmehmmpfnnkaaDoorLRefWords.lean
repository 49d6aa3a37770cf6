/-
  The contract of tidewaterref31.Words.
-/
import Derived.Test.YtjhmehmmpfnnkaaDoorLWords
import Derived.Test.YtjhmehmmpfnnkaaDoorLRefWordsP
import Derived.Test.YtjhmehmmpfnnkaaDoorFRunes
import Derived.Test.YtjhmehmmpfnnkaaDoorFText
namespace Go.Proofs.YtjhmehmmpfnnkaaDoor
open Go.RowKit Utf
set_option maxRecDepth 100000
set_option linter.unusedSimpArgs false
set_option linter.unusedVariables false

/-- What tidewaterref31.Words answers for a right text. -/
def RefWordsPost (rs : List Nat) (w : World) (e : Ending) (w' : World) : Prop :=
  Below w.heap.size w w' ∧ ((∃ ws v, wordsL rs = some ws ∧ e = .returned (.tuple #[v, .int .i64 0]) ∧ OwnE w' w.heap.size 9 1 v ws.length (strRow (fieldTexts ws))) ∨
    (wordsL rs = none ∧ e = .returned (.tuple #[.slice none 0 0, .int .i64 4])))

theorem refText_n (n : Nat) (rs : List Nat) (ao : Option Addr) (cap : Nat) (w : World) (hn : rs.length = n) (hl : n ≤ 1000000) (ho : allOk rs) (hr : RowAt w ao (natRow rs)) :
    Calls Tryd.prog 32 #[.slice ao n cap] w fun e w' => e = .returned (.string (mkS (encAll rs))) ∧ Below w.heap.size w w' := by
  subst hn
  exact refText_any rs ao cap w hl ho hr
theorem RowAt.sub {w : World} {b o : Nat} {rs : List Nat} (h : RowAt w (some ⟨b, o, none⟩) (natRow rs)) (i k : Nat) : RowAt w (some ⟨b, o + i, none⟩) (natRow ((rs.take k).drop i)) := by
  intro t ht
  have ht' : t < ((rs.take k).drop i).length := by rw [← natRow_len]; exact ht
  rw [List.length_drop, List.length_take] at ht'
  obtain ⟨b2, o2, he, hc⟩ := h (i + t) (by rw [natRow_len]; omega)
  obtain ⟨rfl, rfl⟩ : b2 = b ∧ o2 = o := by
    have := Option.some.inj he
    simp only [Addr.mk.injEq] at this
    exact ⟨this.1.symm, this.2.1.symm⟩
  refine ⟨_, _, rfl, ?_⟩
  rw [Nat.add_assoc, hc, natRow_at, natRow_at]
  congr 2
  simp
theorem RowAt.drewN {w : World} {ao : Option Addr} {xs : List Value} (h : RowAt w ao xs) (n : Nat) : RowAt (w.drewN n) ao xs := h
theorem OwnE.drewN {w : World} {B : Nat} {e : TypeId} {size : Nat} {v : Value} {n : Nat} {xs : List Value} (h : OwnE w B e size v n xs) (k : Nat) : OwnE (w.drewN k) B e size v n xs := h
theorem subOk {rs : List Nat} (h : allOk rs) (i k : Nat) : allOk ((rs.take k).drop i) := fun c hc => h c (List.mem_of_mem_take (List.mem_of_mem_drop hc))

theorem refWords_none (s : ByteArray) (w : World) (hs : s.size ≤ 1000000) (hd : dec s.data.toList = none) :
    Calls Tryd.prog 13 #[.string s] w fun e w' => e = .returned (.tuple #[.slice none 0 0, .int .i64 6]) ∧ Below w.heap.size w w' := by
  have HR := Lib.hid (refRunes_any s w hs)
  rw [hd] at HR
  clear hd
  go_enter Tryd.func13, Tryd.ntmps13
  go_wp2_with fail
  refine HR.out.mono ?_
  rintro e w1 ⟨v, rfl, hb1, -, -⟩
  go_wp2_with fail
  go_ret2
  exact ⟨rfl, hb1⟩

set_option maxHeartbeats 8000000 in
theorem refWords_some (s : ByteArray) (rs : List Nat) (w : World) (hs : s.size ≤ 1000000) (ho : allOk rs) (h : s.data.toList = encAll rs) :
    Calls Tryd.prog 13 #[.string s] w (RefWordsPost rs w) := by
  obtain ⟨i1, hinf, hy0, hy1, hy2⟩ := info_parts Tryd.infoString
  have hd := dec_encAll ho
  rw [← h] at hd
  have hl := len_le h
  have hrl : rs.length ≤ 1000000 := by omega
  have HR := Lib.hid (refRunes_any s w hs)
  rw [hd] at HR
  have HOK := Lib.hid ho
  clear hd h ho hl
  go_enter Tryd.func13, Tryd.ntmps13
  go_wp2_with fail
  refine HR.out.mono ?_
  rintro e w1 ⟨v, rfl, hb1, hown, -⟩
  obtain ⟨ao, cap, rfl, hrow, -, hcap, hcm, -, hsp⟩ := own_row (hown rs rfl)
  have HROW := Lib.hid hrow
  have HB1 := Lib.hid hb1
  have HCAP := Lib.hid hcap
  have HCM := Lib.hid hcm
  clear hb1 hown hrow hsp hcap hcm
  go_wp2_with fail
  go_loopw [6, 7] (fun vo vi wr => ∃ (i : Nat) (out : List (List Nat)), vi = .int .i64 i ∧ i ≤ rs.length ∧ Below w1.heap.size w1 wr ∧ OwnE wr w1.heap.size 9 1 vo out.length (strRow (fieldTexts out)) ∧ out.length ≤ i ∧ Hid (wF ⟨out, [], .gap⟩ (rs.drop i) = wordsL rs)) (fun _ vi _ => rs.length - (intOf vi).toNat)
  case atStart => exact ⟨0, [], rfl, Nat.zero_le _, (Below.refl _ _).alloc (Nat.le_refl _) _, .new, Nat.le_refl _, wF_start rs⟩
  case round =>
    obtain ⟨i, out, rfl, hil, hbel, hout, hol, HW⟩ := hrel
    have HOU := Lib.hid hout
    have HBE := Lib.hid hbel
    clear hout hbel
    by_cases hlt : i < rs.length
    · have hltd : decide (i < rs.length) = true := decide_eq_true hlt
      obtain ⟨b, o, rfl, hc⟩ := HROW.out i (by rw [natRow_len]; exact hlt)
      rw [natRow_at] at hc
      have hcr := (HBE.out.cell (World.block_lt_of_cell? w1 _ hc)).trans hc
      by_cases h32 : rs[i] = 32
      · have HN := Lib.hid (w_blank hlt HW.out h32)
        have e32 : ((rs[i] : Int) == 32) = true := by simp [h32]
        clear h32
        generalize rs[i] = c at *
        go_wp2_with fail
        go_roundw
        case rel => exact ⟨i + 1, out, by go_num, by omega, HBE.out, HOU.out, by omega, HN.out⟩
        case measure => simp [intOf]; omega
      · have e32 : ((rs[i] : Int) == 32) = false := by simp; omega
        by_cases h34 : rs[i] = 34
        · have HN := Lib.hid (w_open hlt HW.out h34)
          have e34 : ((rs[i] : Int) == 34) = true := by simp [h34]
          clear h32 h34
          generalize rs[i] = c at *
          skip
          go_wp2_with fail
          obtain ⟨wo, hwo⟩ : ∃ wo : World, wo = wr := ⟨_, rfl⟩
          subst hwo
          go_loopw [7] (fun vi wr2 => ∃ j n : Nat, vi = .int .i64 j ∧ i < j ∧ wr2 = wo.drewN n ∧ j ≤ rs.length + 1 ∧ Hid ((j ≤ rs.length → wF ⟨out, (rs.take j).drop i, .quo⟩ (rs.drop j) = wordsL rs) ∧ (rs.length < j → wordsL rs = none))) (fun vi _ => rs.length + 1 - (intOf vi).toNat)
          case atStart => exact ⟨i + 1, 0, by go_num, by omega, rfl, by omega, fun _ => HN.out, fun h => by omega⟩
          case round =>
            obtain ⟨j, n, rfl, hij, rfl, hjl, HX⟩ := hrel
            by_cases hj : j < rs.length
            · have hjd : decide (j < rs.length) = true := decide_eq_true hj
              obtain ⟨b2, o2, hao, hc2⟩ := HROW.out j (by rw [natRow_len]; exact hj)
              cases hao
              rw [natRow_at] at hc2
              have hcr2 := (HBE.out.cell (World.block_lt_of_cell? w1 _ hc2)).trans hc2
              have HXX := Lib.hid (HX.out.1 (by omega))
              by_cases g34 : rs[j] = 34
              · have f34 : ((rs[j] : Int) != 34) = false := by simp [g34]
                have HZ := Lib.hid (w_close (by omega) hj HXX.out g34)
                clear g34
                generalize rs[j] = d at *
                by_cases gp : j + 1 < rs.length
                · have gpd : decide ((j : Int) + 1 < (rs.length : Int)) = true := decide_eq_true (by omega)
                  obtain ⟨b3, o3, hao3, hc3⟩ := HROW.out (j + 1) (by rw [natRow_len]; exact gp)
                  cases hao3
                  rw [natRow_at] at hc3
                  have hcr3 := (HBE.out.cell (World.block_lt_of_cell? w1 _ hc3)).trans hc3
                  by_cases k32 : rs[j + 1] = 32
                  · have f32 : ((rs[j + 1] : Int) != 32) = false := by simp [k32]
                    have HNX := Lib.hid (w_next (.inr rfl) gp HZ.out k32)
                    clear k32
                    generalize rs[j + 1] = dd at *
                    have HT := Lib.hid (fun W hr cp => refText_n (j + 1 - i) ((rs.take (j + 1)).drop i) (some ⟨b, o + i, none⟩) cp W (by rw [List.length_drop, List.length_take]; omega) (by omega) (subOk HOK.out _ _) hr)
                    have HRD := Lib.hid ((HROW.out.below HBE.out).drewN n)
                    have hcap := HCAP.out
                    have hcm := HCM.out
                    unfold maxLen at hcm
                    go_wp2_with fail
                    refine (HT.out _ (HRD.out.sub i _) _).mono ?_
                    rintro e w5 ⟨rfl, hb5⟩
                    have HB5 := Lib.hid ((below_drewN HBE.out n).trans (hb5.mono (by have := HBE.out.size; exact this)))
                    have HO5 := Lib.hid ((HOU.out.drewN n).below hb5)
                    have HS5 := Lib.hid HB5.out.size
                    clear hb5
                    go_wp2_with (at_builtin; refine appE rfl _ _ 22 rfl 9 i1 (.string ByteArray.empty) 1 16 Tryd.underlying22 hinf hy0 hy1 hy2 rfl (by omega) w1.heap.size _ _ _ rfl HO5.out w1.heap.size (by omega) HB5.out HS5.out [.string (mkS (encAll ((rs.take (j + 1)).drop i)))] 1 rfl (by omega) (by intro u hu; simp at hu; subst hu; rfl) rfl (by omega) (by omega) ?_)
                    refine Lib.hid ?_
                    intro v6 w6 hown6 hb6 hg6
                    have HO6 := Lib.hid hown6
                    have HB6 := Lib.hid hb6
                    clear hown6 hb6 hg6
                    go_wp2_with fail
                    go_roundw
                    case rel => exact ⟨j + 1, out ++ [(rs.take (j + 1)).drop i], by go_num, by omega, HB6.out, by (have := HO6.out; rw [strRow_snoc, fieldTexts_snoc] at this; rw [List.length_append]; exact .inr this), by (rw [List.length_append]; simp; omega), HNX.out⟩
                    case measure => simp [intOf]; omega
                  · have f32 : ((rs[j + 1] : Int) != 32) = true := by simp; omega
                    have HNX := Lib.hid (w_bad_shut gp HZ.out k32)
                    clear k32
                    generalize rs[j + 1] = dd at *
                    go_wp2_with fail
                    go_ret2
                    exact ⟨HB1.out.trans ((below_drewN HBE.out _).mono HB1.out.size), .inr ⟨HNX.out, rfl⟩⟩
                · have gpd : decide ((j : Int) + 1 < (rs.length : Int)) = false := decide_eq_false (by omega)
                  have HNX := Lib.hid (w_done (.inr rfl) gp HZ.out)
                  have HT := Lib.hid (fun W hr cp => refText_n (j + 1 - i) ((rs.take (j + 1)).drop i) (some ⟨b, o + i, none⟩) cp W (by rw [List.length_drop, List.length_take]; omega) (by omega) (subOk HOK.out _ _) hr)
                  have HRD := Lib.hid ((HROW.out.below HBE.out).drewN n)
                  have hcap := HCAP.out
                  have hcm := HCM.out
                  unfold maxLen at hcm
                  go_wp2_with fail
                  refine (HT.out _ (HRD.out.sub i _) _).mono ?_
                  rintro e w5 ⟨rfl, hb5⟩
                  have HB5 := Lib.hid ((below_drewN HBE.out n).trans (hb5.mono (by have := HBE.out.size; exact this)))
                  have HO5 := Lib.hid ((HOU.out.drewN n).below hb5)
                  have HS5 := Lib.hid HB5.out.size
                  clear hb5
                  go_wp2_with (at_builtin; refine appE rfl _ _ 22 rfl 9 i1 (.string ByteArray.empty) 1 16 Tryd.underlying22 hinf hy0 hy1 hy2 rfl (by omega) w1.heap.size _ _ _ rfl HO5.out w1.heap.size (by omega) HB5.out HS5.out [.string (mkS (encAll ((rs.take (j + 1)).drop i)))] 1 rfl (by omega) (by intro u hu; simp at hu; subst hu; rfl) rfl (by omega) (by omega) ?_)
                  refine Lib.hid ?_
                  intro v6 w6 hown6 hb6 hg6
                  have HO6 := Lib.hid hown6
                  have HB6 := Lib.hid hb6
                  clear hown6 hb6 hg6
                  go_wp2_with fail
                  go_roundw
                  case rel => exact ⟨j + 1, out ++ [(rs.take (j + 1)).drop i], by go_num, by omega, HB6.out, by (have := HO6.out; rw [strRow_snoc, fieldTexts_snoc] at this; rw [List.length_append]; exact .inr this), by (rw [List.length_append]; simp; omega), HNX.out⟩
                  case measure => simp [intOf]; omega
              · have f34 : ((rs[j] : Int) != 34) = true := by simp; omega
                by_cases g92 : rs[j] = 92
                · have f92 : ((rs[j] : Int) == 92) = true := by simp [g92]
                  have HZ := Lib.hid (fun h => w_esc (by omega) h HXX.out g92)
                  have HZ2 := Lib.hid (fun h => w_esc_end hj h HXX.out g92)
                  clear g92 g34
                  generalize rs[j] = d at *
                  go_wp2_with fail
                  go_roundw
                  case rel => exact ⟨j + 1 + 1, n, by go_num, by omega, rfl, by omega, fun h => HZ.out (by omega), fun h => HZ2.out (by omega)⟩
                  case measure => simp [intOf]; omega
                · have f92 : ((rs[j] : Int) == 92) = false := by simp; omega
                  have HZ := Lib.hid (w_quo (by omega) hj HXX.out g34 g92)
                  clear g92 g34
                  generalize rs[j] = d at *
                  go_wp2_with fail
                  go_roundw
                  case rel => exact ⟨j + 1, n, by go_num, by omega, rfl, by omega, fun h => HZ.out, fun h => absurd h (by omega)⟩
                  case measure => simp [intOf]; omega
            · have hjd : decide (j < rs.length) = false := decide_eq_false hj
              have HZ := Lib.hid (show wordsL rs = none from (by
                by_cases h : j ≤ rs.length
                · exact w_quo_end hj (HX.out.1 h)
                · exact HX.out.2 (by omega)))
              have hjg : decide ((rs.length : Int) ≤ (j : Int)) = true := decide_eq_true (by omega)
              go_wp2_with fail
              go_ret2
              exact ⟨HB1.out.trans ((below_drewN HBE.out _).mono HB1.out.size), .inr ⟨HZ.out, rfl⟩⟩
        · have HN := Lib.hid (w_bare0 HW.out)
          have e34 : ((rs[i] : Int) == 34) = false := by simp; omega
          have h32' := Lib.hid h32
          have h34' := Lib.hid h34
          clear h32 h34
          generalize hci : rs[i] = c at *
          have HCI := Lib.hid hci
          clear hci
          go_wp2_with fail
          obtain ⟨wo, hwo⟩ : ∃ wo : World, wo = wr := ⟨_, rfl⟩
          subst hwo
          go_loopw [7] (fun vi wr2 => ∃ j n : Nat, vi = .int .i64 j ∧ i ≤ j ∧ wr2 = wo.drewN n ∧ j ≤ rs.length ∧ Hid (wF ⟨out, (rs.take j).drop i, bareM i j⟩ (rs.drop j) = wordsL rs)) (fun vi _ => rs.length - (intOf vi).toNat)
          case atStart => exact ⟨i, 0, rfl, by omega, rfl, by omega, HN.out⟩
          case round =>
            obtain ⟨j, n, rfl, hij, rfl, hjl, HX⟩ := hrel
            by_cases hj : j < rs.length
            · have hjd : decide (j < rs.length) = true := decide_eq_true hj
              obtain ⟨b2, o2, hao, hc2⟩ := HROW.out j (by rw [natRow_len]; exact hj)
              cases hao
              rw [natRow_at] at hc2
              have hcr2 := (HBE.out.cell (World.block_lt_of_cell? w1 _ hc2)).trans hc2
              have hne : j = i → rs[j] ≠ 32 ∧ rs[j] ≠ 34 := fun e => by subst e; rw [HCI.out]; exact ⟨h32'.out, h34'.out⟩
              by_cases g32 : rs[j] = 32
              · have f32a : ((rs[j] : Int) != 32) = false := by simp [g32]
                have hji : i < j := by
                  rcases Nat.lt_or_ge i j with h | h
                  · exact h
                  · exact absurd g32 (hne (by omega)).1
                have HZ := Lib.hid (show wF ⟨out, (rs.take j).drop i, .bare⟩ (rs.drop j) = wordsL rs by rw [← bareM_of hji]; exact HX.out)
                have HNX := Lib.hid (w_next (.inl rfl) hj HZ.out g32)
                clear g32 hne
                generalize rs[j] = d at *
                have HT := Lib.hid (fun W hr cp => refText_n (j - i) ((rs.take (j)).drop i) (some ⟨b, o + i, none⟩) cp W (by rw [List.length_drop, List.length_take]; omega) (by omega) (subOk HOK.out _ _) hr)
                have HRD := Lib.hid ((HROW.out.below HBE.out).drewN n)
                have hcap := HCAP.out
                have hcm := HCM.out
                unfold maxLen at hcm
                go_wp2_with fail
                refine (HT.out _ (HRD.out.sub i _) _).mono ?_
                rintro e w5 ⟨rfl, hb5⟩
                have HB5 := Lib.hid ((below_drewN HBE.out n).trans (hb5.mono (by have := HBE.out.size; exact this)))
                have HO5 := Lib.hid ((HOU.out.drewN n).below hb5)
                have HS5 := Lib.hid HB5.out.size
                clear hb5
                go_wp2_with (at_builtin; refine appE rfl _ _ 22 rfl 9 i1 (.string ByteArray.empty) 1 16 Tryd.underlying22 hinf hy0 hy1 hy2 rfl (by omega) w1.heap.size _ _ _ rfl HO5.out w1.heap.size (by omega) HB5.out HS5.out [.string (mkS (encAll ((rs.take (j)).drop i)))] 1 rfl (by omega) (by intro u hu; simp at hu; subst hu; rfl) rfl (by omega) (by omega) ?_)
                refine Lib.hid ?_
                intro v6 w6 hown6 hb6 hg6
                have HO6 := Lib.hid hown6
                have HB6 := Lib.hid hb6
                clear hown6 hb6 hg6
                go_wp2_with fail
                go_roundw
                case rel => exact ⟨j, out ++ [(rs.take (j)).drop i], by go_num, by omega, HB6.out, by (have := HO6.out; rw [strRow_snoc, fieldTexts_snoc] at this; rw [List.length_append]; exact .inr this), by (rw [List.length_append]; simp; omega), HNX.out⟩
                case measure => simp [intOf]; omega
              · have f32a : ((rs[j] : Int) != 32) = true := by simp; omega
                by_cases g34 : rs[j] = 34
                · have f34 : ((rs[j] : Int) != 34) = false := by simp [g34]
                  have hji : i < j := by
                    rcases Nat.lt_or_ge i j with h | h
                    · exact h
                    · exact absurd g34 (hne (by omega)).2
                  have HZ := Lib.hid (show wF ⟨out, (rs.take j).drop i, .bare⟩ (rs.drop j) = wordsL rs by rw [← bareM_of hji]; exact HX.out)
                  have HNX := Lib.hid (w_bad_bare hj HZ.out g34)
                  clear g34 g32 hne
                  generalize rs[j] = d at *
                  go_wp2_with fail
                  go_ret2
                  exact ⟨HB1.out.trans ((below_drewN HBE.out _).mono HB1.out.size), .inr ⟨HNX.out, rfl⟩⟩
                · have f34 : ((rs[j] : Int) != 34) = true := by simp; omega
                  have HZ := Lib.hid (w_bare hij hj HX.out g32 g34)
                  clear g34 g32 hne
                  generalize rs[j] = d at *
                  go_wp2_with fail
                  go_roundw
                  case rel => exact ⟨j + 1, n, by go_num, by omega, rfl, by omega, HZ.out⟩
                  case measure => simp [intOf]; omega
            · have hjd : decide (j < rs.length) = false := decide_eq_false hj
              have HZ := Lib.hid (show wF ⟨out, (rs.take j).drop i, .bare⟩ (rs.drop j) = wordsL rs by rw [← bareM_of (show i < j by omega)]; exact HX.out)
              have HNX := Lib.hid (w_done (.inl rfl) hj HZ.out)
              have HT := Lib.hid (fun W hr cp => refText_n (j - i) ((rs.take (j)).drop i) (some ⟨b, o + i, none⟩) cp W (by rw [List.length_drop, List.length_take]; omega) (by omega) (subOk HOK.out _ _) hr)
              have HRD := Lib.hid ((HROW.out.below HBE.out).drewN n)
              have hcap := HCAP.out
              have hcm := HCM.out
              unfold maxLen at hcm
              go_wp2_with fail
              refine (HT.out _ (HRD.out.sub i _) _).mono ?_
              rintro e w5 ⟨rfl, hb5⟩
              have HB5 := Lib.hid ((below_drewN HBE.out n).trans (hb5.mono (by have := HBE.out.size; exact this)))
              have HO5 := Lib.hid ((HOU.out.drewN n).below hb5)
              have HS5 := Lib.hid HB5.out.size
              clear hb5
              go_wp2_with (at_builtin; refine appE rfl _ _ 22 rfl 9 i1 (.string ByteArray.empty) 1 16 Tryd.underlying22 hinf hy0 hy1 hy2 rfl (by omega) w1.heap.size _ _ _ rfl HO5.out w1.heap.size (by omega) HB5.out HS5.out [.string (mkS (encAll ((rs.take (j)).drop i)))] 1 rfl (by omega) (by intro u hu; simp at hu; subst hu; rfl) rfl (by omega) (by omega) ?_)
              refine Lib.hid ?_
              intro v6 w6 hown6 hb6 hg6
              have HO6 := Lib.hid hown6
              have HB6 := Lib.hid hb6
              clear hown6 hb6 hg6
              go_wp2_with fail
              go_roundw
              case rel => exact ⟨j, out ++ [(rs.take (j)).drop i], by go_num, by omega, HB6.out, by (have := HO6.out; rw [strRow_snoc, fieldTexts_snoc] at this; rw [List.length_append]; exact .inr this), by (rw [List.length_append]; simp; omega), HNX.out⟩
              case measure => simp [intOf]; omega
    · have HN := Lib.hid (w_all hlt HW.out)
      have hltd : decide (i < rs.length) = false := decide_eq_false hlt
      go_wp2_with fail
      go_ret2
      exact ⟨HB1.out.trans (HBE.out.mono HB1.out.size), .inl ⟨_, _, HN.out, rfl, HOU.out.base HB1.out.size⟩⟩
end Go.Proofs.YtjhmehmmpfnnkaaDoor
