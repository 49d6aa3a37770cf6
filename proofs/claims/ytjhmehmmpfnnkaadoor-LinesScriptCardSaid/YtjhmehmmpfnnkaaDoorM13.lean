/-
  The contract of tidewaterref31.Words.
  The contract of tidewaterref31.Quote.
  The contract of tidewaterref31.Unquote.
-/
import Derived.Test.YtjhmehmmpfnnkaaDoorM09
import Derived.Test.YtjhmehmmpfnnkaaDoorM11
import Derived.Test.YtjhmehmmpfnnkaaDoorM12
import Derived.Test.YtjhmehmmpfnnkaaDoorM05
import Derived.Test.YtjhmehmmpfnnkaaDoorM04
namespace Go.Proofs.YtjhmehmmpfnnkaaDoor
open Go.RowKit Utf
set_option maxRecDepth 100000
set_option linter.unusedSimpArgs false
set_option linter.unusedVariables false

/-- What tidewaterref31.Words answers for a right text. -/
def RefWordsPost (rs : List Nat) (w : World) (e : Ending) (w' : World) : Prop :=
  Below w.heap.size w w' ∧ ((∃ ws v, wordsL rs = some ws ∧ e = .returned (.tuple #[v, .int .i64 0]) ∧ OwnE w' w.heap.size 9 1 v ws.length (strRow (fieldTexts ws))) ∨
    (wordsL rs = none ∧ e = .returned (.tuple #[.slice none 0 0, .int .i64 4])))

theorem refText_n (n : Nat) (rs : List Nat) (ao : Option Addr) (cap : Nat) (w : World) (hn : rs.length = n) (hl : n ≤ 1000000) (ho : allOk rs) (hr : RowAt w ao (natRow rs)) :
    Calls Tryd.prog 32 #[.slice ao n cap] w fun e w' => e = .returned (.string (mkS (encAll rs))) ∧ Below w.heap.size w w' := by
  subst hn
  exact refText_any rs ao cap w hl ho hr
theorem RowAt.sub {w : World} {b o : Nat} {rs : List Nat} (h : RowAt w (some ⟨b, o, none⟩) (natRow rs)) (i k : Nat) : RowAt w (some ⟨b, o + i, none⟩) (natRow ((rs.take k).drop i)) := by
  intro t ht
  have ht' : t < ((rs.take k).drop i).length := by rw [← natRow_len]; exact ht
  rw [List.length_drop, List.length_take] at ht'
  obtain ⟨b2, o2, he, hc⟩ := h (i + t) (by rw [natRow_len]; omega)
  obtain ⟨rfl, rfl⟩ : b2 = b ∧ o2 = o := by
    have := Option.some.inj he
    simp only [Addr.mk.injEq] at this
    exact ⟨this.1.symm, this.2.1.symm⟩
  refine ⟨_, _, rfl, ?_⟩
  rw [Nat.add_assoc, hc, natRow_at, natRow_at]
  congr 2
  simp
theorem RowAt.drewN {w : World} {ao : Option Addr} {xs : List Value} (h : RowAt w ao xs) (n : Nat) : RowAt (w.drewN n) ao xs := h
theorem OwnE.drewN {w : World} {B : Nat} {e : TypeId} {size : Nat} {v : Value} {n : Nat} {xs : List Value} (h : OwnE w B e size v n xs) (k : Nat) : OwnE (w.drewN k) B e size v n xs := h
theorem subOk {rs : List Nat} (h : allOk rs) (i k : Nat) : allOk ((rs.take k).drop i) := fun c hc => h c (List.mem_of_mem_take (List.mem_of_mem_drop hc))

theorem refWords_none (s : ByteArray) (w : World) (hs : s.size ≤ 1000000) (hd : dec s.data.toList = none) :
    Calls Tryd.prog 13 #[.string s] w fun e w' => e = .returned (.tuple #[.slice none 0 0, .int .i64 6]) ∧ Below w.heap.size w w' := by
  have HR := Lib.hid (refRunes_any s w hs)
  rw [hd] at HR
  clear hd
  go_enter Tryd.func13, Tryd.ntmps13
  go_wp2_with fail
  refine HR.out.mono ?_
  rintro e w1 ⟨v, rfl, hb1, -, -⟩
  go_wp2_with fail
  go_ret2
  exact ⟨rfl, hb1⟩

set_option maxHeartbeats 8000000 in
theorem refWords_some (s : ByteArray) (rs : List Nat) (w : World) (hs : s.size ≤ 1000000) (ho : allOk rs) (h : s.data.toList = encAll rs) :
    Calls Tryd.prog 13 #[.string s] w (RefWordsPost rs w) := by
  obtain ⟨i1, hinf, hy0, hy1, hy2⟩ := info_parts Tryd.infoString
  have hd := dec_encAll ho
  rw [← h] at hd
  have hl := len_le h
  have hrl : rs.length ≤ 1000000 := by omega
  have HR := Lib.hid (refRunes_any s w hs)
  rw [hd] at HR
  have HOK := Lib.hid ho
  clear hd h ho hl
  go_enter Tryd.func13, Tryd.ntmps13
  go_wp2_with fail
  refine HR.out.mono ?_
  rintro e w1 ⟨v, rfl, hb1, hown, -⟩
  obtain ⟨ao, cap, rfl, hrow, -, hcap, hcm, -, hsp⟩ := own_row (hown rs rfl)
  have HROW := Lib.hid hrow
  have HB1 := Lib.hid hb1
  have HCAP := Lib.hid hcap
  have HCM := Lib.hid hcm
  clear hb1 hown hrow hsp hcap hcm
  go_wp2_with fail
  go_loopw [6, 7] (fun vo vi wr => ∃ (i : Nat) (out : List (List Nat)), vi = .int .i64 i ∧ i ≤ rs.length ∧ Below w1.heap.size w1 wr ∧ OwnE wr w1.heap.size 9 1 vo out.length (strRow (fieldTexts out)) ∧ out.length ≤ i ∧ Hid (wF ⟨out, [], .gap⟩ (rs.drop i) = wordsL rs)) (fun _ vi _ => rs.length - (intOf vi).toNat)
  case atStart => exact ⟨0, [], rfl, Nat.zero_le _, (Below.refl _ _).alloc (Nat.le_refl _) _, .new, Nat.le_refl _, wF_start rs⟩
  case round =>
    obtain ⟨i, out, rfl, hil, hbel, hout, hol, HW⟩ := hrel
    have HOU := Lib.hid hout
    have HBE := Lib.hid hbel
    clear hout hbel
    by_cases hlt : i < rs.length
    · have hltd : decide (i < rs.length) = true := decide_eq_true hlt
      obtain ⟨b, o, rfl, hc⟩ := HROW.out i (by rw [natRow_len]; exact hlt)
      rw [natRow_at] at hc
      have hcr := (HBE.out.cell (World.block_lt_of_cell? w1 _ hc)).trans hc
      by_cases h32 : rs[i] = 32
      · have HN := Lib.hid (w_blank hlt HW.out h32)
        have e32 : ((rs[i] : Int) == 32) = true := by simp [h32]
        clear h32
        generalize rs[i] = c at *
        go_wp2_with fail
        go_roundw
        case rel => exact ⟨i + 1, out, by go_num, by omega, HBE.out, HOU.out, by omega, HN.out⟩
        case measure => simp [intOf]; omega
      · have e32 : ((rs[i] : Int) == 32) = false := by simp; omega
        by_cases h34 : rs[i] = 34
        · have HN := Lib.hid (w_open hlt HW.out h34)
          have e34 : ((rs[i] : Int) == 34) = true := by simp [h34]
          clear h32 h34
          generalize rs[i] = c at *
          skip
          go_wp2_with fail
          obtain ⟨wo, hwo⟩ : ∃ wo : World, wo = wr := ⟨_, rfl⟩
          subst hwo
          go_loopw [7] (fun vi wr2 => ∃ j n : Nat, vi = .int .i64 j ∧ i < j ∧ wr2 = wo.drewN n ∧ j ≤ rs.length + 1 ∧ Hid ((j ≤ rs.length → wF ⟨out, (rs.take j).drop i, .quo⟩ (rs.drop j) = wordsL rs) ∧ (rs.length < j → wordsL rs = none))) (fun vi _ => rs.length + 1 - (intOf vi).toNat)
          case atStart => exact ⟨i + 1, 0, by go_num, by omega, rfl, by omega, fun _ => HN.out, fun h => by omega⟩
          case round =>
            obtain ⟨j, n, rfl, hij, rfl, hjl, HX⟩ := hrel
            by_cases hj : j < rs.length
            · have hjd : decide (j < rs.length) = true := decide_eq_true hj
              obtain ⟨b2, o2, hao, hc2⟩ := HROW.out j (by rw [natRow_len]; exact hj)
              cases hao
              rw [natRow_at] at hc2
              have hcr2 := (HBE.out.cell (World.block_lt_of_cell? w1 _ hc2)).trans hc2
              have HXX := Lib.hid (HX.out.1 (by omega))
              by_cases g34 : rs[j] = 34
              · have f34 : ((rs[j] : Int) != 34) = false := by simp [g34]
                have HZ := Lib.hid (w_close (by omega) hj HXX.out g34)
                clear g34
                generalize rs[j] = d at *
                by_cases gp : j + 1 < rs.length
                · have gpd : decide ((j : Int) + 1 < (rs.length : Int)) = true := decide_eq_true (by omega)
                  obtain ⟨b3, o3, hao3, hc3⟩ := HROW.out (j + 1) (by rw [natRow_len]; exact gp)
                  cases hao3
                  rw [natRow_at] at hc3
                  have hcr3 := (HBE.out.cell (World.block_lt_of_cell? w1 _ hc3)).trans hc3
                  by_cases k32 : rs[j + 1] = 32
                  · have f32 : ((rs[j + 1] : Int) != 32) = false := by simp [k32]
                    have HNX := Lib.hid (w_next (.inr rfl) gp HZ.out k32)
                    clear k32
                    generalize rs[j + 1] = dd at *
                    have HT := Lib.hid (fun W hr cp => refText_n (j + 1 - i) ((rs.take (j + 1)).drop i) (some ⟨b, o + i, none⟩) cp W (by rw [List.length_drop, List.length_take]; omega) (by omega) (subOk HOK.out _ _) hr)
                    have HRD := Lib.hid ((HROW.out.below HBE.out).drewN n)
                    have hcap := HCAP.out
                    have hcm := HCM.out
                    unfold maxLen at hcm
                    go_wp2_with fail
                    refine (HT.out _ (HRD.out.sub i _) _).mono ?_
                    rintro e w5 ⟨rfl, hb5⟩
                    have HB5 := Lib.hid ((below_drewN HBE.out n).trans (hb5.mono (by have := HBE.out.size; exact this)))
                    have HO5 := Lib.hid ((HOU.out.drewN n).below hb5)
                    have HS5 := Lib.hid HB5.out.size
                    clear hb5
                    go_wp2_with (at_builtin; refine appE rfl _ _ 22 rfl 9 i1 (.string ByteArray.empty) 1 16 Tryd.underlying22 hinf hy0 hy1 hy2 rfl (by omega) w1.heap.size _ _ _ rfl HO5.out w1.heap.size (by omega) HB5.out HS5.out [.string (mkS (encAll ((rs.take (j + 1)).drop i)))] 1 rfl (by omega) (by intro u hu; simp at hu; subst hu; rfl) rfl (by omega) (by omega) ?_)
                    refine Lib.hid ?_
                    intro v6 w6 hown6 hb6 hg6
                    have HO6 := Lib.hid hown6
                    have HB6 := Lib.hid hb6
                    clear hown6 hb6 hg6
                    go_wp2_with fail
                    go_roundw
                    case rel => exact ⟨j + 1, out ++ [(rs.take (j + 1)).drop i], by go_num, by omega, HB6.out, by (have := HO6.out; rw [strRow_snoc, fieldTexts_snoc] at this; rw [List.length_append]; exact .inr this), by (rw [List.length_append]; simp; omega), HNX.out⟩
                    case measure => simp [intOf]; omega
                  · have f32 : ((rs[j + 1] : Int) != 32) = true := by simp; omega
                    have HNX := Lib.hid (w_bad_shut gp HZ.out k32)
                    clear k32
                    generalize rs[j + 1] = dd at *
                    go_wp2_with fail
                    go_ret2
                    exact ⟨HB1.out.trans ((below_drewN HBE.out _).mono HB1.out.size), .inr ⟨HNX.out, rfl⟩⟩
                · have gpd : decide ((j : Int) + 1 < (rs.length : Int)) = false := decide_eq_false (by omega)
                  have HNX := Lib.hid (w_done (.inr rfl) gp HZ.out)
                  have HT := Lib.hid (fun W hr cp => refText_n (j + 1 - i) ((rs.take (j + 1)).drop i) (some ⟨b, o + i, none⟩) cp W (by rw [List.length_drop, List.length_take]; omega) (by omega) (subOk HOK.out _ _) hr)
                  have HRD := Lib.hid ((HROW.out.below HBE.out).drewN n)
                  have hcap := HCAP.out
                  have hcm := HCM.out
                  unfold maxLen at hcm
                  go_wp2_with fail
                  refine (HT.out _ (HRD.out.sub i _) _).mono ?_
                  rintro e w5 ⟨rfl, hb5⟩
                  have HB5 := Lib.hid ((below_drewN HBE.out n).trans (hb5.mono (by have := HBE.out.size; exact this)))
                  have HO5 := Lib.hid ((HOU.out.drewN n).below hb5)
                  have HS5 := Lib.hid HB5.out.size
                  clear hb5
                  go_wp2_with (at_builtin; refine appE rfl _ _ 22 rfl 9 i1 (.string ByteArray.empty) 1 16 Tryd.underlying22 hinf hy0 hy1 hy2 rfl (by omega) w1.heap.size _ _ _ rfl HO5.out w1.heap.size (by omega) HB5.out HS5.out [.string (mkS (encAll ((rs.take (j + 1)).drop i)))] 1 rfl (by omega) (by intro u hu; simp at hu; subst hu; rfl) rfl (by omega) (by omega) ?_)
                  refine Lib.hid ?_
                  intro v6 w6 hown6 hb6 hg6
                  have HO6 := Lib.hid hown6
                  have HB6 := Lib.hid hb6
                  clear hown6 hb6 hg6
                  go_wp2_with fail
                  go_roundw
                  case rel => exact ⟨j + 1, out ++ [(rs.take (j + 1)).drop i], by go_num, by omega, HB6.out, by (have := HO6.out; rw [strRow_snoc, fieldTexts_snoc] at this; rw [List.length_append]; exact .inr this), by (rw [List.length_append]; simp; omega), HNX.out⟩
                  case measure => simp [intOf]; omega
              · have f34 : ((rs[j] : Int) != 34) = true := by simp; omega
                by_cases g92 : rs[j] = 92
                · have f92 : ((rs[j] : Int) == 92) = true := by simp [g92]
                  have HZ := Lib.hid (fun h => w_esc (by omega) h HXX.out g92)
                  have HZ2 := Lib.hid (fun h => w_esc_end hj h HXX.out g92)
                  clear g92 g34
                  generalize rs[j] = d at *
                  go_wp2_with fail
                  go_roundw
                  case rel => exact ⟨j + 1 + 1, n, by go_num, by omega, rfl, by omega, fun h => HZ.out (by omega), fun h => HZ2.out (by omega)⟩
                  case measure => simp [intOf]; omega
                · have f92 : ((rs[j] : Int) == 92) = false := by simp; omega
                  have HZ := Lib.hid (w_quo (by omega) hj HXX.out g34 g92)
                  clear g92 g34
                  generalize rs[j] = d at *
                  go_wp2_with fail
                  go_roundw
                  case rel => exact ⟨j + 1, n, by go_num, by omega, rfl, by omega, fun h => HZ.out, fun h => absurd h (by omega)⟩
                  case measure => simp [intOf]; omega
            · have hjd : decide (j < rs.length) = false := decide_eq_false hj
              have HZ := Lib.hid (show wordsL rs = none from (by
                by_cases h : j ≤ rs.length
                · exact w_quo_end hj (HX.out.1 h)
                · exact HX.out.2 (by omega)))
              have hjg : decide ((rs.length : Int) ≤ (j : Int)) = true := decide_eq_true (by omega)
              go_wp2_with fail
              go_ret2
              exact ⟨HB1.out.trans ((below_drewN HBE.out _).mono HB1.out.size), .inr ⟨HZ.out, rfl⟩⟩
        · have HN := Lib.hid (w_bare0 HW.out)
          have e34 : ((rs[i] : Int) == 34) = false := by simp; omega
          have h32' := Lib.hid h32
          have h34' := Lib.hid h34
          clear h32 h34
          generalize hci : rs[i] = c at *
          have HCI := Lib.hid hci
          clear hci
          go_wp2_with fail
          obtain ⟨wo, hwo⟩ : ∃ wo : World, wo = wr := ⟨_, rfl⟩
          subst hwo
          go_loopw [7] (fun vi wr2 => ∃ j n : Nat, vi = .int .i64 j ∧ i ≤ j ∧ wr2 = wo.drewN n ∧ j ≤ rs.length ∧ Hid (wF ⟨out, (rs.take j).drop i, bareM i j⟩ (rs.drop j) = wordsL rs)) (fun vi _ => rs.length - (intOf vi).toNat)
          case atStart => exact ⟨i, 0, rfl, by omega, rfl, by omega, HN.out⟩
          case round =>
            obtain ⟨j, n, rfl, hij, rfl, hjl, HX⟩ := hrel
            by_cases hj : j < rs.length
            · have hjd : decide (j < rs.length) = true := decide_eq_true hj
              obtain ⟨b2, o2, hao, hc2⟩ := HROW.out j (by rw [natRow_len]; exact hj)
              cases hao
              rw [natRow_at] at hc2
              have hcr2 := (HBE.out.cell (World.block_lt_of_cell? w1 _ hc2)).trans hc2
              have hne : j = i → rs[j] ≠ 32 ∧ rs[j] ≠ 34 := fun e => by subst e; rw [HCI.out]; exact ⟨h32'.out, h34'.out⟩
              by_cases g32 : rs[j] = 32
              · have f32a : ((rs[j] : Int) != 32) = false := by simp [g32]
                have hji : i < j := by
                  rcases Nat.lt_or_ge i j with h | h
                  · exact h
                  · exact absurd g32 (hne (by omega)).1
                have HZ := Lib.hid (show wF ⟨out, (rs.take j).drop i, .bare⟩ (rs.drop j) = wordsL rs by rw [← bareM_of hji]; exact HX.out)
                have HNX := Lib.hid (w_next (.inl rfl) hj HZ.out g32)
                clear g32 hne
                generalize rs[j] = d at *
                have HT := Lib.hid (fun W hr cp => refText_n (j - i) ((rs.take (j)).drop i) (some ⟨b, o + i, none⟩) cp W (by rw [List.length_drop, List.length_take]; omega) (by omega) (subOk HOK.out _ _) hr)
                have HRD := Lib.hid ((HROW.out.below HBE.out).drewN n)
                have hcap := HCAP.out
                have hcm := HCM.out
                unfold maxLen at hcm
                go_wp2_with fail
                refine (HT.out _ (HRD.out.sub i _) _).mono ?_
                rintro e w5 ⟨rfl, hb5⟩
                have HB5 := Lib.hid ((below_drewN HBE.out n).trans (hb5.mono (by have := HBE.out.size; exact this)))
                have HO5 := Lib.hid ((HOU.out.drewN n).below hb5)
                have HS5 := Lib.hid HB5.out.size
                clear hb5
                go_wp2_with (at_builtin; refine appE rfl _ _ 22 rfl 9 i1 (.string ByteArray.empty) 1 16 Tryd.underlying22 hinf hy0 hy1 hy2 rfl (by omega) w1.heap.size _ _ _ rfl HO5.out w1.heap.size (by omega) HB5.out HS5.out [.string (mkS (encAll ((rs.take (j)).drop i)))] 1 rfl (by omega) (by intro u hu; simp at hu; subst hu; rfl) rfl (by omega) (by omega) ?_)
                refine Lib.hid ?_
                intro v6 w6 hown6 hb6 hg6
                have HO6 := Lib.hid hown6
                have HB6 := Lib.hid hb6
                clear hown6 hb6 hg6
                go_wp2_with fail
                go_roundw
                case rel => exact ⟨j, out ++ [(rs.take (j)).drop i], by go_num, by omega, HB6.out, by (have := HO6.out; rw [strRow_snoc, fieldTexts_snoc] at this; rw [List.length_append]; exact .inr this), by (rw [List.length_append]; simp; omega), HNX.out⟩
                case measure => simp [intOf]; omega
              · have f32a : ((rs[j] : Int) != 32) = true := by simp; omega
                by_cases g34 : rs[j] = 34
                · have f34 : ((rs[j] : Int) != 34) = false := by simp [g34]
                  have hji : i < j := by
                    rcases Nat.lt_or_ge i j with h | h
                    · exact h
                    · exact absurd g34 (hne (by omega)).2
                  have HZ := Lib.hid (show wF ⟨out, (rs.take j).drop i, .bare⟩ (rs.drop j) = wordsL rs by rw [← bareM_of hji]; exact HX.out)
                  have HNX := Lib.hid (w_bad_bare hj HZ.out g34)
                  clear g34 g32 hne
                  generalize rs[j] = d at *
                  go_wp2_with fail
                  go_ret2
                  exact ⟨HB1.out.trans ((below_drewN HBE.out _).mono HB1.out.size), .inr ⟨HNX.out, rfl⟩⟩
                · have f34 : ((rs[j] : Int) != 34) = true := by simp; omega
                  have HZ := Lib.hid (w_bare hij hj HX.out g32 g34)
                  clear g34 g32 hne
                  generalize rs[j] = d at *
                  go_wp2_with fail
                  go_roundw
                  case rel => exact ⟨j + 1, n, by go_num, by omega, rfl, by omega, HZ.out⟩
                  case measure => simp [intOf]; omega
            · have hjd : decide (j < rs.length) = false := decide_eq_false hj
              have HZ := Lib.hid (show wF ⟨out, (rs.take j).drop i, .bare⟩ (rs.drop j) = wordsL rs by rw [← bareM_of (show i < j by omega)]; exact HX.out)
              have HNX := Lib.hid (w_done (.inl rfl) hj HZ.out)
              have HT := Lib.hid (fun W hr cp => refText_n (j - i) ((rs.take (j)).drop i) (some ⟨b, o + i, none⟩) cp W (by rw [List.length_drop, List.length_take]; omega) (by omega) (subOk HOK.out _ _) hr)
              have HRD := Lib.hid ((HROW.out.below HBE.out).drewN n)
              have hcap := HCAP.out
              have hcm := HCM.out
              unfold maxLen at hcm
              go_wp2_with fail
              refine (HT.out _ (HRD.out.sub i _) _).mono ?_
              rintro e w5 ⟨rfl, hb5⟩
              have HB5 := Lib.hid ((below_drewN HBE.out n).trans (hb5.mono (by have := HBE.out.size; exact this)))
              have HO5 := Lib.hid ((HOU.out.drewN n).below hb5)
              have HS5 := Lib.hid HB5.out.size
              clear hb5
              go_wp2_with (at_builtin; refine appE rfl _ _ 22 rfl 9 i1 (.string ByteArray.empty) 1 16 Tryd.underlying22 hinf hy0 hy1 hy2 rfl (by omega) w1.heap.size _ _ _ rfl HO5.out w1.heap.size (by omega) HB5.out HS5.out [.string (mkS (encAll ((rs.take (j)).drop i)))] 1 rfl (by omega) (by intro u hu; simp at hu; subst hu; rfl) rfl (by omega) (by omega) ?_)
              refine Lib.hid ?_
              intro v6 w6 hown6 hb6 hg6
              have HO6 := Lib.hid hown6
              have HB6 := Lib.hid hb6
              clear hown6 hb6 hg6
              go_wp2_with fail
              go_roundw
              case rel => exact ⟨j, out ++ [(rs.take (j)).drop i], by go_num, by omega, HB6.out, by (have := HO6.out; rw [strRow_snoc, fieldTexts_snoc] at this; rw [List.length_append]; exact .inr this), by (rw [List.length_append]; simp; omega), HNX.out⟩
              case measure => simp [intOf]; omega
    · have HN := Lib.hid (w_all hlt HW.out)
      have hltd : decide (i < rs.length) = false := decide_eq_false hlt
      go_wp2_with fail
      go_ret2
      exact ⟨HB1.out.trans (HBE.out.mono HB1.out.size), .inl ⟨_, _, HN.out, rfl, HOU.out.base HB1.out.size⟩⟩
end Go.Proofs.YtjhmehmmpfnnkaaDoor

namespace Go.Proofs.YtjhmehmmpfnnkaaDoor
open Go.RowKit Utf
set_option maxRecDepth 100000
set_option linter.unusedSimpArgs false
set_option linter.unusedVariables false

theorem own_nat1 {w : World} {B : Nat} {e : TypeId} {v : Value} {l : List Nat} {n : Nat} {xs : List Value} {c : Nat} {x : Int} (hx : x = (c : Int)) (hn : n = l.length) (he : xs = natRow l) (h : w.ownsRow B e 1 v (n + 1) (xs ++ [.int .i64 x])) : w.ownsRow B e 1 v (l ++ [c]).length (natRow (l ++ [c])) := by
  subst hx hn he
  rw [List.length_append]
  simpa [natRow] using h

/-- What tidewaterref31.Quote answers for a right text. -/
def RefQuotePost (rs : List Nat) (w : World) (e : Ending) (w' : World) : Prop :=
  Below w.heap.size w w' ∧ ((∃ q, quoteL rs = some q ∧ e = .returned (.tuple #[.string (mkS (encAll q)), .int .i64 0])) ∨
    (quoteL rs = none ∧ e = .returned (.tuple #[.string ByteArray.empty, .int .i64 4])))

theorem refQuote_none (s : ByteArray) (w : World) (hs : s.size ≤ 1000000) (hd : dec s.data.toList = none) :
    Calls Tryd.prog 15 #[.string s] w fun e w' => e = .returned (.tuple #[.string ByteArray.empty, .int .i64 6]) ∧ Below w.heap.size w w' := by
  have HR := Lib.hid (refRunes_any s w hs)
  rw [hd] at HR
  clear hd
  go_enter Tryd.func15, Tryd.ntmps15
  go_wp2_with fail
  refine HR.out.mono ?_
  rintro e w1 ⟨v, rfl, hb1, -, -⟩
  go_wp2_with fail
  go_ret2
  exact ⟨rfl, hb1⟩

set_option maxHeartbeats 4000000 in
theorem refQuote_some (s : ByteArray) (rs : List Nat) (w : World) (hs : s.size ≤ 400000) (ho : allOk rs) (h : s.data.toList = encAll rs) :
    Calls Tryd.prog 15 #[.string s] w (RefQuotePost rs w) := by
  obtain ⟨i1, hinf, hy0, hy1, hy2⟩ := info_parts Tryd.infoInt
  have hd := dec_encAll ho
  rw [← h] at hd
  have hl := len_le h
  have hrl : rs.length ≤ 400000 := by omega
  have HR := Lib.hid (refRunes_any s w (by omega))
  rw [hd] at HR
  have HOK := Lib.hid ho
  clear hd h ho hl
  go_enter Tryd.func15, Tryd.ntmps15
  go_wp2_with fail
  refine HR.out.mono ?_
  rintro e w1 ⟨v, rfl, hb1, hown, -⟩
  obtain ⟨ao, cap, rfl, hrow, -, hcap, hcm, -, hsp⟩ := own_row (hown rs rfl)
  have HROW := Lib.hid hrow
  have HB1 := Lib.hid hb1
  clear hb1 hown hrow hsp hcap hcm
  go_wp2_with fail
  go_loopw [6, 19] (fun vo vi wr => ∃ (k : Nat), vi = .int .i64 k ∧ k ≤ rs.length ∧ Below w1.heap.size w1 wr ∧ OwnE wr w1.heap.size 3 1 vo (qrow rs k).length (natRow (qrow rs k)) ∧ Hid ((rs.take k).any badQ = false)) (fun _ vi _ => rs.length - (intOf vi).toNat)
  case atStart => exact ⟨0, rfl, Nat.zero_le _, (Below.refl _ _).alloc (Nat.le_refl _) _, .inr (World.ownsRow_lit w1 #[.int .i64 34] 1 (Nat.le_refl _) (by simp [maxLen]) rfl), rfl⟩
  case round =>
    obtain ⟨k, rfl, hk, hbel, hout, HC⟩ := hrel
    have HQL := Lib.hid (qrow_len rs k)
    have HOU := Lib.hid hout
    have HBE := Lib.hid hbel
    have HSZ2 := Lib.hid hbel.size
    clear hout hbel
    by_cases hlt : k < rs.length
    · have hltd : decide (k < rs.length) = true := decide_eq_true hlt
      obtain ⟨b, o, rfl, hc⟩ := HROW.out k (by rw [natRow_len]; exact hlt)
      rw [natRow_at] at hc
      have hcr := (HBE.out.cell (World.block_lt_of_cell? w1 _ hc)).trans hc
      have HQS := Lib.hid (qrow_succ hlt)
      have HAS := Lib.hid (fun h => anyQ_step hlt HC.out h)
      have HAH := Lib.hid (fun h => anyQ_hit hlt h)
      have hok := HOK.out _ (List.getElem_mem hlt)
      rw [okR_def] at hok
      generalize rs[k] = c at *
      have hc32 : c < 1114112 := by omega
      clear hok
      cases hbq : badQ c with
      | true =>
        have HNO := Lib.hid (HAH.out hbq)
        have hor : ((decide ((c : Int) < 32) = true) ∨ (decide ((c : Int) < 32) = false ∧ ((c : Int) == 127) = true)) := by
          simp [badQ] at hbq
          by_cases h : c < 32
          · exact .inl (decide_eq_true (by omega))
          · refine .inr ⟨decide_eq_false (by omega), ?_⟩
            have : c = 127 := by omega
            subst this
            rfl
        clear hbq
        rcases hor with e1 | ⟨e1, e2⟩
        all_goals
          go_wp2_with fail
          go_ret2
          exact ⟨HB1.out.trans (HBE.out.mono HB1.out.size), .inr ⟨HNO.out, rfl⟩⟩
      | false =>
        have HCS := Lib.hid (HAS.out hbq)
        have e1 : decide ((c : Int) < 32) = false := decide_eq_false (by simp [badQ] at hbq; omega)
        have e2 : ((c : Int) == 127) = false := by simp [badQ] at hbq; simp; omega
        clear hbq
        by_cases hq : c = 34 ∨ c = 92
        · have HQ1 := Lib.hid (show quo1 c = [92, c] by unfold quo1; rw [if_pos hq])
          have hb0 : (c : Int) = 34 ∨ (c : Int) = 92 := by omega
          clear hq
          have hgo : (((c : Int) == 34) = true) ∨ (((c : Int) == 34) = false ∧ ((c : Int) == 92) = true) := by
            rcases hb0 with h | h <;> simp [h]
          clear hb0
          rcases hgo with e34 | ⟨e34, e92⟩
          all_goals
            go_wp2_with (at_builtin; refine appE rfl _ _ 23 rfl 3 i1 (.int .i64 0) 1 8 Tryd.underlying23 hinf hy0 hy1 hy2 rfl (by omega) w1.heap.size _ _ _ rfl HOU.out w1.heap.size (by omega) HBE.out HSZ2.out [.int .i64 92] 1 rfl (by omega) (by intro u hu; simp at hu; subst hu; rfl) rfl (by have := HQL.out; omega) (by omega) ?_)
            refine Lib.hid ?_
            intro v4 w4 hown4 hbel4 hgrow4
            have HB4 := Lib.hid hbel4
            have HO4 := Lib.hid (own_nat1 (c := 92) rfl rfl rfl hown4)
            clear hown4 hbel4 hgrow4
            have HSZ4 := Lib.hid (show w1.heap.size ≤ w4.heap.size from HB4.out.size)
            go_wp2_with (at_builtin; refine appE rfl _ _ 23 rfl 3 i1 (.int .i64 0) 1 8 Tryd.underlying23 hinf hy0 hy1 hy2 rfl (by omega) w1.heap.size _ _ _ rfl (.inr HO4.out) w1.heap.size (by omega) HB4.out HSZ4.out [.int .i64 (c : Int)] 1 rfl (by omega) (by intro u hu; simp at hu; subst hu; rfl) rfl (by have := HQL.out; rw [List.length_append]; simp only [List.length_singleton]; omega) (by omega) ?_)
            refine Lib.hid ?_
            intro v5 w5 hown5 hbel5 hgrow5
            have HB5 := Lib.hid hbel5
            have HO5 := Lib.hid (own_nat1 (l := qrow rs k ++ [92]) (c := c) rfl (by simp) rfl hown5)
            clear hown5 hbel5 hgrow5
            go_wp2_with fail
            go_roundw
            case rel =>
              refine ⟨k + 1, by go_num, by omega, HB5.out, ?_, HCS.out⟩
              have := HO5.out
              rw [HQS.out, HQ1.out]
              rw [List.append_assoc] at this
              exact .inr this
            case measure => simp [intOf]; omega
        · have HQ1 := Lib.hid (show quo1 c = [c] by unfold quo1; rw [if_neg hq])
          have e34 : ((c : Int) == 34) = false := by simp; omega
          have e92 : ((c : Int) == 92) = false := by simp; omega
          clear hq
          go_wp2_with (at_builtin; refine appE rfl _ _ 23 rfl 3 i1 (.int .i64 0) 1 8 Tryd.underlying23 hinf hy0 hy1 hy2 rfl (by omega) w1.heap.size _ _ _ rfl HOU.out w1.heap.size (by omega) HBE.out HSZ2.out [.int .i64 (c : Int)] 1 rfl (by omega) (by intro u hu; simp at hu; subst hu; rfl) rfl (by have := HQL.out; omega) (by omega) ?_)
          refine Lib.hid ?_
          intro v5 w5 hown5 hbel5 hgrow5
          have HB5 := Lib.hid hbel5
          have HO5 := Lib.hid (own_nat1 (c := c) rfl rfl rfl hown5)
          clear hown5 hbel5 hgrow5
          go_wp2_with fail
          go_roundw
          case rel =>
            refine ⟨k + 1, by go_num, by omega, HB5.out, ?_, HCS.out⟩
            have := HO5.out
            rw [HQS.out, HQ1.out]
            exact .inr this
          case measure => simp [intOf]; omega
    · obtain rfl : k = rs.length := by omega
      have HQD := Lib.hid (quote_done HC.out)
      have HQO := Lib.hid ((quote_ok HQD.out HOK.out).1)
      go_wp2_with (at_builtin; refine appE rfl _ _ 23 rfl 3 i1 (.int .i64 0) 1 8 Tryd.underlying23 hinf hy0 hy1 hy2 rfl (by omega) w1.heap.size _ _ _ rfl HOU.out w1.heap.size (by omega) HBE.out HSZ2.out [.int .i64 34] 1 rfl (by omega) (by intro u hu; simp at hu; subst hu; rfl) rfl (by have := HQL.out; omega) (by omega) ?_)
      refine Lib.hid ?_
      intro v5 w5 hown5 hbel5 hgrow5
      have HB5 := Lib.hid hbel5
      have hown6 := own_nat1 (c := 34) rfl rfl rfl hown5
      obtain ⟨a5, c5, rfl, hr5, -⟩ := own_row hown6
      have HT := Lib.hid (fun n (hn : (qrow rs rs.length ++ [34]).length = n) => refText_n n (qrow rs rs.length ++ [34]) a5 c5 w5 hn (by have := HQL.out; rw [List.length_append] at hn; simp at hn; omega) HQO.out hr5)
      clear hown5 hbel5 hgrow5 hown6 hr5
      go_wp2_with fail
      refine (HT.out _ (by simp)).mono ?_
      rintro e w6 ⟨rfl, hb6⟩
      have HB6 := Lib.hid (HB5.out.trans (hb6.mono HB5.out.size))
      clear hb6
      go_wp2_with fail
      go_ret2
      exact ⟨HB1.out.trans (HB6.out.mono HB1.out.size), .inl ⟨_, HQD.out, rfl⟩⟩
end Go.Proofs.YtjhmehmmpfnnkaaDoor

namespace Go.Proofs.YtjhmehmmpfnnkaaDoor
open Go.RowKit Utf
set_option maxRecDepth 100000
set_option linter.unusedSimpArgs false
set_option linter.unusedVariables false

theorem unmark_sub : ∀ (n : Nat) (l : List Nat), l.length ≤ n → (∀ c ∈ unmark l, c ∈ l) ∧ (unmark l).length ≤ l.length
  | 0, l, h => by
    obtain rfl : l = [] := List.length_eq_zero_iff.1 (by omega)
    exact ⟨fun c hc => hc, Nat.le_refl _⟩
  | n + 1, [], h => ⟨fun c hc => hc, Nat.le_refl _⟩
  | n + 1, x :: l, h => by
    have hl : l.length ≤ n := by simpa using h
    unfold unmark
    by_cases hx : x = 92
    · rw [if_pos hx]
      cases l with
      | nil => exact ⟨(fun c hc => by cases hc), Nat.zero_le _⟩
      | cons y r =>
        obtain ⟨h1, h2⟩ := unmark_sub n r (by simp at hl; omega)
        refine ⟨fun c hc => ?_, by simp; omega⟩
        rcases List.mem_cons.1 hc with rfl | hc
        · simp
        · simp [h1 c hc]
    · rw [if_neg hx]
      obtain ⟨h1, h2⟩ := unmark_sub n l hl
      refine ⟨fun c hc => ?_, by simp; omega⟩
      rcases List.mem_cons.1 hc with rfl | hc
      · simp
      · simp [h1 c hc]

def midL (rs : List Nat) : List Nat := rs.tail.dropLast
theorem midL_len (rs : List Nat) : (midL rs).length = rs.length - 2 := by simp [midL]; omega
theorem midL_drop {rs : List Nat} {i : Nat} (h1 : 1 ≤ i) (h2 : i + 1 < rs.length) : (midL rs).drop (i - 1) = rs[i] :: (midL rs).drop i := by
  rw [List.drop_eq_getElem_cons (by rw [midL_len]; omega)]
  congr 1
  · simp [midL]
    congr 1
    omega
  · congr 1
    omega
theorem midL_end {rs : List Nat} {i : Nat} (h2 : rs.length ≤ i + 1) : (midL rs).drop (i - 1) = [] := List.drop_eq_nil_of_le (by rw [midL_len]; omega)

section
variable {rs out : List Nat} {i : Nat}
theorem u_plain (h1 : 1 ≤ i) (h2 : i + 1 < rs.length) (h : unmark (midL rs) = out ++ unmark ((midL rs).drop (i - 1))) (hx : rs[i] ≠ 92) : unmark (midL rs) = (out ++ [rs[i]]) ++ unmark ((midL rs).drop (i + 1 - 1)) := by
  rw [midL_drop h1 h2] at h
  rw [h]
  conv => lhs; unfold unmark
  rw [if_neg hx, Nat.add_sub_cancel]
  simp
theorem u_mark (h1 : 1 ≤ i) (h2 : i + 1 + 1 < rs.length) (h : unmark (midL rs) = out ++ unmark ((midL rs).drop (i - 1))) (hx : rs[i] = 92) : unmark (midL rs) = (out ++ [rs[i + 1]]) ++ unmark ((midL rs).drop (i + 1 + 1 - 1)) := by
  rw [midL_drop h1 (by omega)] at h
  have h3 := midL_drop (rs := rs) (i := i + 1) (by omega) h2
  rw [Nat.add_sub_cancel] at h3
  rw [h]
  conv => lhs; unfold unmark
  rw [if_pos hx, h3, Nat.add_sub_cancel]
  simp
theorem u_last (h1 : 1 ≤ i) (h2 : i + 1 + 1 = rs.length) (h : unmark (midL rs) = out ++ unmark ((midL rs).drop (i - 1))) (hx : rs[i] = 92) : unmark (midL rs) = out ++ unmark ((midL rs).drop (i + 1 + 1 - 1)) := by
  rw [midL_drop h1 (by omega)] at h
  have h3 := midL_end (rs := rs) (i := i + 1) (by omega)
  rw [Nat.add_sub_cancel] at h3
  have h4 := midL_end (rs := rs) (i := i + 1 + 1) (by omega)
  rw [h4, h]
  conv => lhs; unfold unmark
  rw [if_pos hx, h3]
  simp [unmark]
theorem u_done (h2 : rs.length ≤ i + 1) (h : unmark (midL rs) = out ++ unmark ((midL rs).drop (i - 1))) : out = unmark (midL rs) := by
  rw [midL_end h2] at h
  rw [h]
  simp [unmark]
end
theorem unq_bad2 {rs : List Nat} (h : rs.length < 2) : unquoteL rs = none := unquoteL_bad (.inl h)
theorem unq_yes {rs : List Nat} (h : 2 ≤ rs.length) (hq : quoteL (unmark (midL rs)) = some rs) : unquoteL rs = some (unmark (midL rs)) := by
  rw [unquoteL_ref rs h]; exact if_pos hq
theorem unq_no {rs : List Nat} (h : 2 ≤ rs.length) (hq : quoteL (unmark (midL rs)) ≠ some rs) : unquoteL rs = none := by
  rw [unquoteL_ref rs h]; exact if_neg hq

/-- What tidewaterref31.Unquote answers for a right text. -/
def RefUnqPost (rs : List Nat) (w : World) (e : Ending) (w' : World) : Prop :=
  Below w.heap.size w w' ∧ ((∃ t, unquoteL rs = some t ∧ e = .returned (.tuple #[.string (mkS (encAll t)), .int .i64 0])) ∨
    (unquoteL rs = none ∧ e = .returned (.tuple #[.string ByteArray.empty, .int .i64 4])))

theorem refUnq_none (s : ByteArray) (w : World) (hs : s.size ≤ 1000000) (hd : dec s.data.toList = none) :
    Calls Tryd.prog 16 #[.string s] w fun e w' => e = .returned (.tuple #[.string ByteArray.empty, .int .i64 6]) ∧ Below w.heap.size w w' := by
  have HR := Lib.hid (refRunes_any s w hs)
  rw [hd] at HR
  clear hd
  go_enter Tryd.func16, Tryd.ntmps16
  go_wp2_with fail
  refine HR.out.mono ?_
  rintro e w1 ⟨v, rfl, hb1, -, -⟩
  go_wp2_with fail
  go_ret2
  exact ⟨rfl, hb1⟩

set_option maxHeartbeats 4000000 in
theorem refUnq_some (s : ByteArray) (rs : List Nat) (w : World) (hs : s.size ≤ 100000) (ho : allOk rs) (h : s.data.toList = encAll rs) :
    Calls Tryd.prog 16 #[.string s] w (RefUnqPost rs w) := by
  obtain ⟨i1, hinf, hy0, hy1, hy2⟩ := info_parts Tryd.infoInt
  have hd := dec_encAll ho
  rw [← h] at hd
  have hl := len_le h
  have hrl : rs.length ≤ 100000 := by omega
  have HR := Lib.hid (refRunes_any s w (by omega))
  rw [hd] at HR
  have HOK := Lib.hid ho
  have HSD := Lib.hid h
  clear hd h ho hl
  by_cases h2 : rs.length < 2
  · have h2d : decide ((rs.length : Int) < 2) = true := decide_eq_true (by omega)
    have HN := Lib.hid (unq_bad2 h2)
    go_enter Tryd.func16, Tryd.ntmps16
    go_wp2_with fail
    refine HR.out.mono ?_
    rintro e w1 ⟨v, rfl, hb1, hown, -⟩
    obtain ⟨ao, cap, rfl, -⟩ := own_row (hown rs rfl)
    clear hown
    go_wp2_with fail
    go_ret2
    exact ⟨hb1, .inr ⟨HN.out, rfl⟩⟩
  · have h2d : decide ((rs.length : Int) < 2) = false := decide_eq_false (by omega)
    have h2' : 2 ≤ rs.length := by omega
    go_enter Tryd.func16, Tryd.ntmps16
    go_wp2_with fail
    refine HR.out.mono ?_
    rintro e w1 ⟨v, rfl, hb1, hown, -⟩
    obtain ⟨ao, cap, rfl, hrow, -, hcap, hcm, -, hsp⟩ := own_row (hown rs rfl)
    have HROW := Lib.hid hrow
    have HB1 := Lib.hid hb1
    clear hb1 hown hrow hsp hcap hcm
    go_wp2_with fail
    go_loopw [6, 7] (fun vo vi wr => ∃ (i : Nat) (out : List Nat), vi = .int .i64 i ∧ 1 ≤ i ∧ i ≤ rs.length ∧ out.length ≤ i ∧ Below w1.heap.size w1 wr ∧ OwnE wr w1.heap.size 3 1 vo out.length (natRow out) ∧ Hid (unmark (midL rs) = out ++ unmark ((midL rs).drop (i - 1)))) (fun _ vi _ => rs.length - (intOf vi).toNat)
    case atStart => exact ⟨1, [], rfl, by omega, by omega, by simp, (Below.refl _ _).alloc (Nat.le_refl _) _, .new, rfl⟩
    case round =>
      obtain ⟨i, out, rfl, hi1, hil, hol, hbel, hout, HC⟩ := hrel
      have HOU := Lib.hid hout
      have HBE := Lib.hid hbel
      have HSZ2 := Lib.hid hbel.size
      clear hout hbel
      by_cases hlt : i + 1 < rs.length
      · have hltd : decide ((i : Int) < (rs.length : Int) - 1) = true := decide_eq_true (by omega)
        obtain ⟨b, o, rfl, hc⟩ := HROW.out i (by rw [natRow_len]; omega)
        rw [natRow_at] at hc
        have hcr := (HBE.out.cell (World.block_lt_of_cell? w1 _ hc)).trans hc
        by_cases hx : rs[i] = 92
        · have e92 : ((rs[i] : Int) == 92) = true := by simp [hx]
          by_cases hl2 : i + 1 + 1 < rs.length
          · have hl2d : decide ((i : Int) + 1 < (rs.length : Int) - 1) = true := decide_eq_true (by omega)
            obtain ⟨b2, o2, hao, hc2⟩ := HROW.out (i + 1) (by rw [natRow_len]; omega)
            cases hao
            rw [natRow_at] at hc2
            have hcr2 := (HBE.out.cell (World.block_lt_of_cell? w1 _ hc2)).trans hc2
            have HN := Lib.hid (u_mark hi1 hl2 HC.out hx)
            clear hx hc hc2
            generalize rs[i] = c at *
            generalize rs[i + 1] = d at *
            go_wp2_with (at_builtin; refine appE rfl _ _ 23 rfl 3 i1 (.int .i64 0) 1 8 Tryd.underlying23 hinf hy0 hy1 hy2 rfl (by omega) w1.heap.size _ _ _ rfl HOU.out w1.heap.size (by omega) HBE.out HSZ2.out [.int .i64 (d : Int)] 1 rfl (by omega) (by intro u hu; simp at hu; subst hu; rfl) rfl (by omega) (by omega) ?_)
            refine Lib.hid ?_
            intro v5 w5 hown5 hbel5 hgrow5
            have HB5 := Lib.hid hbel5
            have HO5 := Lib.hid (own_nat1 (c := d) rfl rfl rfl hown5)
            clear hown5 hbel5 hgrow5
            go_wp2_with fail
            go_roundw
            case rel => exact ⟨i + 1 + 1, out ++ [d], by go_num, by omega, by omega, by simp; omega, HB5.out, .inr HO5.out, HN.out⟩
            case measure => simp [intOf]; omega
          · have hl2d : decide ((i : Int) + 1 < (rs.length : Int) - 1) = false := decide_eq_false (by omega)
            have HN := Lib.hid (u_last hi1 (by omega) HC.out hx)
            clear hx hc
            generalize rs[i] = c at *
            go_wp2_with fail
            go_roundw
            case rel => exact ⟨i + 1 + 1, out, by go_num, by omega, by omega, by omega, HBE.out, HOU.out, HN.out⟩
            case measure => simp [intOf]; omega
        · have e92 : ((rs[i] : Int) == 92) = false := by simp; omega
          have HN := Lib.hid (u_plain hi1 hlt HC.out hx)
          clear hx hc
          generalize rs[i] = d at *
          go_wp2_with (at_builtin; refine appE rfl _ _ 23 rfl 3 i1 (.int .i64 0) 1 8 Tryd.underlying23 hinf hy0 hy1 hy2 rfl (by omega) w1.heap.size _ _ _ rfl HOU.out w1.heap.size (by omega) HBE.out HSZ2.out [.int .i64 (d : Int)] 1 rfl (by omega) (by intro u hu; simp at hu; subst hu; rfl) rfl (by omega) (by omega) ?_)
          refine Lib.hid ?_
          intro v5 w5 hown5 hbel5 hgrow5
          have HB5 := Lib.hid hbel5
          have HO5 := Lib.hid (own_nat1 (c := d) rfl rfl rfl hown5)
          clear hown5 hbel5 hgrow5
          go_wp2_with fail
          go_roundw
          case rel => exact ⟨i + 1, out ++ [d], by go_num, by omega, by omega, by simp; omega, HB5.out, .inr HO5.out, HN.out⟩
          case measure => simp [intOf]; omega
      · have hltd : decide ((i : Int) < (rs.length : Int) - 1) = false := decide_eq_false (by omega)
        obtain ⟨hm1, hm2⟩ := unmark_sub _ (midL rs) (Nat.le_refl _)
        have hm3 := midL_len rs
        obtain rfl := u_done (by omega) HC.out
        have HMO := Lib.hid (show allOk (unmark (midL rs)) from fun c hc => HOK.out c (List.mem_of_mem_tail ((List.dropLast_sublist _).subset (hm1 c hc))))
        obtain ⟨a5, c5, rfl, hr5, -⟩ := HOU.out.row
        have HT := Lib.hid (refText_n (unmark (midL rs)).length (unmark (midL rs)) a5 c5 wr rfl (by omega) HMO.out hr5)
        have HQ := Lib.hid (fun W => refQuote_some (mkS (encAll (unmark (midL rs)))) (unmark (midL rs)) W (by rw [mkS_size]; have := encAll_le (unmark (midL rs)); omega) HMO.out rfl)
        have HYES := Lib.hid (fun hq => unq_yes (rs := rs) h2' hq)
        have HNO := Lib.hid (fun hq => unq_no (rs := rs) h2' hq)
        have HINJ := Lib.hid (fun (q : List Nat) (hq : quoteL (unmark (midL rs)) = some q) => show ((mkS (encAll q)).toList == s.toList) = decide (q = rs) by
          rw [str_beq]
          by_cases h : q = rs
          · rw [decide_eq_true h, decide_eq_true]
            subst h
            exact str_ext HSD.out.symm
          · rw [decide_eq_false h, decide_eq_false]
            intro h3
            apply h
            apply encAll_inj (quote_ok hq HMO.out).1 HOK.out
            rw [← HSD.out, ← h3]
            rfl)
        clear hm1 hm2 hm3 hr5 HC
        generalize unmark (midL rs) = t at *
        go_wp2_with fail
        refine HT.out.mono ?_
        rintro e w4 ⟨rfl, hb4⟩
        have HB4 := Lib.hid (HBE.out.trans (hb4.mono HBE.out.size))
        clear hb4
        go_wp2_with fail
        refine (HQ.out _).mono ?_
        rintro e w5 ⟨hb5, hres⟩
        have HB5 := Lib.hid (HB4.out.trans (hb5.mono HB4.out.size))
        clear hb5
        rcases hres with ⟨q, hq, rfl⟩ | ⟨hq, rfl⟩
        · have hin := HINJ.out q hq
          by_cases hqr : q = rs
          · rw [decide_eq_true hqr] at hin
            have hin2 : (!((mkS (encAll q)).toList == s.toList)) = false := by rw [hin]; rfl
            have HF := Lib.hid (HYES.out (by rw [hq, hqr]))
            clear hq hqr
            go_wp2_with fail
            go_ret2
            exact ⟨HB1.out.trans (HB5.out.mono HB1.out.size), .inl ⟨_, HF.out, rfl⟩⟩
          · rw [decide_eq_false hqr] at hin
            have hin2 : (!((mkS (encAll q)).toList == s.toList)) = true := by rw [hin]; rfl
            have HF := Lib.hid (HNO.out (by rw [hq]; exact fun h => hqr (Option.some.inj h)))
            clear hq hqr
            go_wp2_with fail
            go_ret2
            exact ⟨HB1.out.trans (HB5.out.mono HB1.out.size), .inr ⟨HF.out, rfl⟩⟩
        · have HF := Lib.hid (HNO.out (by rw [hq]; exact fun h => by cases h))
          clear hq
          go_wp2_with fail
          go_ret2
          exact ⟨HB1.out.trans (HB5.out.mono HB1.out.size), .inr ⟨HF.out, rfl⟩⟩
end Go.Proofs.YtjhmehmmpfnnkaaDoor
