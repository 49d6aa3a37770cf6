/-
  The contract of lines.Words.
  Plain: what a line's words tell; an op as its cells.
-/
import Derived.Test.YtjhmehmmpfnnkaaDoorM03
import Derived.Test.YtjhmehmmpfnnkaaDoorM04
import Derived.Test.YtjhmehmmpfnnkaaDoorM08
namespace Go.Proofs.YtjhmehmmpfnnkaaDoor
open Go.RowKit Utf
set_option maxRecDepth 100000
set_option linter.unusedSimpArgs false
set_option linter.unusedVariables false

/-- How the reader's slots stand. -/
def WSlots (rs : List Nat) (k : Nat) (st : WS) (vb vq ve vc : Value) : Prop :=
  (st.m = .gap ∧ vb = .int .i64 (-1) ∧ vq = .bool false ∧ ve = .bool false ∧ vc = .bool false ∧ st.cur = []) ∨
  ∃ j, j < k ∧ vb = .int .i64 (off rs j : Nat) ∧ st.cur = (rs.take k).drop j ∧
    ((st.m = .bare ∧ vq = .bool false ∧ ve = .bool false ∧ vc = .bool false) ∨ (st.m = .quo ∧ vq = .bool true ∧ ve = .bool false ∧ vc = .bool false) ∨
     (st.m = .esc ∧ vq = .bool true ∧ ve = .bool true ∧ vc = .bool false) ∨ (st.m = .shut ∧ vq = .bool false ∧ ve = .bool false ∧ vc = .bool true))

theorem wsRun_len (s t : WS) : ∀ l, wsRun s l = some t → t.out.length ≤ s.out.length + l.length := by
  intro l
  induction l generalizing s with
  | nil => intro h; cases h; simp
  | cons x l ih =>
    intro h
    simp only [wsRun] at h
    cases hs : s.step x with
    | none => rw [hs] at h; cases h
    | some u =>
      rw [hs] at h
      have h1 := ih u h
      have h2 : u.out.length ≤ s.out.length + 1 := by
        unfold WS.step at hs
        split at hs <;> first | cases hs | skip
        all_goals (simp <;> omega)
      simp only [List.length_cons]
      omega

/-- What lines.Words answers for a right text. -/
def WordsPost (ea : Nat → Addr) (rs : List Nat) (w : World) (e : Ending) (w' : World) : Prop :=
  Below w.heap.size w w' ∧ ((∃ ws v, wordsL rs = some ws ∧ e = .returned (.tuple #[v, .nilIface]) ∧ OwnE w' w.heap.size 9 1 v ws.length (strRow (fieldTexts ws))) ∨
    (wordsL rs = none ∧ e = .returned (.tuple #[.slice none 0 0, .iface 163 (.pointer (some (ea 3)))])))

theorem words_none (ea : Nat → Addr) (s : ByteArray) (w : World) (hs : s.size ≤ maxLen) (hd : dec s.data.toList = none) (he : LErr w ea) :
    Calls Tryd.prog 10 #[.string s] w fun e w' => e = .returned (.tuple #[.slice none 0 0, .iface 163 (.pointer (some (ea 5)))]) ∧ Below w.heap.size w w' := by
  have HD := Lib.hid hd
  have HE := Lib.hid he
  clear hd he
  go_enter Tryd.func10, Tryd.ntmps10
  go_wp2_with fail
  refine (right_any _ _ hs).mono ?_
  rintro e w1 ⟨rfl, hb1⟩
  rw [HD.out]
  have c5 := (HE.out.below hb1).rune
  go_wp2_with fail
  go_quiet (fail)
  go_wp2_with fail
  go_ret2
  exact ⟨rfl, below_drewN hb1 _⟩

set_option maxHeartbeats 4000000 in
theorem words_some (ea : Nat → Addr) (s : ByteArray) (rs : List Nat) (w : World) (hs : s.size ≤ 1000000) (ho : allOk rs) (h : s.data.toList = encAll rs) (he : LErr w ea) :
    Calls Tryd.prog 10 #[.string s] w (WordsPost ea rs w) := by
  obtain ⟨i1, hj, hy0, hy1, hy2⟩ := info_parts Tryd.infoString
  have hs' : s.size ≤ maxLen := by unfold maxLen; omega
  have hd := dec_encAll ho
  rw [← h] at hd
  have hl := len_le h
  have hrl : rs.length ≤ 1000000 := by omega
  have HN := Lib.hid (fun (w : World) b k hb hk ty => next_at (P := Tryd.prog) ho h w b k hb hk ty)
  have HE := Lib.hid (fun (w : World) b hb ty => next_at_end (P := Tryd.prog) h w b hb ty)
  have HLT := Lib.hid (fun k hk => off_lt h k hk)
  have HLE := Lib.hid (fun k => off_le h k)
  have HS := Lib.hid (off_succ rs)
  have HM := Lib.hid (fun (j k : Nat) (hjk : j ≤ k) => off_mono (j := j) (k := k) h hjk)
  have HX := Lib.hid (fun (j k : Nat) (hjk : j ≤ k) => extract_off (j := j) (k := k) h hjk)
  have HA := Lib.hid (off_all h)
  have HP := Lib.hid (fun c => enc_length c)
  have HEA := Lib.hid he
  have HD := Lib.hid hd
  clear hd h he hl
  go_enter Tryd.func10, Tryd.ntmps10
  go_wp2_with fail
  refine (right_any _ _ hs').mono ?_
  rintro e w1 ⟨rfl, hb1⟩
  rw [HD.out]
  have HB1 := Lib.hid hb1
  have HE1 := Lib.hid (HEA.out.below hb1)
  clear hb1 HEA
  go_wp2_with fail
  go_loopw [4, 5, 6, 7, 8] (fun vo vb vq ve vc wr => ∃ (k : Nat) (st : WS), k ≤ rs.length ∧ wr.heap[w1.heap.size]? = some (.stringIter s (off rs k)) ∧ Below w1.heap.size w1 wr ∧ OwnE wr (w1.heap.size + 1) 9 1 vo st.out.length (strRow (fieldTexts st.out)) ∧ Hid (wsRun ws0 (rs.take k) = some st) ∧ WSlots rs k st vb vq ve vc) (fun _ _ _ _ _ wr => s.size - wr.iterPos w1.heap.size)
  case atStart => exact ⟨0, ws0, Nat.zero_le _, iter_new _ _ _, (Below.refl _ _).alloc (Nat.le_refl _) _, .nil, rfl, .inl ⟨rfl, rfl, rfl, rfl, rfl, rfl⟩⟩
  case round =>
    obtain ⟨k, ⟨out, cur, m⟩, hk, hit, hbel, hout, HC, hsl⟩ := hrel
    have HDL := Lib.hid (show out.length ≤ 1000000 by have := wsRun_len _ _ _ HC.out; simp [ws0] at this; omega)
    have HSL := Lib.hid hsl
    have HOU := Lib.hid (show OwnE wr (w1.heap.size + 1) 9 1 _ out.length (strRow (fieldTexts out)) from hout)
    have HBE := Lib.hid hbel
    have HSZ := Lib.hid hbel.size
    have HIT := Lib.hid hit
    have HIL := Lib.hid ((Array.getElem?_eq_some_iff.1 hit).1)
    have HPO := Lib.hid (show wr.iterPos w1.heap.size = off rs k by simp [World.iterPos, hit])
    have HER := Lib.hid (HE1.out.below hbel)
    clear hout hbel hit hsl
    by_cases hlt : k < rs.length
    · have hnx := HN.out wr w1.heap.size k HIT.out hlt
      have HW := Lib.hid (wsRun_take hlt HC.out)
      have HST := Lib.hid (fun hs => wordsL_stop hlt HC.out hs)
      have HBN := Lib.hid (fun j (hj : j < k) => begins_next hlt hj)
      have HBF := Lib.hid (begins_first hlt)
      have HO1 := Lib.hid (HS.out k hlt)
      have HO2 := Lib.hid (HLT.out k hlt)
      have hp := HP.out rs[k]
      have hpos : off rs k ≤ 1000000 := by have := HO2.out; omega
      have hmeas : s.size - off rs (k + 1) < s.size - off rs k := by have := HO1.out; have := HO2.out; omega
      have HME := Lib.hid hmeas
      clear hp hmeas
      generalize rs[k] = c at *
      generalize hoff1 : off rs (k + 1) = p1 at *
      have HOF1 := Lib.hid hoff1
      clear hoff1
      have HIT2 := Lib.hid (Lib.iterAt_heap wr w1.heap.size s (off rs k) p1 HIT.out)
      have HBE2 := Lib.hid (below_iter HBE.out (Nat.le_refl _) s p1)
      have HOU2 := Lib.hid (HOU.out.iterAt (Nat.lt_succ_self _) s p1)
      have HIS := Lib.hid (Lib.iterAt_size wr w1.heap.size s p1)
      generalize hw2 : wr.iterAt w1.heap.size s p1 = w2 at *
      have HW2 := Lib.hid hw2
      clear hw2
      have HER2 := Lib.hid (HE1.out.below HBE2.out)
      rcases HSL.out with ⟨rfl, rfl, rfl, rfl, rfl, hcur⟩ | ⟨j, hjk, rfl, hcur, hsl⟩
      · obtain rfl : cur = [] := hcur
        by_cases h32 : c = 32
        · have e32 : ((c : Int) == 32) = true := by simp [h32]
          have e34 : ((c : Int) == 34) = false := by simp; omega
          have e92 : ((c : Int) == 92) = false := by simp; omega
          have HS32 := Lib.hid h32
          have HS34 := Lib.hid (show ¬ c = 34 by omega)
          have HS92 := Lib.hid (show ¬ c = 92 by omega)
          clear h32
          have HWS := Lib.hid (HW.out.trans (by simp [WS.step, WM.step, HS32.out, HS34.out, HS92.out]) : wsRun ws0 (rs.take (k + 1)) = some ⟨out, [], .gap⟩)
          go_wp2_with fail
          go_roundw
          case rel => exact ⟨k + 1, ⟨out, [], .gap⟩, by omega, by rw [HOF1.out]; exact HIT2.out, HBE2.out, HOU2.out, HWS.out, .inl ⟨rfl, rfl, rfl, rfl, rfl, rfl⟩⟩
          case measure => rw [HPO.out]; have := HIT2.out; simp only [World.iterPos, this]; exact HME.out
        · by_cases h34 : c = 34
          · have e32 : ((c : Int) == 32) = false := by simp; omega
            have e34 : ((c : Int) == 34) = true := by simp [h34]
            have e92 : ((c : Int) == 92) = false := by simp; omega
            have HS32 := Lib.hid (show ¬ c = 32 by omega)
            have HS34 := Lib.hid h34
            have HS92 := Lib.hid (show ¬ c = 92 by omega)
            clear h32
            clear h34
            have HWS := Lib.hid (HW.out.trans (by simp [WS.step, WM.step, HS32.out, HS34.out, HS92.out]) : wsRun ws0 (rs.take (k + 1)) = some ⟨out, [c], .quo⟩)
            go_wp2_with fail
            go_roundw
            case rel => exact ⟨k + 1, ⟨out, [c], .quo⟩, by omega, by rw [HOF1.out]; exact HIT2.out, HBE2.out, HOU2.out, HWS.out, .inr ⟨k, by omega, rfl, HBF.out.symm, .inr (.inl ⟨rfl, rfl, rfl, rfl⟩)⟩⟩
            case measure => rw [HPO.out]; have := HIT2.out; simp only [World.iterPos, this]; exact HME.out
          · have e32 : ((c : Int) == 32) = false := by simp; omega
            have e34 : ((c : Int) == 34) = false := by simp; omega
            have HS32 := Lib.hid h32
            have HS34 := Lib.hid h34
            have HS92 := Lib.hid True.intro
            clear h32
            clear h34
            have HWS := Lib.hid (HW.out.trans (by simp [WS.step, WM.step, HS32.out, HS34.out, HS92.out]) : wsRun ws0 (rs.take (k + 1)) = some ⟨out, [c], .bare⟩)
            go_wp2_with fail
            go_roundw
            case rel => exact ⟨k + 1, ⟨out, [c], .bare⟩, by omega, by rw [HOF1.out]; exact HIT2.out, HBE2.out, HOU2.out, HWS.out, .inr ⟨k, by omega, rfl, HBF.out.symm, .inl ⟨rfl, rfl, rfl, rfl⟩⟩⟩
            case measure => rw [HPO.out]; have := HIT2.out; simp only [World.iterPos, this]; exact HME.out
      · obtain rfl : cur = (rs.take k).drop j := hcur
        have hjo := HM.out j k (by omega)
        have HXJ := Lib.hid (HX.out j k (by omega))
        have HBN2 := Lib.hid (HBN.out j hjk)
        have HKS := Lib.hid (HLE.out k)
        have hks : off rs k ≤ s.size := HLE.out k
        generalize hoj : off rs j = pj at *
        generalize hok : off rs k = pk at *
        have HOJ := Lib.hid hoj
        have HOK := Lib.hid hok
        clear hoj hok
        rcases hsl with ⟨rfl, rfl, rfl, rfl⟩ | ⟨rfl, rfl, rfl, rfl⟩ | ⟨rfl, rfl, rfl, rfl⟩ | ⟨rfl, rfl, rfl, rfl⟩
        · by_cases h32 : c = 32
          · have e32 : ((c : Int) == 32) = true := by simp [h32]
            have e34 : ((c : Int) == 34) = false := by simp; omega
            have e92 : ((c : Int) == 92) = false := by simp; omega
            have HS32 := Lib.hid h32
            have HS34 := Lib.hid (show ¬ c = 34 by omega)
            have HS92 := Lib.hid (show ¬ c = 92 by omega)
            clear h32
            have HWS := Lib.hid (HW.out.trans (by simp [WS.step, WM.step, HS32.out, HS34.out, HS92.out]) : wsRun ws0 (rs.take (k + 1)) = some ⟨out ++ [(rs.take k).drop j], [], .gap⟩)
            go_wp2_with (at_builtin; refine appE rfl _ _ 22 rfl 9 i1 (.string ByteArray.empty) 1 16 Tryd.underlying22 hj hy0 hy1 hy2 rfl (by omega) (w1.heap.size + 1) _ _ _ rfl HOU2.out w1.heap.size (by omega) HBE2.out (by have := HIS.out; have := HIL.out; omega) [.string (s.extract pj pk)] 1 rfl (by omega) (by intro u hu; simp at hu; subst hu; rfl) rfl (by have := HDL.out; omega) (by omega) ?_)
            refine Lib.hid ?_
            intro v4 w4 hown4 hbel4 hgrow4
            have HB4 := Lib.hid hbel4
            have HO4 := Lib.hid hown4
            have HI4 := Lib.hid (iter_grown hgrow4 HIT2.out (fun k hk => by have := (HOU2.out.lt k hk).1; omega))
            clear hown4 hbel4 hgrow4
            go_wp2_with fail
            go_roundw
            case rel =>
              refine ⟨k + 1, ⟨out ++ [(rs.take k).drop j], [], .gap⟩, by omega, by rw [HOF1.out]; exact HI4.out, HB4.out, ?_, HWS.out, .inl ⟨rfl, rfl, rfl, rfl, rfl, rfl⟩⟩
              have := HO4.out
              rw [HXJ.out, strRow_snoc, fieldTexts_snoc] at this
              show OwnE _ _ _ _ _ (out ++ [(rs.take k).drop j]).length _
              rw [List.length_append]
              exact .inr this
            case measure => rw [HPO.out]; have := HI4.out; simp only [World.iterPos, this]; exact HME.out
          · by_cases h34 : c = 34
            · have e32 : ((c : Int) == 32) = false := by simp; omega
              have e34 : ((c : Int) == 34) = true := by simp [h34]
              have e92 : ((c : Int) == 92) = false := by simp; omega
              have HS32 := Lib.hid (show ¬ c = 32 by omega)
              have HS34 := Lib.hid h34
              have HS92 := Lib.hid (show ¬ c = 92 by omega)
              clear h32
              clear h34
              have HWS := Lib.hid (HST.out (by simp [WS.step, WM.step, HS32.out, HS34.out, HS92.out]))
              have c3 := HER2.out.form
              go_wp2_with fail
              go_quiet (fail)
              go_wp2_with fail
              go_ret2
              exact ⟨below_drewN (HB1.out.trans (HBE2.out.mono HB1.out.size)) _, .inr ⟨HWS.out, rfl⟩⟩
            · have e32 : ((c : Int) == 32) = false := by simp; omega
              have e34 : ((c : Int) == 34) = false := by simp; omega
              have HS32 := Lib.hid h32
              have HS34 := Lib.hid h34
              have HS92 := Lib.hid True.intro
              clear h32
              clear h34
              have HWS := Lib.hid (HW.out.trans (by simp [WS.step, WM.step, HS32.out, HS34.out, HS92.out]) : wsRun ws0 (rs.take (k + 1)) = some ⟨out, (rs.take k).drop j ++ [c], .bare⟩)
              go_wp2_with fail
              go_roundw
              case rel => exact ⟨k + 1, ⟨out, (rs.take k).drop j ++ [c], .bare⟩, by omega, by rw [HOF1.out]; exact HIT2.out, HBE2.out, HOU2.out, HWS.out, .inr ⟨j, by omega, by rw [HOJ.out], HBN2.out.symm, .inl ⟨rfl, rfl, rfl, rfl⟩⟩⟩
              case measure => rw [HPO.out]; have := HIT2.out; simp only [World.iterPos, this]; exact HME.out
        · by_cases h92 : c = 92
          · have e32 : ((c : Int) == 32) = false := by simp; omega
            have e34 : ((c : Int) == 34) = false := by simp; omega
            have e92 : ((c : Int) == 92) = true := by simp [h92]
            have HS32 := Lib.hid (show ¬ c = 32 by omega)
            have HS34 := Lib.hid (show ¬ c = 34 by omega)
            have HS92 := Lib.hid h92
            clear h92
            have HWS := Lib.hid (HW.out.trans (by simp [WS.step, WM.step, HS32.out, HS34.out, HS92.out]) : wsRun ws0 (rs.take (k + 1)) = some ⟨out, (rs.take k).drop j ++ [c], .esc⟩)
            go_wp2_with fail
            go_roundw
            case rel => exact ⟨k + 1, ⟨out, (rs.take k).drop j ++ [c], .esc⟩, by omega, by rw [HOF1.out]; exact HIT2.out, HBE2.out, HOU2.out, HWS.out, .inr ⟨j, by omega, by rw [HOJ.out], HBN2.out.symm, .inr (.inr (.inl ⟨rfl, rfl, rfl, rfl⟩))⟩⟩
            case measure => rw [HPO.out]; have := HIT2.out; simp only [World.iterPos, this]; exact HME.out
          · by_cases h34 : c = 34
            · have e32 : ((c : Int) == 32) = false := by simp; omega
              have e34 : ((c : Int) == 34) = true := by simp [h34]
              have e92 : ((c : Int) == 92) = false := by simp; omega
              have HS32 := Lib.hid (show ¬ c = 32 by omega)
              have HS34 := Lib.hid h34
              have HS92 := Lib.hid (show ¬ c = 92 by omega)
              clear h92
              clear h34
              have HWS := Lib.hid (HW.out.trans (by simp [WS.step, WM.step, HS32.out, HS34.out, HS92.out]) : wsRun ws0 (rs.take (k + 1)) = some ⟨out, (rs.take k).drop j ++ [c], .shut⟩)
              go_wp2_with fail
              go_roundw
              case rel => exact ⟨k + 1, ⟨out, (rs.take k).drop j ++ [c], .shut⟩, by omega, by rw [HOF1.out]; exact HIT2.out, HBE2.out, HOU2.out, HWS.out, .inr ⟨j, by omega, by rw [HOJ.out], HBN2.out.symm, .inr (.inr (.inr ⟨rfl, rfl, rfl, rfl⟩))⟩⟩
              case measure => rw [HPO.out]; have := HIT2.out; simp only [World.iterPos, this]; exact HME.out
            · have e34 : ((c : Int) == 34) = false := by simp; omega
              have e92 : ((c : Int) == 92) = false := by simp; omega
              have HS32 := Lib.hid True.intro
              have HS34 := Lib.hid h34
              have HS92 := Lib.hid h92
              clear h92
              clear h34
              have HWS := Lib.hid (HW.out.trans (by simp [WS.step, WM.step, HS32.out, HS34.out, HS92.out]) : wsRun ws0 (rs.take (k + 1)) = some ⟨out, (rs.take k).drop j ++ [c], .quo⟩)
              go_wp2_with fail
              go_roundw
              case rel => exact ⟨k + 1, ⟨out, (rs.take k).drop j ++ [c], .quo⟩, by omega, by rw [HOF1.out]; exact HIT2.out, HBE2.out, HOU2.out, HWS.out, .inr ⟨j, by omega, by rw [HOJ.out], HBN2.out.symm, .inr (.inl ⟨rfl, rfl, rfl, rfl⟩)⟩⟩
              case measure => rw [HPO.out]; have := HIT2.out; simp only [World.iterPos, this]; exact HME.out
        · have HS32 := Lib.hid True.intro
          have HS34 := Lib.hid True.intro
          have HS92 := Lib.hid True.intro
          have HWS := Lib.hid (HW.out.trans (by simp [WS.step, WM.step, HS32.out, HS34.out, HS92.out]) : wsRun ws0 (rs.take (k + 1)) = some ⟨out, (rs.take k).drop j ++ [c], .quo⟩)
          go_wp2_with fail
          go_roundw
          case rel => exact ⟨k + 1, ⟨out, (rs.take k).drop j ++ [c], .quo⟩, by omega, by rw [HOF1.out]; exact HIT2.out, HBE2.out, HOU2.out, HWS.out, .inr ⟨j, by omega, by rw [HOJ.out], HBN2.out.symm, .inr (.inl ⟨rfl, rfl, rfl, rfl⟩)⟩⟩
          case measure => rw [HPO.out]; have := HIT2.out; simp only [World.iterPos, this]; exact HME.out
        · by_cases h32 : c = 32
          · have e32 : ((c : Int) == 32) = true := by simp [h32]
            have e34 : ((c : Int) == 34) = false := by simp; omega
            have e92 : ((c : Int) == 92) = false := by simp; omega
            have HS32 := Lib.hid h32
            have HS34 := Lib.hid (show ¬ c = 34 by omega)
            have HS92 := Lib.hid (show ¬ c = 92 by omega)
            clear h32
            have HWS := Lib.hid (HW.out.trans (by simp [WS.step, WM.step, HS32.out, HS34.out, HS92.out]) : wsRun ws0 (rs.take (k + 1)) = some ⟨out ++ [(rs.take k).drop j], [], .gap⟩)
            go_wp2_with (at_builtin; refine appE rfl _ _ 22 rfl 9 i1 (.string ByteArray.empty) 1 16 Tryd.underlying22 hj hy0 hy1 hy2 rfl (by omega) (w1.heap.size + 1) _ _ _ rfl HOU2.out w1.heap.size (by omega) HBE2.out (by have := HIS.out; have := HIL.out; omega) [.string (s.extract pj pk)] 1 rfl (by omega) (by intro u hu; simp at hu; subst hu; rfl) rfl (by have := HDL.out; omega) (by omega) ?_)
            refine Lib.hid ?_
            intro v4 w4 hown4 hbel4 hgrow4
            have HB4 := Lib.hid hbel4
            have HO4 := Lib.hid hown4
            have HI4 := Lib.hid (iter_grown hgrow4 HIT2.out (fun k hk => by have := (HOU2.out.lt k hk).1; omega))
            clear hown4 hbel4 hgrow4
            go_wp2_with fail
            go_roundw
            case rel =>
              refine ⟨k + 1, ⟨out ++ [(rs.take k).drop j], [], .gap⟩, by omega, by rw [HOF1.out]; exact HI4.out, HB4.out, ?_, HWS.out, .inl ⟨rfl, rfl, rfl, rfl, rfl, rfl⟩⟩
              have := HO4.out
              rw [HXJ.out, strRow_snoc, fieldTexts_snoc] at this
              show OwnE _ _ _ _ _ (out ++ [(rs.take k).drop j]).length _
              rw [List.length_append]
              exact .inr this
            case measure => rw [HPO.out]; have := HI4.out; simp only [World.iterPos, this]; exact HME.out
          · have e32 : ((c : Int) == 32) = false := by simp; omega
            have HS32 := Lib.hid h32
            have HS34 := Lib.hid True.intro
            have HS92 := Lib.hid True.intro
            clear h32
            have HWS := Lib.hid (HST.out (by simp [WS.step, WM.step, HS32.out, HS34.out, HS92.out]))
            have c3 := HER2.out.form
            go_wp2_with fail
            go_quiet (fail)
            go_wp2_with fail
            go_ret2
            exact ⟨below_drewN (HB1.out.trans (HBE2.out.mono HB1.out.size)) _, .inr ⟨HWS.out, rfl⟩⟩
    · obtain rfl : k = rs.length := by omega
      have hnx := HE.out wr w1.heap.size HIT.out
      have HC2 := Lib.hid (wordsL_end (by have := HC.out; rwa [List.take_length] at this))
      rcases HSL.out with ⟨rfl, rfl, rfl, rfl, rfl, hcur⟩ | ⟨j, hjk, rfl, hcur, hsl⟩
      · have HCU := Lib.hid hcur
        clear hcur
        go_wp2_with fail
        go_ret2
        exact ⟨HB1.out.trans (HBE.out.mono HB1.out.size), .inl ⟨out, _, HC2.out, rfl, HOU.out.base (by have := HB1.out.size; omega)⟩⟩
      · obtain rfl : cur = (rs.take rs.length).drop j := hcur
        have hjo := HM.out j rs.length (by omega)
        have HXJ := Lib.hid (HX.out j rs.length (by omega))
        rw [HA.out] at hjo
        generalize hoj : off rs j = pj at *
        have HOJ := Lib.hid hoj
        clear hoj
        rcases hsl with ⟨rfl, rfl, rfl, rfl⟩ | ⟨rfl, rfl, rfl, rfl⟩ | ⟨rfl, rfl, rfl, rfl⟩ | ⟨rfl, rfl, rfl, rfl⟩
        · go_wp2_with (at_builtin; refine appE rfl _ _ 22 rfl 9 i1 (.string ByteArray.empty) 1 16 Tryd.underlying22 hj hy0 hy1 hy2 rfl (by omega) (w1.heap.size + 1) _ _ _ rfl HOU.out w1.heap.size (by omega) HBE.out (by have := HIL.out; omega) [.string (s.extract pj s.size)] 1 rfl (by omega) (by intro u hu; simp at hu; subst hu; rfl) rfl (by have := HDL.out; omega) (by omega) ?_)
          refine Lib.hid ?_
          intro v4 w4 hown4 hbel4 hgrow4
          have HB4 := Lib.hid hbel4
          have HO4 := Lib.hid hown4
          clear hown4 hbel4 hgrow4
          go_wp2_with fail
          go_ret2
          refine ⟨HB1.out.trans (HB4.out.mono HB1.out.size), .inl ⟨out ++ [(rs.take rs.length).drop j], v4, HC2.out, rfl, ?_⟩⟩
          have h2 := HO4.out
          have h3 := HXJ.out
          rw [HA.out] at h3
          rw [h3, strRow_snoc, fieldTexts_snoc] at h2
          rw [List.length_append]
          exact .inr (own_base h2 (by have := HB1.out.size; omega))
        · have c3 := HER.out.form
          go_wp2_with fail
          go_quiet (fail)
          go_wp2_with fail
          go_ret2
          exact ⟨below_drewN (HB1.out.trans (HBE.out.mono HB1.out.size)) _, .inr ⟨HC2.out, rfl⟩⟩
        · have c3 := HER.out.form
          go_wp2_with fail
          go_quiet (fail)
          go_wp2_with fail
          go_ret2
          exact ⟨below_drewN (HB1.out.trans (HBE.out.mono HB1.out.size)) _, .inr ⟨HC2.out, rfl⟩⟩
        · go_wp2_with (at_builtin; refine appE rfl _ _ 22 rfl 9 i1 (.string ByteArray.empty) 1 16 Tryd.underlying22 hj hy0 hy1 hy2 rfl (by omega) (w1.heap.size + 1) _ _ _ rfl HOU.out w1.heap.size (by omega) HBE.out (by have := HIL.out; omega) [.string (s.extract pj s.size)] 1 rfl (by omega) (by intro u hu; simp at hu; subst hu; rfl) rfl (by have := HDL.out; omega) (by omega) ?_)
          refine Lib.hid ?_
          intro v4 w4 hown4 hbel4 hgrow4
          have HB4 := Lib.hid hbel4
          have HO4 := Lib.hid hown4
          clear hown4 hbel4 hgrow4
          go_wp2_with fail
          go_ret2
          refine ⟨HB1.out.trans (HB4.out.mono HB1.out.size), .inl ⟨out ++ [(rs.take rs.length).drop j], v4, HC2.out, rfl, ?_⟩⟩
          have h2 := HO4.out
          have h3 := HXJ.out
          rw [HA.out] at h3
          rw [h3, strRow_snoc, fieldTexts_snoc] at h2
          rw [List.length_append]
          exact .inr (own_base h2 (by have := HB1.out.size; omega))
end Go.Proofs.YtjhmehmmpfnnkaaDoor

namespace Go.Proofs.YtjhmehmmpfnnkaaDoor
open Go.RowKit Utf
set_option maxRecDepth 100000
set_option linter.unusedSimpArgs false
set_option linter.unusedVariables false

/-- What a line tells, without what follows the fields. -/
structure PW where
  kind : Int
  who : Int
  n : Int
  fresh : Int
  ekind : Int
  shard : Int
  other : Int
  server : Int
  ekey : List Nat
  key : List Nat
  lo : List Nat
  hi : List Nat

def PW.setN (p : PW) (v : Int) : Fld → PW
  | .who => { p with who := v }
  | .n => { p with n := v }
  | .fresh => { p with fresh := v }
  | .shard => { p with shard := v }
  | .other => { p with other := v }
  | .server => { p with server := v }
  | _ => p
def PW.setS (p : PW) (v : List Nat) : Fld → PW
  | .key => { p with key := v }
  | .lo => { p with lo := v }
  | .hi => { p with hi := v }
  | .ekey => { p with ekey := v }
  | _ => p
def PW.getN (p : PW) : Fld → Int
  | .who => p.who
  | .n => p.n
  | .fresh => p.fresh
  | .shard => p.shard
  | .other => p.other
  | .server => p.server
  | _ => 0
def PW.getS (p : PW) : Fld → List Nat
  | .key => p.key
  | .lo => p.lo
  | .hi => p.hi
  | .ekey => p.ekey
  | _ => []
def PW.zero : PW := ⟨0, 0, 0, 0, 0, 0, 0, 0, [], [], [], []⟩

/-- The cells of a world's op. -/
def wCells (p : PW) (vo vg : Value) : Array Value :=
  #[.int .i64 p.kind, .int .i64 p.who, .int .i64 p.n, .int .i64 p.fresh, vo, .int .i64 p.ekind, .int .i64 p.shard, .int .i64 p.other, .int .i64 p.server, .int .i64 0, .int .i64 0, .slice none 0 0, txt p.ekey,
    .int .i64 0, .int .i64 0, .int .i64 0, .slice none 0 0, txt p.key, txt p.lo, txt p.hi, vg, .int .u64 0, .int .i64 0, .int .i64 0]

theorem wCells_setN (p : PW) (vo vg : Value) (f : Fld) (hf : isNum f = true) (v : Int) : (wCells p vo vg).setIfInBounds (offF f) (.int .i64 v) = wCells (p.setN v f) vo vg := by
  cases f <;> first | rfl | cases hf
theorem wCells_setS (p : PW) (vo vg : Value) (f : Fld) (hf : isNum f = false) (v : List Nat) : (wCells p vo vg).setIfInBounds (offF f) (txt v) = wCells (p.setS v f) vo vg := by
  cases f <;> first | rfl | cases hf
theorem wCells_getN (p : PW) (vo vg : Value) (f : Fld) (hf : isNum f = true) : (wCells p vo vg)[offF f]? = some (.int .i64 (p.getN f)) := by
  cases f <;> first | rfl | cases hf
theorem wCells_getS (p : PW) (vo vg : Value) (f : Fld) (hf : isNum f = false) : (wCells p vo vg)[offF f]? = some (txt (p.getS f)) := by
  cases f <;> first | rfl | cases hf
theorem wCells_ops (p : PW) (vo vg v : Value) : (wCells p vo vg).setIfInBounds 4 v = wCells p v vg := rfl
theorem wCells_gone (p : PW) (vo vg v : Value) : (wCells p vo vg).setIfInBounds 20 v = wCells p vo v := rfl

/-- The fields are read, one by one. -/
def rdFlds : List Fld → PW → List (List Nat) → Nat → PW × List (List Nat) × Nat
  | [], p, ws, n => (p, ws, n)
  | f :: fs, p, ws, n =>
    if isNum f = true then rdFlds fs (p.setN ((rdNum ws n).1.getD 0) f) (rdNum ws n).2.1 (rdNum ws n).2.2
    else rdFlds fs (p.setS ((rdStr ws n).1.getD []) f) (rdStr ws n).2.1 (rdStr ws n).2.2

/-- Is all of these fields still zero? -/
def Clear (p : PW) (fs : List Fld) : Prop := ∀ f ∈ fs, p.getN f = 0 ∧ p.getS f = []
theorem setN_other (p : PW) (v : Int) {f g : Fld} (h : f ≠ g) : (p.setN v f).getN g = p.getN g ∧ (p.setN v f).getS g = p.getS g := by
  cases f <;> cases g <;> first | exact absurd rfl h | exact ⟨rfl, rfl⟩
theorem setS_other (p : PW) (v : List Nat) {f g : Fld} (h : f ≠ g) : (p.setS v f).getN g = p.getN g ∧ (p.setS v f).getS g = p.getS g := by
  cases f <;> cases g <;> first | exact absurd rfl h | exact ⟨rfl, rfl⟩
theorem Clear.setN {p : PW} {f : Fld} {fs : List Fld} (h : Clear p (f :: fs)) (hn : (f :: fs).Nodup) (v : Int) : Clear (p.setN v f) fs := by
  intro g hg
  have hne : f ≠ g := fun e => by subst e; exact (List.nodup_cons.1 hn).1 hg
  obtain ⟨h1, h2⟩ := setN_other p v hne
  rw [h1, h2]
  exact h g (List.mem_cons_of_mem _ hg)
theorem Clear.setS {p : PW} {f : Fld} {fs : List Fld} (h : Clear p (f :: fs)) (hn : (f :: fs).Nodup) (v : List Nat) : Clear (p.setS v f) fs := by
  intro g hg
  have hne : f ≠ g := fun e => by subst e; exact (List.nodup_cons.1 hn).1 hg
  obtain ⟨h1, h2⟩ := setS_other p v hne
  rw [h1, h2]
  exact h g (List.mem_cons_of_mem _ hg)

/-- What a line tells. -/
structure PL where
  p : PW
  ops : List POp
  gone : List Int

/-- What follows a verb's fields. -/
def restAny (k : Nat) (ws : List (List Nat)) (n : Nat) : List POp × List Int × Nat :=
  if k = 111 then ((restO ws.length ws n).1, [], (restO ws.length ws n).2)
  else if k = 103 then ([], (restG ws.length ws n).1, (restG ws.length ws n).2)
  else ([], [], restN ws n)

/-- What words tell: the error's number, or what it is. -/
def parseW (ws : List (List Nat)) : Nat × Option PL := match ws with
  | [] => (16, none)
  | x :: r => match verbs[verbIdx (encAll x)]? with
    | none => (7, none)
    | some v =>
      let q := rdFlds v.flds { PW.zero with kind := v.kind, ekind := v.ekind } r 0
      let o := restAny v.rest q.2.1 q.2.2
      if o.2.2 = 0 then (0, some ⟨q.1, o.1, o.2.1⟩) else (o.2.2, none)

theorem verbs_nodup : ∀ v ∈ verbs, v.flds.Nodup := by decide
theorem verbs_rest : ∀ v ∈ verbs, v.rest = 111 ∨ v.rest = 103 ∨ v.rest = 0 := by decide
theorem letP_ok (f : Fld) : okR (letP f) = true := by cases f <;> decide +kernel

theorem results_cell_tmp {P : Program} {fn : Func} {p q : Tmp} {ty : TypeId} (h : fn.results = #[.cell p ty, .tmp q]) (tmps : Array Value) (w : World) (g : Nat) (t : TypeId) (cs : Array Value) (fr : Nat × Nat) (d : TypeDesc)
    (hp : tmps.getD p undef = .pointer (some ⟨g, 0, none⟩)) (hg : w.heap[g]? = some (.cells cs t fr))
    (hu : P.underlying ty = some d) (hd : (match d with | .struct _ | .array _ _ => true | _ => false) = true) (hi : (P.info? ty).map (·.size) = some cs.size) :
    (results fn tmps).run P w = .ok (.tuple #[.agg cs, tmps.getD q undef]) w := by
  have hp' : tmps[p]?.getD undef = .pointer (some ⟨g, 0, none⟩) := by simpa using hp
  simp [results, h, hp', asAddr, run_loadVar_row w g t ty cs fr d hg hu hd hi]
end Go.Proofs.YtjhmehmmpfnnkaaDoor
