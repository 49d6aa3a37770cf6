/-
  The contract of lines.Words.
  Plain: what a line's words tell; an op as its cells.
  A whole block is stored, or read, in one operation.
  The contract of lines.Parse: a line without right words, without words.
-/
import Derived.Test.YtjhmehmmpfnnkaaDoorM04
import Derived.Test.YtjhmehmmpfnnkaaDoorM08
import Derived.Deep.RegionHeld
namespace Go.Proofs.YtjhmehmmpfnnkaaDoor
open Go.RowKit Utf
set_option maxRecDepth 100000
set_option linter.unusedSimpArgs false
set_option linter.unusedVariables false

/-- How the reader's slots stand. -/
def WSlots (rs : List Nat) (k : Nat) (st : WS) (vb vq ve vc : Value) : Prop :=
  (st.m = .gap ∧ vb = .int .i64 (-1) ∧ vq = .bool false ∧ ve = .bool false ∧ vc = .bool false ∧ st.cur = []) ∨
  ∃ j, j < k ∧ vb = .int .i64 (off rs j : Nat) ∧ st.cur = (rs.take k).drop j ∧
    ((st.m = .bare ∧ vq = .bool false ∧ ve = .bool false ∧ vc = .bool false) ∨ (st.m = .quo ∧ vq = .bool true ∧ ve = .bool false ∧ vc = .bool false) ∨
     (st.m = .esc ∧ vq = .bool true ∧ ve = .bool true ∧ vc = .bool false) ∨ (st.m = .shut ∧ vq = .bool false ∧ ve = .bool false ∧ vc = .bool true))

theorem wsRun_len (s t : WS) : ∀ l, wsRun s l = some t → t.out.length ≤ s.out.length + l.length := by
  intro l
  induction l generalizing s with
  | nil => intro h; cases h; simp
  | cons x l ih =>
    intro h
    simp only [wsRun] at h
    cases hs : s.step x with
    | none => rw [hs] at h; cases h
    | some u =>
      rw [hs] at h
      have h1 := ih u h
      have h2 : u.out.length ≤ s.out.length + 1 := by
        unfold WS.step at hs
        split at hs <;> first | cases hs | skip
        all_goals (simp <;> omega)
      simp only [List.length_cons]
      omega

/-- What lines.Words answers for a right text. -/
def WordsPost (ea : Nat → Addr) (rs : List Nat) (w : World) (e : Ending) (w' : World) : Prop :=
  Below w.heap.size w w' ∧ ((∃ ws v, wordsL rs = some ws ∧ e = .returned (.tuple #[v, .nilIface]) ∧ OwnE w' w.heap.size 9 1 v ws.length (strRow (fieldTexts ws))) ∨
    (wordsL rs = none ∧ e = .returned (.tuple #[.slice none 0 0, .iface 163 (.pointer (some (ea 3)))])))

theorem words_none (ea : Nat → Addr) (s : ByteArray) (w : World) (hs : s.size ≤ maxLen) (hd : dec s.data.toList = none) (he : LErr w ea) :
    Calls Tryd.prog 10 #[.string s] w fun e w' => e = .returned (.tuple #[.slice none 0 0, .iface 163 (.pointer (some (ea 5)))]) ∧ Below w.heap.size w w' := by
  have HD := Lib.hid hd
  have HE := Lib.hid he
  clear hd he
  go_enter Tryd.func10, Tryd.ntmps10
  go_wp2_with fail
  refine (right_any _ _ hs).mono ?_
  rintro e w1 ⟨rfl, hb1⟩
  rw [HD.out]
  have c5 := (HE.out.below hb1).rune
  go_wp2_with fail
  go_quiet (fail)
  go_wp2_with fail
  go_ret2
  exact ⟨rfl, below_drewN hb1 _⟩

set_option maxHeartbeats 4000000 in
theorem words_some (ea : Nat → Addr) (s : ByteArray) (rs : List Nat) (w : World) (hs : s.size ≤ 1000000) (ho : allOk rs) (h : s.data.toList = encAll rs) (he : LErr w ea) :
    Calls Tryd.prog 10 #[.string s] w (WordsPost ea rs w) := by
  obtain ⟨i1, hj, hy0, hy1, hy2⟩ := info_parts Tryd.infoString
  have hs' : s.size ≤ maxLen := by unfold maxLen; omega
  have hd := dec_encAll ho
  rw [← h] at hd
  have hl := len_le h
  have hrl : rs.length ≤ 1000000 := by omega
  have HN := Lib.hid (fun (w : World) b k hb hk ty => next_at (P := Tryd.prog) ho h w b k hb hk ty)
  have HE := Lib.hid (fun (w : World) b hb ty => next_at_end (P := Tryd.prog) h w b hb ty)
  have HLT := Lib.hid (fun k hk => off_lt h k hk)
  have HLE := Lib.hid (fun k => off_le h k)
  have HS := Lib.hid (off_succ rs)
  have HM := Lib.hid (fun (j k : Nat) (hjk : j ≤ k) => off_mono (j := j) (k := k) h hjk)
  have HX := Lib.hid (fun (j k : Nat) (hjk : j ≤ k) => extract_off (j := j) (k := k) h hjk)
  have HA := Lib.hid (off_all h)
  have HP := Lib.hid (fun c => enc_length c)
  have HEA := Lib.hid he
  have HD := Lib.hid hd
  clear hd h he hl
  go_enter Tryd.func10, Tryd.ntmps10
  go_wp2_with fail
  refine (right_any _ _ hs').mono ?_
  rintro e w1 ⟨rfl, hb1⟩
  rw [HD.out]
  have HB1 := Lib.hid hb1
  have HE1 := Lib.hid (HEA.out.below hb1)
  clear hb1 HEA
  go_wp2_with fail
  go_loopw [4, 5, 6, 7, 8] (fun vo vb vq ve vc wr => ∃ (k : Nat) (st : WS), k ≤ rs.length ∧ wr.heap[w1.heap.size]? = some (.stringIter s (off rs k)) ∧ Below w1.heap.size w1 wr ∧ OwnE wr (w1.heap.size + 1) 9 1 vo st.out.length (strRow (fieldTexts st.out)) ∧ Hid (wsRun ws0 (rs.take k) = some st) ∧ WSlots rs k st vb vq ve vc) (fun _ _ _ _ _ wr => s.size - wr.iterPos w1.heap.size)
  case atStart => exact ⟨0, ws0, Nat.zero_le _, iter_new _ _ _, (Below.refl _ _).alloc (Nat.le_refl _) _, .nil, rfl, .inl ⟨rfl, rfl, rfl, rfl, rfl, rfl⟩⟩
  case round =>
    obtain ⟨k, ⟨out, cur, m⟩, hk, hit, hbel, hout, HC, hsl⟩ := hrel
    have HDL := Lib.hid (show out.length ≤ 1000000 by have := wsRun_len _ _ _ HC.out; simp [ws0] at this; omega)
    have HSL := Lib.hid hsl
    have HOU := Lib.hid (show OwnE wr (w1.heap.size + 1) 9 1 _ out.length (strRow (fieldTexts out)) from hout)
    have HBE := Lib.hid hbel
    have HSZ := Lib.hid hbel.size
    have HIT := Lib.hid hit
    have HIL := Lib.hid ((Array.getElem?_eq_some_iff.1 hit).1)
    have HPO := Lib.hid (show wr.iterPos w1.heap.size = off rs k by simp [World.iterPos, hit])
    have HER := Lib.hid (HE1.out.below hbel)
    clear hout hbel hit hsl
    by_cases hlt : k < rs.length
    · have hnx := HN.out wr w1.heap.size k HIT.out hlt
      have HW := Lib.hid (wsRun_take hlt HC.out)
      have HST := Lib.hid (fun hs => wordsL_stop hlt HC.out hs)
      have HBN := Lib.hid (fun j (hj : j < k) => begins_next hlt hj)
      have HBF := Lib.hid (begins_first hlt)
      have HO1 := Lib.hid (HS.out k hlt)
      have HO2 := Lib.hid (HLT.out k hlt)
      have hp := HP.out rs[k]
      have hpos : off rs k ≤ 1000000 := by have := HO2.out; omega
      have hmeas : s.size - off rs (k + 1) < s.size - off rs k := by have := HO1.out; have := HO2.out; omega
      have HME := Lib.hid hmeas
      clear hp hmeas
      generalize rs[k] = c at *
      generalize hoff1 : off rs (k + 1) = p1 at *
      have HOF1 := Lib.hid hoff1
      clear hoff1
      have HIT2 := Lib.hid (Lib.iterAt_heap wr w1.heap.size s (off rs k) p1 HIT.out)
      have HBE2 := Lib.hid (below_iter HBE.out (Nat.le_refl _) s p1)
      have HOU2 := Lib.hid (HOU.out.iterAt (Nat.lt_succ_self _) s p1)
      have HIS := Lib.hid (Lib.iterAt_size wr w1.heap.size s p1)
      generalize hw2 : wr.iterAt w1.heap.size s p1 = w2 at *
      have HW2 := Lib.hid hw2
      clear hw2
      have HER2 := Lib.hid (HE1.out.below HBE2.out)
      rcases HSL.out with ⟨rfl, rfl, rfl, rfl, rfl, hcur⟩ | ⟨j, hjk, rfl, hcur, hsl⟩
      · obtain rfl : cur = [] := hcur
        by_cases h32 : c = 32
        · have e32 : ((c : Int) == 32) = true := by simp [h32]
          have e34 : ((c : Int) == 34) = false := by simp; omega
          have e92 : ((c : Int) == 92) = false := by simp; omega
          have HS32 := Lib.hid h32
          have HS34 := Lib.hid (show ¬ c = 34 by omega)
          have HS92 := Lib.hid (show ¬ c = 92 by omega)
          clear h32
          have HWS := Lib.hid (HW.out.trans (by simp [WS.step, WM.step, HS32.out, HS34.out, HS92.out]) : wsRun ws0 (rs.take (k + 1)) = some ⟨out, [], .gap⟩)
          go_wp2_with fail
          go_roundw
          case rel => exact ⟨k + 1, ⟨out, [], .gap⟩, by omega, by rw [HOF1.out]; exact HIT2.out, HBE2.out, HOU2.out, HWS.out, .inl ⟨rfl, rfl, rfl, rfl, rfl, rfl⟩⟩
          case measure => rw [HPO.out]; have := HIT2.out; simp only [World.iterPos, this]; exact HME.out
        · by_cases h34 : c = 34
          · have e32 : ((c : Int) == 32) = false := by simp; omega
            have e34 : ((c : Int) == 34) = true := by simp [h34]
            have e92 : ((c : Int) == 92) = false := by simp; omega
            have HS32 := Lib.hid (show ¬ c = 32 by omega)
            have HS34 := Lib.hid h34
            have HS92 := Lib.hid (show ¬ c = 92 by omega)
            clear h32
            clear h34
            have HWS := Lib.hid (HW.out.trans (by simp [WS.step, WM.step, HS32.out, HS34.out, HS92.out]) : wsRun ws0 (rs.take (k + 1)) = some ⟨out, [c], .quo⟩)
            go_wp2_with fail
            go_roundw
            case rel => exact ⟨k + 1, ⟨out, [c], .quo⟩, by omega, by rw [HOF1.out]; exact HIT2.out, HBE2.out, HOU2.out, HWS.out, .inr ⟨k, by omega, rfl, HBF.out.symm, .inr (.inl ⟨rfl, rfl, rfl, rfl⟩)⟩⟩
            case measure => rw [HPO.out]; have := HIT2.out; simp only [World.iterPos, this]; exact HME.out
          · have e32 : ((c : Int) == 32) = false := by simp; omega
            have e34 : ((c : Int) == 34) = false := by simp; omega
            have HS32 := Lib.hid h32
            have HS34 := Lib.hid h34
            have HS92 := Lib.hid True.intro
            clear h32
            clear h34
            have HWS := Lib.hid (HW.out.trans (by simp [WS.step, WM.step, HS32.out, HS34.out, HS92.out]) : wsRun ws0 (rs.take (k + 1)) = some ⟨out, [c], .bare⟩)
            go_wp2_with fail
            go_roundw
            case rel => exact ⟨k + 1, ⟨out, [c], .bare⟩, by omega, by rw [HOF1.out]; exact HIT2.out, HBE2.out, HOU2.out, HWS.out, .inr ⟨k, by omega, rfl, HBF.out.symm, .inl ⟨rfl, rfl, rfl, rfl⟩⟩⟩
            case measure => rw [HPO.out]; have := HIT2.out; simp only [World.iterPos, this]; exact HME.out
      · obtain rfl : cur = (rs.take k).drop j := hcur
        have hjo := HM.out j k (by omega)
        have HXJ := Lib.hid (HX.out j k (by omega))
        have HBN2 := Lib.hid (HBN.out j hjk)
        have HKS := Lib.hid (HLE.out k)
        have hks : off rs k ≤ s.size := HLE.out k
        generalize hoj : off rs j = pj at *
        generalize hok : off rs k = pk at *
        have HOJ := Lib.hid hoj
        have HOK := Lib.hid hok
        clear hoj hok
        rcases hsl with ⟨rfl, rfl, rfl, rfl⟩ | ⟨rfl, rfl, rfl, rfl⟩ | ⟨rfl, rfl, rfl, rfl⟩ | ⟨rfl, rfl, rfl, rfl⟩
        · by_cases h32 : c = 32
          · have e32 : ((c : Int) == 32) = true := by simp [h32]
            have e34 : ((c : Int) == 34) = false := by simp; omega
            have e92 : ((c : Int) == 92) = false := by simp; omega
            have HS32 := Lib.hid h32
            have HS34 := Lib.hid (show ¬ c = 34 by omega)
            have HS92 := Lib.hid (show ¬ c = 92 by omega)
            clear h32
            have HWS := Lib.hid (HW.out.trans (by simp [WS.step, WM.step, HS32.out, HS34.out, HS92.out]) : wsRun ws0 (rs.take (k + 1)) = some ⟨out ++ [(rs.take k).drop j], [], .gap⟩)
            go_wp2_with (at_builtin; refine appE rfl _ _ 22 rfl 9 i1 (.string ByteArray.empty) 1 16 Tryd.underlying22 hj hy0 hy1 hy2 rfl (by omega) (w1.heap.size + 1) _ _ _ rfl HOU2.out w1.heap.size (by omega) HBE2.out (by have := HIS.out; have := HIL.out; omega) [.string (s.extract pj pk)] 1 rfl (by omega) (by intro u hu; simp at hu; subst hu; rfl) rfl (by have := HDL.out; omega) (by omega) ?_)
            refine Lib.hid ?_
            intro v4 w4 hown4 hbel4 hgrow4
            have HB4 := Lib.hid hbel4
            have HO4 := Lib.hid hown4
            have HI4 := Lib.hid (iter_grown hgrow4 HIT2.out (fun k hk => by have := (HOU2.out.lt k hk).1; omega))
            clear hown4 hbel4 hgrow4
            go_wp2_with fail
            go_roundw
            case rel =>
              refine ⟨k + 1, ⟨out ++ [(rs.take k).drop j], [], .gap⟩, by omega, by rw [HOF1.out]; exact HI4.out, HB4.out, ?_, HWS.out, .inl ⟨rfl, rfl, rfl, rfl, rfl, rfl⟩⟩
              have := HO4.out
              rw [HXJ.out, strRow_snoc, fieldTexts_snoc] at this
              show OwnE _ _ _ _ _ (out ++ [(rs.take k).drop j]).length _
              rw [List.length_append]
              exact .inr this
            case measure => rw [HPO.out]; have := HI4.out; simp only [World.iterPos, this]; exact HME.out
          · by_cases h34 : c = 34
            · have e32 : ((c : Int) == 32) = false := by simp; omega
              have e34 : ((c : Int) == 34) = true := by simp [h34]
              have e92 : ((c : Int) == 92) = false := by simp; omega
              have HS32 := Lib.hid (show ¬ c = 32 by omega)
              have HS34 := Lib.hid h34
              have HS92 := Lib.hid (show ¬ c = 92 by omega)
              clear h32
              clear h34
              have HWS := Lib.hid (HST.out (by simp [WS.step, WM.step, HS32.out, HS34.out, HS92.out]))
              have c3 := HER2.out.form
              go_wp2_with fail
              go_quiet (fail)
              go_wp2_with fail
              go_ret2
              exact ⟨below_drewN (HB1.out.trans (HBE2.out.mono HB1.out.size)) _, .inr ⟨HWS.out, rfl⟩⟩
            · have e32 : ((c : Int) == 32) = false := by simp; omega
              have e34 : ((c : Int) == 34) = false := by simp; omega
              have HS32 := Lib.hid h32
              have HS34 := Lib.hid h34
              have HS92 := Lib.hid True.intro
              clear h32
              clear h34
              have HWS := Lib.hid (HW.out.trans (by simp [WS.step, WM.step, HS32.out, HS34.out, HS92.out]) : wsRun ws0 (rs.take (k + 1)) = some ⟨out, (rs.take k).drop j ++ [c], .bare⟩)
              go_wp2_with fail
              go_roundw
              case rel => exact ⟨k + 1, ⟨out, (rs.take k).drop j ++ [c], .bare⟩, by omega, by rw [HOF1.out]; exact HIT2.out, HBE2.out, HOU2.out, HWS.out, .inr ⟨j, by omega, by rw [HOJ.out], HBN2.out.symm, .inl ⟨rfl, rfl, rfl, rfl⟩⟩⟩
              case measure => rw [HPO.out]; have := HIT2.out; simp only [World.iterPos, this]; exact HME.out
        · by_cases h92 : c = 92
          · have e32 : ((c : Int) == 32) = false := by simp; omega
            have e34 : ((c : Int) == 34) = false := by simp; omega
            have e92 : ((c : Int) == 92) = true := by simp [h92]
            have HS32 := Lib.hid (show ¬ c = 32 by omega)
            have HS34 := Lib.hid (show ¬ c = 34 by omega)
            have HS92 := Lib.hid h92
            clear h92
            have HWS := Lib.hid (HW.out.trans (by simp [WS.step, WM.step, HS32.out, HS34.out, HS92.out]) : wsRun ws0 (rs.take (k + 1)) = some ⟨out, (rs.take k).drop j ++ [c], .esc⟩)
            go_wp2_with fail
            go_roundw
            case rel => exact ⟨k + 1, ⟨out, (rs.take k).drop j ++ [c], .esc⟩, by omega, by rw [HOF1.out]; exact HIT2.out, HBE2.out, HOU2.out, HWS.out, .inr ⟨j, by omega, by rw [HOJ.out], HBN2.out.symm, .inr (.inr (.inl ⟨rfl, rfl, rfl, rfl⟩))⟩⟩
            case measure => rw [HPO.out]; have := HIT2.out; simp only [World.iterPos, this]; exact HME.out
          · by_cases h34 : c = 34
            · have e32 : ((c : Int) == 32) = false := by simp; omega
              have e34 : ((c : Int) == 34) = true := by simp [h34]
              have e92 : ((c : Int) == 92) = false := by simp; omega
              have HS32 := Lib.hid (show ¬ c = 32 by omega)
              have HS34 := Lib.hid h34
              have HS92 := Lib.hid (show ¬ c = 92 by omega)
              clear h92
              clear h34
              have HWS := Lib.hid (HW.out.trans (by simp [WS.step, WM.step, HS32.out, HS34.out, HS92.out]) : wsRun ws0 (rs.take (k + 1)) = some ⟨out, (rs.take k).drop j ++ [c], .shut⟩)
              go_wp2_with fail
              go_roundw
              case rel => exact ⟨k + 1, ⟨out, (rs.take k).drop j ++ [c], .shut⟩, by omega, by rw [HOF1.out]; exact HIT2.out, HBE2.out, HOU2.out, HWS.out, .inr ⟨j, by omega, by rw [HOJ.out], HBN2.out.symm, .inr (.inr (.inr ⟨rfl, rfl, rfl, rfl⟩))⟩⟩
              case measure => rw [HPO.out]; have := HIT2.out; simp only [World.iterPos, this]; exact HME.out
            · have e34 : ((c : Int) == 34) = false := by simp; omega
              have e92 : ((c : Int) == 92) = false := by simp; omega
              have HS32 := Lib.hid True.intro
              have HS34 := Lib.hid h34
              have HS92 := Lib.hid h92
              clear h92
              clear h34
              have HWS := Lib.hid (HW.out.trans (by simp [WS.step, WM.step, HS32.out, HS34.out, HS92.out]) : wsRun ws0 (rs.take (k + 1)) = some ⟨out, (rs.take k).drop j ++ [c], .quo⟩)
              go_wp2_with fail
              go_roundw
              case rel => exact ⟨k + 1, ⟨out, (rs.take k).drop j ++ [c], .quo⟩, by omega, by rw [HOF1.out]; exact HIT2.out, HBE2.out, HOU2.out, HWS.out, .inr ⟨j, by omega, by rw [HOJ.out], HBN2.out.symm, .inr (.inl ⟨rfl, rfl, rfl, rfl⟩)⟩⟩
              case measure => rw [HPO.out]; have := HIT2.out; simp only [World.iterPos, this]; exact HME.out
        · have HS32 := Lib.hid True.intro
          have HS34 := Lib.hid True.intro
          have HS92 := Lib.hid True.intro
          have HWS := Lib.hid (HW.out.trans (by simp [WS.step, WM.step, HS32.out, HS34.out, HS92.out]) : wsRun ws0 (rs.take (k + 1)) = some ⟨out, (rs.take k).drop j ++ [c], .quo⟩)
          go_wp2_with fail
          go_roundw
          case rel => exact ⟨k + 1, ⟨out, (rs.take k).drop j ++ [c], .quo⟩, by omega, by rw [HOF1.out]; exact HIT2.out, HBE2.out, HOU2.out, HWS.out, .inr ⟨j, by omega, by rw [HOJ.out], HBN2.out.symm, .inr (.inl ⟨rfl, rfl, rfl, rfl⟩)⟩⟩
          case measure => rw [HPO.out]; have := HIT2.out; simp only [World.iterPos, this]; exact HME.out
        · by_cases h32 : c = 32
          · have e32 : ((c : Int) == 32) = true := by simp [h32]
            have e34 : ((c : Int) == 34) = false := by simp; omega
            have e92 : ((c : Int) == 92) = false := by simp; omega
            have HS32 := Lib.hid h32
            have HS34 := Lib.hid (show ¬ c = 34 by omega)
            have HS92 := Lib.hid (show ¬ c = 92 by omega)
            clear h32
            have HWS := Lib.hid (HW.out.trans (by simp [WS.step, WM.step, HS32.out, HS34.out, HS92.out]) : wsRun ws0 (rs.take (k + 1)) = some ⟨out ++ [(rs.take k).drop j], [], .gap⟩)
            go_wp2_with (at_builtin; refine appE rfl _ _ 22 rfl 9 i1 (.string ByteArray.empty) 1 16 Tryd.underlying22 hj hy0 hy1 hy2 rfl (by omega) (w1.heap.size + 1) _ _ _ rfl HOU2.out w1.heap.size (by omega) HBE2.out (by have := HIS.out; have := HIL.out; omega) [.string (s.extract pj pk)] 1 rfl (by omega) (by intro u hu; simp at hu; subst hu; rfl) rfl (by have := HDL.out; omega) (by omega) ?_)
            refine Lib.hid ?_
            intro v4 w4 hown4 hbel4 hgrow4
            have HB4 := Lib.hid hbel4
            have HO4 := Lib.hid hown4
            have HI4 := Lib.hid (iter_grown hgrow4 HIT2.out (fun k hk => by have := (HOU2.out.lt k hk).1; omega))
            clear hown4 hbel4 hgrow4
            go_wp2_with fail
            go_roundw
            case rel =>
              refine ⟨k + 1, ⟨out ++ [(rs.take k).drop j], [], .gap⟩, by omega, by rw [HOF1.out]; exact HI4.out, HB4.out, ?_, HWS.out, .inl ⟨rfl, rfl, rfl, rfl, rfl, rfl⟩⟩
              have := HO4.out
              rw [HXJ.out, strRow_snoc, fieldTexts_snoc] at this
              show OwnE _ _ _ _ _ (out ++ [(rs.take k).drop j]).length _
              rw [List.length_append]
              exact .inr this
            case measure => rw [HPO.out]; have := HI4.out; simp only [World.iterPos, this]; exact HME.out
          · have e32 : ((c : Int) == 32) = false := by simp; omega
            have HS32 := Lib.hid h32
            have HS34 := Lib.hid True.intro
            have HS92 := Lib.hid True.intro
            clear h32
            have HWS := Lib.hid (HST.out (by simp [WS.step, WM.step, HS32.out, HS34.out, HS92.out]))
            have c3 := HER2.out.form
            go_wp2_with fail
            go_quiet (fail)
            go_wp2_with fail
            go_ret2
            exact ⟨below_drewN (HB1.out.trans (HBE2.out.mono HB1.out.size)) _, .inr ⟨HWS.out, rfl⟩⟩
    · obtain rfl : k = rs.length := by omega
      have hnx := HE.out wr w1.heap.size HIT.out
      have HC2 := Lib.hid (wordsL_end (by have := HC.out; rwa [List.take_length] at this))
      rcases HSL.out with ⟨rfl, rfl, rfl, rfl, rfl, hcur⟩ | ⟨j, hjk, rfl, hcur, hsl⟩
      · have HCU := Lib.hid hcur
        clear hcur
        go_wp2_with fail
        go_ret2
        exact ⟨HB1.out.trans (HBE.out.mono HB1.out.size), .inl ⟨out, _, HC2.out, rfl, HOU.out.base (by have := HB1.out.size; omega)⟩⟩
      · obtain rfl : cur = (rs.take rs.length).drop j := hcur
        have hjo := HM.out j rs.length (by omega)
        have HXJ := Lib.hid (HX.out j rs.length (by omega))
        rw [HA.out] at hjo
        generalize hoj : off rs j = pj at *
        have HOJ := Lib.hid hoj
        clear hoj
        rcases hsl with ⟨rfl, rfl, rfl, rfl⟩ | ⟨rfl, rfl, rfl, rfl⟩ | ⟨rfl, rfl, rfl, rfl⟩ | ⟨rfl, rfl, rfl, rfl⟩
        · go_wp2_with (at_builtin; refine appE rfl _ _ 22 rfl 9 i1 (.string ByteArray.empty) 1 16 Tryd.underlying22 hj hy0 hy1 hy2 rfl (by omega) (w1.heap.size + 1) _ _ _ rfl HOU.out w1.heap.size (by omega) HBE.out (by have := HIL.out; omega) [.string (s.extract pj s.size)] 1 rfl (by omega) (by intro u hu; simp at hu; subst hu; rfl) rfl (by have := HDL.out; omega) (by omega) ?_)
          refine Lib.hid ?_
          intro v4 w4 hown4 hbel4 hgrow4
          have HB4 := Lib.hid hbel4
          have HO4 := Lib.hid hown4
          clear hown4 hbel4 hgrow4
          go_wp2_with fail
          go_ret2
          refine ⟨HB1.out.trans (HB4.out.mono HB1.out.size), .inl ⟨out ++ [(rs.take rs.length).drop j], v4, HC2.out, rfl, ?_⟩⟩
          have h2 := HO4.out
          have h3 := HXJ.out
          rw [HA.out] at h3
          rw [h3, strRow_snoc, fieldTexts_snoc] at h2
          rw [List.length_append]
          exact .inr (own_base h2 (by have := HB1.out.size; omega))
        · have c3 := HER.out.form
          go_wp2_with fail
          go_quiet (fail)
          go_wp2_with fail
          go_ret2
          exact ⟨below_drewN (HB1.out.trans (HBE.out.mono HB1.out.size)) _, .inr ⟨HC2.out, rfl⟩⟩
        · have c3 := HER.out.form
          go_wp2_with fail
          go_quiet (fail)
          go_wp2_with fail
          go_ret2
          exact ⟨below_drewN (HB1.out.trans (HBE.out.mono HB1.out.size)) _, .inr ⟨HC2.out, rfl⟩⟩
        · go_wp2_with (at_builtin; refine appE rfl _ _ 22 rfl 9 i1 (.string ByteArray.empty) 1 16 Tryd.underlying22 hj hy0 hy1 hy2 rfl (by omega) (w1.heap.size + 1) _ _ _ rfl HOU.out w1.heap.size (by omega) HBE.out (by have := HIL.out; omega) [.string (s.extract pj s.size)] 1 rfl (by omega) (by intro u hu; simp at hu; subst hu; rfl) rfl (by have := HDL.out; omega) (by omega) ?_)
          refine Lib.hid ?_
          intro v4 w4 hown4 hbel4 hgrow4
          have HB4 := Lib.hid hbel4
          have HO4 := Lib.hid hown4
          clear hown4 hbel4 hgrow4
          go_wp2_with fail
          go_ret2
          refine ⟨HB1.out.trans (HB4.out.mono HB1.out.size), .inl ⟨out ++ [(rs.take rs.length).drop j], v4, HC2.out, rfl, ?_⟩⟩
          have h2 := HO4.out
          have h3 := HXJ.out
          rw [HA.out] at h3
          rw [h3, strRow_snoc, fieldTexts_snoc] at h2
          rw [List.length_append]
          exact .inr (own_base h2 (by have := HB1.out.size; omega))
end Go.Proofs.YtjhmehmmpfnnkaaDoor

namespace Go.Proofs.YtjhmehmmpfnnkaaDoor
open Go.RowKit Utf
set_option maxRecDepth 100000
set_option linter.unusedSimpArgs false
set_option linter.unusedVariables false

/-- What a line tells, without what follows the fields. -/
structure PW where
  kind : Int
  who : Int
  n : Int
  fresh : Int
  ekind : Int
  shard : Int
  other : Int
  server : Int
  ekey : List Nat
  key : List Nat
  lo : List Nat
  hi : List Nat

def PW.setN (p : PW) (v : Int) : Fld → PW
  | .who => { p with who := v }
  | .n => { p with n := v }
  | .fresh => { p with fresh := v }
  | .shard => { p with shard := v }
  | .other => { p with other := v }
  | .server => { p with server := v }
  | _ => p
def PW.setS (p : PW) (v : List Nat) : Fld → PW
  | .key => { p with key := v }
  | .lo => { p with lo := v }
  | .hi => { p with hi := v }
  | .ekey => { p with ekey := v }
  | _ => p
def PW.getN (p : PW) : Fld → Int
  | .who => p.who
  | .n => p.n
  | .fresh => p.fresh
  | .shard => p.shard
  | .other => p.other
  | .server => p.server
  | _ => 0
def PW.getS (p : PW) : Fld → List Nat
  | .key => p.key
  | .lo => p.lo
  | .hi => p.hi
  | .ekey => p.ekey
  | _ => []
def PW.zero : PW := ⟨0, 0, 0, 0, 0, 0, 0, 0, [], [], [], []⟩

/-- The cells of a world's op. -/
def wCells (p : PW) (vo vg : Value) : Array Value :=
  #[.int .i64 p.kind, .int .i64 p.who, .int .i64 p.n, .int .i64 p.fresh, vo, .int .i64 p.ekind, .int .i64 p.shard, .int .i64 p.other, .int .i64 p.server, .int .i64 0, .int .i64 0, .slice none 0 0, txt p.ekey,
    .int .i64 0, .int .i64 0, .int .i64 0, .slice none 0 0, txt p.key, txt p.lo, txt p.hi, vg, .int .u64 0, .int .i64 0, .int .i64 0]

theorem wCells_setN (p : PW) (vo vg : Value) (f : Fld) (hf : isNum f = true) (v : Int) : (wCells p vo vg).setIfInBounds (offF f) (.int .i64 v) = wCells (p.setN v f) vo vg := by
  cases f <;> first | rfl | cases hf
theorem wCells_setS (p : PW) (vo vg : Value) (f : Fld) (hf : isNum f = false) (v : List Nat) : (wCells p vo vg).setIfInBounds (offF f) (txt v) = wCells (p.setS v f) vo vg := by
  cases f <;> first | rfl | cases hf
theorem wCells_getN (p : PW) (vo vg : Value) (f : Fld) (hf : isNum f = true) : (wCells p vo vg)[offF f]? = some (.int .i64 (p.getN f)) := by
  cases f <;> first | rfl | cases hf
theorem wCells_getS (p : PW) (vo vg : Value) (f : Fld) (hf : isNum f = false) : (wCells p vo vg)[offF f]? = some (txt (p.getS f)) := by
  cases f <;> first | rfl | cases hf
theorem wCells_ops (p : PW) (vo vg v : Value) : (wCells p vo vg).setIfInBounds 4 v = wCells p v vg := rfl
theorem wCells_gone (p : PW) (vo vg v : Value) : (wCells p vo vg).setIfInBounds 20 v = wCells p vo v := rfl

/-- The fields are read, one by one. -/
def rdFlds : List Fld → PW → List (List Nat) → Nat → PW × List (List Nat) × Nat
  | [], p, ws, n => (p, ws, n)
  | f :: fs, p, ws, n =>
    if isNum f = true then rdFlds fs (p.setN ((rdNum ws n).1.getD 0) f) (rdNum ws n).2.1 (rdNum ws n).2.2
    else rdFlds fs (p.setS ((rdStr ws n).1.getD []) f) (rdStr ws n).2.1 (rdStr ws n).2.2

/-- Is all of these fields still zero? -/
def Clear (p : PW) (fs : List Fld) : Prop := ∀ f ∈ fs, p.getN f = 0 ∧ p.getS f = []
theorem setN_other (p : PW) (v : Int) {f g : Fld} (h : f ≠ g) : (p.setN v f).getN g = p.getN g ∧ (p.setN v f).getS g = p.getS g := by
  cases f <;> cases g <;> first | exact absurd rfl h | exact ⟨rfl, rfl⟩
theorem setS_other (p : PW) (v : List Nat) {f g : Fld} (h : f ≠ g) : (p.setS v f).getN g = p.getN g ∧ (p.setS v f).getS g = p.getS g := by
  cases f <;> cases g <;> first | exact absurd rfl h | exact ⟨rfl, rfl⟩
theorem Clear.setN {p : PW} {f : Fld} {fs : List Fld} (h : Clear p (f :: fs)) (hn : (f :: fs).Nodup) (v : Int) : Clear (p.setN v f) fs := by
  intro g hg
  have hne : f ≠ g := fun e => by subst e; exact (List.nodup_cons.1 hn).1 hg
  obtain ⟨h1, h2⟩ := setN_other p v hne
  rw [h1, h2]
  exact h g (List.mem_cons_of_mem _ hg)
theorem Clear.setS {p : PW} {f : Fld} {fs : List Fld} (h : Clear p (f :: fs)) (hn : (f :: fs).Nodup) (v : List Nat) : Clear (p.setS v f) fs := by
  intro g hg
  have hne : f ≠ g := fun e => by subst e; exact (List.nodup_cons.1 hn).1 hg
  obtain ⟨h1, h2⟩ := setS_other p v hne
  rw [h1, h2]
  exact h g (List.mem_cons_of_mem _ hg)

/-- What a line tells. -/
structure PL where
  p : PW
  ops : List POp
  gone : List Int

/-- What follows a verb's fields. -/
def restAny (k : Nat) (ws : List (List Nat)) (n : Nat) : List POp × List Int × Nat :=
  if k = 111 then ((restO ws.length ws n).1, [], (restO ws.length ws n).2)
  else if k = 103 then ([], (restG ws.length ws n).1, (restG ws.length ws n).2)
  else ([], [], restN ws n)

/-- What words tell: the error's number, or what it is. -/
def parseW (ws : List (List Nat)) : Nat × Option PL := match ws with
  | [] => (16, none)
  | x :: r => match verbs[verbIdx (encAll x)]? with
    | none => (7, none)
    | some v =>
      let q := rdFlds v.flds { PW.zero with kind := v.kind, ekind := v.ekind } r 0
      let o := restAny v.rest q.2.1 q.2.2
      if o.2.2 = 0 then (0, some ⟨q.1, o.1, o.2.1⟩) else (o.2.2, none)

theorem verbs_nodup : ∀ v ∈ verbs, v.flds.Nodup := by decide
theorem verbs_rest : ∀ v ∈ verbs, v.rest = 111 ∨ v.rest = 103 ∨ v.rest = 0 := by decide
theorem letP_ok (f : Fld) : okR (letP f) = true := by cases f <;> decide +kernel

theorem results_cell_tmp {P : Program} {fn : Func} {p q : Tmp} {ty : TypeId} (h : fn.results = #[.cell p ty, .tmp q]) (tmps : Array Value) (w : World) (g : Nat) (t : TypeId) (cs : Array Value) (fr : Nat × Nat) (d : TypeDesc)
    (hp : tmps.getD p undef = .pointer (some ⟨g, 0, none⟩)) (hg : w.heap[g]? = some (.cells cs t fr))
    (hu : P.underlying ty = some d) (hd : (match d with | .struct _ | .array _ _ => true | _ => false) = true) (hi : (P.info? ty).map (·.size) = some cs.size) :
    (results fn tmps).run P w = .ok (.tuple #[.agg cs, tmps.getD q undef]) w := by
  have hp' : tmps[p]?.getD undef = .pointer (some ⟨g, 0, none⟩) := by simpa using hp
  simp [results, h, hp', asAddr, run_loadVar_row w g t ty cs fr d hg hu hd hi]
end Go.Proofs.YtjhmehmmpfnnkaaDoor

namespace Go.Proofs.YtjhmehmmpfnnkaaDoor
open Go.RowKit Utf
set_option maxRecDepth 100000
set_option linter.unusedSimpArgs false
set_option linter.unusedVariables false

theorem Blk.putAll {w : World} {g : Nat} {t : TypeId} : ∀ (vs : List Value) (o : Nat) (w : World) (cs : Array Value), Blk w g t cs → o + vs.length = cs.size → Blk (w.setCells g o vs) g t (cs.toList.take o ++ vs).toArray
  | [], o, w, cs, h, hl => by
    have e : (cs.toList.take o ++ []).toArray = cs := by
      rw [List.append_nil, List.take_of_length_le (by simp at hl; simp; omega)]
    rw [e]
    exact h
  | v :: r, o, w, cs, h, hl => by
    have h1 := h.put o v
    have h2 := Blk.putAll (w := w) r (o + 1) (w.setCell ⟨g, o, none⟩ v) (cs.setIfInBounds o v) h1 (by simp at hl ⊢; omega)
    have ho : o < cs.size := by simp at hl; omega
    have e : (cs.setIfInBounds o v).toList.take (o + 1) = cs.toList.take o ++ [v] := by
      rw [Array.toList_setIfInBounds, List.take_add_one, List.take_set_of_le (Nat.le_refl _)]
      congr 1
      rw [List.getElem?_set_self (by simpa using ho)]
      rfl
    rw [e, List.append_assoc] at h2
    exact h2

theorem Only.putAll {S : Nat → Prop} {g : Nat} (hs : S g) : ∀ (vs : List Value) (o : Nat) (a w : World), Only S a w → Only S a (w.setCells g o vs)
  | [], _, _, _, h => h
  | v :: r, o, a, w, h => Only.putAll hs r (o + 1) a _ (h.set (p := ⟨g, o, none⟩) (.inl hs) v)

theorem Blk.there {w : World} {g : Nat} {t : TypeId} {cs : Array Value} (h : Blk w g t cs) (n : Nat) (hn : n ≤ cs.size) : w.there g 0 n := fun j hj => by
  rw [Nat.zero_add]
  refine ⟨?_, h.frozen j⟩
  rw [h.cell j, Array.getElem?_eq_getElem (by omega)]
  rfl

section
variable {P : Program} {ops : Array Oper} {rest : List Oper} {op : Oper} {a : Act} {w : World} {Q : Exit → Act → World → Prop}
theorem wp_store_blk {K : Act → World → Prop} (ty : TypeId) (x y : Operand) (ho : op.op = .store ty x y)
    (g : Nat) (vs : Array Value) (hx : a.eval x = .pointer (some ⟨g, 0, none⟩)) (hy : a.eval y = .agg vs)
    (t : TypeId) (cs : Array Value) (hB : Blk w g t cs) (hsz : vs.size = cs.size) (hi : (P.info? ty).map (·.size) = some vs.size) (h1 : vs.all (·.oneCell') = true)
    (h : ∀ w', Blk w' g t vs → Only (fun k => k = g) w w' → K (a.put op.dst undef) w') : op.wp P a w K Q := by
  refine wp_store_mid ty x y ho g 0 vs hx hy (hB.there _ (Nat.le_of_eq hsz)) hi h1 ?_
  have hb := Blk.putAll (w := w) vs.toList 0 w cs hB (by simp; exact hsz)
  simp only [List.take_zero, List.nil_append, Array.toArray_toList] at hb
  exact h _ hb (Only.putAll (S := fun k => k = g) rfl vs.toList 0 w w (Only.refl _ w))
/-- A whole block is stored, as the one operation of a region that may come up. -/
theorem wpAnyH_store {md : Region.Mode} {S : World → Prop} {fuel : Nat} {listed : Array Bool} {i : Nat} {o : Oper} (hr : Region.ready md ops listed = [i]) (hoi : ops[i]? = some o) (hgd : o.guard = none) (ty : TypeId) (x y : Operand) (ho : o.op = .store ty x y)
    (g : Nat) (vs : Array Value) (hx : a.eval x = .pointer (some ⟨g, 0, none⟩)) (hy : a.eval y = .agg vs)
    (t : TypeId) (cs : Array Value) (hB : Blk w g t cs) (hsz : vs.size = cs.size) (hi : (P.info? ty).map (·.size) = some vs.size) (h1 : vs.all (·.oneCell') = true)
    (h : Hid (∀ w', Blk w' g t vs → Only (fun k => k = g) w w' → S w' ∧ wpAnyH P md ops Q S fuel (listed.setIfInBounds i true) (a.put o.dst undef) w')) : wpAnyH P md ops Q S (fuel + 1) listed a w := by
  refine wpAnyH_all hr (by simp) (fun j hj => ?_)
  obtain rfl : j = i := by simpa using hj
  unfold wpOp
  simp only [hoi]
  have hw : Region.wanted o (yielded ops a.tmps) = true := by simp [Region.wanted, hgd]
  rw [if_pos hw]
  exact .inl (wp_store_blk (K := fun a' w' => S w' ∧ wpAnyH P md ops Q S fuel (listed.setIfInBounds j true) a' w') ty x y ho g vs hx hy t cs hB hsz hi h1 h.out)
/-- A value of all of a block's cells is stored. -/
theorem wpList_store_blk (hgd : op.guard = none) (ty : TypeId) (x y : Operand) (ho : op.op = .store ty x y)
    (g : Nat) (vs : Array Value) (hx : a.eval x = .pointer (some ⟨g, 0, none⟩)) (hy : a.eval y = .agg vs)
    (t : TypeId) (cs : Array Value) (hB : Blk w g t cs) (hsz : vs.size = cs.size) (hi : (P.info? ty).map (·.size) = some vs.size) (h1 : vs.all (·.oneCell') = true)
    (h : Hid (∀ w', Blk w' g t vs → Only (fun k => k = g) w w' → wpList P ops Q rest (a.put op.dst undef) w')) : wpList P ops Q (op :: rest) a w := by
  refine wpList_store_mid hgd ty x y ho g 0 vs hx hy (hB.there _ (Nat.le_of_eq hsz)) hi h1 ?_
  have hb := Blk.putAll (w := w) vs.toList 0 w cs hB (by simp; exact hsz)
  simp only [List.take_zero, List.nil_append, Array.toArray_toList] at hb
  exact h.out _ hb (Only.putAll (S := fun k => k = g) rfl vs.toList 0 w w (Only.refl _ w))
end
end Go.Proofs.YtjhmehmmpfnnkaaDoor

namespace Go.Proofs.YtjhmehmmpfnnkaaDoor
open Go.RowKit Utf
set_option maxRecDepth 100000
set_option linter.unusedSimpArgs false
set_option linter.unusedVariables false

def wZero : Array Value := #[.int .i64 0, .int .i64 0, .int .i64 0, .int .i64 0, .slice none 0 0, .int .i64 0, .int .i64 0, .int .i64 0, .int .i64 0, .int .i64 0, .int .i64 0, .slice none 0 0, .string ByteArray.empty,
    .int .i64 0, .int .i64 0, .int .i64 0, .slice none 0 0, .string ByteArray.empty, .string ByteArray.empty, .string ByteArray.empty, .slice none 0 0, .int .u64 0, .int .i64 0, .int .i64 0]

theorem wZero_one : wZero.all (·.oneCell') = true := by kernel_rfl
theorem Tryd.sizeW : (Tryd.prog.info? 48).map (·.size) = some 24 := by kernel_rfl

set_option maxHeartbeats 4000000 in
theorem parse_bad (ea : Nat → Addr) (s : ByteArray) (rs : List Nat) (w : World) (hs : s.size ≤ 1000000) (ho : allOk rs) (h : s.data.toList = encAll rs) (he : LErr w ea) (hw : wordsL rs = none) :
    Calls Tryd.prog 17 #[.string s] w fun e w' => e = .returned (.tuple #[.agg wZero, errOf ea 4]) ∧ Below w.heap.size w w' := by
  have HW := Lib.hid (fun W he => words_some ea s rs W hs ho h he)
  have hz := Blk.new w 48 wZero
  have HZ := Lib.hid hz
  have HE := Lib.hid (he.only (S := fun _ => False) ((Only.refl _ w).alloc (.cells wZero 48)) (fun _ h => h.elim))
  have HN := Lib.hid hw
  clear h ho he hz hw
  go_enter Tryd.func17, Tryd.ntmps17
  go_wp2_with fail
  refine (HW.out _ HE.out).mono ?_
  rintro e w1 ⟨hb1, hres⟩
  rcases hres with ⟨ws, v, h1, rfl, h3⟩ | ⟨h1, rfl⟩
  · exact absurd (HN.out.symm.trans h1) (by simp)
  have HZ2 := Lib.hid ((HZ.out.below hb1 HZ.out.lt).alloc (.cells #[.slice none 0 0] 22))
  have HO1 := Lib.hid (show Only (fun _ => False) w (w1.alloc (.cells #[.slice none 0 0] 22)) from (((Only.refl _ w).alloc _).trans (Only.below_all hb1)).alloc _)
  clear hb1
  go_wp2_with (refine wpList_store_blk rfl 48 (.tmp 2) (.tmp 20) rfl w.heap.size wZero rfl rfl 48 wZero HZ2.out rfl Tryd.sizeW wZero_one ?_)
  refine Lib.hid ?_
  intro w2 hz2 ho2
  have HZ3 := Lib.hid hz2
  have HO3 := Lib.hid ho2
  clear hz2 ho2
  go_wp2_with fail
  refine bodyPost_ret (results_cell_tmp rfl _ _ w.heap.size 48 wZero (0, 0) _ rfl HZ3.out Tryd.underlying48 rfl Tryd.sizeW) rfl ?_
  exact ⟨rfl, (HO1.out.step HO3.out (fun k hk => .inr (Nat.le_of_eq hk.symm))).to_below (Nat.le_refl _) (fun _ _ h => h)⟩

set_option maxHeartbeats 4000000 in
theorem parse_empty (ea : Nat → Addr) (s : ByteArray) (rs : List Nat) (w : World) (hs : s.size ≤ 1000000) (ho : allOk rs) (h : s.data.toList = encAll rs) (he : LErr w ea) (hw : wordsL rs = some []) :
    Calls Tryd.prog 17 #[.string s] w fun e w' => e = .returned (.tuple #[.agg wZero, errOf ea 16]) ∧ Below w.heap.size w w' := by
  have HW := Lib.hid (fun W he => words_some ea s rs W hs ho h he)
  have hz := Blk.new w 48 wZero
  have HZ := Lib.hid hz
  have HE := Lib.hid (he.only (S := fun _ => False) ((Only.refl _ w).alloc (.cells wZero 48)) (fun _ h => h.elim))
  have HN := Lib.hid hw
  have HEE := Lib.hid he
  clear h ho he hz hw
  go_enter Tryd.func17, Tryd.ntmps17
  go_wp2_with fail
  refine (HW.out _ HE.out).mono ?_
  rintro e w1 ⟨hb1, hres⟩
  rcases hres with ⟨ws, v, h1, rfl, h3⟩ | ⟨h1, rfl⟩
  rotate_left
  · exact absurd (HN.out.symm.trans h1) (by simp)
  obtain rfl : ws = [] := (Option.some.inj (HN.out.symm.trans h1)).symm
  obtain ⟨ao, cap, rfl, -⟩ := h3.row
  have HZ2 := Lib.hid ((HZ.out.below hb1 HZ.out.lt).alloc (.cells #[.slice ao ([] : List (List Nat)).length cap] 22))
  have HO1 := Lib.hid (show Only (fun _ => False) w (w1.alloc (.cells #[.slice ao ([] : List (List Nat)).length cap] 22)) from (((Only.refl _ w).alloc _).trans (Only.below_all hb1)).alloc _)
  have HE2 := Lib.hid ((HE.out.below hb1).only (S := fun _ => False) ((Only.refl _ w1).alloc (.cells #[.slice ao ([] : List (List Nat)).length cap] 22)) (fun _ h => h.elim))
  clear hb1
  simp only [List.length_nil] at HZ2 HO1 HE2 ⊢
  have ke := HE2.out.none
  go_wp2_with fail
  refine wp_region_held_drew (S := fun W => W.cell? ⟨15, 0, none⟩ = some (.iface 163 (.pointer (some (ea 15))))) (by kernel_rfl) ke ?_
  intro hS
  refine wpAnyH_take (i := 0) (v := .agg wZero) rfl (by kernel_rfl) (by kernel_rfl) (by kernel_rfl) (fun _ _ _ h => h) (.inl ⟨by rfl, fun W _ => by kernel_rfl⟩) hS ?_
  refine wpAnyH_take (i := 1) (v := .iface 163 (.pointer (some (ea 15)))) rfl (by kernel_rfl) (by kernel_rfl) (by kernel_rfl) (fun _ _ _ h => h) (.inl ⟨by rfl, fun W hW => by go_simp⟩) hS ?_
  refine wpAnyH_ready (rs := [2]) (by kernel_rfl) (by simp) ?_
  refine AllReadyH.cons rfl (fun K hK => ?_) AllReadyH.nil
  rw [if_pos (by rfl)]
  refine wp_store_blk 48 (.tmp 2) (.tmp 26) rfl w.heap.size wZero rfl rfl 48 wZero (Blk.drewN HZ2.out 1) rfl Tryd.sizeW wZero_one ?_
  intro w2 hz2 ho2
  have HZ3 := Lib.hid hz2
  have HO3 := Lib.hid ho2
  refine hK.out _ _ (ho2.cell hS (fun h => by have := World.block_lt_of_cell? w _ (HEE.out.none); simp only at h this; omega)) (fun hS => ?_)
  clear hK K
  refine wpAnyH_take (i := 3) (v := .iface 163 (.pointer (some (ea 15)))) rfl (by kernel_rfl) (by kernel_rfl) (by kernel_rfl) (fun _ _ _ h => h) (.inl ⟨by rfl, fun W hW => by go_simp⟩) hS ?_
  refine wpAnyH_done (by kernel_rfl) ?_ _
  clear hz2 ho2
  go_wp2_with fail
  refine bodyPost_ret (results_cell_tmp rfl _ _ w.heap.size 48 wZero (0, 0) _ rfl HZ3.out Tryd.underlying48 rfl Tryd.sizeW) rfl ?_
  exact ⟨rfl, (Only.step (Only.drewN HO1.out 1) HO3.out (fun k hk => .inr (Nat.le_of_eq hk.symm))).to_below (Nat.le_refl _) (fun _ _ h => h)⟩
end Go.Proofs.YtjhmehmmpfnnkaaDoor
