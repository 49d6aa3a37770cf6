/-
  The contract of lines.Unquote.
-/
import Derived.Test.YtjhmehmmpfnnkaaDoorLUnq
import Derived.Test.YtjhmehmmpfnnkaaDoorLQuote
import Derived.Test.YtjhmehmmpfnnkaaDoorFCount
import Derived.Test.YtjhmehmmpfnnkaaDoorFCut
namespace Go.Proofs.YtjhmehmmpfnnkaaDoor
open Go.RowKit Utf
set_option maxRecDepth 100000
set_option linter.unusedSimpArgs false
set_option linter.unusedVariables false

/-- What lines.Unquote answers for a right text. -/
def UnquotePost (ea : Nat → Addr) (rs : List Nat) (w : World) (e : Ending) (w' : World) : Prop :=
  Below w.heap.size w w' ∧ ((∃ t, unquoteL rs = some t ∧ e = .returned (.tuple #[.string (mkS (encAll t)), .nilIface])) ∨
    (unquoteL rs = none ∧ e = .returned (.tuple #[.string ByteArray.empty, .iface 163 (.pointer (some (ea 3)))])))

theorem unquote_none (ea : Nat → Addr) (s : ByteArray) (w : World) (hs : s.size ≤ maxLen) (hd : dec s.data.toList = none) (he : LErr w ea) :
    Calls Tryd.prog 12 #[.string s] w fun e w' => e = .returned (.tuple #[.string ByteArray.empty, .iface 163 (.pointer (some (ea 5)))]) ∧ Below w.heap.size w w' := by
  have HD := Lib.hid hd
  have HE := Lib.hid he
  clear hd he
  go_enter Tryd.func12, Tryd.ntmps12
  go_wp2_with fail
  refine (right_any _ _ hs).mono ?_
  rintro e w1 ⟨rfl, hb1⟩
  rw [HD.out]
  have c5 := (HE.out.below hb1).rune
  go_wp2_with fail
  go_quiet (fail)
  go_wp2_with fail
  go_ret2
  exact ⟨rfl, below_drewN hb1 _⟩

set_option maxHeartbeats 4000000 in
theorem unquote_some (ea : Nat → Addr) (s : ByteArray) (rs : List Nat) (w : World) (hs : s.size ≤ 1000000) (ho : allOk rs) (h : s.data.toList = encAll rs) (he : LErr w ea) :
    Calls Tryd.prog 12 #[.string s] w (UnquotePost ea rs w) := by
  obtain ⟨i1, hj, hy0, hy1, hy2⟩ := info_parts Tryd.infoRune
  have hs' : s.size ≤ maxLen := by unfold maxLen; omega
  have hd := dec_encAll ho
  rw [← h] at hd
  have hl := len_le h
  have hrl : rs.length ≤ 1000000 := by omega
  have hes : (encAll rs).length ≤ 1000000 := by rw [← h, ← Lib.size_eq]; exact hs
  have HEA := Lib.hid he
  have HD := Lib.hid hd
  have HR := Lib.hid (fun W => right_any s W hs')
  have HC := Lib.hid (fun W => count_some s rs W hs ho h)
  have HF := Lib.hid (fun W => first_some s rs 1 W hs ho h (by omega))
  rw [show (1 : Int).toNat = 1 from rfl] at HF
  have HRL := Lib.hid (fun W => rest_some s rs ((rs.length : Int) - 1) W hs ho h (by omega))
  have HR1 := Lib.hid (fun W => rest_some s rs 1 W hs ho h (by omega))
  rw [show (1 : Int).toNat = 1 from rfl] at HR1
  have HF2 := Lib.hid (fun W (h2 : 2 ≤ rs.length) => first_some (mkS (encAll (rs.drop 1))) (rs.drop 1) ((rs.length : Int) - 2) W (by rw [mkS_size]; have := encAll_drop_le rs 1; omega) (allOk_drop ho 1) rfl (by omega))
  have ht1 : (!(mkS (encAll (rs.take 1))).toList == [34]) = !decide (rs.take 1 = [34]) := by rw [text34 (allOk_take ho 1)]
  have ht2 : (!(mkS (encAll (rs.drop (rs.length - 1)))).toList == [34]) = !decide (rs.drop (rs.length - 1) = [34]) := by rw [text34 (allOk_drop ho _)]
  have HT1 := Lib.hid ht1
  have HT2 := Lib.hid ht2
  have HO := Lib.hid ho
  clear hd h he hl ht1 ht2 ho
  by_cases hn : rs.length < 2
  · have hn' : (rs.length : Int) < 2 := by omega
    have hn2 : decide ((rs.length : Int) < 2) = true := decide_eq_true hn'
    have HU := Lib.hid (unquoteL_bad (.inl hn))
    clear hn
    go_enter Tryd.func12, Tryd.ntmps12
    go_wp2_with fail
    refine (HR.out _).mono ?_
    rintro e w1 ⟨rfl, hb1⟩
    rw [HD.out]
    have HB1 := Lib.hid hb1
    clear hb1
    go_wp2_with fail
    refine (HC.out _).mono ?_
    rintro e w2 ⟨rfl, hb2⟩
    have HB2 := Lib.hid (HB1.out.trans (hb2.mono HB1.out.size))
    clear hb2
    have c3 := (HEA.out.below HB2.out).form
    go_wp2_with fail
    go_quiet (fail)
    go_wp2_with fail
    go_ret2
    exact ⟨below_drewN HB2.out _, .inr ⟨HU.out, rfl⟩⟩
  · have hn' : ¬ (rs.length : Int) < 2 := by omega
    have hn2 : decide ((rs.length : Int) < 2) = false := decide_eq_false hn'
    have h2l : 2 ≤ rs.length := by omega
    clear hn
    by_cases h1 : rs.head? = some 34
    · have hq1 : (!(mkS (encAll (rs.take 1))).toList == [34]) = false := by rw [HT1.out, decide_eq_true ((head34 h2l).2 h1)]; rfl
      have H1 := Lib.hid h1
      clear h1
      have htn : ((rs.length : Int) - 1).toNat = rs.length - 1 := by omega
      have htn2 : ((rs.length : Int) - 2).toNat = rs.length - 2 := by omega
      rw [htn] at HRL
      rw [htn2] at HF2
      clear htn htn2
      have HF2' := Lib.hid (fun W => HF2.out W h2l)
      clear HF2
      by_cases h2 : rs.getLast? = some 34
      · have hq2 : (!(mkS (encAll (rs.drop (rs.length - 1)))).toList == [34]) = false := by rw [HT2.out, decide_eq_true ((last34 h2l).2 h2)]; rfl
        have HU := Lib.hid (unquoteL_mid h2l H1.out h2)
        clear h2
        have hmo := allOk_take (allOk_drop HO.out 1) (rs.length - 2)
        have hml : (encAll ((rs.drop 1).take (rs.length - 2))).length ≤ 1000000 := Nat.le_trans (Nat.le_trans (encAll_take_le _ _) (encAll_drop_le _ _)) hes
        generalize hmid : (rs.drop 1).take (rs.length - 2) = mid at *
        have HMID := Lib.hid hmid
        clear hmid
        have hmid2 : (mkS (encAll mid)).data.toList = encAll mid := rfl
        have hsz : (mkS (encAll mid)).size ≤ 1000000 := by rw [mkS_size]; exact hml
        have hlen : mid.length ≤ 1000000 := Nat.le_trans (encAll_len mid) hml
        generalize hsm : mkS (encAll mid) = sm at *
        have HSM := Lib.hid hsm
        clear hsm
        have HN := Lib.hid (fun (w : World) b k hb hk ty => next_at (P := Tryd.prog) hmo hmid2 w b k hb hk ty)
        have HE := Lib.hid (fun (w : World) b hb ty => next_at_end (P := Tryd.prog) hmid2 w b hb ty)
        have HME0 := Lib.hid (off_pos_lt hmid2)
        clear hmid2 hmo hml
        generalize hsr : mkS (encAll (rs.drop 1)) = sr at *
        clear hsr
        go_enter Tryd.func12, Tryd.ntmps12
        go_wp2_with fail
        refine (HR.out _).mono ?_
        rintro e w1 ⟨rfl, hb1⟩
        rw [HD.out]
        have HB1 := Lib.hid hb1
        clear hb1
        go_wp2_with fail
        refine (HC.out _).mono ?_
        rintro e w2 ⟨rfl, hb2⟩
        have HB2 := Lib.hid (HB1.out.trans (hb2.mono HB1.out.size))
        clear hb2
        go_wp2_with fail
        refine (HF.out _).mono ?_
        rintro e w3 ⟨rfl, hb3⟩
        have HB3 := Lib.hid (HB2.out.trans (hb3.mono HB2.out.size))
        clear hb3
        go_wp2_with fail
        refine (HRL.out _).mono ?_
        rintro e w4 ⟨rfl, hb4⟩
        have HB4 := Lib.hid (HB3.out.trans (hb4.mono HB3.out.size))
        clear hb4
        go_wp2_with fail
        refine (HR1.out _).mono ?_
        rintro e w5 ⟨rfl, hb5⟩
        have HB5 := Lib.hid (HB4.out.trans (hb5.mono HB4.out.size))
        clear hb5
        go_wp2_with fail
        (with_reducible refine (HF2'.out _).mono ?_)
        rintro e w6 ⟨rfl, hb6⟩
        have HB6 := Lib.hid (HB5.out.trans (hb6.mono HB5.out.size))
        have HE6 := Lib.hid (HEA.out.below HB6.out)
        clear hb6 HB5 HB4 HB3 HB2 HB1
        go_wp2_with fail
        go_loopw [5, 6] (fun vo vq wr => ∃ (k : Nat) (esc : Bool) (acc : List Nat), k ≤ mid.length ∧ vq = .bool esc ∧ wr.heap[w6.heap.size]? = some (.stringIter sm (off mid k)) ∧ Below w6.heap.size w6 wr ∧ OwnE wr (w6.heap.size + 1) 21 1 vo acc.length (runeRow acc) ∧ Hid (uqRun (false, []) (mid.take k) = some (esc, acc))) (fun _ _ wr => sm.size - wr.iterPos w6.heap.size)
        case atStart => exact ⟨0, false, [], Nat.zero_le _, rfl, iter_new _ _ _, (Below.refl _ _).alloc (Nat.le_refl _) _, .nil, rfl⟩
        case round =>
          obtain ⟨k, esc, acc, hk, rfl, hit, hbel, hout, HC⟩ := hrel
          have HAL := Lib.hid (show acc.length ≤ 1000000 by have := uqRun_len _ _ _ HC.out; simp at this; omega)
          have HOU := Lib.hid hout
          have HBE := Lib.hid hbel
          have HIT := Lib.hid hit
          have HIL := Lib.hid ((Array.getElem?_eq_some_iff.1 hit).1)
          have HPO := Lib.hid (show wr.iterPos w6.heap.size = off mid k by simp [World.iterPos, hit])
          clear hout hbel hit
          by_cases hlt : k < mid.length
          · have hnx := HN.out wr w6.heap.size k HIT.out hlt
            have HRT := Lib.hid (uqRun_take hlt HC.out)
            have HST := Lib.hid (fun h => unq_stop hlt HC.out h)
            have HME := Lib.hid (HME0.out k hlt)
            generalize mid[k] = c at *
            generalize hoff1 : off mid (k + 1) = p1 at *
            have HOF1 := Lib.hid hoff1
            clear hoff1
            have HIT2 := Lib.hid (Lib.iterAt_heap wr w6.heap.size sm (off mid k) p1 HIT.out)
            have HBE2 := Lib.hid (below_iter HBE.out (Nat.le_refl _) sm p1)
            have HOU2 := Lib.hid (HOU.out.iterAt' HIT.out p1)
            have HIS := Lib.hid (Lib.iterAt_size wr w6.heap.size sm p1)
            generalize hw2 : wr.iterAt w6.heap.size sm p1 = w7 at *
            have HW2 := Lib.hid hw2
            clear hw2
            have HER2 := Lib.hid (HE6.out.below HBE2.out)
            have HSZ2 := Lib.hid (show w6.heap.size + 1 ≤ w7.heap.size by have := HIS.out; have := HIL.out; omega)
            cases esc with
            | true =>
              by_cases hq : c = 34 ∨ c = 92
              · have HCS := Lib.hid (HRT.out.trans (by simp [uqStep, hq]) : uqRun (false, []) (mid.take (k + 1)) = some (false, acc ++ [c]))
                have hbq : badQ c = false := by rcases hq with rfl | rfl <;> rfl
                have HBQ := Lib.hid hbq
                clear hbq
                have hb0 : (c : Int) = 34 ∨ (c : Int) = 92 := by omega
                clear hq
                have hgo : (((c : Int) == 34) = true ∧ ((c : Int) != 34) = false) ∨ (((c : Int) == 34) = false ∧ ((c : Int) != 34) = true ∧ ((c : Int) != 92) = false) := by
                  rcases hb0 with h | h <;> simp [h]
                clear hb0
                rcases hgo with ⟨e34, e34'⟩ | ⟨e34, e34', e92'⟩
                all_goals
                  go_wp2_with fail
                  refine (plain_of c false _ HBQ.out).mono ?_
                  rintro e w8 ⟨rfl, rfl⟩
                  go_wp2_with (at_builtin; refine appE rfl _ _ 66 rfl 21 i1 (.int .i32 0) 1 4 Tryd.underlying66 hj hy0 hy1 hy2 rfl (by omega) (w6.heap.size + 1) _ _ _ rfl HOU2.out w6.heap.size (by omega) HBE2.out HSZ2.out [.int .i32 (c : Int)] 1 rfl (by omega) (by intro u hu; simp at hu; subst hu; rfl) rfl (by have := HAL.out; omega) (by omega) ?_)
                  refine Lib.hid ?_
                  intro v9 w9 hown9 hbel9 hgrow9
                  have HB9 := Lib.hid hbel9
                  have HO9 := Lib.hid (own_rune1 (c := c) rfl rfl rfl hown9)
                  have HI9 := Lib.hid (iter_grownE HOU2.out hgrow9 HIT2.out)
                  clear hown9 hbel9 hgrow9
                  go_wp2_with fail
                  go_roundw
                  case rel => exact ⟨k + 1, false, acc ++ [c], by omega, rfl, by rw [HOF1.out]; exact HI9.out, HB9.out, .inr HO9.out, HCS.out⟩
                  case measure => rw [HPO.out]; have := HI9.out; simp only [World.iterPos, this]; exact HME.out
              · have HNO := Lib.hid (HST.out (by simp [uqStep, hq]))
                have e34 : ((c : Int) == 34) = false := by simp; omega
                have e92 : ((c : Int) == 92) = false := by simp; omega
                have e34' : ((c : Int) != 34) = true := by simp; omega
                have e92' : ((c : Int) != 92) = true := by simp; omega
                clear hq
                have c3 := HER2.out.form
                go_wp2_with fail
                go_quiet (fail)
                go_wp2_with fail
                go_ret2
                exact ⟨below_drewN (HB6.out.trans (HBE2.out.mono HB6.out.size)) _, .inr ⟨HU.out.trans HNO.out, rfl⟩⟩
            | false =>
              by_cases hq : c = 34
              · have HNO := Lib.hid (HST.out (by simp [uqStep, hq]))
                have e34 : ((c : Int) == 34) = true := by simp; omega
                clear hq
                have c3 := HER2.out.form
                go_wp2_with fail
                go_quiet (fail)
                go_wp2_with fail
                go_ret2
                exact ⟨below_drewN (HB6.out.trans (HBE2.out.mono HB6.out.size)) _, .inr ⟨HU.out.trans HNO.out, rfl⟩⟩
              · have e34 : ((c : Int) == 34) = false := by simp; omega
                cases hbq : badQ c with
                | true =>
                  have HNO := Lib.hid (HST.out (by simp [uqStep, hbq]))
                  have HBQ := Lib.hid hbq
                  clear hbq hq
                  go_wp2_with fail
                  refine (plain_of c true _ HBQ.out).mono ?_
                  rintro e w8 ⟨rfl, rfl⟩
                  have c3 := HER2.out.form
                  go_wp2_with fail
                  go_quiet (fail)
                  go_wp2_with fail
                  go_ret2
                  exact ⟨below_drewN (HB6.out.trans (HBE2.out.mono HB6.out.size)) _, .inr ⟨HU.out.trans HNO.out, rfl⟩⟩
                | false =>
                  by_cases hx : c = 92
                  · have HCS := Lib.hid (HRT.out.trans (by simp [uqStep, hq, hbq, hx, badQ]) : uqRun (false, []) (mid.take (k + 1)) = some (true, acc))
                    have HBQ := Lib.hid hbq
                    have e92 : ((c : Int) == 92) = true := by simp; omega
                    clear hbq hq hx
                    go_wp2_with fail
                    refine (plain_of c false _ HBQ.out).mono ?_
                    rintro e w8 ⟨rfl, rfl⟩
                    go_wp2_with fail
                    go_roundw
                    case rel => exact ⟨k + 1, true, acc, by omega, rfl, by rw [HOF1.out]; exact HIT2.out, HBE2.out, HOU2.out, HCS.out⟩
                    case measure => rw [HPO.out]; have := HIT2.out; simp only [World.iterPos, this]; exact HME.out
                  · have HCS := Lib.hid (HRT.out.trans (by simp [uqStep, hq, hbq, hx]) : uqRun (false, []) (mid.take (k + 1)) = some (false, acc ++ [c]))
                    have HBQ := Lib.hid hbq
                    have e92 : ((c : Int) == 92) = false := by simp; omega
                    clear hbq hq hx
                    go_wp2_with fail
                    refine (plain_of c false _ HBQ.out).mono ?_
                    rintro e w8 ⟨rfl, rfl⟩
                    go_wp2_with (at_builtin; refine appE rfl _ _ 66 rfl 21 i1 (.int .i32 0) 1 4 Tryd.underlying66 hj hy0 hy1 hy2 rfl (by omega) (w6.heap.size + 1) _ _ _ rfl HOU2.out w6.heap.size (by omega) HBE2.out HSZ2.out [.int .i32 (c : Int)] 1 rfl (by omega) (by intro u hu; simp at hu; subst hu; rfl) rfl (by have := HAL.out; omega) (by omega) ?_)
                    refine Lib.hid ?_
                    intro v9 w9 hown9 hbel9 hgrow9
                    have HB9 := Lib.hid hbel9
                    have HO9 := Lib.hid (own_rune1 (c := c) rfl rfl rfl hown9)
                    have HI9 := Lib.hid (iter_grownE HOU2.out hgrow9 HIT2.out)
                    clear hown9 hbel9 hgrow9
                    go_wp2_with fail
                    go_roundw
                    case rel => exact ⟨k + 1, false, acc ++ [c], by omega, rfl, by rw [HOF1.out]; exact HI9.out, HB9.out, .inr HO9.out, HCS.out⟩
                    case measure => rw [HPO.out]; have := HI9.out; simp only [World.iterPos, this]; exact HME.out
          · obtain rfl : k = mid.length := by omega
            have hnx := HE.out wr w6.heap.size HIT.out
            have HFI := Lib.hid (unq_end (by have := HC.out; rwa [List.take_length] at this))
            have HER2 := Lib.hid (HE6.out.below HBE.out)
            cases esc with
            | true =>
              have c3 := HER2.out.form
              go_wp2_with fail
              go_quiet (fail)
              go_wp2_with fail
              go_ret2
              exact ⟨below_drewN (HB6.out.trans (HBE.out.mono HB6.out.size)) _, .inr ⟨HU.out.trans HFI.out, rfl⟩⟩
            | false =>
              have hcv := convE_runes (P := Tryd.prog) (src := 66) (dst := 9) HOU.out Tryd.underlying66 Tryd.underlying21 Tryd.underlying9
              go_wp2_with fail
              go_ret2
              exact ⟨HB6.out.trans (HBE.out.mono HB6.out.size), .inl ⟨_, HU.out.trans HFI.out, rfl⟩⟩
      · have hq2 : (!(mkS (encAll (rs.drop (rs.length - 1)))).toList == [34]) = true := by rw [HT2.out, decide_eq_false (fun h => h2 ((last34 h2l).1 h))]; rfl
        have HU := Lib.hid (unquoteL_bad (.inr (.inr h2)))
        clear h2
        go_enter Tryd.func12, Tryd.ntmps12
        go_wp2_with fail
        refine (HR.out _).mono ?_
        rintro e w1 ⟨rfl, hb1⟩
        rw [HD.out]
        have HB1 := Lib.hid hb1
        clear hb1
        go_wp2_with fail
        refine (HC.out _).mono ?_
        rintro e w2 ⟨rfl, hb2⟩
        have HB2 := Lib.hid (HB1.out.trans (hb2.mono HB1.out.size))
        clear hb2
        go_wp2_with fail
        refine (HF.out _).mono ?_
        rintro e w3 ⟨rfl, hb3⟩
        have HB3 := Lib.hid (HB2.out.trans (hb3.mono HB2.out.size))
        clear hb3
        go_wp2_with fail
        refine (HRL.out _).mono ?_
        rintro e w4 ⟨rfl, hb4⟩
        have HB4 := Lib.hid (HB3.out.trans (hb4.mono HB3.out.size))
        clear hb4
        have c3 := (HEA.out.below HB4.out).form
        go_wp2_with fail
        go_quiet (fail)
        go_wp2_with fail
        go_ret2
        exact ⟨below_drewN HB4.out _, .inr ⟨HU.out, rfl⟩⟩
    · have hq1 : (!(mkS (encAll (rs.take 1))).toList == [34]) = true := by rw [HT1.out, decide_eq_false (fun h => h1 ((head34 h2l).1 h))]; rfl
      have HU := Lib.hid (unquoteL_bad (.inr (.inl h1)))
      clear h1
      go_enter Tryd.func12, Tryd.ntmps12
      go_wp2_with fail
      refine (HR.out _).mono ?_
      rintro e w1 ⟨rfl, hb1⟩
      rw [HD.out]
      have HB1 := Lib.hid hb1
      clear hb1
      go_wp2_with fail
      refine (HC.out _).mono ?_
      rintro e w2 ⟨rfl, hb2⟩
      have HB2 := Lib.hid (HB1.out.trans (hb2.mono HB1.out.size))
      clear hb2
      go_wp2_with fail
      refine (HF.out _).mono ?_
      rintro e w3 ⟨rfl, hb3⟩
      have HB3 := Lib.hid (HB2.out.trans (hb3.mono HB2.out.size))
      clear hb3
      have c3 := (HEA.out.below HB3.out).form
      go_wp2_with fail
      go_quiet (fail)
      go_wp2_with fail
      go_ret2
      exact ⟨below_drewN HB3.out _, .inr ⟨HU.out, rfl⟩⟩
end Go.Proofs.YtjhmehmmpfnnkaaDoor
