/-
  The contract of lines.Unquote.
  The contract of (*lines.reader).read: a number's field, a text's field.
  Plain: the verbs of a line, and the program's table of them.
-/
import Derived.Test.YtjhmehmmpfnnkaaDoorM04
import Derived.Test.YtjhmehmmpfnnkaaDoorM05
import Derived.Deep.MidRow
namespace Go.Proofs.YtjhmehmmpfnnkaaDoor
open Go.RowKit Utf
set_option maxRecDepth 100000
set_option linter.unusedSimpArgs false
set_option linter.unusedVariables false

/-- What lines.Unquote answers for a right text. -/
def UnquotePost (ea : Nat → Addr) (rs : List Nat) (w : World) (e : Ending) (w' : World) : Prop :=
  Below w.heap.size w w' ∧ ((∃ t, unquoteL rs = some t ∧ e = .returned (.tuple #[.string (mkS (encAll t)), .nilIface])) ∨
    (unquoteL rs = none ∧ e = .returned (.tuple #[.string ByteArray.empty, .iface 163 (.pointer (some (ea 3)))])))

theorem unquote_none (ea : Nat → Addr) (s : ByteArray) (w : World) (hs : s.size ≤ maxLen) (hd : dec s.data.toList = none) (he : LErr w ea) :
    Calls Tryd.prog 12 #[.string s] w fun e w' => e = .returned (.tuple #[.string ByteArray.empty, .iface 163 (.pointer (some (ea 5)))]) ∧ Below w.heap.size w w' := by
  have HD := Lib.hid hd
  have HE := Lib.hid he
  clear hd he
  go_enter Tryd.func12, Tryd.ntmps12
  go_wp2_with fail
  refine (right_any _ _ hs).mono ?_
  rintro e w1 ⟨rfl, hb1⟩
  rw [HD.out]
  have c5 := (HE.out.below hb1).rune
  go_wp2_with fail
  go_quiet (fail)
  go_wp2_with fail
  go_ret2
  exact ⟨rfl, below_drewN hb1 _⟩

set_option maxHeartbeats 4000000 in
theorem unquote_some (ea : Nat → Addr) (s : ByteArray) (rs : List Nat) (w : World) (hs : s.size ≤ 1000000) (ho : allOk rs) (h : s.data.toList = encAll rs) (he : LErr w ea) :
    Calls Tryd.prog 12 #[.string s] w (UnquotePost ea rs w) := by
  obtain ⟨i1, hj, hy0, hy1, hy2⟩ := info_parts Tryd.infoRune
  have hs' : s.size ≤ maxLen := by unfold maxLen; omega
  have hd := dec_encAll ho
  rw [← h] at hd
  have hl := len_le h
  have hrl : rs.length ≤ 1000000 := by omega
  have hes : (encAll rs).length ≤ 1000000 := by rw [← h, ← Lib.size_eq]; exact hs
  have HEA := Lib.hid he
  have HD := Lib.hid hd
  have HR := Lib.hid (fun W => right_any s W hs')
  have HC := Lib.hid (fun W => count_some s rs W hs ho h)
  have HF := Lib.hid (fun W => first_some s rs 1 W hs ho h (by omega))
  rw [show (1 : Int).toNat = 1 from rfl] at HF
  have HRL := Lib.hid (fun W => rest_some s rs ((rs.length : Int) - 1) W hs ho h (by omega))
  have HR1 := Lib.hid (fun W => rest_some s rs 1 W hs ho h (by omega))
  rw [show (1 : Int).toNat = 1 from rfl] at HR1
  have HF2 := Lib.hid (fun W (h2 : 2 ≤ rs.length) => first_some (mkS (encAll (rs.drop 1))) (rs.drop 1) ((rs.length : Int) - 2) W (by rw [mkS_size]; have := encAll_drop_le rs 1; omega) (allOk_drop ho 1) rfl (by omega))
  have ht1 : (!(mkS (encAll (rs.take 1))).toList == [34]) = !decide (rs.take 1 = [34]) := by rw [text34 (allOk_take ho 1)]
  have ht2 : (!(mkS (encAll (rs.drop (rs.length - 1)))).toList == [34]) = !decide (rs.drop (rs.length - 1) = [34]) := by rw [text34 (allOk_drop ho _)]
  have HT1 := Lib.hid ht1
  have HT2 := Lib.hid ht2
  have HO := Lib.hid ho
  clear hd h he hl ht1 ht2 ho
  by_cases hn : rs.length < 2
  · have hn' : (rs.length : Int) < 2 := by omega
    have hn2 : decide ((rs.length : Int) < 2) = true := decide_eq_true hn'
    have HU := Lib.hid (unquoteL_bad (.inl hn))
    clear hn
    go_enter Tryd.func12, Tryd.ntmps12
    go_wp2_with fail
    refine (HR.out _).mono ?_
    rintro e w1 ⟨rfl, hb1⟩
    rw [HD.out]
    have HB1 := Lib.hid hb1
    clear hb1
    go_wp2_with fail
    refine (HC.out _).mono ?_
    rintro e w2 ⟨rfl, hb2⟩
    have HB2 := Lib.hid (HB1.out.trans (hb2.mono HB1.out.size))
    clear hb2
    have c3 := (HEA.out.below HB2.out).form
    go_wp2_with fail
    go_quiet (fail)
    go_wp2_with fail
    go_ret2
    exact ⟨below_drewN HB2.out _, .inr ⟨HU.out, rfl⟩⟩
  · have hn' : ¬ (rs.length : Int) < 2 := by omega
    have hn2 : decide ((rs.length : Int) < 2) = false := decide_eq_false hn'
    have h2l : 2 ≤ rs.length := by omega
    clear hn
    by_cases h1 : rs.head? = some 34
    · have hq1 : (!(mkS (encAll (rs.take 1))).toList == [34]) = false := by rw [HT1.out, decide_eq_true ((head34 h2l).2 h1)]; rfl
      have H1 := Lib.hid h1
      clear h1
      have htn : ((rs.length : Int) - 1).toNat = rs.length - 1 := by omega
      have htn2 : ((rs.length : Int) - 2).toNat = rs.length - 2 := by omega
      rw [htn] at HRL
      rw [htn2] at HF2
      clear htn htn2
      have HF2' := Lib.hid (fun W => HF2.out W h2l)
      clear HF2
      by_cases h2 : rs.getLast? = some 34
      · have hq2 : (!(mkS (encAll (rs.drop (rs.length - 1)))).toList == [34]) = false := by rw [HT2.out, decide_eq_true ((last34 h2l).2 h2)]; rfl
        have HU := Lib.hid (unquoteL_mid h2l H1.out h2)
        clear h2
        have hmo := allOk_take (allOk_drop HO.out 1) (rs.length - 2)
        have hml : (encAll ((rs.drop 1).take (rs.length - 2))).length ≤ 1000000 := Nat.le_trans (Nat.le_trans (encAll_take_le _ _) (encAll_drop_le _ _)) hes
        generalize hmid : (rs.drop 1).take (rs.length - 2) = mid at *
        have HMID := Lib.hid hmid
        clear hmid
        have hmid2 : (mkS (encAll mid)).data.toList = encAll mid := rfl
        have hsz : (mkS (encAll mid)).size ≤ 1000000 := by rw [mkS_size]; exact hml
        have hlen : mid.length ≤ 1000000 := Nat.le_trans (encAll_len mid) hml
        generalize hsm : mkS (encAll mid) = sm at *
        have HSM := Lib.hid hsm
        clear hsm
        have HN := Lib.hid (fun (w : World) b k hb hk ty => next_at (P := Tryd.prog) hmo hmid2 w b k hb hk ty)
        have HE := Lib.hid (fun (w : World) b hb ty => next_at_end (P := Tryd.prog) hmid2 w b hb ty)
        have HME0 := Lib.hid (off_pos_lt hmid2)
        clear hmid2 hmo hml
        generalize hsr : mkS (encAll (rs.drop 1)) = sr at *
        clear hsr
        go_enter Tryd.func12, Tryd.ntmps12
        go_wp2_with fail
        refine (HR.out _).mono ?_
        rintro e w1 ⟨rfl, hb1⟩
        rw [HD.out]
        have HB1 := Lib.hid hb1
        clear hb1
        go_wp2_with fail
        refine (HC.out _).mono ?_
        rintro e w2 ⟨rfl, hb2⟩
        have HB2 := Lib.hid (HB1.out.trans (hb2.mono HB1.out.size))
        clear hb2
        go_wp2_with fail
        refine (HF.out _).mono ?_
        rintro e w3 ⟨rfl, hb3⟩
        have HB3 := Lib.hid (HB2.out.trans (hb3.mono HB2.out.size))
        clear hb3
        go_wp2_with fail
        refine (HRL.out _).mono ?_
        rintro e w4 ⟨rfl, hb4⟩
        have HB4 := Lib.hid (HB3.out.trans (hb4.mono HB3.out.size))
        clear hb4
        go_wp2_with fail
        refine (HR1.out _).mono ?_
        rintro e w5 ⟨rfl, hb5⟩
        have HB5 := Lib.hid (HB4.out.trans (hb5.mono HB4.out.size))
        clear hb5
        go_wp2_with fail
        (with_reducible refine (HF2'.out _).mono ?_)
        rintro e w6 ⟨rfl, hb6⟩
        have HB6 := Lib.hid (HB5.out.trans (hb6.mono HB5.out.size))
        have HE6 := Lib.hid (HEA.out.below HB6.out)
        clear hb6 HB5 HB4 HB3 HB2 HB1
        go_wp2_with fail
        go_loopw [5, 6] (fun vo vq wr => ∃ (k : Nat) (esc : Bool) (acc : List Nat), k ≤ mid.length ∧ vq = .bool esc ∧ wr.heap[w6.heap.size]? = some (.stringIter sm (off mid k)) ∧ Below w6.heap.size w6 wr ∧ OwnE wr (w6.heap.size + 1) 21 1 vo acc.length (runeRow acc) ∧ Hid (uqRun (false, []) (mid.take k) = some (esc, acc))) (fun _ _ wr => sm.size - wr.iterPos w6.heap.size)
        case atStart => exact ⟨0, false, [], Nat.zero_le _, rfl, iter_new _ _ _, (Below.refl _ _).alloc (Nat.le_refl _) _, .nil, rfl⟩
        case round =>
          obtain ⟨k, esc, acc, hk, rfl, hit, hbel, hout, HC⟩ := hrel
          have HAL := Lib.hid (show acc.length ≤ 1000000 by have := uqRun_len _ _ _ HC.out; simp at this; omega)
          have HOU := Lib.hid hout
          have HBE := Lib.hid hbel
          have HIT := Lib.hid hit
          have HIL := Lib.hid ((Array.getElem?_eq_some_iff.1 hit).1)
          have HPO := Lib.hid (show wr.iterPos w6.heap.size = off mid k by simp [World.iterPos, hit])
          clear hout hbel hit
          by_cases hlt : k < mid.length
          · have hnx := HN.out wr w6.heap.size k HIT.out hlt
            have HRT := Lib.hid (uqRun_take hlt HC.out)
            have HST := Lib.hid (fun h => unq_stop hlt HC.out h)
            have HME := Lib.hid (HME0.out k hlt)
            generalize mid[k] = c at *
            generalize hoff1 : off mid (k + 1) = p1 at *
            have HOF1 := Lib.hid hoff1
            clear hoff1
            have HIT2 := Lib.hid (Lib.iterAt_heap wr w6.heap.size sm (off mid k) p1 HIT.out)
            have HBE2 := Lib.hid (below_iter HBE.out (Nat.le_refl _) sm p1)
            have HOU2 := Lib.hid (HOU.out.iterAt' HIT.out p1)
            have HIS := Lib.hid (Lib.iterAt_size wr w6.heap.size sm p1)
            generalize hw2 : wr.iterAt w6.heap.size sm p1 = w7 at *
            have HW2 := Lib.hid hw2
            clear hw2
            have HER2 := Lib.hid (HE6.out.below HBE2.out)
            have HSZ2 := Lib.hid (show w6.heap.size + 1 ≤ w7.heap.size by have := HIS.out; have := HIL.out; omega)
            cases esc with
            | true =>
              by_cases hq : c = 34 ∨ c = 92
              · have HCS := Lib.hid (HRT.out.trans (by simp [uqStep, hq]) : uqRun (false, []) (mid.take (k + 1)) = some (false, acc ++ [c]))
                have hbq : badQ c = false := by rcases hq with rfl | rfl <;> rfl
                have HBQ := Lib.hid hbq
                clear hbq
                have hb0 : (c : Int) = 34 ∨ (c : Int) = 92 := by omega
                clear hq
                have hgo : (((c : Int) == 34) = true ∧ ((c : Int) != 34) = false) ∨ (((c : Int) == 34) = false ∧ ((c : Int) != 34) = true ∧ ((c : Int) != 92) = false) := by
                  rcases hb0 with h | h <;> simp [h]
                clear hb0
                rcases hgo with ⟨e34, e34'⟩ | ⟨e34, e34', e92'⟩
                all_goals
                  go_wp2_with fail
                  refine (plain_of c false _ HBQ.out).mono ?_
                  rintro e w8 ⟨rfl, rfl⟩
                  go_wp2_with (at_builtin; refine appE rfl _ _ 66 rfl 21 i1 (.int .i32 0) 1 4 Tryd.underlying66 hj hy0 hy1 hy2 rfl (by omega) (w6.heap.size + 1) _ _ _ rfl HOU2.out w6.heap.size (by omega) HBE2.out HSZ2.out [.int .i32 (c : Int)] 1 rfl (by omega) (by intro u hu; simp at hu; subst hu; rfl) rfl (by have := HAL.out; omega) (by omega) ?_)
                  refine Lib.hid ?_
                  intro v9 w9 hown9 hbel9 hgrow9
                  have HB9 := Lib.hid hbel9
                  have HO9 := Lib.hid (own_rune1 (c := c) rfl rfl rfl hown9)
                  have HI9 := Lib.hid (iter_grownE HOU2.out hgrow9 HIT2.out)
                  clear hown9 hbel9 hgrow9
                  go_wp2_with fail
                  go_roundw
                  case rel => exact ⟨k + 1, false, acc ++ [c], by omega, rfl, by rw [HOF1.out]; exact HI9.out, HB9.out, .inr HO9.out, HCS.out⟩
                  case measure => rw [HPO.out]; have := HI9.out; simp only [World.iterPos, this]; exact HME.out
              · have HNO := Lib.hid (HST.out (by simp [uqStep, hq]))
                have e34 : ((c : Int) == 34) = false := by simp; omega
                have e92 : ((c : Int) == 92) = false := by simp; omega
                have e34' : ((c : Int) != 34) = true := by simp; omega
                have e92' : ((c : Int) != 92) = true := by simp; omega
                clear hq
                have c3 := HER2.out.form
                go_wp2_with fail
                go_quiet (fail)
                go_wp2_with fail
                go_ret2
                exact ⟨below_drewN (HB6.out.trans (HBE2.out.mono HB6.out.size)) _, .inr ⟨HU.out.trans HNO.out, rfl⟩⟩
            | false =>
              by_cases hq : c = 34
              · have HNO := Lib.hid (HST.out (by simp [uqStep, hq]))
                have e34 : ((c : Int) == 34) = true := by simp; omega
                clear hq
                have c3 := HER2.out.form
                go_wp2_with fail
                go_quiet (fail)
                go_wp2_with fail
                go_ret2
                exact ⟨below_drewN (HB6.out.trans (HBE2.out.mono HB6.out.size)) _, .inr ⟨HU.out.trans HNO.out, rfl⟩⟩
              · have e34 : ((c : Int) == 34) = false := by simp; omega
                cases hbq : badQ c with
                | true =>
                  have HNO := Lib.hid (HST.out (by simp [uqStep, hbq]))
                  have HBQ := Lib.hid hbq
                  clear hbq hq
                  go_wp2_with fail
                  refine (plain_of c true _ HBQ.out).mono ?_
                  rintro e w8 ⟨rfl, rfl⟩
                  have c3 := HER2.out.form
                  go_wp2_with fail
                  go_quiet (fail)
                  go_wp2_with fail
                  go_ret2
                  exact ⟨below_drewN (HB6.out.trans (HBE2.out.mono HB6.out.size)) _, .inr ⟨HU.out.trans HNO.out, rfl⟩⟩
                | false =>
                  by_cases hx : c = 92
                  · have HCS := Lib.hid (HRT.out.trans (by simp [uqStep, hq, hbq, hx, badQ]) : uqRun (false, []) (mid.take (k + 1)) = some (true, acc))
                    have HBQ := Lib.hid hbq
                    have e92 : ((c : Int) == 92) = true := by simp; omega
                    clear hbq hq hx
                    go_wp2_with fail
                    refine (plain_of c false _ HBQ.out).mono ?_
                    rintro e w8 ⟨rfl, rfl⟩
                    go_wp2_with fail
                    go_roundw
                    case rel => exact ⟨k + 1, true, acc, by omega, rfl, by rw [HOF1.out]; exact HIT2.out, HBE2.out, HOU2.out, HCS.out⟩
                    case measure => rw [HPO.out]; have := HIT2.out; simp only [World.iterPos, this]; exact HME.out
                  · have HCS := Lib.hid (HRT.out.trans (by simp [uqStep, hq, hbq, hx]) : uqRun (false, []) (mid.take (k + 1)) = some (false, acc ++ [c]))
                    have HBQ := Lib.hid hbq
                    have e92 : ((c : Int) == 92) = false := by simp; omega
                    clear hbq hq hx
                    go_wp2_with fail
                    refine (plain_of c false _ HBQ.out).mono ?_
                    rintro e w8 ⟨rfl, rfl⟩
                    go_wp2_with (at_builtin; refine appE rfl _ _ 66 rfl 21 i1 (.int .i32 0) 1 4 Tryd.underlying66 hj hy0 hy1 hy2 rfl (by omega) (w6.heap.size + 1) _ _ _ rfl HOU2.out w6.heap.size (by omega) HBE2.out HSZ2.out [.int .i32 (c : Int)] 1 rfl (by omega) (by intro u hu; simp at hu; subst hu; rfl) rfl (by have := HAL.out; omega) (by omega) ?_)
                    refine Lib.hid ?_
                    intro v9 w9 hown9 hbel9 hgrow9
                    have HB9 := Lib.hid hbel9
                    have HO9 := Lib.hid (own_rune1 (c := c) rfl rfl rfl hown9)
                    have HI9 := Lib.hid (iter_grownE HOU2.out hgrow9 HIT2.out)
                    clear hown9 hbel9 hgrow9
                    go_wp2_with fail
                    go_roundw
                    case rel => exact ⟨k + 1, false, acc ++ [c], by omega, rfl, by rw [HOF1.out]; exact HI9.out, HB9.out, .inr HO9.out, HCS.out⟩
                    case measure => rw [HPO.out]; have := HI9.out; simp only [World.iterPos, this]; exact HME.out
          · obtain rfl : k = mid.length := by omega
            have hnx := HE.out wr w6.heap.size HIT.out
            have HFI := Lib.hid (unq_end (by have := HC.out; rwa [List.take_length] at this))
            have HER2 := Lib.hid (HE6.out.below HBE.out)
            cases esc with
            | true =>
              have c3 := HER2.out.form
              go_wp2_with fail
              go_quiet (fail)
              go_wp2_with fail
              go_ret2
              exact ⟨below_drewN (HB6.out.trans (HBE.out.mono HB6.out.size)) _, .inr ⟨HU.out.trans HFI.out, rfl⟩⟩
            | false =>
              have hcv := convE_runes (P := Tryd.prog) (src := 66) (dst := 9) HOU.out Tryd.underlying66 Tryd.underlying21 Tryd.underlying9
              go_wp2_with fail
              go_ret2
              exact ⟨HB6.out.trans (HBE.out.mono HB6.out.size), .inl ⟨_, HU.out.trans HFI.out, rfl⟩⟩
      · have hq2 : (!(mkS (encAll (rs.drop (rs.length - 1)))).toList == [34]) = true := by rw [HT2.out, decide_eq_false (fun h => h2 ((last34 h2l).1 h))]; rfl
        have HU := Lib.hid (unquoteL_bad (.inr (.inr h2)))
        clear h2
        go_enter Tryd.func12, Tryd.ntmps12
        go_wp2_with fail
        refine (HR.out _).mono ?_
        rintro e w1 ⟨rfl, hb1⟩
        rw [HD.out]
        have HB1 := Lib.hid hb1
        clear hb1
        go_wp2_with fail
        refine (HC.out _).mono ?_
        rintro e w2 ⟨rfl, hb2⟩
        have HB2 := Lib.hid (HB1.out.trans (hb2.mono HB1.out.size))
        clear hb2
        go_wp2_with fail
        refine (HF.out _).mono ?_
        rintro e w3 ⟨rfl, hb3⟩
        have HB3 := Lib.hid (HB2.out.trans (hb3.mono HB2.out.size))
        clear hb3
        go_wp2_with fail
        refine (HRL.out _).mono ?_
        rintro e w4 ⟨rfl, hb4⟩
        have HB4 := Lib.hid (HB3.out.trans (hb4.mono HB3.out.size))
        clear hb4
        have c3 := (HEA.out.below HB4.out).form
        go_wp2_with fail
        go_quiet (fail)
        go_wp2_with fail
        go_ret2
        exact ⟨below_drewN HB4.out _, .inr ⟨HU.out, rfl⟩⟩
    · have hq1 : (!(mkS (encAll (rs.take 1))).toList == [34]) = true := by rw [HT1.out, decide_eq_false (fun h => h1 ((head34 h2l).1 h))]; rfl
      have HU := Lib.hid (unquoteL_bad (.inr (.inl h1)))
      clear h1
      go_enter Tryd.func12, Tryd.ntmps12
      go_wp2_with fail
      refine (HR.out _).mono ?_
      rintro e w1 ⟨rfl, hb1⟩
      rw [HD.out]
      have HB1 := Lib.hid hb1
      clear hb1
      go_wp2_with fail
      refine (HC.out _).mono ?_
      rintro e w2 ⟨rfl, hb2⟩
      have HB2 := Lib.hid (HB1.out.trans (hb2.mono HB1.out.size))
      clear hb2
      go_wp2_with fail
      refine (HF.out _).mono ?_
      rintro e w3 ⟨rfl, hb3⟩
      have HB3 := Lib.hid (HB2.out.trans (hb3.mono HB2.out.size))
      clear hb3
      have c3 := (HEA.out.below HB3.out).form
      go_wp2_with fail
      go_quiet (fail)
      go_wp2_with fail
      go_ret2
      exact ⟨below_drewN HB3.out _, .inr ⟨HU.out, rfl⟩⟩
end Go.Proofs.YtjhmehmmpfnnkaaDoor

namespace Go.Proofs.YtjhmehmmpfnnkaaDoor
open Go.RowKit Utf
set_option maxRecDepth 100000
set_option linter.unusedSimpArgs false
set_option linter.unusedVariables false

theorem Tryd.taIntInt (v : Value) (w : World) : (Instr.typeAssert (.iface 95 v) 20 95 true).run Tryd.prog w = .ok (.tuple #[v, .bool true]) w := by kernel_rfl
theorem Tryd.taStrInt (v : Value) (w : World) : (Instr.typeAssert (.iface 100 v) 20 95 true).run Tryd.prog w = .ok (.tuple #[.pointer none, .bool false]) w := by kernel_rfl
theorem Tryd.taStrStr (v : Value) (w : World) : (Instr.typeAssert (.iface 100 v) 20 100 false).run Tryd.prog w = .ok v w := by kernel_rfl

def numW (x : List Nat) : Option Int := numN (signed x) (unsign x)
/-- Words that lines.Words can give: right texts, none too long. -/
def Good (ws : List (List Nat)) : Prop := ∀ x ∈ ws, allOk x ∧ (encAll x).length ≤ 1000000
theorem Good.tail {x : List Nat} {ws : List (List Nat)} (h : Good (x :: ws)) : Good ws := fun y hy => h y (List.mem_cons_of_mem _ hy)

/-- What is stored, if anything; the words that are left; the error's number. -/
def rdNum : List (List Nat) → Nat → Option Int × List (List Nat) × Nat
  | ws, n + 1 => (none, ws, n + 1)
  | [], 0 => (none, [], 2)
  | x :: r, 0 => match numW x with
    | some v => (some v, r, 0)
    | none => (some 0, r, 4)
def rdStr : List (List Nat) → Nat → Option (List Nat) × List (List Nat) × Nat
  | ws, n + 1 => (none, ws, n + 1)
  | [], 0 => (none, [], 2)
  | x :: r, 0 => match unquoteL x with
    | some v => (some v, r, 0)
    | none => (some [], r, 4)

def putAt (cs : Array Value) (o : Nat) : Option Value → Array Value
  | none => cs
  | some v => cs.setIfInBounds o v

def ReadPost (b c o : Nat) (T : TypeId) (cs : Array Value) (ea : Nat → Addr) (K : Nat → Prop) (w : World) (res : Option Value × List (List Nat) × Nat) (e : Ending) (w' : World) : Prop :=
  e = .returned (.tuple #[]) ∧ Only (fun k => k = b ∨ k = c) w w' ∧ RAt w' b ea res.2.1 res.2.2 K ∧ Blk w' c T (putAt cs o res.1)

theorem putAt_some (cs : Array Value) (o : Nat) (v : Value) : putAt cs o (some v) = cs.setIfInBounds o v := rfl

section
variable {b : Nat} {ea : Nat → Addr} {ws : List (List Nat)} {K : Nat → Prop} {w w' : World}
theorem RAt.cell1 {n : Nat} (h : RAt w b ea ws n K) : w.cell? ⟨b, 1, none⟩ = some (errOf ea n) ∧ w.frozen? ⟨b, 1, none⟩ = false := by
  obtain ⟨ao, cap, h1, -⟩ := h
  exact ⟨h1.cell 1, h1.frozen 1⟩
theorem RAt.putErr {n : Nat} (h : RAt w b ea ws n K) (m : Nat) (hK : ¬ K b) : RAt (w.setCell ⟨b, 1, none⟩ (errOf ea m)) b ea ws m K := by
  obtain ⟨ao, cap, h1, h2, h3, h4, h5, h6, h7⟩ := h
  exact ⟨ao, cap, h1.put 1 _, h2.only ((Only.refl (fun k => k = b) _).set (.inl rfl) _) (fun ad e s => hK (by have := h7 ad e; rwa [s] at this)), h3, h4, h5, h6, h7⟩
end

theorem read_err (x : Value) (b : Nat) (ea : Nat → Addr) (ws : List (List Nat)) (n : Nat) (K : Nat → Prop) (w : World) (h : RAt w b ea ws (n + 1) K) :
    Calls Tryd.prog 37 #[.pointer (some ⟨b, 0, none⟩), x] w fun e w' => e = .returned (.tuple #[]) ∧ w = w' := by
  have hc := h.cell1.1
  rw [errOf_succ] at hc
  have HW := Lib.hid (word_err b ea ws n K w h)
  clear h
  go_enter Tryd.func37, Tryd.ntmps37
  go_wp2_with fail
  refine HW.out.mono ?_
  rintro e w1 ⟨rfl, rfl⟩
  go_wp2_with fail
  refine bodyPost_ret (results_none rfl _ _ _) rfl ?_
  exact ⟨rfl, rfl⟩

theorem read_short (x : Value) (b : Nat) (ea : Nat → Addr) (K : Nat → Prop) (w : World) (h : RAt w b ea [] 0 K) (he : LErr w ea) :
    Calls Tryd.prog 37 #[.pointer (some ⟨b, 0, none⟩), x] w fun e w' => e = .returned (.tuple #[]) ∧ Only (fun k => k = b) w w' ∧ RAt w' b ea [] 2 K := by
  have HW := Lib.hid (word_short b ea K w h he)
  clear h he
  go_enter Tryd.func37, Tryd.ntmps37
  go_wp2_with fail
  refine HW.out.mono ?_
  rintro e w1 ⟨rfl, ho, hr⟩
  have hc := hr.cell1.1
  rw [errOf_succ] at hc
  have HO := Lib.hid ho
  have HR := Lib.hid hr
  clear ho hr
  go_wp2_with fail
  refine bodyPost_ret (results_none rfl _ _ _) rfl ?_
  exact ⟨rfl, HO.out, HR.out⟩

set_option maxHeartbeats 1000000 in
theorem read_num_cons (b c o : Nat) (T : TypeId) (cs : Array Value) (old : Int) (ea : Nat → Addr) (x : List Nat) (ws : List (List Nat)) (K : Nat → Prop) (w : World) (h : RAt w b ea (x :: ws) 0 K) (hK : ¬ K b) (hKc : ¬ K c)
    (hg : Good (x :: ws)) (hC : Blk w c T cs) (ho : cs[o]? = some (.int .i64 old)) (hbc : b ≠ c) (hb : gTop ≤ b) (hc : gTop ≤ c) (he : LErr w ea) :
    Calls Tryd.prog 37 #[.pointer (some ⟨b, 0, none⟩), .iface 95 (.pointer (some ⟨c, o, none⟩))] w (ReadPost b c o T cs ea K w (((rdNum (x :: ws) 0).1.map (Value.int .i64)), (rdNum (x :: ws) 0).2)) := by
  obtain ⟨hok, hxl⟩ := hg x (List.mem_cons_self ..)
  have HW := Lib.hid (word_cons b ea x ws K w h hK)
  have HC := Lib.hid hC
  have HOC := Lib.hid ho
  have HE := Lib.hid he
  have HNU := Lib.hid (fun W (he : LErr W ea) => number_some ea (mkS (encAll x)) x W (by rw [mkS_size]; exact hxl) hok rfl he)
  have tt := Tryd.taIntInt
  clear h hC ho he
  go_enter Tryd.func37, Tryd.ntmps37
  go_wp2_with fail
  refine HW.out.mono ?_
  rintro e w1 ⟨rfl, ho1, hr1⟩
  have hcell := hr1.cell1.1
  rw [errOf_zero] at hcell
  have HO1 := Lib.hid (ho1.mono (T := fun k => k = b ∨ k = c) (fun k hk => .inl hk))
  have HE1 := Lib.hid (HE.out.only ho1 (fun k hk => by subst hk; exact hb))
  have HR1 := Lib.hid hr1
  have HC1 := Lib.hid (HC.out.only ho1 (fun h => hbc h.symm))
  clear ho1 hr1
  go_wp2_with fail
  refine (HNU.out _ HE1.out).mono ?_
  rintro e w2 ⟨hb2, hres⟩
  have HO2 := Lib.hid (HO1.out.trans (Only.below_all hb2))
  have HE2 := Lib.hid (HE1.out.below hb2)
  have HC2 := Lib.hid (HC1.out.below hb2 HC1.out.lt)
  have HR2 := Lib.hid (HR1.out.only (Only.below_all (S := fun _ => False) hb2) (fun h => h) (fun _ h => h.elim))
  have h2c := (HC2.out.cell o).trans HOC.out
  have h2f := HC2.out.frozen o
  clear hb2
  rcases hres with ⟨v, hv, rfl⟩ | ⟨hv, rfl⟩
  · have HV := Lib.hid (show rdNum (x :: ws) 0 = (some v, ws, 0) by simp [rdNum, numW, hv])
    clear hv
    go_wp2_with fail
    go_end0
    refine ⟨rfl, HO2.out.set (.inl (.inr rfl)) _, ?_, ?_⟩
    · rw [HV.out]
      exact HR2.out.only (S := fun k => k = c) ((Only.refl (fun k => k = c) _).set (.inl rfl) _) hbc (fun k hk => by subst hk; exact hKc)
    · rw [HV.out]
      exact HC2.out.put o _
  · have HV := Lib.hid (show rdNum (x :: ws) 0 = (some 0, ws, 4) by simp [rdNum, numW, hv])
    clear hv
    have HO3 := Lib.hid (HO2.out.set (p := ⟨c, o, none⟩) (.inl (.inr rfl)) (.int .i64 0))
    have HE3 := Lib.hid (HE2.out.set (p := ⟨c, o, none⟩) hc (.int .i64 0))
    have HC3 := Lib.hid (HC2.out.put o (.int .i64 0))
    have HR3 := Lib.hid (HR2.out.only (S := fun k => k = c) ((Only.refl (fun k => k = c) _).set (p := ⟨c, o, none⟩) (.inl rfl) (.int .i64 0)) hbc (fun k hk => by subst hk; exact hKc))
    have h3c := HR3.out.cell1.1
    rw [errOf_zero] at h3c
    have h3f := HR3.out.cell1.2
    have h3e := HE3.out.form
    go_wp2_with fail
    go_end0
    refine ⟨rfl, HO3.out.set (.inl (.inl rfl)) _, ?_, ?_⟩
    · rw [HV.out]
      exact HR3.out.putErr 4 hK
    · rw [HV.out]
      exact HC3.out.far (fun h => hbc h.symm) _

set_option maxHeartbeats 1000000 in
theorem read_str_cons (b c o : Nat) (T : TypeId) (cs : Array Value) (old : ByteArray) (ea : Nat → Addr) (x : List Nat) (ws : List (List Nat)) (K : Nat → Prop) (w : World) (h : RAt w b ea (x :: ws) 0 K) (hK : ¬ K b) (hKc : ¬ K c)
    (hg : Good (x :: ws)) (hC : Blk w c T cs) (ho : cs[o]? = some (.string old)) (hbc : b ≠ c) (hb : gTop ≤ b) (hc : gTop ≤ c) (he : LErr w ea) :
    Calls Tryd.prog 37 #[.pointer (some ⟨b, 0, none⟩), .iface 100 (.pointer (some ⟨c, o, none⟩))] w (ReadPost b c o T cs ea K w (((rdStr (x :: ws) 0).1.map (fun t => Value.string (mkS (encAll t)))), (rdStr (x :: ws) 0).2)) := by
  obtain ⟨hok, hxl⟩ := hg x (List.mem_cons_self ..)
  have HW := Lib.hid (word_cons b ea x ws K w h hK)
  have HC := Lib.hid hC
  have HOC := Lib.hid ho
  have HE := Lib.hid he
  have HNU := Lib.hid (fun W (he : LErr W ea) => unquote_some ea (mkS (encAll x)) x W (by rw [mkS_size]; exact hxl) hok rfl he)
  have tt := Tryd.taStrInt
  have tt2 := Tryd.taStrStr
  clear h hC ho he
  go_enter Tryd.func37, Tryd.ntmps37
  go_wp2_with fail
  refine HW.out.mono ?_
  rintro e w1 ⟨rfl, ho1, hr1⟩
  have hcell := hr1.cell1.1
  rw [errOf_zero] at hcell
  have HO1 := Lib.hid (ho1.mono (T := fun k => k = b ∨ k = c) (fun k hk => .inl hk))
  have HE1 := Lib.hid (HE.out.only ho1 (fun k hk => by subst hk; exact hb))
  have HR1 := Lib.hid hr1
  have HC1 := Lib.hid (HC.out.only ho1 (fun h => hbc h.symm))
  clear ho1 hr1
  go_wp2_with fail
  refine (HNU.out _ HE1.out).mono ?_
  rintro e w2 ⟨hb2, hres⟩
  have HO2 := Lib.hid (HO1.out.trans (Only.below_all hb2))
  have HE2 := Lib.hid (HE1.out.below hb2)
  have HC2 := Lib.hid (HC1.out.below hb2 HC1.out.lt)
  have HR2 := Lib.hid (HR1.out.only (Only.below_all (S := fun _ => False) hb2) (fun h => h) (fun _ h => h.elim))
  have h2c := (HC2.out.cell o).trans HOC.out
  have h2f := HC2.out.frozen o
  clear hb2
  rcases hres with ⟨v, hv, rfl⟩ | ⟨hv, rfl⟩
  · have HV := Lib.hid (show rdStr (x :: ws) 0 = (some v, ws, 0) by simp [rdStr, hv])
    clear hv
    generalize hsv : mkS (encAll v) = sv at *
    have HSV := Lib.hid hsv
    clear hsv
    go_wp2_with fail
    go_end0
    refine ⟨rfl, HO2.out.set (.inl (.inr rfl)) _, ?_, ?_⟩
    · rw [HV.out]
      exact HR2.out.only (S := fun k => k = c) ((Only.refl (fun k => k = c) _).set (.inl rfl) _) hbc (fun k hk => by subst hk; exact hKc)
    · rw [HV.out]
      simp only [Option.map_some]
      rw [HSV.out]
      exact HC2.out.put o _
  · have HV := Lib.hid (show rdStr (x :: ws) 0 = (some [], ws, 4) by simp [rdStr, hv])
    clear hv
    have HO3 := Lib.hid (HO2.out.set (p := ⟨c, o, none⟩) (.inl (.inr rfl)) (.string ByteArray.empty))
    have HE3 := Lib.hid (HE2.out.set (p := ⟨c, o, none⟩) hc (.string ByteArray.empty))
    have HC3 := Lib.hid (HC2.out.put o (.string ByteArray.empty))
    have HR3 := Lib.hid (HR2.out.only (S := fun k => k = c) ((Only.refl (fun k => k = c) _).set (p := ⟨c, o, none⟩) (.inl rfl) (.string ByteArray.empty)) hbc (fun k hk => by subst hk; exact hKc))
    have h3c := HR3.out.cell1.1
    rw [errOf_zero] at h3c
    have h3f := HR3.out.cell1.2
    have h3e := HE3.out.form
    go_wp2_with fail
    go_end0
    refine ⟨rfl, HO3.out.set (.inl (.inl rfl)) _, ?_, ?_⟩
    · rw [HV.out]
      exact HR3.out.putErr 4 hK
    · rw [HV.out]
      exact HC3.out.far (fun h => hbc h.symm) _

/-- A number's field is read, whatever the reader's state. -/
theorem read_num (b c o : Nat) (T : TypeId) (cs : Array Value) (old : Int) (ea : Nat → Addr) (ws : List (List Nat)) (n : Nat) (K : Nat → Prop) (w : World) (h : RAt w b ea ws n K) (hK : ¬ K b) (hKc : ¬ K c)
    (hg : Good ws) (hC : Blk w c T cs) (ho : cs[o]? = some (.int .i64 old)) (hbc : b ≠ c) (hb : gTop ≤ b) (hc : gTop ≤ c) (he : LErr w ea) :
    Calls Tryd.prog 37 #[.pointer (some ⟨b, 0, none⟩), .iface 95 (.pointer (some ⟨c, o, none⟩))] w (ReadPost b c o T cs ea K w (((rdNum ws n).1.map (Value.int .i64)), (rdNum ws n).2)) := by
  cases n with
  | succ n =>
    refine (read_err _ b ea ws n K w h).mono ?_
    rintro e w' ⟨rfl, rfl⟩
    exact ⟨rfl, Only.refl _ _, by cases ws <;> exact h, by cases ws <;> exact hC⟩
  | zero =>
    cases ws with
    | nil =>
      refine (read_short _ b ea K w h he).mono ?_
      rintro e w' ⟨rfl, h1, h2⟩
      exact ⟨rfl, h1.mono (fun k hk => .inl hk), h2, hC.only h1 (fun h => hbc h.symm)⟩
    | cons x ws => exact read_num_cons b c o T cs old ea x ws K w h hK hKc hg hC ho hbc hb hc he

/-- A text's field is read, whatever the reader's state. -/
theorem read_str (b c o : Nat) (T : TypeId) (cs : Array Value) (old : ByteArray) (ea : Nat → Addr) (ws : List (List Nat)) (n : Nat) (K : Nat → Prop) (w : World) (h : RAt w b ea ws n K) (hK : ¬ K b) (hKc : ¬ K c)
    (hg : Good ws) (hC : Blk w c T cs) (ho : cs[o]? = some (.string old)) (hbc : b ≠ c) (hb : gTop ≤ b) (hc : gTop ≤ c) (he : LErr w ea) :
    Calls Tryd.prog 37 #[.pointer (some ⟨b, 0, none⟩), .iface 100 (.pointer (some ⟨c, o, none⟩))] w (ReadPost b c o T cs ea K w (((rdStr ws n).1.map (fun t => Value.string (mkS (encAll t)))), (rdStr ws n).2)) := by
  cases n with
  | succ n =>
    refine (read_err _ b ea ws n K w h).mono ?_
    rintro e w' ⟨rfl, rfl⟩
    exact ⟨rfl, Only.refl _ _, by cases ws <;> exact h, by cases ws <;> exact hC⟩
  | zero =>
    cases ws with
    | nil =>
      refine (read_short _ b ea K w h he).mono ?_
      rintro e w' ⟨rfl, h1, h2⟩
      exact ⟨rfl, h1.mono (fun k hk => .inl hk), h2, hC.only h1 (fun h => hbc h.symm)⟩
    | cons x ws => exact read_str_cons b c o T cs old ea x ws K w h hK hKc hg hC ho hbc hb hc he
end Go.Proofs.YtjhmehmmpfnnkaaDoor

namespace Go.Proofs.YtjhmehmmpfnnkaaDoor
open Go.RowKit Utf
set_option maxRecDepth 100000
set_option linter.unusedSimpArgs false
set_option linter.unusedVariables false

/-- A verb's field. -/
inductive Fld | who | n | fresh | shard | other | server | key | lo | hi | ekey
deriving DecidableEq

/-- A verb: its name (bytes), the op's kind, the entry's kind, its fields, what follows (111: operations, 103: numbers, 0: nothing). -/
structure Verb where
  name : List UInt8
  kind : Nat
  ekind : Nat
  flds : List Fld
  rest : Nat

def verbs : List Verb := [
  ⟨[98, 101, 103, 105, 110], 1, 0, [.who], 111⟩, ⟨[115, 116, 101, 112], 2, 0, [.who, .n], 0⟩, ⟨[109, 111, 118, 101], 3, 2, [.shard, .server], 0⟩,
  ⟨[115, 112, 108, 105, 116], 3, 3, [.shard, .other, .server, .ekey], 0⟩, ⟨[109, 101, 114, 103, 101], 3, 4, [.shard, .other], 0⟩,
  ⟨[103, 101, 116], 4, 0, [.n, .key], 0⟩, ⟨[115, 99, 97, 110], 5, 0, [.n, .who, .lo, .hi], 0⟩, ⟨[99, 114, 97, 115, 104], 6, 0, [.n], 0⟩,
  ⟨[115, 116, 111, 112], 7, 0, [.n, .who], 0⟩, ⟨[117, 112], 8, 0, [.n], 0⟩, ⟨[108, 111, 115, 101], 9, 0, [], 0⟩, ⟨[116, 114, 105, 109], 13, 0, [], 0⟩,
  ⟨[99, 104, 97, 110, 103, 101], 11, 0, [], 0⟩, ⟨[114, 101, 99, 111, 110], 10, 0, [.who, .fresh], 103⟩, ⟨[99, 104, 101, 99, 107], 12, 0, [.n, .who], 0⟩,
  ⟨[118, 111, 116, 101, 114], 14, 0, [.n, .who], 0⟩, ⟨[114, 101, 115, 116, 97, 114, 116], 15, 0, [.n], 0⟩]

/-- The program's letter of a field. -/
def letP : Fld → Nat
  | .who => 119 | .n => 110 | .fresh => 102 | .shard => 115 | .other => 111 | .server => 118 | .key => 107 | .lo => 108 | .hi => 104 | .ekey => 101

def shapeOf (v : Verb) : List Value := [.string (mkS v.name), .int .i64 (v.kind : Int), .int .i64 (v.ekind : Int), .string (mkS (encAll (v.flds.map letP))), .int .i32 (v.rest : Int)]
def shapeCells : Array Value := (verbs.flatMap shapeOf).toArray

theorem flat5 {α β : Type} (f : α → List β) (hf : ∀ x, (f x).length = 5) : ∀ (l : List α) (k : Nat) (hk : k < l.length) (j : Nat), j < 5 → (l.flatMap f)[5 * k + j]? = (f l[k])[j]?
  | [], k, hk, _, _ => by simp at hk
  | x :: l, 0, _, j, hj => by
    rw [List.flatMap_cons, Nat.mul_zero, Nat.zero_add, List.getElem?_append_left (by rw [hf]; exact hj)]
    rfl
  | x :: l, k + 1, hk, j, hj => by
    rw [List.flatMap_cons, List.getElem?_append_right (by rw [hf]; omega), hf]
    have e : 5 * (k + 1) + j - 5 = 5 * k + j := by omega
    rw [e, flat5 f hf l k (by simpa using hk) j hj]
    rfl

theorem shape_at (k : Nat) (hk : k < verbs.length) (j : Nat) (hj : j < 5) : shapeCells[5 * k + j]? = (shapeOf verbs[k])[j]? := by
  unfold shapeCells
  rw [List.getElem?_toArray]
  exact flat5 shapeOf (fun _ => rfl) verbs k hk j hj

set_option maxHeartbeats 1000000 in
theorem shapes_any (w : World) :
    Calls Tryd.prog 34 #[] w fun e w' => e = .returned (.slice (some ⟨w.heap.size, 0, none⟩) 17 17) ∧ w' = w.alloc (.cells shapeCells 79) := by
  have HS := Lib.hid (show shapeCells = #[Value.string ⟨#[98, 101, 103, 105, 110]⟩, Value.int .i64 1, Value.int .i64 0, Value.string ⟨#[119]⟩, Value.int .i32 111, Value.string ⟨#[115, 116, 101, 112]⟩, Value.int .i64 2, Value.int .i64 0, Value.string ⟨#[119, 110]⟩, Value.int .i32 0,
    Value.string ⟨#[109, 111, 118, 101]⟩, Value.int .i64 3, Value.int .i64 2, Value.string ⟨#[115, 118]⟩, Value.int .i32 0, Value.string ⟨#[115, 112, 108, 105, 116]⟩, Value.int .i64 3, Value.int .i64 3, Value.string ⟨#[115, 111, 118, 101]⟩, Value.int .i32 0,
    Value.string ⟨#[109, 101, 114, 103, 101]⟩, Value.int .i64 3, Value.int .i64 4, Value.string ⟨#[115, 111]⟩, Value.int .i32 0, Value.string ⟨#[103, 101, 116]⟩, Value.int .i64 4, Value.int .i64 0, Value.string ⟨#[110, 107]⟩, Value.int .i32 0,
    Value.string ⟨#[115, 99, 97, 110]⟩, Value.int .i64 5, Value.int .i64 0, Value.string ⟨#[110, 119, 108, 104]⟩, Value.int .i32 0, Value.string ⟨#[99, 114, 97, 115, 104]⟩, Value.int .i64 6, Value.int .i64 0, Value.string ⟨#[110]⟩, Value.int .i32 0,
    Value.string ⟨#[115, 116, 111, 112]⟩, Value.int .i64 7, Value.int .i64 0, Value.string ⟨#[110, 119]⟩, Value.int .i32 0, Value.string ⟨#[117, 112]⟩, Value.int .i64 8, Value.int .i64 0, Value.string ⟨#[110]⟩, Value.int .i32 0,
    Value.string ⟨#[108, 111, 115, 101]⟩, Value.int .i64 9, Value.int .i64 0, Value.string ⟨#[]⟩, Value.int .i32 0, Value.string ⟨#[116, 114, 105, 109]⟩, Value.int .i64 13, Value.int .i64 0, Value.string ⟨#[]⟩, Value.int .i32 0,
    Value.string ⟨#[99, 104, 97, 110, 103, 101]⟩, Value.int .i64 11, Value.int .i64 0, Value.string ⟨#[]⟩, Value.int .i32 0, Value.string ⟨#[114, 101, 99, 111, 110]⟩, Value.int .i64 10, Value.int .i64 0, Value.string ⟨#[119, 102]⟩, Value.int .i32 103,
    Value.string ⟨#[99, 104, 101, 99, 107]⟩, Value.int .i64 12, Value.int .i64 0, Value.string ⟨#[110, 119]⟩, Value.int .i32 0, Value.string ⟨#[118, 111, 116, 101, 114]⟩, Value.int .i64 14, Value.int .i64 0, Value.string ⟨#[110, 119]⟩, Value.int .i32 0,
    Value.string ⟨#[114, 101, 115, 116, 97, 114, 116]⟩, Value.int .i64 15, Value.int .i64 0, Value.string ⟨#[110]⟩, Value.int .i32 0] by kernel_rfl)
  go_enter Tryd.func34, Tryd.ntmps34
  go_wp2_with fail
  go_ret
  rw [HS.out]
  exact ⟨rfl, rfl⟩
end Go.Proofs.YtjhmehmmpfnnkaaDoor
