/-
  The walk of the law LinesWords.
-/
import Derived.Test.YtjhmehmmpfnnkaaDoorLAlive
import Derived.Test.YtjhmehmmpfnnkaaDoorLAll
import Derived.Test.YtjhmehmmpfnnkaaDoorFSameTexts
namespace Go.Proofs.YtjhmehmmpfnnkaaDoor
open Go.RowKit Utf
set_option maxRecDepth 100000
set_option linter.unusedSimpArgs false
set_option linter.unusedVariables false

theorem i64eq (n : Int) : ((n : Int) == n) = true := by simp
theorem i64ne (n : Int) : ((n : Int) != n) = false := by simp
/-- Two lists of texts that are one. -/
theorem same_one (ts : List ByteArray) (n : Nat) (aa ab : Option Addr) (ca cb : Nat) (w : World) (hn : ts.length = n) (hl : n ≤ 1000000) (hra : RowAt w aa (strRow ts)) (hrb : RowAt w ab (strRow ts)) :
    Calls Tryd.prog 11 #[.slice aa n ca, .slice ab n cb] w fun e w' => e = .returned (.bool true) ∧ Below w.heap.size w w' := by
  subst hn
  have := sameTexts_any ts ts aa ab ca cb w hl hl hra hrb
  rw [decide_eq_true rfl] at this
  exact this
theorem wordsR_len (s : ByteArray) : (wordsR s).1.length ≤ s.size + 1 := by
  unfold wordsR
  split
  · simp
  · next rs hd =>
    obtain ⟨ho, h⟩ := dec_some hd
    split
    · simp
    · next ws hw =>
      unfold wordsL at hw
      cases hr : wsRun ws0 rs with
      | none => rw [hr] at hw; cases hw
      | some t =>
        rw [hr] at hw
        have h1 := wsRun_len _ _ _ hr
        have h2 : ws.length ≤ t.out.length + 1 := by
          have hw2 : t.fin = some ws := hw
          unfold WS.fin at hw2
          split at hw2 <;> first | (cases hw2; done) | (cases hw2; simp)
        have h3 := len_le h
        simp [ws0] at h1
        show ws.length ≤ _
        omega

set_option maxHeartbeats 8000000 in
theorem words_walk (ea : Nat → Addr) (s : ByteArray) (w : World) (hm : s.size ≤ maxLen) (he : ErrsAt w ea) :
    Calls Tryd.prog 4 #[.string s] w fun e w' => e = .returned (.bool true) ∧ Below w.heap.size w w' := by
  have HA := Lib.hid (alive_any ea w he.lerr)
  by_cases h500 : (500 : Int) < (s.size : Int)
  · clear he
    unfold maxLen at hm
    go_enter Tryd.func4, Tryd.ntmps4
    go_wp2_with fail
    refine HA.out.mono ?_
    rintro e w1 ⟨rfl, hb1⟩
    go_wp2_with fail
    go_ret
    exact ⟨rfl, hb1⟩
  · have hs : s.size ≤ 500 := by omega
    have h5d : decide ((500 : Int) < (s.size : Int)) = false := decide_eq_false h500
    have HE := Lib.hid he
    have HW := Lib.hid (fun W (h : ErrsAt W ea) => words_all ea s W (by omega) h.lerr)
    have HRW := Lib.hid (fun W => refWords_all s W (by omega))
    have HQ := Lib.hid (fun W (h : ErrsAt W ea) => quote_all ea s W (by omega) h.lerr)
    have HRQ := Lib.hid (fun W => refQuote_all s W (by omega))
    have HU := Lib.hid (fun W (h : ErrsAt W ea) => unquote_all ea s W (by omega) h.lerr)
    have HRU := Lib.hid (fun W => refUnq_all s W (by omega))
    have HNW := Lib.hid (fun W h => num_of ea (wordsR s).2 W (wordsR_lt s) h)
    have HNQ := Lib.hid (fun W h => num_of ea (quoteR s).2 W (quoteR_lt s) h)
    have HNU := Lib.hid (fun W h => num_of ea (unqR s).2 W (unqR_lt s) h)
    have HSM := Lib.hid (fun aa ab ca cb W ha hb => same_one (fieldTexts (wordsR s).1) (wordsR s).1.length aa ab ca cb W (fieldTexts_len _) (by have := wordsR_len s; omega) ha hb)
    have HBK := Lib.hid (fun h : (quoteR s).2 = 0 => quoteR_back h)
    clear he
    generalize wordsR s = wr at *
    generalize hqr : quoteR s = qr at *
    generalize unqR s = ur at *
    obtain ⟨ws, wn⟩ := wr
    obtain ⟨q, qn⟩ := qr
    obtain ⟨u, un⟩ := ur
    have n1 := i64ne (wn : Int)
    have n2 := i64ne (qn : Int)
    have n3 := i64eq (un : Int)
    clear hqr
    unfold maxLen at hm
    dsimp only at HW HRW HQ HRQ HU HRU HNW HNQ HNU HSM HBK
    by_cases hq0 : qn = 0
    · obtain ⟨hb1, q1, hb2, hb3, hb4⟩ := HBK.out hq0
      have HUQ := Lib.hid (fun W (h : ErrsAt W ea) => unquote_all ea q W (by omega) h.lerr)
      have HWQ := Lib.hid (fun W (h : ErrsAt W ea) => words_all ea q W (by omega) h.lerr)
      rw [hb1] at HUQ
      rw [hb2] at HWQ
      dsimp only at HUQ HWQ
      rw [errOf_zero] at HUQ HWQ
      have hsb := str_beq s s
      rw [decide_eq_true rfl] at hsb
      have HQ3 := Lib.hid hb3
      clear hb1 hb2 hb3 hb4 HBK
      subst hq0
      have n4 : (((0 : Nat) : Int) == 0) = true := rfl
      go_enter Tryd.func4, Tryd.ntmps4
      go_wp2_with fail
      refine HA.out.mono ?_
      rintro e w1 ⟨rfl, hb1⟩
      have E1 := Lib.hid (HE.out.below hb1)
      have B1 := Lib.hid hb1
      clear hb1
      go_wp2_with fail
      refine (HW.out _ E1.out).mono ?_
      rintro e w2 ⟨v2, rfl, hown2, hb2⟩
      obtain ⟨a2, c2, rfl, hr2, -⟩ := hown2.row
      have R2 := Lib.hid hr2
      have E2 := Lib.hid (E1.out.below hb2)
      have B2 := Lib.hid (B1.out.trans (hb2.mono B1.out.size))
      clear hb2 hown2 hr2 E1 B1
      go_wp2_with fail
      refine (HRW.out _).mono ?_
      rintro e w3 ⟨v3, rfl, hown3, hb3⟩
      obtain ⟨a3, c3, rfl, hr3, -⟩ := hown3.row
      have R23 := Lib.hid (R2.out.below hb3)
      have R3 := Lib.hid hr3
      have E3 := Lib.hid (E2.out.below hb3)
      have B3 := Lib.hid (B2.out.trans (hb3.mono B2.out.size))
      clear hb3 hown3 hr3 E2 B2 R2
      go_wp2_with fail
      refine (HNW.out _ E3.out).mono ?_
      rintro e w4 ⟨rfl, hb4⟩
      have R24 := Lib.hid (R23.out.below hb4)
      have R4 := Lib.hid (R3.out.below hb4)
      have E4 := Lib.hid (E3.out.below hb4)
      have B4 := Lib.hid (B3.out.trans (hb4.mono B3.out.size))
      clear hb4 E3 B3 R23 R3
      go_wp2_with fail
      refine (HSM.out _ _ _ _ _ R24.out R4.out).mono ?_
      rintro e w5 ⟨rfl, hb5⟩
      have E5 := Lib.hid (E4.out.below hb5)
      have B5 := Lib.hid (B4.out.trans (hb5.mono B4.out.size))
      clear R24 R4 hb5 E4 B4
      go_wp2_with fail
      refine (HQ.out _ E5.out).mono ?_
      rintro e w6 ⟨rfl, hb6⟩
      have E6 := Lib.hid (E5.out.below hb6)
      have B6 := Lib.hid (B5.out.trans (hb6.mono B5.out.size))
      clear hb6 E5 B5
      go_wp2_with fail
      refine (HRQ.out _).mono ?_
      rintro e w7 ⟨rfl, hb7⟩
      have E7 := Lib.hid (E6.out.below hb7)
      have B7 := Lib.hid (B6.out.trans (hb7.mono B6.out.size))
      clear hb7 E6 B6
      go_wp2_with fail
      refine (HNQ.out _ E7.out).mono ?_
      rintro e w8 ⟨rfl, hb8⟩
      have E8 := Lib.hid (E7.out.below hb8)
      have B8 := Lib.hid (B7.out.trans (hb8.mono B7.out.size))
      clear hb8 E7 B7
      go_wp2_with fail
      refine (HUQ.out _ E8.out).mono ?_
      rintro e w9 ⟨rfl, hb9⟩
      have E9 := Lib.hid (E8.out.below hb9)
      have B9 := Lib.hid (B8.out.trans (hb9.mono B8.out.size))
      clear hb9 E8 B8
      go_wp2_with fail
      refine (HWQ.out _ E9.out).mono ?_
      rintro e w10 ⟨v10, rfl, hown10, hb10⟩
      obtain ⟨a10, c10, rfl, hr10, -⟩ := hown10.row
      have R10 := Lib.hid (show RowAt w10 a10 (strRow [q]) by rw [← HQ3.out]; exact hr10)
      clear hown10 hr10
      have E10 := Lib.hid (E9.out.below hb10)
      have B10 := Lib.hid (B9.out.trans (hb10.mono B9.out.size))
      clear hb10 E9 B9
      go_wp2_with fail
      refine (same_one [q] 1 a10 _ c10 _ _ rfl (by omega) (R10.out.below ((Below.refl _ _).alloc (Nat.le_refl _) _)) (fun i hi => by
        obtain rfl : i = 0 := by simp [strRow] at hi; omega
        exact ⟨_, _, rfl, one_cell _ _ _ 0 _ rfl⟩)).mono ?_
      rintro e w11 ⟨rfl, hb11⟩
      have B11 := Lib.hid ((B10.out.alloc B10.out.size _).trans (hb11.mono (by have := B10.out.size; simp; omega)))
      have E11 := Lib.hid ((E10.out.below ((Below.refl _ _).alloc (Nat.le_refl _) (.cells #[.string q] 9))).below hb11)
      clear hb11 E10 B10 R10
      go_wp2_with fail
      refine (HU.out _ E11.out).mono ?_
      rintro e w12 ⟨rfl, hb12⟩
      have E12 := Lib.hid (E11.out.below hb12)
      have B12 := Lib.hid (B11.out.trans (hb12.mono B11.out.size))
      clear hb12 E11 B11
      go_wp2_with fail
      refine (HRU.out _).mono ?_
      rintro e w13 ⟨rfl, hb13⟩
      have E13 := Lib.hid (E12.out.below hb13)
      have B13 := Lib.hid (B12.out.trans (hb13.mono B12.out.size))
      clear hb13 E12 B12
      go_wp2_with fail
      refine (HNU.out _ E13.out).mono ?_
      rintro e w14 ⟨rfl, hb14⟩
      have B14 := Lib.hid (B13.out.trans (hb14.mono B13.out.size))
      clear hb14 E13 B13
      go_wp2_with fail
      go_ret
      exact ⟨by first | rfl | simp, B14.out⟩
    · have n4 : ((qn : Int) == 0) = false := by simp; omega
      clear HBK hq0
      go_enter Tryd.func4, Tryd.ntmps4
      go_wp2_with fail
      refine HA.out.mono ?_
      rintro e w1 ⟨rfl, hb1⟩
      have E1 := Lib.hid (HE.out.below hb1)
      have B1 := Lib.hid hb1
      clear hb1
      go_wp2_with fail
      refine (HW.out _ E1.out).mono ?_
      rintro e w2 ⟨v2, rfl, hown2, hb2⟩
      obtain ⟨a2, c2, rfl, hr2, -⟩ := hown2.row
      have R2 := Lib.hid hr2
      have E2 := Lib.hid (E1.out.below hb2)
      have B2 := Lib.hid (B1.out.trans (hb2.mono B1.out.size))
      clear hb2 hown2 hr2 E1 B1
      go_wp2_with fail
      refine (HRW.out _).mono ?_
      rintro e w3 ⟨v3, rfl, hown3, hb3⟩
      obtain ⟨a3, c3, rfl, hr3, -⟩ := hown3.row
      have R23 := Lib.hid (R2.out.below hb3)
      have R3 := Lib.hid hr3
      have E3 := Lib.hid (E2.out.below hb3)
      have B3 := Lib.hid (B2.out.trans (hb3.mono B2.out.size))
      clear hb3 hown3 hr3 E2 B2 R2
      go_wp2_with fail
      refine (HNW.out _ E3.out).mono ?_
      rintro e w4 ⟨rfl, hb4⟩
      have R24 := Lib.hid (R23.out.below hb4)
      have R4 := Lib.hid (R3.out.below hb4)
      have E4 := Lib.hid (E3.out.below hb4)
      have B4 := Lib.hid (B3.out.trans (hb4.mono B3.out.size))
      clear hb4 E3 B3 R23 R3
      go_wp2_with fail
      refine (HSM.out _ _ _ _ _ R24.out R4.out).mono ?_
      rintro e w5 ⟨rfl, hb5⟩
      have E5 := Lib.hid (E4.out.below hb5)
      have B5 := Lib.hid (B4.out.trans (hb5.mono B4.out.size))
      clear R24 R4 hb5 E4 B4
      go_wp2_with fail
      refine (HQ.out _ E5.out).mono ?_
      rintro e w6 ⟨rfl, hb6⟩
      have E6 := Lib.hid (E5.out.below hb6)
      have B6 := Lib.hid (B5.out.trans (hb6.mono B5.out.size))
      clear hb6 E5 B5
      go_wp2_with fail
      refine (HRQ.out _).mono ?_
      rintro e w7 ⟨rfl, hb7⟩
      have E7 := Lib.hid (E6.out.below hb7)
      have B7 := Lib.hid (B6.out.trans (hb7.mono B6.out.size))
      clear hb7 E6 B6
      go_wp2_with fail
      refine (HNQ.out _ E7.out).mono ?_
      rintro e w8 ⟨rfl, hb8⟩
      have E8 := Lib.hid (E7.out.below hb8)
      have B8 := Lib.hid (B7.out.trans (hb8.mono B7.out.size))
      clear hb8 E7 B7
      go_wp2_with fail
      refine (HU.out _ E8.out).mono ?_
      rintro e w9 ⟨rfl, hb9⟩
      have E9 := Lib.hid (E8.out.below hb9)
      have B9 := Lib.hid (B8.out.trans (hb9.mono B8.out.size))
      clear hb9 E8 B8
      go_wp2_with fail
      refine (HRU.out _).mono ?_
      rintro e w10 ⟨rfl, hb10⟩
      have E10 := Lib.hid (E9.out.below hb10)
      have B10 := Lib.hid (B9.out.trans (hb10.mono B9.out.size))
      clear hb10 E9 B9
      go_wp2_with fail
      refine (HNU.out _ E10.out).mono ?_
      rintro e w11 ⟨rfl, hb11⟩
      have B11 := Lib.hid (B10.out.trans (hb11.mono B10.out.size))
      clear hb11 E10 B10
      go_wp2_with fail
      go_ret
      exact ⟨by first | rfl | simp, B11.out⟩
end Go.Proofs.YtjhmehmmpfnnkaaDoor
