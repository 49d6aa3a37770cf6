/-
  The contract of tidewaterref31.Quote.
-/
import Derived.Test.YtjhmehmmpfnnkaaDoorLQuote
import Derived.Test.YtjhmehmmpfnnkaaDoorLRefWords
namespace Go.Proofs.YtjhmehmmpfnnkaaDoor
open Go.RowKit Utf
set_option maxRecDepth 100000
set_option linter.unusedSimpArgs false
set_option linter.unusedVariables false

theorem own_nat1 {w : World} {B : Nat} {e : TypeId} {v : Value} {l : List Nat} {n : Nat} {xs : List Value} {c : Nat} {x : Int} (hx : x = (c : Int)) (hn : n = l.length) (he : xs = natRow l) (h : w.ownsRow B e 1 v (n + 1) (xs ++ [.int .i64 x])) : w.ownsRow B e 1 v (l ++ [c]).length (natRow (l ++ [c])) := by
  subst hx hn he
  rw [List.length_append]
  simpa [natRow] using h

/-- What tidewaterref31.Quote answers for a right text. -/
def RefQuotePost (rs : List Nat) (w : World) (e : Ending) (w' : World) : Prop :=
  Below w.heap.size w w' ∧ ((∃ q, quoteL rs = some q ∧ e = .returned (.tuple #[.string (mkS (encAll q)), .int .i64 0])) ∨
    (quoteL rs = none ∧ e = .returned (.tuple #[.string ByteArray.empty, .int .i64 4])))

theorem refQuote_none (s : ByteArray) (w : World) (hs : s.size ≤ 1000000) (hd : dec s.data.toList = none) :
    Calls Tryd.prog 15 #[.string s] w fun e w' => e = .returned (.tuple #[.string ByteArray.empty, .int .i64 6]) ∧ Below w.heap.size w w' := by
  have HR := Lib.hid (refRunes_any s w hs)
  rw [hd] at HR
  clear hd
  go_enter Tryd.func15, Tryd.ntmps15
  go_wp2_with fail
  refine HR.out.mono ?_
  rintro e w1 ⟨v, rfl, hb1, -, -⟩
  go_wp2_with fail
  go_ret2
  exact ⟨rfl, hb1⟩

set_option maxHeartbeats 4000000 in
theorem refQuote_some (s : ByteArray) (rs : List Nat) (w : World) (hs : s.size ≤ 400000) (ho : allOk rs) (h : s.data.toList = encAll rs) :
    Calls Tryd.prog 15 #[.string s] w (RefQuotePost rs w) := by
  obtain ⟨i1, hinf, hy0, hy1, hy2⟩ := info_parts Tryd.infoInt
  have hd := dec_encAll ho
  rw [← h] at hd
  have hl := len_le h
  have hrl : rs.length ≤ 400000 := by omega
  have HR := Lib.hid (refRunes_any s w (by omega))
  rw [hd] at HR
  have HOK := Lib.hid ho
  clear hd h ho hl
  go_enter Tryd.func15, Tryd.ntmps15
  go_wp2_with fail
  refine HR.out.mono ?_
  rintro e w1 ⟨v, rfl, hb1, hown, -⟩
  obtain ⟨ao, cap, rfl, hrow, -, hcap, hcm, -, hsp⟩ := own_row (hown rs rfl)
  have HROW := Lib.hid hrow
  have HB1 := Lib.hid hb1
  clear hb1 hown hrow hsp hcap hcm
  go_wp2_with fail
  go_loopw [6, 19] (fun vo vi wr => ∃ (k : Nat), vi = .int .i64 k ∧ k ≤ rs.length ∧ Below w1.heap.size w1 wr ∧ OwnE wr w1.heap.size 3 1 vo (qrow rs k).length (natRow (qrow rs k)) ∧ Hid ((rs.take k).any badQ = false)) (fun _ vi _ => rs.length - (intOf vi).toNat)
  case atStart => exact ⟨0, rfl, Nat.zero_le _, (Below.refl _ _).alloc (Nat.le_refl _) _, .inr (World.ownsRow_lit w1 #[.int .i64 34] 1 (Nat.le_refl _) (by simp [maxLen]) rfl), rfl⟩
  case round =>
    obtain ⟨k, rfl, hk, hbel, hout, HC⟩ := hrel
    have HQL := Lib.hid (qrow_len rs k)
    have HOU := Lib.hid hout
    have HBE := Lib.hid hbel
    have HSZ2 := Lib.hid hbel.size
    clear hout hbel
    by_cases hlt : k < rs.length
    · have hltd : decide (k < rs.length) = true := decide_eq_true hlt
      obtain ⟨b, o, rfl, hc⟩ := HROW.out k (by rw [natRow_len]; exact hlt)
      rw [natRow_at] at hc
      have hcr := (HBE.out.cell (World.block_lt_of_cell? w1 _ hc)).trans hc
      have HQS := Lib.hid (qrow_succ hlt)
      have HAS := Lib.hid (fun h => anyQ_step hlt HC.out h)
      have HAH := Lib.hid (fun h => anyQ_hit hlt h)
      have hok := HOK.out _ (List.getElem_mem hlt)
      rw [okR_def] at hok
      generalize rs[k] = c at *
      have hc32 : c < 1114112 := by omega
      clear hok
      cases hbq : badQ c with
      | true =>
        have HNO := Lib.hid (HAH.out hbq)
        have hor : ((decide ((c : Int) < 32) = true) ∨ (decide ((c : Int) < 32) = false ∧ ((c : Int) == 127) = true)) := by
          simp [badQ] at hbq
          by_cases h : c < 32
          · exact .inl (decide_eq_true (by omega))
          · refine .inr ⟨decide_eq_false (by omega), ?_⟩
            have : c = 127 := by omega
            subst this
            rfl
        clear hbq
        rcases hor with e1 | ⟨e1, e2⟩
        all_goals
          go_wp2_with fail
          go_ret2
          exact ⟨HB1.out.trans (HBE.out.mono HB1.out.size), .inr ⟨HNO.out, rfl⟩⟩
      | false =>
        have HCS := Lib.hid (HAS.out hbq)
        have e1 : decide ((c : Int) < 32) = false := decide_eq_false (by simp [badQ] at hbq; omega)
        have e2 : ((c : Int) == 127) = false := by simp [badQ] at hbq; simp; omega
        clear hbq
        by_cases hq : c = 34 ∨ c = 92
        · have HQ1 := Lib.hid (show quo1 c = [92, c] by unfold quo1; rw [if_pos hq])
          have hb0 : (c : Int) = 34 ∨ (c : Int) = 92 := by omega
          clear hq
          have hgo : (((c : Int) == 34) = true) ∨ (((c : Int) == 34) = false ∧ ((c : Int) == 92) = true) := by
            rcases hb0 with h | h <;> simp [h]
          clear hb0
          rcases hgo with e34 | ⟨e34, e92⟩
          all_goals
            go_wp2_with (at_builtin; refine appE rfl _ _ 23 rfl 3 i1 (.int .i64 0) 1 8 Tryd.underlying23 hinf hy0 hy1 hy2 rfl (by omega) w1.heap.size _ _ _ rfl HOU.out w1.heap.size (by omega) HBE.out HSZ2.out [.int .i64 92] 1 rfl (by omega) (by intro u hu; simp at hu; subst hu; rfl) rfl (by have := HQL.out; omega) (by omega) ?_)
            refine Lib.hid ?_
            intro v4 w4 hown4 hbel4 hgrow4
            have HB4 := Lib.hid hbel4
            have HO4 := Lib.hid (own_nat1 (c := 92) rfl rfl rfl hown4)
            clear hown4 hbel4 hgrow4
            have HSZ4 := Lib.hid (show w1.heap.size ≤ w4.heap.size from HB4.out.size)
            go_wp2_with (at_builtin; refine appE rfl _ _ 23 rfl 3 i1 (.int .i64 0) 1 8 Tryd.underlying23 hinf hy0 hy1 hy2 rfl (by omega) w1.heap.size _ _ _ rfl (.inr HO4.out) w1.heap.size (by omega) HB4.out HSZ4.out [.int .i64 (c : Int)] 1 rfl (by omega) (by intro u hu; simp at hu; subst hu; rfl) rfl (by have := HQL.out; rw [List.length_append]; simp only [List.length_singleton]; omega) (by omega) ?_)
            refine Lib.hid ?_
            intro v5 w5 hown5 hbel5 hgrow5
            have HB5 := Lib.hid hbel5
            have HO5 := Lib.hid (own_nat1 (l := qrow rs k ++ [92]) (c := c) rfl (by simp) rfl hown5)
            clear hown5 hbel5 hgrow5
            go_wp2_with fail
            go_roundw
            case rel =>
              refine ⟨k + 1, by go_num, by omega, HB5.out, ?_, HCS.out⟩
              have := HO5.out
              rw [HQS.out, HQ1.out]
              rw [List.append_assoc] at this
              exact .inr this
            case measure => simp [intOf]; omega
        · have HQ1 := Lib.hid (show quo1 c = [c] by unfold quo1; rw [if_neg hq])
          have e34 : ((c : Int) == 34) = false := by simp; omega
          have e92 : ((c : Int) == 92) = false := by simp; omega
          clear hq
          go_wp2_with (at_builtin; refine appE rfl _ _ 23 rfl 3 i1 (.int .i64 0) 1 8 Tryd.underlying23 hinf hy0 hy1 hy2 rfl (by omega) w1.heap.size _ _ _ rfl HOU.out w1.heap.size (by omega) HBE.out HSZ2.out [.int .i64 (c : Int)] 1 rfl (by omega) (by intro u hu; simp at hu; subst hu; rfl) rfl (by have := HQL.out; omega) (by omega) ?_)
          refine Lib.hid ?_
          intro v5 w5 hown5 hbel5 hgrow5
          have HB5 := Lib.hid hbel5
          have HO5 := Lib.hid (own_nat1 (c := c) rfl rfl rfl hown5)
          clear hown5 hbel5 hgrow5
          go_wp2_with fail
          go_roundw
          case rel =>
            refine ⟨k + 1, by go_num, by omega, HB5.out, ?_, HCS.out⟩
            have := HO5.out
            rw [HQS.out, HQ1.out]
            exact .inr this
          case measure => simp [intOf]; omega
    · obtain rfl : k = rs.length := by omega
      have HQD := Lib.hid (quote_done HC.out)
      have HQO := Lib.hid ((quote_ok HQD.out HOK.out).1)
      go_wp2_with (at_builtin; refine appE rfl _ _ 23 rfl 3 i1 (.int .i64 0) 1 8 Tryd.underlying23 hinf hy0 hy1 hy2 rfl (by omega) w1.heap.size _ _ _ rfl HOU.out w1.heap.size (by omega) HBE.out HSZ2.out [.int .i64 34] 1 rfl (by omega) (by intro u hu; simp at hu; subst hu; rfl) rfl (by have := HQL.out; omega) (by omega) ?_)
      refine Lib.hid ?_
      intro v5 w5 hown5 hbel5 hgrow5
      have HB5 := Lib.hid hbel5
      have hown6 := own_nat1 (c := 34) rfl rfl rfl hown5
      obtain ⟨a5, c5, rfl, hr5, -⟩ := own_row hown6
      have HT := Lib.hid (fun n (hn : (qrow rs rs.length ++ [34]).length = n) => refText_n n (qrow rs rs.length ++ [34]) a5 c5 w5 hn (by have := HQL.out; rw [List.length_append] at hn; simp at hn; omega) HQO.out hr5)
      clear hown5 hbel5 hgrow5 hown6 hr5
      go_wp2_with fail
      refine (HT.out _ (by simp)).mono ?_
      rintro e w6 ⟨rfl, hb6⟩
      have HB6 := Lib.hid (HB5.out.trans (hb6.mono HB5.out.size))
      clear hb6
      go_wp2_with fail
      go_ret2
      exact ⟨HB1.out.trans (HB6.out.mono HB1.out.size), .inl ⟨_, HQD.out, rfl⟩⟩
end Go.Proofs.YtjhmehmmpfnnkaaDoor
