/-
  The contract of tidewaterref31.Unquote.
-/
import Derived.Test.YtjhmehmmpfnnkaaDoorLRefQuote
import Derived.Test.YtjhmehmmpfnnkaaDoorLUnq
namespace Go.Proofs.YtjhmehmmpfnnkaaDoor
open Go.RowKit Utf
set_option maxRecDepth 100000
set_option linter.unusedSimpArgs false
set_option linter.unusedVariables false

theorem unmark_sub : ∀ (n : Nat) (l : List Nat), l.length ≤ n → (∀ c ∈ unmark l, c ∈ l) ∧ (unmark l).length ≤ l.length
  | 0, l, h => by
    obtain rfl : l = [] := List.length_eq_zero_iff.1 (by omega)
    exact ⟨fun c hc => hc, Nat.le_refl _⟩
  | n + 1, [], h => ⟨fun c hc => hc, Nat.le_refl _⟩
  | n + 1, x :: l, h => by
    have hl : l.length ≤ n := by simpa using h
    unfold unmark
    by_cases hx : x = 92
    · rw [if_pos hx]
      cases l with
      | nil => exact ⟨(fun c hc => by cases hc), Nat.zero_le _⟩
      | cons y r =>
        obtain ⟨h1, h2⟩ := unmark_sub n r (by simp at hl; omega)
        refine ⟨fun c hc => ?_, by simp; omega⟩
        rcases List.mem_cons.1 hc with rfl | hc
        · simp
        · simp [h1 c hc]
    · rw [if_neg hx]
      obtain ⟨h1, h2⟩ := unmark_sub n l hl
      refine ⟨fun c hc => ?_, by simp; omega⟩
      rcases List.mem_cons.1 hc with rfl | hc
      · simp
      · simp [h1 c hc]

def midL (rs : List Nat) : List Nat := rs.tail.dropLast
theorem midL_len (rs : List Nat) : (midL rs).length = rs.length - 2 := by simp [midL]; omega
theorem midL_drop {rs : List Nat} {i : Nat} (h1 : 1 ≤ i) (h2 : i + 1 < rs.length) : (midL rs).drop (i - 1) = rs[i] :: (midL rs).drop i := by
  rw [List.drop_eq_getElem_cons (by rw [midL_len]; omega)]
  congr 1
  · simp [midL]
    congr 1
    omega
  · congr 1
    omega
theorem midL_end {rs : List Nat} {i : Nat} (h2 : rs.length ≤ i + 1) : (midL rs).drop (i - 1) = [] := List.drop_eq_nil_of_le (by rw [midL_len]; omega)

section
variable {rs out : List Nat} {i : Nat}
theorem u_plain (h1 : 1 ≤ i) (h2 : i + 1 < rs.length) (h : unmark (midL rs) = out ++ unmark ((midL rs).drop (i - 1))) (hx : rs[i] ≠ 92) : unmark (midL rs) = (out ++ [rs[i]]) ++ unmark ((midL rs).drop (i + 1 - 1)) := by
  rw [midL_drop h1 h2] at h
  rw [h]
  conv => lhs; unfold unmark
  rw [if_neg hx, Nat.add_sub_cancel]
  simp
theorem u_mark (h1 : 1 ≤ i) (h2 : i + 1 + 1 < rs.length) (h : unmark (midL rs) = out ++ unmark ((midL rs).drop (i - 1))) (hx : rs[i] = 92) : unmark (midL rs) = (out ++ [rs[i + 1]]) ++ unmark ((midL rs).drop (i + 1 + 1 - 1)) := by
  rw [midL_drop h1 (by omega)] at h
  have h3 := midL_drop (rs := rs) (i := i + 1) (by omega) h2
  rw [Nat.add_sub_cancel] at h3
  rw [h]
  conv => lhs; unfold unmark
  rw [if_pos hx, h3, Nat.add_sub_cancel]
  simp
theorem u_last (h1 : 1 ≤ i) (h2 : i + 1 + 1 = rs.length) (h : unmark (midL rs) = out ++ unmark ((midL rs).drop (i - 1))) (hx : rs[i] = 92) : unmark (midL rs) = out ++ unmark ((midL rs).drop (i + 1 + 1 - 1)) := by
  rw [midL_drop h1 (by omega)] at h
  have h3 := midL_end (rs := rs) (i := i + 1) (by omega)
  rw [Nat.add_sub_cancel] at h3
  have h4 := midL_end (rs := rs) (i := i + 1 + 1) (by omega)
  rw [h4, h]
  conv => lhs; unfold unmark
  rw [if_pos hx, h3]
  simp [unmark]
theorem u_done (h2 : rs.length ≤ i + 1) (h : unmark (midL rs) = out ++ unmark ((midL rs).drop (i - 1))) : out = unmark (midL rs) := by
  rw [midL_end h2] at h
  rw [h]
  simp [unmark]
end
theorem unq_bad2 {rs : List Nat} (h : rs.length < 2) : unquoteL rs = none := unquoteL_bad (.inl h)
theorem unq_yes {rs : List Nat} (h : 2 ≤ rs.length) (hq : quoteL (unmark (midL rs)) = some rs) : unquoteL rs = some (unmark (midL rs)) := by
  rw [unquoteL_ref rs h]; exact if_pos hq
theorem unq_no {rs : List Nat} (h : 2 ≤ rs.length) (hq : quoteL (unmark (midL rs)) ≠ some rs) : unquoteL rs = none := by
  rw [unquoteL_ref rs h]; exact if_neg hq

/-- What tidewaterref31.Unquote answers for a right text. -/
def RefUnqPost (rs : List Nat) (w : World) (e : Ending) (w' : World) : Prop :=
  Below w.heap.size w w' ∧ ((∃ t, unquoteL rs = some t ∧ e = .returned (.tuple #[.string (mkS (encAll t)), .int .i64 0])) ∨
    (unquoteL rs = none ∧ e = .returned (.tuple #[.string ByteArray.empty, .int .i64 4])))

theorem refUnq_none (s : ByteArray) (w : World) (hs : s.size ≤ 1000000) (hd : dec s.data.toList = none) :
    Calls Tryd.prog 16 #[.string s] w fun e w' => e = .returned (.tuple #[.string ByteArray.empty, .int .i64 6]) ∧ Below w.heap.size w w' := by
  have HR := Lib.hid (refRunes_any s w hs)
  rw [hd] at HR
  clear hd
  go_enter Tryd.func16, Tryd.ntmps16
  go_wp2_with fail
  refine HR.out.mono ?_
  rintro e w1 ⟨v, rfl, hb1, -, -⟩
  go_wp2_with fail
  go_ret2
  exact ⟨rfl, hb1⟩

set_option maxHeartbeats 4000000 in
theorem refUnq_some (s : ByteArray) (rs : List Nat) (w : World) (hs : s.size ≤ 100000) (ho : allOk rs) (h : s.data.toList = encAll rs) :
    Calls Tryd.prog 16 #[.string s] w (RefUnqPost rs w) := by
  obtain ⟨i1, hinf, hy0, hy1, hy2⟩ := info_parts Tryd.infoInt
  have hd := dec_encAll ho
  rw [← h] at hd
  have hl := len_le h
  have hrl : rs.length ≤ 100000 := by omega
  have HR := Lib.hid (refRunes_any s w (by omega))
  rw [hd] at HR
  have HOK := Lib.hid ho
  have HSD := Lib.hid h
  clear hd h ho hl
  by_cases h2 : rs.length < 2
  · have h2d : decide ((rs.length : Int) < 2) = true := decide_eq_true (by omega)
    have HN := Lib.hid (unq_bad2 h2)
    go_enter Tryd.func16, Tryd.ntmps16
    go_wp2_with fail
    refine HR.out.mono ?_
    rintro e w1 ⟨v, rfl, hb1, hown, -⟩
    obtain ⟨ao, cap, rfl, -⟩ := own_row (hown rs rfl)
    clear hown
    go_wp2_with fail
    go_ret2
    exact ⟨hb1, .inr ⟨HN.out, rfl⟩⟩
  · have h2d : decide ((rs.length : Int) < 2) = false := decide_eq_false (by omega)
    have h2' : 2 ≤ rs.length := by omega
    go_enter Tryd.func16, Tryd.ntmps16
    go_wp2_with fail
    refine HR.out.mono ?_
    rintro e w1 ⟨v, rfl, hb1, hown, -⟩
    obtain ⟨ao, cap, rfl, hrow, -, hcap, hcm, -, hsp⟩ := own_row (hown rs rfl)
    have HROW := Lib.hid hrow
    have HB1 := Lib.hid hb1
    clear hb1 hown hrow hsp hcap hcm
    go_wp2_with fail
    go_loopw [6, 7] (fun vo vi wr => ∃ (i : Nat) (out : List Nat), vi = .int .i64 i ∧ 1 ≤ i ∧ i ≤ rs.length ∧ out.length ≤ i ∧ Below w1.heap.size w1 wr ∧ OwnE wr w1.heap.size 3 1 vo out.length (natRow out) ∧ Hid (unmark (midL rs) = out ++ unmark ((midL rs).drop (i - 1)))) (fun _ vi _ => rs.length - (intOf vi).toNat)
    case atStart => exact ⟨1, [], rfl, by omega, by omega, by simp, (Below.refl _ _).alloc (Nat.le_refl _) _, .new, rfl⟩
    case round =>
      obtain ⟨i, out, rfl, hi1, hil, hol, hbel, hout, HC⟩ := hrel
      have HOU := Lib.hid hout
      have HBE := Lib.hid hbel
      have HSZ2 := Lib.hid hbel.size
      clear hout hbel
      by_cases hlt : i + 1 < rs.length
      · have hltd : decide ((i : Int) < (rs.length : Int) - 1) = true := decide_eq_true (by omega)
        obtain ⟨b, o, rfl, hc⟩ := HROW.out i (by rw [natRow_len]; omega)
        rw [natRow_at] at hc
        have hcr := (HBE.out.cell (World.block_lt_of_cell? w1 _ hc)).trans hc
        by_cases hx : rs[i] = 92
        · have e92 : ((rs[i] : Int) == 92) = true := by simp [hx]
          by_cases hl2 : i + 1 + 1 < rs.length
          · have hl2d : decide ((i : Int) + 1 < (rs.length : Int) - 1) = true := decide_eq_true (by omega)
            obtain ⟨b2, o2, hao, hc2⟩ := HROW.out (i + 1) (by rw [natRow_len]; omega)
            cases hao
            rw [natRow_at] at hc2
            have hcr2 := (HBE.out.cell (World.block_lt_of_cell? w1 _ hc2)).trans hc2
            have HN := Lib.hid (u_mark hi1 hl2 HC.out hx)
            clear hx hc hc2
            generalize rs[i] = c at *
            generalize rs[i + 1] = d at *
            go_wp2_with (at_builtin; refine appE rfl _ _ 23 rfl 3 i1 (.int .i64 0) 1 8 Tryd.underlying23 hinf hy0 hy1 hy2 rfl (by omega) w1.heap.size _ _ _ rfl HOU.out w1.heap.size (by omega) HBE.out HSZ2.out [.int .i64 (d : Int)] 1 rfl (by omega) (by intro u hu; simp at hu; subst hu; rfl) rfl (by omega) (by omega) ?_)
            refine Lib.hid ?_
            intro v5 w5 hown5 hbel5 hgrow5
            have HB5 := Lib.hid hbel5
            have HO5 := Lib.hid (own_nat1 (c := d) rfl rfl rfl hown5)
            clear hown5 hbel5 hgrow5
            go_wp2_with fail
            go_roundw
            case rel => exact ⟨i + 1 + 1, out ++ [d], by go_num, by omega, by omega, by simp; omega, HB5.out, .inr HO5.out, HN.out⟩
            case measure => simp [intOf]; omega
          · have hl2d : decide ((i : Int) + 1 < (rs.length : Int) - 1) = false := decide_eq_false (by omega)
            have HN := Lib.hid (u_last hi1 (by omega) HC.out hx)
            clear hx hc
            generalize rs[i] = c at *
            go_wp2_with fail
            go_roundw
            case rel => exact ⟨i + 1 + 1, out, by go_num, by omega, by omega, by omega, HBE.out, HOU.out, HN.out⟩
            case measure => simp [intOf]; omega
        · have e92 : ((rs[i] : Int) == 92) = false := by simp; omega
          have HN := Lib.hid (u_plain hi1 hlt HC.out hx)
          clear hx hc
          generalize rs[i] = d at *
          go_wp2_with (at_builtin; refine appE rfl _ _ 23 rfl 3 i1 (.int .i64 0) 1 8 Tryd.underlying23 hinf hy0 hy1 hy2 rfl (by omega) w1.heap.size _ _ _ rfl HOU.out w1.heap.size (by omega) HBE.out HSZ2.out [.int .i64 (d : Int)] 1 rfl (by omega) (by intro u hu; simp at hu; subst hu; rfl) rfl (by omega) (by omega) ?_)
          refine Lib.hid ?_
          intro v5 w5 hown5 hbel5 hgrow5
          have HB5 := Lib.hid hbel5
          have HO5 := Lib.hid (own_nat1 (c := d) rfl rfl rfl hown5)
          clear hown5 hbel5 hgrow5
          go_wp2_with fail
          go_roundw
          case rel => exact ⟨i + 1, out ++ [d], by go_num, by omega, by omega, by simp; omega, HB5.out, .inr HO5.out, HN.out⟩
          case measure => simp [intOf]; omega
      · have hltd : decide ((i : Int) < (rs.length : Int) - 1) = false := decide_eq_false (by omega)
        obtain ⟨hm1, hm2⟩ := unmark_sub _ (midL rs) (Nat.le_refl _)
        have hm3 := midL_len rs
        obtain rfl := u_done (by omega) HC.out
        have HMO := Lib.hid (show allOk (unmark (midL rs)) from fun c hc => HOK.out c (List.mem_of_mem_tail ((List.dropLast_sublist _).subset (hm1 c hc))))
        obtain ⟨a5, c5, rfl, hr5, -⟩ := HOU.out.row
        have HT := Lib.hid (refText_n (unmark (midL rs)).length (unmark (midL rs)) a5 c5 wr rfl (by omega) HMO.out hr5)
        have HQ := Lib.hid (fun W => refQuote_some (mkS (encAll (unmark (midL rs)))) (unmark (midL rs)) W (by rw [mkS_size]; have := encAll_le (unmark (midL rs)); omega) HMO.out rfl)
        have HYES := Lib.hid (fun hq => unq_yes (rs := rs) h2' hq)
        have HNO := Lib.hid (fun hq => unq_no (rs := rs) h2' hq)
        have HINJ := Lib.hid (fun (q : List Nat) (hq : quoteL (unmark (midL rs)) = some q) => show ((mkS (encAll q)).toList == s.toList) = decide (q = rs) by
          rw [str_beq]
          by_cases h : q = rs
          · rw [decide_eq_true h, decide_eq_true]
            subst h
            exact str_ext HSD.out.symm
          · rw [decide_eq_false h, decide_eq_false]
            intro h3
            apply h
            apply encAll_inj (quote_ok hq HMO.out).1 HOK.out
            rw [← HSD.out, ← h3]
            rfl)
        clear hm1 hm2 hm3 hr5 HC
        generalize unmark (midL rs) = t at *
        go_wp2_with fail
        refine HT.out.mono ?_
        rintro e w4 ⟨rfl, hb4⟩
        have HB4 := Lib.hid (HBE.out.trans (hb4.mono HBE.out.size))
        clear hb4
        go_wp2_with fail
        refine (HQ.out _).mono ?_
        rintro e w5 ⟨hb5, hres⟩
        have HB5 := Lib.hid (HB4.out.trans (hb5.mono HB4.out.size))
        clear hb5
        rcases hres with ⟨q, hq, rfl⟩ | ⟨hq, rfl⟩
        · have hin := HINJ.out q hq
          by_cases hqr : q = rs
          · rw [decide_eq_true hqr] at hin
            have hin2 : (!((mkS (encAll q)).toList == s.toList)) = false := by rw [hin]; rfl
            have HF := Lib.hid (HYES.out (by rw [hq, hqr]))
            clear hq hqr
            go_wp2_with fail
            go_ret2
            exact ⟨HB1.out.trans (HB5.out.mono HB1.out.size), .inl ⟨_, HF.out, rfl⟩⟩
          · rw [decide_eq_false hqr] at hin
            have hin2 : (!((mkS (encAll q)).toList == s.toList)) = true := by rw [hin]; rfl
            have HF := Lib.hid (HNO.out (by rw [hq]; exact fun h => hqr (Option.some.inj h)))
            clear hq hqr
            go_wp2_with fail
            go_ret2
            exact ⟨HB1.out.trans (HB5.out.mono HB1.out.size), .inr ⟨HF.out, rfl⟩⟩
        · have HF := Lib.hid (HNO.out (by rw [hq]; exact fun h => by cases h))
          clear hq
          go_wp2_with fail
          go_ret2
          exact ⟨HB1.out.trans (HB5.out.mono HB1.out.size), .inr ⟨HF.out, rfl⟩⟩
end Go.Proofs.YtjhmehmmpfnnkaaDoor
