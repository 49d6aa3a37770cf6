/-
  The contract of lines.decimal.
  Plain: a line's words, read from a place on. No program in sight.
-/
import Derived.Test.YtjhmehmmpfnnkaaDoorM04
import Derived.Test.YtjhmehmmpfnnkaaDoorM10
import Derived.Test.YtjhmehmmpfnnkaaDoorM03
namespace Go.Proofs.YtjhmehmmpfnnkaaDoor
open Go.RowKit Utf
set_option maxRecDepth 100000
set_option linter.unusedSimpArgs false
set_option linter.unusedVariables false

/-- What decimal answers. -/
def DecPost (ea : Nat → Addr) (b : Nat) (n : Int) (w : World) (e : Ending) (w' : World) : Prop :=
  Below w.heap.size w w' ∧ ∃ t m, e = .returned (.tuple #[.string t, errOf ea m]) ∧ t.size ≤ b ∧ ((∃ d, decL n = some d ∧ t = mkS (encAll d) ∧ m = 0) ∨ (decL n = none ∧ m = 4))

/-- How far the digits are: those told, last first. -/
def DigAt (n : Nat) (out : List Nat) (m : Nat) : Prop := m * 10 ^ out.length ≤ n ∧ (∀ c ∈ out, c < 128) ∧ ((out = [] ∧ m = n) ∨ (out ≠ [] ∧ ((m = 0 ∧ digs n = out.reverse) ∨ (0 < m ∧ digs n = digs m ++ out.reverse))))
theorem DigAt.start (n : Nat) : DigAt n [] n := ⟨by simp, by simp, .inl ⟨rfl, rfl⟩⟩
theorem DigAt.len {n : Nat} {out : List Nat} {m : Nat} (h : DigAt n out m) (hn : n < 10 ^ 19) (hm : 0 < m ∨ out = []) : out.length ≤ 18 := by
  rcases hm with hm | rfl
  · have h1 : 10 ^ out.length ≤ n := Nat.le_trans (Nat.le_mul_of_pos_left _ hm) h.1
    rcases Nat.lt_or_ge out.length 19 with h2 | h2
    · omega
    · have := Nat.pow_le_pow_right (n := 10) (by omega) h2
      omega
  · simp
theorem digs_lt {m : Nat} (h : m < 10) : digs m = [48 + m] := by
  unfold digs
  rw [dif_pos h]
theorem digs_ge {m : Nat} (h : ¬ m < 10) : digs m = digs (m / 10) ++ [48 + m % 10] := by
  conv => lhs; unfold digs
  rw [dif_neg h]
theorem DigAt.step {n : Nat} {out : List Nat} {m : Nat} (h : DigAt n out m) (hm : 0 < m ∨ out = []) : DigAt n (out ++ [48 + m % 10]) (m / 10) := by
  obtain ⟨h1, h2, h3⟩ := h
  refine ⟨?_, ?_, .inr ⟨by simp, ?_⟩⟩
  · rw [List.length_append, List.length_singleton, Nat.pow_succ, Nat.mul_comm (10 ^ _) 10, ← Nat.mul_assoc]
    exact Nat.le_trans (Nat.mul_le_mul_right _ (Nat.div_mul_le_self m 10)) h1
  · intro c hc
    rcases List.mem_append.1 hc with hc | hc
    · exact h2 c hc
    · simp at hc; omega
  · have hd : digs n = digs m ++ out.reverse := by
      rcases h3 with ⟨rfl, rfl⟩ | ⟨hne, h3⟩
      · simp
      · rcases h3 with ⟨rfl, _⟩ | ⟨_, h3⟩
        · rcases hm with hm | hm
          · omega
          · exact absurd hm hne
        · exact h3
    rw [List.reverse_append, List.reverse_singleton, hd]
    by_cases hlt : m < 10
    · refine .inl ⟨by omega, ?_⟩
      rw [digs_lt hlt, show m % 10 = m by omega]
    · refine .inr ⟨by omega, ?_⟩
      rw [digs_ge hlt, List.append_assoc]
theorem DigAt.done {n : Nat} {out : List Nat} (h : DigAt n out 0) (hne : out ≠ []) : digs n = out.reverse := by
  rcases h.2.2 with ⟨h, _⟩ | ⟨_, ⟨_, h⟩ | ⟨h, _⟩⟩
  · exact absurd h hne
  · exact h
  · omega
theorem digs_big {n : Nat} (h : 9 < (digs n).length) : 999999999 < n := by
  rcases Nat.lt_or_ge 999999999 n with h1 | h1
  · exact h1
  · have := digs_len n 8 (by omega)
    omega
theorem digs_small {n : Nat} (h : (digs n).length ≤ 9) : n ≤ 999999999 := by
  have h1 := valOf_lt9 (digs_all n) h
  rw [digs_val] at h1
  exact h1
def dbytes (l : List Nat) : List UInt8 := l.map UInt8.ofNat
theorem dbytes_enc : ∀ (l : List Nat), (∀ c ∈ l, c < 128) → encAll l = dbytes l
  | [], _ => rfl
  | c :: l, h => by
    rw [encAll_cons, enc_one (h c (by simp)), dbytes_enc l (fun x hx => h x (List.mem_cons_of_mem _ hx))]
    rfl
theorem byteRow_dsnoc (l : List Nat) (c : Nat) (hc : c < 128) : byteRow (dbytes l) ++ [.int .u8 (c : Int)] = byteRow (dbytes (l ++ [c])) := by
  simp [byteRow, dbytes, Nat.mod_eq_of_lt (show c < 256 by omega)]
theorem dbytes_rev (l : List Nat) : (dbytes l).reverse = dbytes l.reverse := by simp [dbytes]
theorem dbytes_len (l : List Nat) : (dbytes l).length = l.length := by simp [dbytes]

def decM (v0 v6 : Value) : Nat := 2 * (intOf v0).toNat + (match v6 with | .slice _ 0 _ => 1 | _ => 0)
theorem decM_succ (m : Nat) (ao : Option Addr) (n c : Nat) (h : n ≠ 0) : decM (.int .i64 (m : Int)) (.slice ao n c) = 2 * m := by
  obtain ⟨n, rfl⟩ : ∃ k, n = k + 1 := ⟨n - 1, by omega⟩
  simp [decM, intOf]
theorem decM_zero (m : Nat) (ao : Option Addr) (c : Nat) : decM (.int .i64 (m : Int)) (.slice ao 0 c) = 2 * m + 1 := by
  simp [decM, intOf]
theorem decM_le (m : Nat) (v : Value) : decM (.int .i64 (m : Int)) v ≤ 2 * m + 1 := by
  simp only [decM, intOf]
  split <;> omega

set_option maxHeartbeats 2000000 in
theorem decimal_nat (ea : Nat → Addr) (n : Nat) (w : World) (hn : n ≤ 9223372036854775807) (he : LErr w ea) :
    Calls Tryd.prog 63 #[.int .i64 (n : Int)] w (DecPost ea 29 (n : Int) w) := by
  obtain ⟨i0, hi, hz0, hz1, hz2⟩ := info_parts Tryd.infoByte
  have HE := Lib.hid he
  have hnn : ¬ (n : Int) < 0 := by omega
  clear he
  go_enter Tryd.func63, Tryd.ntmps63
  go_wp2_with fail
  go_loopw [0, 6] (fun v0 v6 wr => ∃ (out : List Nat) (m : Nat), v0 = .int .i64 m ∧ Hid (DigAt n out m) ∧ m ≤ n ∧ Hid (Below w.heap.size w wr) ∧ Hid (wr.ownsRow w.heap.size 5 1 v6 out.length (byteRow (dbytes out)))) (fun v0 v6 _ => decM v0 v6)
  case atStart => exact ⟨[], n, rfl, DigAt.start n, Nat.le_refl _, Below.refl _ _, World.ownsRow_nil _ _ _ _⟩
  case round =>
    obtain ⟨out, m, rfl, HD, hmn, HB, HW⟩ := hrel
    obtain ⟨ao, cap, rfl, -, -, -, -, -, -⟩ := own_row HW.out
    by_cases hc : 0 < m ∨ out = []
    · have hol : out.length ≤ 18 := HD.out.len (by omega) hc
      have hor : 0 < m ∨ (m = 0 ∧ out.length = 0) := by
        rcases hc with h | h
        · exact .inl h
        · rcases Nat.eq_zero_or_pos m with h0 | h0
          · exact .inr ⟨h0, by rw [h]; rfl⟩
          · exact .inl h0
      have HD2 := Lib.hid (HD.out.step hc)
      have HBS := Lib.hid HB.out.size
      clear hc
      rcases hor with hm | ⟨rfl, h0⟩
      · have hcr : (m : Int) % 10 = ((m % 10 : Nat) : Int) := by omega
        have hcr2 : (m : Int).tmod 10 = ((m % 10 : Nat) : Int) := by rw [Int.tmod_eq_emod_of_nonneg (by omega)]; omega
        have hcs : byteRow (dbytes out) ++ [.int .u8 ((48 + m % 10 : Nat) : Int)] = byteRow (dbytes (out ++ [48 + m % 10])) := byteRow_dsnoc out _ (by omega)
        have hr9 : m % 10 ≤ 9 := by omega
        have ht : (m : Int).tdiv 10 = ((m / 10 : Nat) : Int) := by rw [Int.tdiv_eq_ediv_of_nonneg (by omega)]; omega
        have hq1 : m / 10 < m := by omega
        generalize m % 10 = r at *
        generalize m / 10 = q at *
        have hr1 : (0 : Int) ≤ (r : Int) := by omega
        have hr2 : (r : Int) ≤ 9 := by omega
        have hq2 : (0 : Int) ≤ (q : Int) := by omega
        have hq3 : (q : Int) ≤ 9223372036854775807 := by omega
        rw [show ((48 + r : Nat) : Int) = 48 + (r : Int) by omega] at hcs
        have HCS := Lib.hid hcs
        clear hcs
        have hmp : (0 : Int) < (m : Int) := by omega
        go_wp2_with (at_builtin; refine app1 rfl _ _ 41 rfl 5 i0 (.int .u8 0) 1 Tryd.underlying41 hi hz0 hz1 hz2 rfl w.heap.size _ _ _ rfl HW.out w.heap.size (Nat.le_refl _) HB.out HBS.out _ rfl rfl (by omega) (by omega) ?_)
        refine Lib.hid ?_
        intro v' w' hown hbel hgrow
        rw [HCS.out] at hown
        have HW2 := Lib.hid (show w'.ownsRow w.heap.size 5 1 v' (out ++ [48 + r]).length (byteRow (dbytes (out ++ [48 + r]))) by rw [List.length_append]; exact hown)
        have HB2 := Lib.hid hbel
        have HSL := Lib.hid (own_row HW2.out)
        clear hown hbel hgrow
        go_wp2_with fail
        go_roundw
        case rel => exact ⟨out ++ [48 + r], q, by first | rfl | go_num, HD2.out, by omega, HB2.out, HW2.out⟩
        case measure =>
          obtain ⟨ao', cap', rfl, -⟩ := HSL.out
          first | rw [decM_succ q _ _ _ (by simp)] | (show decM (.int .i64 ((q : Nat) : Int)) _ < _; rw [decM_succ q _ _ _ (by simp)])
          rcases Nat.eq_zero_or_pos out.length with h1 | h1
          · rw [h1, decM_zero]; omega
          · rw [decM_succ _ _ _ _ (by omega)]; omega
      · have hol0 : ((out.length : Int) == 0) = true := by simp [h0]
        have HL0 := Lib.hid h0
        have HCS := Lib.hid (show byteRow (dbytes out) ++ [.int .u8 48] = byteRow (dbytes (out ++ [48 + 0 % 10])) from byteRow_dsnoc out 48 (by omega))
        go_wp2_with (at_builtin; refine app1 rfl _ _ 41 rfl 5 i0 (.int .u8 0) 1 Tryd.underlying41 hi hz0 hz1 hz2 rfl w.heap.size _ _ _ rfl HW.out w.heap.size (Nat.le_refl _) HB.out HBS.out _ rfl rfl (by omega) (by omega) ?_)
        refine Lib.hid ?_
        intro v' w' hown hbel hgrow
        rw [HCS.out] at hown
        have HW2 := Lib.hid (show w'.ownsRow w.heap.size 5 1 v' (out ++ [48 + 0 % 10]).length (byteRow (dbytes (out ++ [48 + 0 % 10]))) by rw [List.length_append, HL0.out]; exact hown)
        have HB2 := Lib.hid hbel
        have HSL := Lib.hid (own_row HW2.out)
        clear hown hbel hgrow
        go_wp2_with fail
        go_roundw
        case rel => exact ⟨out ++ [48 + 0 % 10], 0, by first | rfl | go_num, HD2.out, by omega, HB2.out, HW2.out⟩
        case measure =>
          obtain ⟨ao', cap', rfl, -⟩ := HSL.out
          refine Nat.lt_of_le_of_lt (Nat.le_of_eq (decM_succ 0 ao' _ cap' (by simp))) ?_
          show 0 < decM (.int .i64 0) (.slice ao out.length cap)
          rw [HL0.out]
          exact Nat.one_pos
    · obtain rfl : m = 0 := by omega
      have hne : out ≠ [] := fun h => hc (.inr h)
      have HDG := Lib.hid (HD.out.done hne)
      have hol : 1 ≤ out.length := by
        rcases Nat.eq_zero_or_pos out.length with h | h
        · exact absurd (List.length_eq_zero_iff.1 h) hne
        · exact h
      have hol0 : ((out.length : Int) == 0) = false := by simp; omega
      have HLT := Lib.hid (show ∀ c ∈ out, c < 128 from HD.out.2.1)
      have HLE := Lib.hid HE.out
      have HE2 := Lib.hid (HE.out.below HB.out)
      have HBS2 := Lib.hid HB.out.size
      clear hc hne
      by_cases h9 : 9 < out.length
      · have h9i : (9 : Int) < (out.length : Int) := by omega
        have ke := HE2.out.form
        have HDC := Lib.hid (show decL (n : Int) = none by
          unfold decL
          rw [if_pos]
          have := digs_big (n := n) (by rw [HDG.out]; simpa using h9)
          omega)
        go_wp2_with fail
        go_quiet (fail)
        go_wp2_with fail
        go_ret2
        exact ⟨below_drewN HB.out _, _, 4, rfl, by decide, .inr ⟨HDC.out, rfl⟩⟩
      · have h9i : ¬ (9 : Int) < (out.length : Int) := by omega
        have HDC := Lib.hid (show decL (n : Int) = some out.reverse by
          unfold decL
          have := digs_small (n := n) (by rw [HDG.out]; simp; omega)
          rw [if_neg (by omega), if_neg (by omega), show ((n : Int)).natAbs = n by omega, HDG.out]
          rfl)
        obtain ⟨g, rfl⟩ : ∃ g, ao = some ⟨g, 0, none⟩ := by
          rcases HW.out.2 with ⟨h, _⟩ | ⟨g, cap', cur, h, _⟩
          · simp only [Value.slice.injEq] at h; omega
          · simp only [Value.slice.injEq] at h; exact ⟨g, h.1⟩
        have HRV := Lib.hid (reverse_any w.heap.size g cap (dbytes out) wr (by rw [dbytes_len]; exact HW.out) (by rw [dbytes_len]; exact hol) (by rw [dbytes_len]; omega))
        rw [dbytes_len] at HRV
        have HGL := Lib.hid (HW.out.lt g rfl)
        go_wp2_with fail
        refine HRV.out.mono ?_
        rintro e w3 ⟨rfl, ho3, hw3⟩
        have hw4 : w3.ownsRow w.heap.size 5 1 (.slice (some ⟨g, 0, none⟩) out.length cap) (dbytes out.reverse).length (byteRow (dbytes out.reverse)) := by
          rw [dbytes_rev] at hw3
          rw [dbytes_len, List.length_reverse]
          exact hw3
        have hcv := conv_bytes (P := Tryd.prog) (src := 41) (dst := 9) hw4 Tryd.underlying41 Tryd.underlying5 Tryd.underlying9
        have HB3 := Lib.hid (HB.out.trans (ho3.to_below HBS2.out (fun k hk h => by subst h; have := HGL.out.1; omega)))
        have HEQ := Lib.hid (dbytes_enc out.reverse (fun c hc => HLT.out c (by simpa using hc)))
        clear hw3 hw4 ho3
        go_wp2_with fail
        go_ret2
        refine ⟨HB3.out, _, 0, rfl, ?_, .inl ⟨_, HDC.out, ?_, rfl⟩⟩
        · rw [mkS_size, dbytes_len, List.length_reverse]; omega
        · rw [HEQ.out]

theorem decL_neg {n : Int} (h : n < 0) : decL n = (decL (-n)).map (45 :: ·) := by
  unfold decL
  rw [show (-n).natAbs = n.natAbs by omega, if_pos h, if_neg (show ¬ (-n) < 0 by omega)]
  split <;> rfl
theorem cons45 (l : List Nat) : ((⟨#[45]⟩ : ByteArray) ++ mkS (encAll l)) = mkS (encAll (45 :: l)) := by
  apply str_ext
  rw [ByteArray.data_append, Array.toList_append, mkS_data, mkS_data, encAll_cons]
  rfl

set_option maxHeartbeats 1000000 in
theorem decimal_any (ea : Nat → Addr) (n : Int) (w : World) (h1 : -9223372036854775808 ≤ n) (h2 : n ≤ 9223372036854775807) (he : LErr w ea) :
    Calls Tryd.prog 63 #[.int .i64 n] w (DecPost ea 30 n w) := by
  by_cases hn : n < 0
  · have ke := he.form
    by_cases hm : n = -9223372036854775808
    · subst hm
      have HDC := Lib.hid (show decL (-9223372036854775808) = none from by unfold decL; rw [if_pos (by decide)])
      have hw0 : wrap64 9223372036854775808 = -9223372036854775808 := by unfold wrap64 <;> kernel_rfl
      clear he
      go_enter Tryd.func63, Tryd.ntmps63
      go_wp2_with fail
      go_quiet (fail)
      go_wp2_with fail
      go_ret2
      exact ⟨below_drewN (Below.refl _ _) _, _, 4, rfl, by decide, .inr ⟨HDC.out, rfl⟩⟩
    · obtain ⟨m, rfl⟩ : ∃ m : Nat, n = -(m : Int) := ⟨n.natAbs, by omega⟩
      have HP := Lib.hid (decimal_nat ea m w (by omega) he)
      have HN := Lib.hid (decL_neg hn)
      rw [show - -(m : Int) = (m : Int) by omega] at HN
      have hne : ((-(m : Int)) == (m : Int)) = false := by simp; omega
      have hm0 : 0 < m := by omega
      have hm1 : (m : Int) ≤ 9223372036854775807 := by omega
      clear he h1 h2 hm ke
      go_enter Tryd.func63, Tryd.ntmps63
      go_wp2_with fail
      refine HP.out.mono ?_
      rintro e w1 ⟨hb1, t, k, rfl, ht, hres⟩
      have hsz : (1 : Nat) + t.size ≤ 9223372036854775807 := by omega
      have HR := Lib.hid hres
      have HB := Lib.hid hb1
      have HT := Lib.hid ht
      clear hres hb1
      go_wp2_with fail
      go_ret2
      refine ⟨HB.out, _, k, rfl, by rw [ByteArray.size_append]; have := HT.out; show 1 + t.size ≤ 30; omega, ?_⟩
      rcases HR.out with ⟨d, hd, rfl, rfl⟩ | ⟨hd, rfl⟩
      · exact .inl ⟨_, by rw [HN.out, hd]; rfl, cons45 d, rfl⟩
      · exact .inr ⟨by rw [HN.out, hd]; rfl, rfl⟩
  · obtain ⟨m, rfl⟩ : ∃ m : Nat, n = (m : Int) := ⟨n.toNat, by omega⟩
    refine (decimal_nat ea m w (by omega) he).mono ?_
    rintro e w' ⟨hb, t, k, h3, h4, h5⟩
    exact ⟨hb, t, k, h3, by omega, h5⟩
end Go.Proofs.YtjhmehmmpfnnkaaDoor

namespace Go.Proofs.YtjhmehmmpfnnkaaDoor
set_option linter.unusedSimpArgs false
set_option linter.unusedVariables false

def wF (s : WS) (l : List Nat) : Option (List (List Nat)) := (wsRun s l).bind WS.fin
theorem wF_start (rs : List Nat) : wF ⟨[], [], .gap⟩ (rs.drop 0) = wordsL rs := rfl
theorem wF_at {s : WS} {rs : List Nat} {i : Nat} (hi : i < rs.length) : wF s (rs.drop i) = (s.step rs[i]).bind fun t => wF t (rs.drop (i + 1)) := by
  rw [List.drop_eq_getElem_cons hi]
  unfold wF
  show ((s.step rs[i]).bind fun t => wsRun t (rs.drop (i + 1))).bind WS.fin = _
  cases s.step rs[i] <;> rfl
theorem wF_end {s : WS} {rs : List Nat} {i : Nat} (hi : rs.length ≤ i) : wF s (rs.drop i) = s.fin := by
  rw [List.drop_eq_nil_of_le hi]; rfl
theorem cur_next {rs : List Nat} {f i : Nat} (hf : f ≤ i) (hi : i < rs.length) : (rs.take (i + 1)).drop f = (rs.take i).drop f ++ [rs[i]] := by
  rw [List.take_succ_eq_append_getElem hi, List.drop_append_of_le_length (by rw [List.length_take]; omega)]
theorem cur_none (rs : List Nat) (i : Nat) : (rs.take i).drop i = [] := List.drop_eq_nil_of_le (by rw [List.length_take]; omega)

section
variable {rs : List Nat} {out : List (List Nat)} {X : Option (List (List Nat))} {f i : Nat}
/-- Where a word's rune stands: none yet, or in a bare word. -/
def bareM (f i : Nat) : WM := if i = f then .gap else .bare
theorem w_blank (hi : i < rs.length) (h : wF ⟨out, [], .gap⟩ (rs.drop i) = X) (hc : rs[i] = 32) : wF ⟨out, [], .gap⟩ (rs.drop (i + 1)) = X := by
  rw [wF_at hi] at h
  simpa [WS.step, WM.step, hc] using h
theorem w_open (hi : i < rs.length) (h : wF ⟨out, [], .gap⟩ (rs.drop i) = X) (hc : rs[i] = 34) : wF ⟨out, (rs.take (i + 1)).drop i, .quo⟩ (rs.drop (i + 1)) = X := by
  rw [wF_at hi] at h
  rw [cur_next (Nat.le_refl _) hi, cur_none]
  simpa [WS.step, WM.step, hc] using h
theorem w_bare0 (h : wF ⟨out, [], .gap⟩ (rs.drop i) = X) : wF ⟨out, (rs.take i).drop i, bareM i i⟩ (rs.drop i) = X := by
  rw [cur_none, bareM, if_pos rfl]; exact h
theorem w_bare (hf : f ≤ i) (hi : i < rs.length) (h : wF ⟨out, (rs.take i).drop f, bareM f i⟩ (rs.drop i) = X) (h1 : rs[i] ≠ 32) (h2 : rs[i] ≠ 34) : wF ⟨out, (rs.take (i + 1)).drop f, bareM f (i + 1)⟩ (rs.drop (i + 1)) = X := by
  rw [wF_at hi] at h
  rw [cur_next hf hi]
  have e : bareM f (i + 1) = .bare := by unfold bareM; rw [if_neg (by omega)]
  rw [e]
  unfold bareM at h
  by_cases hfi : i = f
  · rw [if_pos hfi] at h
    simpa [WS.step, WM.step, h1, h2] using h
  · rw [if_neg hfi] at h
    simpa [WS.step, WM.step, h1, h2] using h
theorem w_quo (hf : f ≤ i) (hi : i < rs.length) (h : wF ⟨out, (rs.take i).drop f, .quo⟩ (rs.drop i) = X) (h1 : rs[i] ≠ 34) (h2 : rs[i] ≠ 92) : wF ⟨out, (rs.take (i + 1)).drop f, .quo⟩ (rs.drop (i + 1)) = X := by
  rw [wF_at hi] at h
  rw [cur_next hf hi]
  simpa [WS.step, WM.step, h1, h2] using h
theorem w_esc (hf : f ≤ i) (hi : i + 1 < rs.length) (h : wF ⟨out, (rs.take i).drop f, .quo⟩ (rs.drop i) = X) (h1 : rs[i] = 92) : wF ⟨out, (rs.take (i + 1 + 1)).drop f, .quo⟩ (rs.drop (i + 1 + 1)) = X := by
  rw [wF_at (by omega)] at h
  rw [cur_next (by omega) hi, cur_next hf (by omega)]
  simp only [WS.step, WM.step, h1, if_true, Option.bind_some] at h
  rw [wF_at hi] at h
  simpa [WS.step, WM.step, h1] using h
theorem w_esc_end (hi : i < rs.length) (hn : ¬ i + 1 < rs.length) (h : wF ⟨out, (rs.take i).drop f, .quo⟩ (rs.drop i) = X) (h1 : rs[i] = 92) : X = none := by
  rw [wF_at (by omega)] at h
  simp only [WS.step, WM.step, h1, if_true, Option.bind_some] at h
  rw [wF_end (by omega)] at h
  exact h.symm
theorem w_quo_end (hi : ¬ i < rs.length) (h : wF ⟨out, (rs.take i).drop f, .quo⟩ (rs.drop i) = X) : X = none := by
  rw [wF_end (by omega)] at h
  exact h.symm
theorem w_close (hf : f ≤ i) (hi : i < rs.length) (h : wF ⟨out, (rs.take i).drop f, .quo⟩ (rs.drop i) = X) (h1 : rs[i] = 34) : wF ⟨out, (rs.take (i + 1)).drop f, .shut⟩ (rs.drop (i + 1)) = X := by
  rw [wF_at hi] at h
  rw [cur_next hf hi]
  simpa [WS.step, WM.step, h1] using h
/-- Behind a word stands the end, or a blank. -/
theorem w_done {m : WM} (hm : m = .bare ∨ m = .shut) (hi : ¬ i < rs.length) (h : wF ⟨out, (rs.take i).drop f, m⟩ (rs.drop i) = X) : wF ⟨out ++ [(rs.take i).drop f], [], .gap⟩ (rs.drop i) = X := by
  rw [wF_end (by omega)] at h ⊢
  rw [← h]
  rcases hm with rfl | rfl <;> rfl
theorem w_next {m : WM} (hm : m = .bare ∨ m = .shut) (hi : i < rs.length) (h : wF ⟨out, (rs.take i).drop f, m⟩ (rs.drop i) = X) (h1 : rs[i] = 32) : wF ⟨out ++ [(rs.take i).drop f], [], .gap⟩ (rs.drop i) = X := by
  rw [wF_at hi] at h ⊢
  rw [← h]
  rcases hm with rfl | rfl <;> simp [WS.step, WM.step, h1]
theorem w_bad_shut (hi : i < rs.length) (h : wF ⟨out, (rs.take i).drop f, .shut⟩ (rs.drop i) = X) (h1 : rs[i] ≠ 32) : X = none := by
  rw [wF_at hi] at h
  rw [← h]
  simp [WS.step, WM.step, h1]
theorem w_bad_bare (hi : i < rs.length) (h : wF ⟨out, (rs.take i).drop f, .bare⟩ (rs.drop i) = X) (h1 : rs[i] = 34) : X = none := by
  rw [wF_at hi] at h
  rw [← h]
  simp [WS.step, WM.step, h1]
theorem w_all (hi : ¬ i < rs.length) (h : wF ⟨out, [], .gap⟩ (rs.drop i) = X) : X = some out := by
  rw [wF_end (by omega)] at h
  exact h.symm
theorem bareM_of (h : f < i) : bareM f i = .bare := by unfold bareM; rw [if_neg (by omega)]
end
end Go.Proofs.YtjhmehmmpfnnkaaDoor
