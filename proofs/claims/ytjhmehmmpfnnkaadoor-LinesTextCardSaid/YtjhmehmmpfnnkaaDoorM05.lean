/-
  The contracts of lines.plain and lines.Quote.
  Contracts: count_none, count_some.
  Contracts: cut_some, first_none, rest_none, first_some, rest_some.
  The contract of lines.Unquote.
-/
import Derived.Test.YtjhmehmmpfnnkaaDoorM03
import Derived.Test.YtjhmehmmpfnnkaaDoorM04
namespace Go.Proofs.YtjhmehmmpfnnkaaDoor
open Go.RowKit Utf
set_option maxRecDepth 100000
set_option linter.unusedSimpArgs false
set_option linter.unusedVariables false

theorem plain_of (c : Nat) (b : Bool) (w : World) (h : badQ c = b) :
    Calls Tryd.prog 27 #[.int .i32 (c : Int)] w fun e w' => e = .returned (.bool (!b)) ∧ w' = w := by
  subst h
  by_cases h1 : c < 32
  · have e1 : ¬ (32 : Int) ≤ (c : Int) := by omega
    have e2 : decide ((32 : Int) ≤ (c : Int)) = false := decide_eq_false e1
    have hb : badQ c = true := by simp [badQ, h1]
    have HB := Lib.hid hb
    clear hb h1
    go_enter Tryd.func27, Tryd.ntmps27
    go_wp2_with fail
    go_ret
    exact ⟨by rw [HB.out]; rfl, rfl⟩
  · have e1 : (32 : Int) ≤ (c : Int) := by omega
    have e2 : decide ((32 : Int) ≤ (c : Int)) = true := decide_eq_true e1
    by_cases h2 : c = 127
    · have e3 : ((c : Int) != 127) = false := by simp [h2]
      have hb : badQ c = true := by simp [badQ, h2]
      have HB := Lib.hid hb
      clear hb h2 h1
      go_enter Tryd.func27, Tryd.ntmps27
      go_wp2_with fail
      go_ret
      exact ⟨by rw [HB.out]; rfl, rfl⟩
    · have e3 : ((c : Int) != 127) = true := by simp; omega
      have hb : badQ c = false := by simp [badQ, h1, h2]
      have HB := Lib.hid hb
      clear hb h2 h1
      go_enter Tryd.func27, Tryd.ntmps27
      go_wp2_with fail
      go_ret
      exact ⟨by rw [HB.out]; rfl, rfl⟩

theorem anyQ_step {rs : List Nat} {k : Nat} (hk : k < rs.length) (h : (rs.take k).any badQ = false) (hb : badQ rs[k] = false) : (rs.take (k + 1)).any badQ = false := by
  rw [List.take_succ_eq_append_getElem hk, List.any_append, h]
  simp [hb]
theorem anyQ_hit {rs : List Nat} {k : Nat} (hk : k < rs.length) (hb : badQ rs[k] = true) : quoteL rs = none := by
  unfold quoteL
  rw [if_pos]
  rw [List.any_eq_true]
  exact ⟨_, List.getElem_mem hk, hb⟩

/-- What stands in the row behind k runes. -/
def qrow (rs : List Nat) (k : Nat) : List Nat := 34 :: (rs.take k).flatMap quo1
theorem qrow_succ {rs : List Nat} {k : Nat} (hk : k < rs.length) : qrow rs (k + 1) = qrow rs k ++ quo1 rs[k] := by
  unfold qrow
  rw [List.take_succ_eq_append_getElem hk, List.flatMap_append]
  simp
theorem quo1_len (c : Nat) : 1 ≤ (quo1 c).length ∧ (quo1 c).length ≤ 2 := by unfold quo1; split <;> simp
theorem flat_quo1_len (l : List Nat) : (l.flatMap quo1).length ≤ 2 * l.length := by
  induction l with
  | nil => simp
  | cons c l ih => have := quo1_len c; rw [List.flatMap_cons, List.length_append]; simp only [List.length_cons]; omega
theorem qrow_len (rs : List Nat) (k : Nat) : (qrow rs k).length ≤ 2 * rs.length + 1 := by
  unfold qrow
  have := flat_quo1_len (rs.take k)
  rw [List.length_take] at this
  simp only [List.length_cons]
  omega
theorem quote_done {rs : List Nat} (h : (rs.take rs.length).any badQ = false) : quoteL rs = some (qrow rs rs.length ++ [34]) := by
  rw [List.take_length] at h
  unfold quoteL qrow
  rw [if_neg (by rw [h]; decide), List.take_length]
  rfl
theorem own_rune1 {w : World} {B : Nat} {e : TypeId} {v : Value} {l : List Nat} {n : Nat} {xs : List Value} {c : Nat} {x : Int} (hx : x = (c : Int)) (hn : n = l.length) (he : xs = runeRow l) (h : w.ownsRow B e 1 v (n + 1) (xs ++ [.int .i32 x])) : w.ownsRow B e 1 v (l ++ [c]).length (runeRow (l ++ [c])) := by
  subst hx hn he
  rw [List.length_append]
  simpa [runeRow] using h

theorem convE_runes {w : World} {B : Nat} {e src dst : TypeId} {v : Value} {rs : List Nat} {P : Program} (h : OwnE w B e 1 v rs.length (runeRow rs)) (hs : P.underlying src = some (.slice e)) (he : P.underlying e = some (.int .i32)) (hd : P.underlying dst = some .string) :
    (convert src dst v).run P w = .ok (.string (mkS (encAll rs))) w := by
  rcases h with ⟨hv, hn, _⟩ | h
  · obtain rfl : rs = [] := List.length_eq_zero_iff.1 hn
    rcases hv with rfl | ⟨g, rfl⟩
    · exact conv_runes (B := B) (e := e) (w.ownsRow_nil B e 1) hs he hd
    · have := run_convert_runes w src dst e ⟨g, 0, none⟩ 0 0 [] (Nat.le_refl _) hs he hd (fun j hj => absurd hj (Nat.not_lt_zero j))
      exact this
  · exact conv_runes h hs he hd

/-- What lines.Quote answers for a right text. -/
def QuotePost (ea : Nat → Addr) (rs : List Nat) (w : World) (e : Ending) (w' : World) : Prop :=
  Below w.heap.size w w' ∧ ((∃ q, quoteL rs = some q ∧ e = .returned (.tuple #[.string (mkS (encAll q)), .nilIface])) ∨
    (quoteL rs = none ∧ e = .returned (.tuple #[.string ByteArray.empty, .iface 163 (.pointer (some (ea 3)))])))

theorem quote_none (ea : Nat → Addr) (s : ByteArray) (w : World) (hs : s.size ≤ maxLen) (hd : dec s.data.toList = none) (he : LErr w ea) :
    Calls Tryd.prog 9 #[.string s] w fun e w' => e = .returned (.tuple #[.string ByteArray.empty, .iface 163 (.pointer (some (ea 5)))]) ∧ Below w.heap.size w w' := by
  have HD := Lib.hid hd
  have HE := Lib.hid he
  clear hd he
  go_enter Tryd.func9, Tryd.ntmps9
  go_wp2_with fail
  refine (right_any _ _ hs).mono ?_
  rintro e w1 ⟨rfl, hb1⟩
  rw [HD.out]
  have c5 := (HE.out.below hb1).rune
  go_wp2_with fail
  go_quiet (fail)
  go_wp2_with fail
  go_ret2
  exact ⟨rfl, below_drewN hb1 _⟩

set_option maxHeartbeats 4000000 in
theorem quote_some (ea : Nat → Addr) (s : ByteArray) (rs : List Nat) (w : World) (hs : s.size ≤ 1000000) (ho : allOk rs) (h : s.data.toList = encAll rs) (he : LErr w ea) :
    Calls Tryd.prog 9 #[.string s] w (QuotePost ea rs w) := by
  obtain ⟨i1, hj, hy0, hy1, hy2⟩ := info_parts Tryd.infoRune
  have hs' : s.size ≤ maxLen := by unfold maxLen; omega
  have hd := dec_encAll ho
  rw [← h] at hd
  have hl := len_le h
  have hrl : rs.length ≤ 1000000 := by omega
  have HN := Lib.hid (fun (w : World) b k hb hk ty => next_at (P := Tryd.prog) ho h w b k hb hk ty)
  have HE := Lib.hid (fun (w : World) b hb ty => next_at_end (P := Tryd.prog) h w b hb ty)
  have HME0 := Lib.hid (off_pos_lt h)
  have HEA := Lib.hid he
  have HD := Lib.hid hd
  clear hd h he hl ho
  go_enter Tryd.func9, Tryd.ntmps9
  go_wp2_with fail
  refine (right_any _ _ hs').mono ?_
  rintro e w1 ⟨rfl, hb1⟩
  rw [HD.out]
  have HB1 := Lib.hid hb1
  have HE1 := Lib.hid (HEA.out.below hb1)
  clear hb1 HEA
  go_wp2_with fail
  go_loopw [4] (fun vo wr => ∃ (k : Nat), k ≤ rs.length ∧ wr.heap[w1.heap.size + 1]? = some (.stringIter s (off rs k)) ∧ Below w1.heap.size w1 wr ∧ OwnE wr w1.heap.size 21 1 vo (qrow rs k).length (runeRow (qrow rs k)) ∧ Hid ((rs.take k).any badQ = false)) (fun _ wr => s.size - wr.iterPos (w1.heap.size + 1))
  case atStart =>
    refine ⟨0, Nat.zero_le _, ?_, ((Below.refl _ _).alloc (Nat.le_refl _) _).alloc (by simp) _, .inr ((World.ownsRow_lit w1 #[.int .i32 34] 1 (Nat.le_refl _) (by simp [maxLen]) rfl).alloc _), rfl⟩
    have := iter_new (w1.alloc (.cells #[.int .i32 34] 21)) s 0
    rw [World.size_alloc] at this
    exact this
  case round =>
    obtain ⟨k, hk, hit, hbel, hout, HC⟩ := hrel
    have HQL := Lib.hid (qrow_len rs k)
    have HOU := Lib.hid hout
    have HBE := Lib.hid hbel
    have HIT := Lib.hid hit
    have HIL := Lib.hid ((Array.getElem?_eq_some_iff.1 hit).1)
    have HPO := Lib.hid (show wr.iterPos (w1.heap.size + 1) = off rs k by simp [World.iterPos, hit])
    clear hout hbel hit
    by_cases hlt : k < rs.length
    · have hnx := HN.out wr (w1.heap.size + 1) k HIT.out hlt
      have HQS := Lib.hid (qrow_succ hlt)
      have HAS := Lib.hid (fun h => anyQ_step hlt HC.out h)
      have HAH := Lib.hid (fun h => anyQ_hit hlt h)
      have HME := Lib.hid (HME0.out k hlt)
      generalize rs[k] = c at *
      generalize hoff1 : off rs (k + 1) = p1 at *
      have HOF1 := Lib.hid hoff1
      clear hoff1
      have HIT2 := Lib.hid (Lib.iterAt_heap wr (w1.heap.size + 1) s (off rs k) p1 HIT.out)
      have HBE2 := Lib.hid (below_iter HBE.out (Nat.le_succ _) s p1)
      have HOU2 := Lib.hid (HOU.out.iterAt' HIT.out p1)
      have HIS := Lib.hid (Lib.iterAt_size wr (w1.heap.size + 1) s p1)
      generalize hw2 : wr.iterAt (w1.heap.size + 1) s p1 = w2 at *
      have HW2 := Lib.hid hw2
      clear hw2
      have HER2 := Lib.hid (HE1.out.below HBE2.out)
      have HSZ2 := Lib.hid (show w1.heap.size ≤ w2.heap.size by have := HIS.out; have := HIL.out; omega)
      cases hbq : badQ c with
      | true =>
        have HNO := Lib.hid (HAH.out hbq)
        have HBQ := Lib.hid hbq
        clear hbq
        go_wp2_with fail
        refine (plain_of c true _ HBQ.out).mono ?_
        rintro e w3 ⟨rfl, rfl⟩
        have c3 := HER2.out.form
        go_wp2_with fail
        go_quiet (fail)
        go_wp2_with fail
        go_ret2
        exact ⟨below_drewN (HB1.out.trans (HBE2.out.mono HB1.out.size)) _, .inr ⟨HNO.out, rfl⟩⟩
      | false =>
        have HCS := Lib.hid (HAS.out hbq)
        have HBQ := Lib.hid hbq
        clear hbq
        by_cases hq : c = 34 ∨ c = 92
        · have HQ1 := Lib.hid (show quo1 c = [92, c] by unfold quo1; rw [if_pos hq])
          have hb0 : (c : Int) = 34 ∨ (c : Int) = 92 := by omega
          have HQ2 := Lib.hid hq
          clear hq
          have hgo : (((c : Int) == 34) = true) ∨ (((c : Int) == 34) = false ∧ ((c : Int) == 92) = true) := by
            rcases hb0 with h | h <;> simp [h]
          clear hb0
          rcases hgo with e34 | ⟨e34, e92⟩
          all_goals
            go_wp2_with fail
            refine (plain_of c false _ HBQ.out).mono ?_
            rintro e w3 ⟨rfl, rfl⟩
            go_wp2_with (at_builtin; refine appE rfl _ _ 66 rfl 21 i1 (.int .i32 0) 1 4 Tryd.underlying66 hj hy0 hy1 hy2 rfl (by omega) w1.heap.size _ _ _ rfl HOU2.out w1.heap.size (by omega) HBE2.out HSZ2.out [.int .i32 92] 1 rfl (by omega) (by intro u hu; simp at hu; subst hu; rfl) rfl (by have := HQL.out; omega) (by omega) ?_)
            refine Lib.hid ?_
            intro v4 w4 hown4 hbel4 hgrow4
            have HB4 := Lib.hid hbel4
            have HO4 := Lib.hid (own_rune1 (c := 92) rfl rfl rfl hown4)
            have HI4 := Lib.hid (iter_grownE HOU2.out hgrow4 HIT2.out)
            clear hown4 hbel4 hgrow4
            have HSZ4 := Lib.hid (show w1.heap.size ≤ w4.heap.size from HB4.out.size)
            go_wp2_with (at_builtin; refine appE rfl _ _ 66 rfl 21 i1 (.int .i32 0) 1 4 Tryd.underlying66 hj hy0 hy1 hy2 rfl (by omega) w1.heap.size _ _ _ rfl (.inr HO4.out) w1.heap.size (by omega) HB4.out HSZ4.out [.int .i32 (c : Int)] 1 rfl (by omega) (by intro u hu; simp at hu; subst hu; rfl) rfl (by have := HQL.out; rw [List.length_append]; simp only [List.length_singleton]; omega) (by omega) ?_)
            refine Lib.hid ?_
            intro v5 w5 hown5 hbel5 hgrow5
            have HB5 := Lib.hid hbel5
            have HO5 := Lib.hid (own_rune1 (l := qrow rs k ++ [92]) (c := c) rfl (by simp) rfl hown5)
            have HI5 := Lib.hid (iter_grownE (.inr HO4.out) hgrow5 HI4.out)
            clear hown5 hbel5 hgrow5
            go_wp2_with fail
            go_roundw
            case rel =>
              refine ⟨k + 1, by omega, by rw [HOF1.out]; exact HI5.out, HB5.out, ?_, HCS.out⟩
              have := HO5.out
              rw [HQS.out, HQ1.out]
              rw [List.append_assoc] at this
              exact .inr this
            case measure => rw [HPO.out]; have := HI5.out; simp only [World.iterPos, this]; exact HME.out
        · have HQ1 := Lib.hid (show quo1 c = [c] by unfold quo1; rw [if_neg hq])
          have e34 : ((c : Int) == 34) = false := by simp; omega
          have e92 : ((c : Int) == 92) = false := by simp; omega
          clear hq
          go_wp2_with fail
          refine (plain_of c false _ HBQ.out).mono ?_
          rintro e w3 ⟨rfl, rfl⟩
          go_wp2_with (at_builtin; refine appE rfl _ _ 66 rfl 21 i1 (.int .i32 0) 1 4 Tryd.underlying66 hj hy0 hy1 hy2 rfl (by omega) w1.heap.size _ _ _ rfl HOU2.out w1.heap.size (by omega) HBE2.out HSZ2.out [.int .i32 (c : Int)] 1 rfl (by omega) (by intro u hu; simp at hu; subst hu; rfl) rfl (by have := HQL.out; omega) (by omega) ?_)
          refine Lib.hid ?_
          intro v5 w5 hown5 hbel5 hgrow5
          have HB5 := Lib.hid hbel5
          have HO5 := Lib.hid (own_rune1 (c := c) rfl rfl rfl hown5)
          have HI5 := Lib.hid (iter_grownE HOU2.out hgrow5 HIT2.out)
          clear hown5 hbel5 hgrow5
          go_wp2_with fail
          go_roundw
          case rel =>
            refine ⟨k + 1, by omega, by rw [HOF1.out]; exact HI5.out, HB5.out, ?_, HCS.out⟩
            have := HO5.out
            rw [HQS.out, HQ1.out]
            exact .inr this
          case measure => rw [HPO.out]; have := HI5.out; simp only [World.iterPos, this]; exact HME.out
    · obtain rfl : k = rs.length := by omega
      have hnx := HE.out wr (w1.heap.size + 1) HIT.out
      have HQD := Lib.hid (quote_done HC.out)
      have HSZ2 := Lib.hid (show w1.heap.size ≤ wr.heap.size by have := HIL.out; omega)
      go_wp2_with (at_builtin; refine appE rfl _ _ 66 rfl 21 i1 (.int .i32 0) 1 4 Tryd.underlying66 hj hy0 hy1 hy2 rfl (by omega) w1.heap.size _ _ _ rfl HOU.out w1.heap.size (by omega) HBE.out HSZ2.out [.int .i32 34] 1 rfl (by omega) (by intro u hu; simp at hu; subst hu; rfl) rfl (by have := HQL.out; omega) (by omega) ?_)
      refine Lib.hid ?_
      intro v5 w5 hown5 hbel5 hgrow5
      have HB5 := Lib.hid hbel5
      have hown6 := own_rune1 (c := 34) rfl rfl rfl hown5
      have hcv := conv_runes (P := Tryd.prog) (src := 66) (dst := 9) hown6 Tryd.underlying66 Tryd.underlying21 Tryd.underlying9
      clear hown5 hbel5 hgrow5 hown6
      go_wp2_with fail
      go_ret2
      exact ⟨HB1.out.trans (HB5.out.mono HB1.out.size), .inl ⟨_, HQD.out, rfl⟩⟩
theorem quote_ok {rs q : List Nat} (h : quoteL rs = some q) (ho : allOk rs) : allOk q ∧ q.length ≤ 2 * rs.length + 2 := by
  unfold quoteL at h
  split at h
  · cases h
  · obtain rfl := Option.some.inj h
    have e34 : okR 34 = true := by decide +kernel
    have e92 : okR 92 = true := by decide +kernel
    refine ⟨?_, ?_⟩
    · intro c hc
      simp only [List.mem_cons, List.mem_append, List.mem_flatMap, List.not_mem_nil, or_false] at hc
      rcases hc with rfl | ⟨x, hx, hc⟩ | rfl
      · exact e34
      · unfold quo1 at hc
        split at hc
        · simp at hc
          rcases hc with rfl | rfl
          · exact e92
          · exact ho _ hx
        · simp at hc
          subst hc
          exact ho _ hx
      · exact e34
    · have := flat_quo1_len rs
      simp only [List.length_cons, List.length_append, List.length_nil]
      omega
end Go.Proofs.YtjhmehmmpfnnkaaDoor

namespace Go.Proofs.YtjhmehmmpfnnkaaDoor
open Go.RowKit Utf
set_option maxRecDepth 100000
set_option linter.unusedSimpArgs false
set_option linter.unusedVariables false

set_option maxHeartbeats 400000 in
theorem count_none (s : ByteArray) (w : World) (hs : s.size ≤ maxLen) (hd : dec s.data.toList = none) :
    Calls Tryd.prog 28 #[.string s] w fun e w' => e = .returned (.int .i64 (-1)) ∧ Below w.heap.size w w' := by
  have HD := Lib.hid hd
  clear hd
  go_enter Tryd.func28, Tryd.ntmps28
  go_wp2_with fail
  refine (right_any _ _ hs).mono ?_
  rintro e w1 ⟨rfl, hb1⟩
  rw [HD.out]
  go_wp2_with fail
  go_ret
  exact ⟨rfl, hb1⟩

set_option maxHeartbeats 400000 in
theorem count_some (s : ByteArray) (rs : List Nat) (w : World) (hs : s.size ≤ 1000000) (ho : allOk rs) (h : s.data.toList = encAll rs) :
    Calls Tryd.prog 28 #[.string s] w fun e w' => e = .returned (.int .i64 rs.length) ∧ Below w.heap.size w w' := by
  have hs' : s.size ≤ maxLen := by unfold maxLen; omega
  have hd := dec_encAll ho
  rw [← h] at hd
  have hl := len_le h
  have HN := Lib.hid (fun (w : World) k hk ty => next_off (P := Tryd.prog) ho h w k hk ty)
  have HE := Lib.hid (fun (w : World) ty => next_off_end (P := Tryd.prog) h w ty)
  have HLE := Lib.hid (fun k => off_le h k)
  have HLT := Lib.hid (fun k hk => off_lt h k hk)
  have HS := Lib.hid (off_succ rs)
  have HP := Lib.hid (fun c => enc_length c)
  have HD := Lib.hid hd
  clear hd h
  go_enter Tryd.func28, Tryd.ntmps28
  go_wp2_with fail
  refine (right_any _ _ hs').mono ?_
  rintro e w1 ⟨rfl, hb1⟩
  rw [HD.out]
  go_wp2_with fail
  go_loopw [3] (fun n w2 => ∃ k : Nat, k ≤ rs.length ∧ n = .int .i64 k ∧ w2 = w1.iter s (off rs k)) (fun _ w2 => s.size - w2.iterPos w1.heap.size)
  case atStart => exact ⟨0, Nat.zero_le _, rfl, rfl⟩
  case round =>
    obtain ⟨k, hk, rfl, rfl⟩ := hrel
    by_cases hlt : k < rs.length
    · have hnx := HN.out w1 k hlt
      go_wp2_with fail
      go_roundw
      case rel => exact ⟨k + 1, by omega, by go_num, rfl⟩
      case measure => have := HLT.out k hlt; have := HS.out k hlt; have := HP.out rs[k]; simp; omega
    · obtain rfl : k = rs.length := by omega
      have hnx := HE.out w1
      go_wp2_with fail
      go_ret
      exact ⟨rfl, hb1.alloc hb1.size _⟩
end Go.Proofs.YtjhmehmmpfnnkaaDoor

namespace Go.Proofs.YtjhmehmmpfnnkaaDoor
open Go.RowKit Utf
set_option maxRecDepth 100000
set_option linter.unusedSimpArgs false
set_option linter.unusedVariables false

set_option maxHeartbeats 400000 in
theorem cut_some (s : ByteArray) (rs : List Nat) (n : Int) (w : World) (hs : s.size ≤ 1000000) (ho : allOk rs) (h : s.data.toList = encAll rs) (hn : -9223372036854775808 ≤ n ∧ n ≤ 9223372036854775807) :
    Calls Tryd.prog 55 #[.string s, .int .i64 n] w fun e w' => e = .returned (.int .i64 (off rs (min n.toNat rs.length) : Nat)) ∧ Below w.heap.size w w' := by
  have hl := len_le h
  have HN := Lib.hid (fun (w : World) k hk ty => next_off (P := Tryd.prog) ho h w k hk ty)
  have HE := Lib.hid (fun (w : World) ty => next_off_end (P := Tryd.prog) h w ty)
  have HLT := Lib.hid (fun k hk => off_lt h k hk)
  have HA := Lib.hid (off_all h)
  have HS := Lib.hid (off_succ rs)
  have HP := Lib.hid (fun c => enc_length c)
  clear h
  obtain ⟨hn1, hn2⟩ := hn
  go_enter Tryd.func55, Tryd.ntmps55
  go_wp2_with fail
  go_loopw [1] (fun v w2 => ∃ (k : Nat) (m : Int), k ≤ rs.length ∧ v = .int .i64 m ∧ w2 = w.iter s (off rs k) ∧ m = n - k ∧ (0 ≤ m ∨ k = 0)) (fun _ w2 => s.size - w2.iterPos w.heap.size)
  case atStart => exact ⟨0, n, Nat.zero_le _, rfl, rfl, by simp, Or.inr rfl⟩
  case round =>
    obtain ⟨k, m, hk, rfl, rfl, hm, hm0⟩ := hrel
    have HM := Lib.hid hm
    clear hm
    have HM0 := Lib.hid hm0
    clear hm0
    by_cases hlt : k < rs.length
    · have hnx := HN.out w k hlt
      by_cases hz : m ≤ 0
      · go_wp2_with fail
        go_ret
        refine ⟨ret_int ?_, (Below.refl _ _).alloc (Nat.le_refl _) _⟩
        have := HM.out
        have := HM0.out
        have e : min n.toNat rs.length = k := by omega
        rw [e]
      · have hm1 : 1 ≤ m := by omega
        have hm2 : m ≤ 9223372036854775807 := by have := HM.out; omega
        go_wp2_with fail
        go_roundw
        case rel => exact ⟨k + 1, m - 1, by omega, by go_num, rfl, by have := HM.out; omega, by omega⟩
        case measure => have := HLT.out k hlt; have := HS.out k hlt; have := HP.out rs[k]; simp; omega
    · obtain rfl : k = rs.length := by omega
      have hnx := HE.out w
      go_wp2_with fail
      go_ret
      refine ⟨ret_int ?_, (Below.refl _ _).alloc (Nat.le_refl _) _⟩
      have := HM.out
      have := HM0.out
      have e : min n.toNat rs.length = rs.length := by omega
      rw [e, HA.out]

set_option maxHeartbeats 400000 in
theorem first_none (s : ByteArray) (n : Int) (w : World) (hs : s.size ≤ maxLen) (hd : dec s.data.toList = none) :
    Calls Tryd.prog 29 #[.string s, .int .i64 n] w fun e w' => e = .returned (.string ByteArray.empty) ∧ Below w.heap.size w w' := by
  have HD := Lib.hid hd
  clear hd
  go_enter Tryd.func29, Tryd.ntmps29
  go_wp2_with fail
  refine (right_any _ _ hs).mono ?_
  rintro e w1 ⟨rfl, hb1⟩
  rw [HD.out]
  go_wp2_with fail
  go_ret
  exact ⟨rfl, hb1⟩

set_option maxHeartbeats 400000 in
theorem rest_none (s : ByteArray) (n : Int) (w : World) (hs : s.size ≤ maxLen) (hd : dec s.data.toList = none) :
    Calls Tryd.prog 30 #[.string s, .int .i64 n] w fun e w' => e = .returned (.string ByteArray.empty) ∧ Below w.heap.size w w' := by
  have HD := Lib.hid hd
  clear hd
  go_enter Tryd.func30, Tryd.ntmps30
  go_wp2_with fail
  refine (right_any _ _ hs).mono ?_
  rintro e w1 ⟨rfl, hb1⟩
  rw [HD.out]
  go_wp2_with fail
  go_ret
  exact ⟨rfl, hb1⟩

set_option maxHeartbeats 400000 in
theorem first_some (s : ByteArray) (rs : List Nat) (n : Int) (w : World) (hs : s.size ≤ 1000000) (ho : allOk rs) (h : s.data.toList = encAll rs) (hn : -9223372036854775808 ≤ n ∧ n ≤ 9223372036854775807) :
    Calls Tryd.prog 29 #[.string s, .int .i64 n] w fun e w' => e = .returned (.string (mkS (encAll (rs.take n.toNat)))) ∧ Below w.heap.size w w' := by
  have hs' : s.size ≤ maxLen := by unfold maxLen; omega
  have hd := dec_encAll ho
  rw [← h] at hd
  have hle := off_le h (min n.toNat rs.length)
  have HT := Lib.hid (off_take h (min n.toNat rs.length))
  have HC := Lib.hid (fun (W : World) => cut_some s rs n W hs ho h hn)
  have HD := Lib.hid hd
  clear hd h hn
  go_enter Tryd.func29, Tryd.ntmps29
  go_wp2_with fail
  refine (right_any _ _ hs').mono ?_
  rintro e w1 ⟨rfl, hb1⟩
  rw [HD.out]
  go_wp2_with fail
  refine (HC.out _).mono ?_
  rintro e w2 ⟨rfl, hb2⟩
  generalize hp : off rs (min n.toNat rs.length) = p at *
  have HPp := Lib.hid hp
  clear hp
  have hp2 : p ≤ 9223372036854775807 := by omega
  go_wp2_with fail
  go_ret
  refine ⟨?_, hb1.trans (hb2.mono hb1.size)⟩
  refine ret_str ?_
  rw [mkS_data, Lib.extract_data, List.drop_zero, Nat.sub_zero, HT.out]
  congr 1
  rw [List.take_eq_take_iff]
  omega

set_option maxHeartbeats 400000 in
theorem rest_some (s : ByteArray) (rs : List Nat) (n : Int) (w : World) (hs : s.size ≤ 1000000) (ho : allOk rs) (h : s.data.toList = encAll rs) (hn : -9223372036854775808 ≤ n ∧ n ≤ 9223372036854775807) :
    Calls Tryd.prog 30 #[.string s, .int .i64 n] w fun e w' => e = .returned (.string (mkS (encAll (rs.drop n.toNat)))) ∧ Below w.heap.size w w' := by
  have hs' : s.size ≤ maxLen := by unfold maxLen; omega
  have hd := dec_encAll ho
  rw [← h] at hd
  have hle := off_le h (min n.toNat rs.length)
  have HT := Lib.hid (off_drop h (min n.toNat rs.length))
  have HC := Lib.hid (fun (W : World) => cut_some s rs n W hs ho h hn)
  have HD := Lib.hid hd
  clear hd h hn
  go_enter Tryd.func30, Tryd.ntmps30
  go_wp2_with fail
  refine (right_any _ _ hs').mono ?_
  rintro e w1 ⟨rfl, hb1⟩
  rw [HD.out]
  go_wp2_with fail
  refine (HC.out _).mono ?_
  rintro e w2 ⟨rfl, hb2⟩
  generalize hp : off rs (min n.toNat rs.length) = p at *
  have HPp := Lib.hid hp
  clear hp
  have hp2 : p ≤ 9223372036854775807 := by omega
  go_wp2_with fail
  go_ret
  refine ⟨?_, hb1.trans (hb2.mono hb1.size)⟩
  refine ret_str ?_
  rw [mkS_data, Lib.extract_data, HT.out, List.take_of_length_le]
  · congr 1
    by_cases hle2 : n.toNat ≤ rs.length
    · rw [Nat.min_eq_left hle2]
    · rw [Nat.min_eq_right (by omega), List.drop_length, List.drop_of_length_le (by omega)]
  · rw [← HT.out, List.length_drop, ← Lib.size_eq]
    omega
end Go.Proofs.YtjhmehmmpfnnkaaDoor

namespace Go.Proofs.YtjhmehmmpfnnkaaDoor
open Go.RowKit Utf
set_option maxRecDepth 100000
set_option linter.unusedSimpArgs false
set_option linter.unusedVariables false

/-- What lines.Unquote answers for a right text. -/
def UnquotePost (ea : Nat → Addr) (rs : List Nat) (w : World) (e : Ending) (w' : World) : Prop :=
  Below w.heap.size w w' ∧ ((∃ t, unquoteL rs = some t ∧ e = .returned (.tuple #[.string (mkS (encAll t)), .nilIface])) ∨
    (unquoteL rs = none ∧ e = .returned (.tuple #[.string ByteArray.empty, .iface 163 (.pointer (some (ea 3)))])))

theorem unquote_none (ea : Nat → Addr) (s : ByteArray) (w : World) (hs : s.size ≤ maxLen) (hd : dec s.data.toList = none) (he : LErr w ea) :
    Calls Tryd.prog 12 #[.string s] w fun e w' => e = .returned (.tuple #[.string ByteArray.empty, .iface 163 (.pointer (some (ea 5)))]) ∧ Below w.heap.size w w' := by
  have HD := Lib.hid hd
  have HE := Lib.hid he
  clear hd he
  go_enter Tryd.func12, Tryd.ntmps12
  go_wp2_with fail
  refine (right_any _ _ hs).mono ?_
  rintro e w1 ⟨rfl, hb1⟩
  rw [HD.out]
  have c5 := (HE.out.below hb1).rune
  go_wp2_with fail
  go_quiet (fail)
  go_wp2_with fail
  go_ret2
  exact ⟨rfl, below_drewN hb1 _⟩

set_option maxHeartbeats 4000000 in
theorem unquote_some (ea : Nat → Addr) (s : ByteArray) (rs : List Nat) (w : World) (hs : s.size ≤ 1000000) (ho : allOk rs) (h : s.data.toList = encAll rs) (he : LErr w ea) :
    Calls Tryd.prog 12 #[.string s] w (UnquotePost ea rs w) := by
  obtain ⟨i1, hj, hy0, hy1, hy2⟩ := info_parts Tryd.infoRune
  have hs' : s.size ≤ maxLen := by unfold maxLen; omega
  have hd := dec_encAll ho
  rw [← h] at hd
  have hl := len_le h
  have hrl : rs.length ≤ 1000000 := by omega
  have hes : (encAll rs).length ≤ 1000000 := by rw [← h, ← Lib.size_eq]; exact hs
  have HEA := Lib.hid he
  have HD := Lib.hid hd
  have HR := Lib.hid (fun W => right_any s W hs')
  have HC := Lib.hid (fun W => count_some s rs W hs ho h)
  have HF := Lib.hid (fun W => first_some s rs 1 W hs ho h (by omega))
  rw [show (1 : Int).toNat = 1 from rfl] at HF
  have HRL := Lib.hid (fun W => rest_some s rs ((rs.length : Int) - 1) W hs ho h (by omega))
  have HR1 := Lib.hid (fun W => rest_some s rs 1 W hs ho h (by omega))
  rw [show (1 : Int).toNat = 1 from rfl] at HR1
  have HF2 := Lib.hid (fun W (h2 : 2 ≤ rs.length) => first_some (mkS (encAll (rs.drop 1))) (rs.drop 1) ((rs.length : Int) - 2) W (by rw [mkS_size]; have := encAll_drop_le rs 1; omega) (allOk_drop ho 1) rfl (by omega))
  have ht1 : (!(mkS (encAll (rs.take 1))).toList == [34]) = !decide (rs.take 1 = [34]) := by rw [text34 (allOk_take ho 1)]
  have ht2 : (!(mkS (encAll (rs.drop (rs.length - 1)))).toList == [34]) = !decide (rs.drop (rs.length - 1) = [34]) := by rw [text34 (allOk_drop ho _)]
  have HT1 := Lib.hid ht1
  have HT2 := Lib.hid ht2
  have HO := Lib.hid ho
  clear hd h he hl ht1 ht2 ho
  by_cases hn : rs.length < 2
  · have hn' : (rs.length : Int) < 2 := by omega
    have hn2 : decide ((rs.length : Int) < 2) = true := decide_eq_true hn'
    have HU := Lib.hid (unquoteL_bad (.inl hn))
    clear hn
    go_enter Tryd.func12, Tryd.ntmps12
    go_wp2_with fail
    refine (HR.out _).mono ?_
    rintro e w1 ⟨rfl, hb1⟩
    rw [HD.out]
    have HB1 := Lib.hid hb1
    clear hb1
    go_wp2_with fail
    refine (HC.out _).mono ?_
    rintro e w2 ⟨rfl, hb2⟩
    have HB2 := Lib.hid (HB1.out.trans (hb2.mono HB1.out.size))
    clear hb2
    have c3 := (HEA.out.below HB2.out).form
    go_wp2_with fail
    go_quiet (fail)
    go_wp2_with fail
    go_ret2
    exact ⟨below_drewN HB2.out _, .inr ⟨HU.out, rfl⟩⟩
  · have hn' : ¬ (rs.length : Int) < 2 := by omega
    have hn2 : decide ((rs.length : Int) < 2) = false := decide_eq_false hn'
    have h2l : 2 ≤ rs.length := by omega
    clear hn
    by_cases h1 : rs.head? = some 34
    · have hq1 : (!(mkS (encAll (rs.take 1))).toList == [34]) = false := by rw [HT1.out, decide_eq_true ((head34 h2l).2 h1)]; rfl
      have H1 := Lib.hid h1
      clear h1
      have htn : ((rs.length : Int) - 1).toNat = rs.length - 1 := by omega
      have htn2 : ((rs.length : Int) - 2).toNat = rs.length - 2 := by omega
      rw [htn] at HRL
      rw [htn2] at HF2
      clear htn htn2
      have HF2' := Lib.hid (fun W => HF2.out W h2l)
      clear HF2
      by_cases h2 : rs.getLast? = some 34
      · have hq2 : (!(mkS (encAll (rs.drop (rs.length - 1)))).toList == [34]) = false := by rw [HT2.out, decide_eq_true ((last34 h2l).2 h2)]; rfl
        have HU := Lib.hid (unquoteL_mid h2l H1.out h2)
        clear h2
        have hmo := allOk_take (allOk_drop HO.out 1) (rs.length - 2)
        have hml : (encAll ((rs.drop 1).take (rs.length - 2))).length ≤ 1000000 := Nat.le_trans (Nat.le_trans (encAll_take_le _ _) (encAll_drop_le _ _)) hes
        generalize hmid : (rs.drop 1).take (rs.length - 2) = mid at *
        have HMID := Lib.hid hmid
        clear hmid
        have hmid2 : (mkS (encAll mid)).data.toList = encAll mid := rfl
        have hsz : (mkS (encAll mid)).size ≤ 1000000 := by rw [mkS_size]; exact hml
        have hlen : mid.length ≤ 1000000 := Nat.le_trans (encAll_len mid) hml
        generalize hsm : mkS (encAll mid) = sm at *
        have HSM := Lib.hid hsm
        clear hsm
        have HN := Lib.hid (fun (w : World) b k hb hk ty => next_at (P := Tryd.prog) hmo hmid2 w b k hb hk ty)
        have HE := Lib.hid (fun (w : World) b hb ty => next_at_end (P := Tryd.prog) hmid2 w b hb ty)
        have HME0 := Lib.hid (off_pos_lt hmid2)
        clear hmid2 hmo hml
        generalize hsr : mkS (encAll (rs.drop 1)) = sr at *
        clear hsr
        go_enter Tryd.func12, Tryd.ntmps12
        go_wp2_with fail
        refine (HR.out _).mono ?_
        rintro e w1 ⟨rfl, hb1⟩
        rw [HD.out]
        have HB1 := Lib.hid hb1
        clear hb1
        go_wp2_with fail
        refine (HC.out _).mono ?_
        rintro e w2 ⟨rfl, hb2⟩
        have HB2 := Lib.hid (HB1.out.trans (hb2.mono HB1.out.size))
        clear hb2
        go_wp2_with fail
        refine (HF.out _).mono ?_
        rintro e w3 ⟨rfl, hb3⟩
        have HB3 := Lib.hid (HB2.out.trans (hb3.mono HB2.out.size))
        clear hb3
        go_wp2_with fail
        refine (HRL.out _).mono ?_
        rintro e w4 ⟨rfl, hb4⟩
        have HB4 := Lib.hid (HB3.out.trans (hb4.mono HB3.out.size))
        clear hb4
        go_wp2_with fail
        refine (HR1.out _).mono ?_
        rintro e w5 ⟨rfl, hb5⟩
        have HB5 := Lib.hid (HB4.out.trans (hb5.mono HB4.out.size))
        clear hb5
        go_wp2_with fail
        (with_reducible refine (HF2'.out _).mono ?_)
        rintro e w6 ⟨rfl, hb6⟩
        have HB6 := Lib.hid (HB5.out.trans (hb6.mono HB5.out.size))
        have HE6 := Lib.hid (HEA.out.below HB6.out)
        clear hb6 HB5 HB4 HB3 HB2 HB1
        go_wp2_with fail
        go_loopw [5, 6] (fun vo vq wr => ∃ (k : Nat) (esc : Bool) (acc : List Nat), k ≤ mid.length ∧ vq = .bool esc ∧ wr.heap[w6.heap.size]? = some (.stringIter sm (off mid k)) ∧ Below w6.heap.size w6 wr ∧ OwnE wr (w6.heap.size + 1) 21 1 vo acc.length (runeRow acc) ∧ Hid (uqRun (false, []) (mid.take k) = some (esc, acc))) (fun _ _ wr => sm.size - wr.iterPos w6.heap.size)
        case atStart => exact ⟨0, false, [], Nat.zero_le _, rfl, iter_new _ _ _, (Below.refl _ _).alloc (Nat.le_refl _) _, .nil, rfl⟩
        case round =>
          obtain ⟨k, esc, acc, hk, rfl, hit, hbel, hout, HC⟩ := hrel
          have HAL := Lib.hid (show acc.length ≤ 1000000 by have := uqRun_len _ _ _ HC.out; simp at this; omega)
          have HOU := Lib.hid hout
          have HBE := Lib.hid hbel
          have HIT := Lib.hid hit
          have HIL := Lib.hid ((Array.getElem?_eq_some_iff.1 hit).1)
          have HPO := Lib.hid (show wr.iterPos w6.heap.size = off mid k by simp [World.iterPos, hit])
          clear hout hbel hit
          by_cases hlt : k < mid.length
          · have hnx := HN.out wr w6.heap.size k HIT.out hlt
            have HRT := Lib.hid (uqRun_take hlt HC.out)
            have HST := Lib.hid (fun h => unq_stop hlt HC.out h)
            have HME := Lib.hid (HME0.out k hlt)
            generalize mid[k] = c at *
            generalize hoff1 : off mid (k + 1) = p1 at *
            have HOF1 := Lib.hid hoff1
            clear hoff1
            have HIT2 := Lib.hid (Lib.iterAt_heap wr w6.heap.size sm (off mid k) p1 HIT.out)
            have HBE2 := Lib.hid (below_iter HBE.out (Nat.le_refl _) sm p1)
            have HOU2 := Lib.hid (HOU.out.iterAt' HIT.out p1)
            have HIS := Lib.hid (Lib.iterAt_size wr w6.heap.size sm p1)
            generalize hw2 : wr.iterAt w6.heap.size sm p1 = w7 at *
            have HW2 := Lib.hid hw2
            clear hw2
            have HER2 := Lib.hid (HE6.out.below HBE2.out)
            have HSZ2 := Lib.hid (show w6.heap.size + 1 ≤ w7.heap.size by have := HIS.out; have := HIL.out; omega)
            cases esc with
            | true =>
              by_cases hq : c = 34 ∨ c = 92
              · have HCS := Lib.hid (HRT.out.trans (by simp [uqStep, hq]) : uqRun (false, []) (mid.take (k + 1)) = some (false, acc ++ [c]))
                have hbq : badQ c = false := by rcases hq with rfl | rfl <;> rfl
                have HBQ := Lib.hid hbq
                clear hbq
                have hb0 : (c : Int) = 34 ∨ (c : Int) = 92 := by omega
                clear hq
                have hgo : (((c : Int) == 34) = true ∧ ((c : Int) != 34) = false) ∨ (((c : Int) == 34) = false ∧ ((c : Int) != 34) = true ∧ ((c : Int) != 92) = false) := by
                  rcases hb0 with h | h <;> simp [h]
                clear hb0
                rcases hgo with ⟨e34, e34'⟩ | ⟨e34, e34', e92'⟩
                all_goals
                  go_wp2_with fail
                  refine (plain_of c false _ HBQ.out).mono ?_
                  rintro e w8 ⟨rfl, rfl⟩
                  go_wp2_with (at_builtin; refine appE rfl _ _ 66 rfl 21 i1 (.int .i32 0) 1 4 Tryd.underlying66 hj hy0 hy1 hy2 rfl (by omega) (w6.heap.size + 1) _ _ _ rfl HOU2.out w6.heap.size (by omega) HBE2.out HSZ2.out [.int .i32 (c : Int)] 1 rfl (by omega) (by intro u hu; simp at hu; subst hu; rfl) rfl (by have := HAL.out; omega) (by omega) ?_)
                  refine Lib.hid ?_
                  intro v9 w9 hown9 hbel9 hgrow9
                  have HB9 := Lib.hid hbel9
                  have HO9 := Lib.hid (own_rune1 (c := c) rfl rfl rfl hown9)
                  have HI9 := Lib.hid (iter_grownE HOU2.out hgrow9 HIT2.out)
                  clear hown9 hbel9 hgrow9
                  go_wp2_with fail
                  go_roundw
                  case rel => exact ⟨k + 1, false, acc ++ [c], by omega, rfl, by rw [HOF1.out]; exact HI9.out, HB9.out, .inr HO9.out, HCS.out⟩
                  case measure => rw [HPO.out]; have := HI9.out; simp only [World.iterPos, this]; exact HME.out
              · have HNO := Lib.hid (HST.out (by simp [uqStep, hq]))
                have e34 : ((c : Int) == 34) = false := by simp; omega
                have e92 : ((c : Int) == 92) = false := by simp; omega
                have e34' : ((c : Int) != 34) = true := by simp; omega
                have e92' : ((c : Int) != 92) = true := by simp; omega
                clear hq
                have c3 := HER2.out.form
                go_wp2_with fail
                go_quiet (fail)
                go_wp2_with fail
                go_ret2
                exact ⟨below_drewN (HB6.out.trans (HBE2.out.mono HB6.out.size)) _, .inr ⟨HU.out.trans HNO.out, rfl⟩⟩
            | false =>
              by_cases hq : c = 34
              · have HNO := Lib.hid (HST.out (by simp [uqStep, hq]))
                have e34 : ((c : Int) == 34) = true := by simp; omega
                clear hq
                have c3 := HER2.out.form
                go_wp2_with fail
                go_quiet (fail)
                go_wp2_with fail
                go_ret2
                exact ⟨below_drewN (HB6.out.trans (HBE2.out.mono HB6.out.size)) _, .inr ⟨HU.out.trans HNO.out, rfl⟩⟩
              · have e34 : ((c : Int) == 34) = false := by simp; omega
                cases hbq : badQ c with
                | true =>
                  have HNO := Lib.hid (HST.out (by simp [uqStep, hbq]))
                  have HBQ := Lib.hid hbq
                  clear hbq hq
                  go_wp2_with fail
                  refine (plain_of c true _ HBQ.out).mono ?_
                  rintro e w8 ⟨rfl, rfl⟩
                  have c3 := HER2.out.form
                  go_wp2_with fail
                  go_quiet (fail)
                  go_wp2_with fail
                  go_ret2
                  exact ⟨below_drewN (HB6.out.trans (HBE2.out.mono HB6.out.size)) _, .inr ⟨HU.out.trans HNO.out, rfl⟩⟩
                | false =>
                  by_cases hx : c = 92
                  · have HCS := Lib.hid (HRT.out.trans (by simp [uqStep, hq, hbq, hx, badQ]) : uqRun (false, []) (mid.take (k + 1)) = some (true, acc))
                    have HBQ := Lib.hid hbq
                    have e92 : ((c : Int) == 92) = true := by simp; omega
                    clear hbq hq hx
                    go_wp2_with fail
                    refine (plain_of c false _ HBQ.out).mono ?_
                    rintro e w8 ⟨rfl, rfl⟩
                    go_wp2_with fail
                    go_roundw
                    case rel => exact ⟨k + 1, true, acc, by omega, rfl, by rw [HOF1.out]; exact HIT2.out, HBE2.out, HOU2.out, HCS.out⟩
                    case measure => rw [HPO.out]; have := HIT2.out; simp only [World.iterPos, this]; exact HME.out
                  · have HCS := Lib.hid (HRT.out.trans (by simp [uqStep, hq, hbq, hx]) : uqRun (false, []) (mid.take (k + 1)) = some (false, acc ++ [c]))
                    have HBQ := Lib.hid hbq
                    have e92 : ((c : Int) == 92) = false := by simp; omega
                    clear hbq hq hx
                    go_wp2_with fail
                    refine (plain_of c false _ HBQ.out).mono ?_
                    rintro e w8 ⟨rfl, rfl⟩
                    go_wp2_with (at_builtin; refine appE rfl _ _ 66 rfl 21 i1 (.int .i32 0) 1 4 Tryd.underlying66 hj hy0 hy1 hy2 rfl (by omega) (w6.heap.size + 1) _ _ _ rfl HOU2.out w6.heap.size (by omega) HBE2.out HSZ2.out [.int .i32 (c : Int)] 1 rfl (by omega) (by intro u hu; simp at hu; subst hu; rfl) rfl (by have := HAL.out; omega) (by omega) ?_)
                    refine Lib.hid ?_
                    intro v9 w9 hown9 hbel9 hgrow9
                    have HB9 := Lib.hid hbel9
                    have HO9 := Lib.hid (own_rune1 (c := c) rfl rfl rfl hown9)
                    have HI9 := Lib.hid (iter_grownE HOU2.out hgrow9 HIT2.out)
                    clear hown9 hbel9 hgrow9
                    go_wp2_with fail
                    go_roundw
                    case rel => exact ⟨k + 1, false, acc ++ [c], by omega, rfl, by rw [HOF1.out]; exact HI9.out, HB9.out, .inr HO9.out, HCS.out⟩
                    case measure => rw [HPO.out]; have := HI9.out; simp only [World.iterPos, this]; exact HME.out
          · obtain rfl : k = mid.length := by omega
            have hnx := HE.out wr w6.heap.size HIT.out
            have HFI := Lib.hid (unq_end (by have := HC.out; rwa [List.take_length] at this))
            have HER2 := Lib.hid (HE6.out.below HBE.out)
            cases esc with
            | true =>
              have c3 := HER2.out.form
              go_wp2_with fail
              go_quiet (fail)
              go_wp2_with fail
              go_ret2
              exact ⟨below_drewN (HB6.out.trans (HBE.out.mono HB6.out.size)) _, .inr ⟨HU.out.trans HFI.out, rfl⟩⟩
            | false =>
              have hcv := convE_runes (P := Tryd.prog) (src := 66) (dst := 9) HOU.out Tryd.underlying66 Tryd.underlying21 Tryd.underlying9
              go_wp2_with fail
              go_ret2
              exact ⟨HB6.out.trans (HBE.out.mono HB6.out.size), .inl ⟨_, HU.out.trans HFI.out, rfl⟩⟩
      · have hq2 : (!(mkS (encAll (rs.drop (rs.length - 1)))).toList == [34]) = true := by rw [HT2.out, decide_eq_false (fun h => h2 ((last34 h2l).1 h))]; rfl
        have HU := Lib.hid (unquoteL_bad (.inr (.inr h2)))
        clear h2
        go_enter Tryd.func12, Tryd.ntmps12
        go_wp2_with fail
        refine (HR.out _).mono ?_
        rintro e w1 ⟨rfl, hb1⟩
        rw [HD.out]
        have HB1 := Lib.hid hb1
        clear hb1
        go_wp2_with fail
        refine (HC.out _).mono ?_
        rintro e w2 ⟨rfl, hb2⟩
        have HB2 := Lib.hid (HB1.out.trans (hb2.mono HB1.out.size))
        clear hb2
        go_wp2_with fail
        refine (HF.out _).mono ?_
        rintro e w3 ⟨rfl, hb3⟩
        have HB3 := Lib.hid (HB2.out.trans (hb3.mono HB2.out.size))
        clear hb3
        go_wp2_with fail
        refine (HRL.out _).mono ?_
        rintro e w4 ⟨rfl, hb4⟩
        have HB4 := Lib.hid (HB3.out.trans (hb4.mono HB3.out.size))
        clear hb4
        have c3 := (HEA.out.below HB4.out).form
        go_wp2_with fail
        go_quiet (fail)
        go_wp2_with fail
        go_ret2
        exact ⟨below_drewN HB4.out _, .inr ⟨HU.out, rfl⟩⟩
    · have hq1 : (!(mkS (encAll (rs.take 1))).toList == [34]) = true := by rw [HT1.out, decide_eq_false (fun h => h1 ((head34 h2l).1 h))]; rfl
      have HU := Lib.hid (unquoteL_bad (.inr (.inl h1)))
      clear h1
      go_enter Tryd.func12, Tryd.ntmps12
      go_wp2_with fail
      refine (HR.out _).mono ?_
      rintro e w1 ⟨rfl, hb1⟩
      rw [HD.out]
      have HB1 := Lib.hid hb1
      clear hb1
      go_wp2_with fail
      refine (HC.out _).mono ?_
      rintro e w2 ⟨rfl, hb2⟩
      have HB2 := Lib.hid (HB1.out.trans (hb2.mono HB1.out.size))
      clear hb2
      go_wp2_with fail
      refine (HF.out _).mono ?_
      rintro e w3 ⟨rfl, hb3⟩
      have HB3 := Lib.hid (HB2.out.trans (hb3.mono HB2.out.size))
      clear hb3
      have c3 := (HEA.out.below HB3.out).form
      go_wp2_with fail
      go_quiet (fail)
      go_wp2_with fail
      go_ret2
      exact ⟨below_drewN HB3.out _, .inr ⟨HU.out, rfl⟩⟩
end Go.Proofs.YtjhmehmmpfnnkaaDoor
