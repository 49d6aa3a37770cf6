/-
  The contracts of lines.plain and lines.Quote.
-/
import Derived.Test.YtjhmehmmpfnnkaaDoorLKit
import Derived.Test.YtjhmehmmpfnnkaaDoorFRight
namespace Go.Proofs.YtjhmehmmpfnnkaaDoor
open Go.RowKit Utf
set_option maxRecDepth 100000
set_option linter.unusedSimpArgs false
set_option linter.unusedVariables false

theorem plain_of (c : Nat) (b : Bool) (w : World) (h : badQ c = b) :
    Calls Tryd.prog 27 #[.int .i32 (c : Int)] w fun e w' => e = .returned (.bool (!b)) ∧ w' = w := by
  subst h
  by_cases h1 : c < 32
  · have e1 : ¬ (32 : Int) ≤ (c : Int) := by omega
    have e2 : decide ((32 : Int) ≤ (c : Int)) = false := decide_eq_false e1
    have hb : badQ c = true := by simp [badQ, h1]
    have HB := Lib.hid hb
    clear hb h1
    go_enter Tryd.func27, Tryd.ntmps27
    go_wp2_with fail
    go_ret
    exact ⟨by rw [HB.out]; rfl, rfl⟩
  · have e1 : (32 : Int) ≤ (c : Int) := by omega
    have e2 : decide ((32 : Int) ≤ (c : Int)) = true := decide_eq_true e1
    by_cases h2 : c = 127
    · have e3 : ((c : Int) != 127) = false := by simp [h2]
      have hb : badQ c = true := by simp [badQ, h2]
      have HB := Lib.hid hb
      clear hb h2 h1
      go_enter Tryd.func27, Tryd.ntmps27
      go_wp2_with fail
      go_ret
      exact ⟨by rw [HB.out]; rfl, rfl⟩
    · have e3 : ((c : Int) != 127) = true := by simp; omega
      have hb : badQ c = false := by simp [badQ, h1, h2]
      have HB := Lib.hid hb
      clear hb h2 h1
      go_enter Tryd.func27, Tryd.ntmps27
      go_wp2_with fail
      go_ret
      exact ⟨by rw [HB.out]; rfl, rfl⟩

theorem anyQ_step {rs : List Nat} {k : Nat} (hk : k < rs.length) (h : (rs.take k).any badQ = false) (hb : badQ rs[k] = false) : (rs.take (k + 1)).any badQ = false := by
  rw [List.take_succ_eq_append_getElem hk, List.any_append, h]
  simp [hb]
theorem anyQ_hit {rs : List Nat} {k : Nat} (hk : k < rs.length) (hb : badQ rs[k] = true) : quoteL rs = none := by
  unfold quoteL
  rw [if_pos]
  rw [List.any_eq_true]
  exact ⟨_, List.getElem_mem hk, hb⟩

/-- What stands in the row behind k runes. -/
def qrow (rs : List Nat) (k : Nat) : List Nat := 34 :: (rs.take k).flatMap quo1
theorem qrow_succ {rs : List Nat} {k : Nat} (hk : k < rs.length) : qrow rs (k + 1) = qrow rs k ++ quo1 rs[k] := by
  unfold qrow
  rw [List.take_succ_eq_append_getElem hk, List.flatMap_append]
  simp
theorem quo1_len (c : Nat) : 1 ≤ (quo1 c).length ∧ (quo1 c).length ≤ 2 := by unfold quo1; split <;> simp
theorem flat_quo1_len (l : List Nat) : (l.flatMap quo1).length ≤ 2 * l.length := by
  induction l with
  | nil => simp
  | cons c l ih => have := quo1_len c; rw [List.flatMap_cons, List.length_append]; simp only [List.length_cons]; omega
theorem qrow_len (rs : List Nat) (k : Nat) : (qrow rs k).length ≤ 2 * rs.length + 1 := by
  unfold qrow
  have := flat_quo1_len (rs.take k)
  rw [List.length_take] at this
  simp only [List.length_cons]
  omega
theorem quote_done {rs : List Nat} (h : (rs.take rs.length).any badQ = false) : quoteL rs = some (qrow rs rs.length ++ [34]) := by
  rw [List.take_length] at h
  unfold quoteL qrow
  rw [if_neg (by rw [h]; decide), List.take_length]
  rfl
theorem own_rune1 {w : World} {B : Nat} {e : TypeId} {v : Value} {l : List Nat} {n : Nat} {xs : List Value} {c : Nat} {x : Int} (hx : x = (c : Int)) (hn : n = l.length) (he : xs = runeRow l) (h : w.ownsRow B e 1 v (n + 1) (xs ++ [.int .i32 x])) : w.ownsRow B e 1 v (l ++ [c]).length (runeRow (l ++ [c])) := by
  subst hx hn he
  rw [List.length_append]
  simpa [runeRow] using h

theorem convE_runes {w : World} {B : Nat} {e src dst : TypeId} {v : Value} {rs : List Nat} {P : Program} (h : OwnE w B e 1 v rs.length (runeRow rs)) (hs : P.underlying src = some (.slice e)) (he : P.underlying e = some (.int .i32)) (hd : P.underlying dst = some .string) :
    (convert src dst v).run P w = .ok (.string (mkS (encAll rs))) w := by
  rcases h with ⟨hv, hn, _⟩ | h
  · obtain rfl : rs = [] := List.length_eq_zero_iff.1 hn
    rcases hv with rfl | ⟨g, rfl⟩
    · exact conv_runes (B := B) (e := e) (w.ownsRow_nil B e 1) hs he hd
    · have := run_convert_runes w src dst e ⟨g, 0, none⟩ 0 0 [] (Nat.le_refl _) hs he hd (fun j hj => absurd hj (Nat.not_lt_zero j))
      exact this
  · exact conv_runes h hs he hd

/-- What lines.Quote answers for a right text. -/
def QuotePost (ea : Nat → Addr) (rs : List Nat) (w : World) (e : Ending) (w' : World) : Prop :=
  Below w.heap.size w w' ∧ ((∃ q, quoteL rs = some q ∧ e = .returned (.tuple #[.string (mkS (encAll q)), .nilIface])) ∨
    (quoteL rs = none ∧ e = .returned (.tuple #[.string ByteArray.empty, .iface 163 (.pointer (some (ea 3)))])))

theorem quote_none (ea : Nat → Addr) (s : ByteArray) (w : World) (hs : s.size ≤ maxLen) (hd : dec s.data.toList = none) (he : LErr w ea) :
    Calls Tryd.prog 9 #[.string s] w fun e w' => e = .returned (.tuple #[.string ByteArray.empty, .iface 163 (.pointer (some (ea 5)))]) ∧ Below w.heap.size w w' := by
  have HD := Lib.hid hd
  have HE := Lib.hid he
  clear hd he
  go_enter Tryd.func9, Tryd.ntmps9
  go_wp2_with fail
  refine (right_any _ _ hs).mono ?_
  rintro e w1 ⟨rfl, hb1⟩
  rw [HD.out]
  have c5 := (HE.out.below hb1).rune
  go_wp2_with fail
  go_quiet (fail)
  go_wp2_with fail
  go_ret2
  exact ⟨rfl, below_drewN hb1 _⟩

set_option maxHeartbeats 4000000 in
theorem quote_some (ea : Nat → Addr) (s : ByteArray) (rs : List Nat) (w : World) (hs : s.size ≤ 1000000) (ho : allOk rs) (h : s.data.toList = encAll rs) (he : LErr w ea) :
    Calls Tryd.prog 9 #[.string s] w (QuotePost ea rs w) := by
  obtain ⟨i1, hj, hy0, hy1, hy2⟩ := info_parts Tryd.infoRune
  have hs' : s.size ≤ maxLen := by unfold maxLen; omega
  have hd := dec_encAll ho
  rw [← h] at hd
  have hl := len_le h
  have hrl : rs.length ≤ 1000000 := by omega
  have HN := Lib.hid (fun (w : World) b k hb hk ty => next_at (P := Tryd.prog) ho h w b k hb hk ty)
  have HE := Lib.hid (fun (w : World) b hb ty => next_at_end (P := Tryd.prog) h w b hb ty)
  have HME0 := Lib.hid (off_pos_lt h)
  have HEA := Lib.hid he
  have HD := Lib.hid hd
  clear hd h he hl ho
  go_enter Tryd.func9, Tryd.ntmps9
  go_wp2_with fail
  refine (right_any _ _ hs').mono ?_
  rintro e w1 ⟨rfl, hb1⟩
  rw [HD.out]
  have HB1 := Lib.hid hb1
  have HE1 := Lib.hid (HEA.out.below hb1)
  clear hb1 HEA
  go_wp2_with fail
  go_loopw [4] (fun vo wr => ∃ (k : Nat), k ≤ rs.length ∧ wr.heap[w1.heap.size + 1]? = some (.stringIter s (off rs k)) ∧ Below w1.heap.size w1 wr ∧ OwnE wr w1.heap.size 21 1 vo (qrow rs k).length (runeRow (qrow rs k)) ∧ Hid ((rs.take k).any badQ = false)) (fun _ wr => s.size - wr.iterPos (w1.heap.size + 1))
  case atStart =>
    refine ⟨0, Nat.zero_le _, ?_, ((Below.refl _ _).alloc (Nat.le_refl _) _).alloc (by simp) _, .inr ((World.ownsRow_lit w1 #[.int .i32 34] 1 (Nat.le_refl _) (by simp [maxLen]) rfl).alloc _), rfl⟩
    have := iter_new (w1.alloc (.cells #[.int .i32 34] 21)) s 0
    rw [World.size_alloc] at this
    exact this
  case round =>
    obtain ⟨k, hk, hit, hbel, hout, HC⟩ := hrel
    have HQL := Lib.hid (qrow_len rs k)
    have HOU := Lib.hid hout
    have HBE := Lib.hid hbel
    have HIT := Lib.hid hit
    have HIL := Lib.hid ((Array.getElem?_eq_some_iff.1 hit).1)
    have HPO := Lib.hid (show wr.iterPos (w1.heap.size + 1) = off rs k by simp [World.iterPos, hit])
    clear hout hbel hit
    by_cases hlt : k < rs.length
    · have hnx := HN.out wr (w1.heap.size + 1) k HIT.out hlt
      have HQS := Lib.hid (qrow_succ hlt)
      have HAS := Lib.hid (fun h => anyQ_step hlt HC.out h)
      have HAH := Lib.hid (fun h => anyQ_hit hlt h)
      have HME := Lib.hid (HME0.out k hlt)
      generalize rs[k] = c at *
      generalize hoff1 : off rs (k + 1) = p1 at *
      have HOF1 := Lib.hid hoff1
      clear hoff1
      have HIT2 := Lib.hid (Lib.iterAt_heap wr (w1.heap.size + 1) s (off rs k) p1 HIT.out)
      have HBE2 := Lib.hid (below_iter HBE.out (Nat.le_succ _) s p1)
      have HOU2 := Lib.hid (HOU.out.iterAt' HIT.out p1)
      have HIS := Lib.hid (Lib.iterAt_size wr (w1.heap.size + 1) s p1)
      generalize hw2 : wr.iterAt (w1.heap.size + 1) s p1 = w2 at *
      have HW2 := Lib.hid hw2
      clear hw2
      have HER2 := Lib.hid (HE1.out.below HBE2.out)
      have HSZ2 := Lib.hid (show w1.heap.size ≤ w2.heap.size by have := HIS.out; have := HIL.out; omega)
      cases hbq : badQ c with
      | true =>
        have HNO := Lib.hid (HAH.out hbq)
        have HBQ := Lib.hid hbq
        clear hbq
        go_wp2_with fail
        refine (plain_of c true _ HBQ.out).mono ?_
        rintro e w3 ⟨rfl, rfl⟩
        have c3 := HER2.out.form
        go_wp2_with fail
        go_quiet (fail)
        go_wp2_with fail
        go_ret2
        exact ⟨below_drewN (HB1.out.trans (HBE2.out.mono HB1.out.size)) _, .inr ⟨HNO.out, rfl⟩⟩
      | false =>
        have HCS := Lib.hid (HAS.out hbq)
        have HBQ := Lib.hid hbq
        clear hbq
        by_cases hq : c = 34 ∨ c = 92
        · have HQ1 := Lib.hid (show quo1 c = [92, c] by unfold quo1; rw [if_pos hq])
          have hb0 : (c : Int) = 34 ∨ (c : Int) = 92 := by omega
          have HQ2 := Lib.hid hq
          clear hq
          have hgo : (((c : Int) == 34) = true) ∨ (((c : Int) == 34) = false ∧ ((c : Int) == 92) = true) := by
            rcases hb0 with h | h <;> simp [h]
          clear hb0
          rcases hgo with e34 | ⟨e34, e92⟩
          all_goals
            go_wp2_with fail
            refine (plain_of c false _ HBQ.out).mono ?_
            rintro e w3 ⟨rfl, rfl⟩
            go_wp2_with (at_builtin; refine appE rfl _ _ 66 rfl 21 i1 (.int .i32 0) 1 4 Tryd.underlying66 hj hy0 hy1 hy2 rfl (by omega) w1.heap.size _ _ _ rfl HOU2.out w1.heap.size (by omega) HBE2.out HSZ2.out [.int .i32 92] 1 rfl (by omega) (by intro u hu; simp at hu; subst hu; rfl) rfl (by have := HQL.out; omega) (by omega) ?_)
            refine Lib.hid ?_
            intro v4 w4 hown4 hbel4 hgrow4
            have HB4 := Lib.hid hbel4
            have HO4 := Lib.hid (own_rune1 (c := 92) rfl rfl rfl hown4)
            have HI4 := Lib.hid (iter_grownE HOU2.out hgrow4 HIT2.out)
            clear hown4 hbel4 hgrow4
            have HSZ4 := Lib.hid (show w1.heap.size ≤ w4.heap.size from HB4.out.size)
            go_wp2_with (at_builtin; refine appE rfl _ _ 66 rfl 21 i1 (.int .i32 0) 1 4 Tryd.underlying66 hj hy0 hy1 hy2 rfl (by omega) w1.heap.size _ _ _ rfl (.inr HO4.out) w1.heap.size (by omega) HB4.out HSZ4.out [.int .i32 (c : Int)] 1 rfl (by omega) (by intro u hu; simp at hu; subst hu; rfl) rfl (by have := HQL.out; rw [List.length_append]; simp only [List.length_singleton]; omega) (by omega) ?_)
            refine Lib.hid ?_
            intro v5 w5 hown5 hbel5 hgrow5
            have HB5 := Lib.hid hbel5
            have HO5 := Lib.hid (own_rune1 (l := qrow rs k ++ [92]) (c := c) rfl (by simp) rfl hown5)
            have HI5 := Lib.hid (iter_grownE (.inr HO4.out) hgrow5 HI4.out)
            clear hown5 hbel5 hgrow5
            go_wp2_with fail
            go_roundw
            case rel =>
              refine ⟨k + 1, by omega, by rw [HOF1.out]; exact HI5.out, HB5.out, ?_, HCS.out⟩
              have := HO5.out
              rw [HQS.out, HQ1.out]
              rw [List.append_assoc] at this
              exact .inr this
            case measure => rw [HPO.out]; have := HI5.out; simp only [World.iterPos, this]; exact HME.out
        · have HQ1 := Lib.hid (show quo1 c = [c] by unfold quo1; rw [if_neg hq])
          have e34 : ((c : Int) == 34) = false := by simp; omega
          have e92 : ((c : Int) == 92) = false := by simp; omega
          clear hq
          go_wp2_with fail
          refine (plain_of c false _ HBQ.out).mono ?_
          rintro e w3 ⟨rfl, rfl⟩
          go_wp2_with (at_builtin; refine appE rfl _ _ 66 rfl 21 i1 (.int .i32 0) 1 4 Tryd.underlying66 hj hy0 hy1 hy2 rfl (by omega) w1.heap.size _ _ _ rfl HOU2.out w1.heap.size (by omega) HBE2.out HSZ2.out [.int .i32 (c : Int)] 1 rfl (by omega) (by intro u hu; simp at hu; subst hu; rfl) rfl (by have := HQL.out; omega) (by omega) ?_)
          refine Lib.hid ?_
          intro v5 w5 hown5 hbel5 hgrow5
          have HB5 := Lib.hid hbel5
          have HO5 := Lib.hid (own_rune1 (c := c) rfl rfl rfl hown5)
          have HI5 := Lib.hid (iter_grownE HOU2.out hgrow5 HIT2.out)
          clear hown5 hbel5 hgrow5
          go_wp2_with fail
          go_roundw
          case rel =>
            refine ⟨k + 1, by omega, by rw [HOF1.out]; exact HI5.out, HB5.out, ?_, HCS.out⟩
            have := HO5.out
            rw [HQS.out, HQ1.out]
            exact .inr this
          case measure => rw [HPO.out]; have := HI5.out; simp only [World.iterPos, this]; exact HME.out
    · obtain rfl : k = rs.length := by omega
      have hnx := HE.out wr (w1.heap.size + 1) HIT.out
      have HQD := Lib.hid (quote_done HC.out)
      have HSZ2 := Lib.hid (show w1.heap.size ≤ wr.heap.size by have := HIL.out; omega)
      go_wp2_with (at_builtin; refine appE rfl _ _ 66 rfl 21 i1 (.int .i32 0) 1 4 Tryd.underlying66 hj hy0 hy1 hy2 rfl (by omega) w1.heap.size _ _ _ rfl HOU.out w1.heap.size (by omega) HBE.out HSZ2.out [.int .i32 34] 1 rfl (by omega) (by intro u hu; simp at hu; subst hu; rfl) rfl (by have := HQL.out; omega) (by omega) ?_)
      refine Lib.hid ?_
      intro v5 w5 hown5 hbel5 hgrow5
      have HB5 := Lib.hid hbel5
      have hown6 := own_rune1 (c := 34) rfl rfl rfl hown5
      have hcv := conv_runes (P := Tryd.prog) (src := 66) (dst := 9) hown6 Tryd.underlying66 Tryd.underlying21 Tryd.underlying9
      clear hown5 hbel5 hgrow5 hown6
      go_wp2_with fail
      go_ret2
      exact ⟨HB1.out.trans (HB5.out.mono HB1.out.size), .inl ⟨_, HQD.out, rfl⟩⟩
theorem quote_ok {rs q : List Nat} (h : quoteL rs = some q) (ho : allOk rs) : allOk q ∧ q.length ≤ 2 * rs.length + 2 := by
  unfold quoteL at h
  split at h
  · cases h
  · obtain rfl := Option.some.inj h
    have e34 : okR 34 = true := by decide +kernel
    have e92 : okR 92 = true := by decide +kernel
    refine ⟨?_, ?_⟩
    · intro c hc
      simp only [List.mem_cons, List.mem_append, List.mem_flatMap, List.not_mem_nil, or_false] at hc
      rcases hc with rfl | ⟨x, hx, hc⟩ | rfl
      · exact e34
      · unfold quo1 at hc
        split at hc
        · simp at hc
          rcases hc with rfl | rfl
          · exact e92
          · exact ho _ hx
        · simp at hc
          subst hc
          exact ho _ hx
      · exact e34
    · have := flat_quo1_len rs
      simp only [List.length_cons, List.length_append, List.length_nil]
      omega
end Go.Proofs.YtjhmehmmpfnnkaaDoor
