/-
  The walk of the law LinesSplit.
-/
import Derived.Test.YtjhmehmmpfnnkaaDoorLAlive
import Derived.Test.YtjhmehmmpfnnkaaDoorFSameTexts
namespace Go.Proofs.YtjhmehmmpfnnkaaDoor
open Go.RowKit Utf
set_option maxRecDepth 100000
set_option linter.unusedSimpArgs false
set_option linter.unusedVariables false

theorem split_step {line : List Nat} {want : List (List Nat)} {q : List Nat} {n : Nat} (h : wsRun ws0 (line ++ [32]) = some ⟨want, [], .gap⟩) (hq : IsWord q) (hn : 1 ≤ n) :
    wsRun ws0 ((line ++ List.replicate n 32 ++ q) ++ [32]) = some ⟨want ++ [q], [], .gap⟩ := by
  obtain ⟨m, rfl⟩ : ∃ m, n = m + 1 := ⟨n - 1, by omega⟩
  have e : line ++ List.replicate (m + 1) 32 ++ q ++ [32] = (line ++ [32]) ++ (List.replicate m 32 ++ (q ++ [32])) := by
    rw [List.replicate_succ]; simp
  rw [e, wsRun_append, h]
  show wsRun _ _ = _
  rw [wsRun_append, run_blanks]
  show wsRun _ _ = _
  exact run_word_blank hq want
theorem split_end {line : List Nat} {want : List (List Nat)} (h : wsRun ws0 (line ++ [32]) = some ⟨want, [], .gap⟩) : wordsL (line ++ [32]) = some want := by
  unfold wordsL
  rw [h]
  rfl
theorem quote_ok {rs q : List Nat} (h : quoteL rs = some q) (ho : allOk rs) : allOk q ∧ q.length ≤ 2 * rs.length + 2 := by
  unfold quoteL at h
  split at h
  · cases h
  · obtain rfl := Option.some.inj h
    have e34 : okR 34 = true := by decide +kernel
    have e92 : okR 92 = true := by decide +kernel
    refine ⟨?_, ?_⟩
    · intro c hc
      simp only [List.mem_cons, List.mem_append, List.mem_flatMap, List.not_mem_nil, or_false] at hc
      rcases hc with rfl | ⟨x, hx, hc⟩ | rfl
      · exact e34
      · unfold quo1 at hc
        split at hc
        · simp at hc
          rcases hc with rfl | rfl
          · exact e92
          · exact ho _ hx
        · simp at hc
          subst hc
          exact ho _ hx
      · exact e34
    · have := flat_quo1_len rs
      simp only [List.length_cons, List.length_append, List.length_nil]
      omega
theorem enc_blanks (n : Nat) : encAll (List.replicate n 32) = List.replicate n 32 := by
  induction n with
  | zero => rfl
  | succ n ih =>
    rw [List.replicate_succ, encAll_cons, ih]
    have e : enc 32 = [32] := by decide +kernel
    rw [e]
    rfl
theorem encAll_le4 (rs : List Nat) : (encAll rs).length ≤ 4 * rs.length := by
  induction rs with
  | nil => simp [encAll_nil]
  | cons c l ih => rw [encAll_cons, List.length_append]; have := enc_length c; simp only [List.length_cons]; omega
theorem allOk_blanks (n : Nat) : allOk (List.replicate n 32) := by
  intro c hc
  obtain rfl := List.eq_of_mem_replicate hc
  decide +kernel

/-- What the texts that have been quoted so far are. -/
def Quoted (list : List ByteArray) (want : List (List Nat)) : Prop := ∀ j, (hj : j < want.length) → ∃ (h2 : j < list.length), ∃ rs, allOk rs ∧ list[j].data.toList = encAll rs ∧ list[j].size ≤ 100 ∧ quoteL rs = some want[j]
theorem Quoted.snoc {list : List ByteArray} {want : List (List Nat)} {q rs : List Nat} (h : Quoted list want) (hk : want.length < list.length) (ho : allOk rs) (hd : list[want.length].data.toList = encAll rs) (hs : list[want.length].size ≤ 100) (hq : quoteL rs = some q) : Quoted list (want ++ [q]) := by
  intro j hj
  rw [List.length_append] at hj
  simp only [List.length_singleton] at hj
  by_cases h1 : j < want.length
  · obtain ⟨h2, rs', a, b, c, d⟩ := h j h1
    exact ⟨h2, rs', a, b, c, by rw [List.getElem_append_left h1]; exact d⟩
  · obtain rfl : j = want.length := by omega
    exact ⟨hk, rs, ho, hd, hs, by rw [List.getElem_append_right (by omega)]; simpa using hq⟩

theorem empty_isE : ByteArray.empty.toList = [] := by rw [Lib.toList_data]; rfl

theorem blank_more {lb : ByteArray} {line : List Nat} {j : Nat} (h : lb.data.toList = encAll (line ++ List.replicate j 32)) : Hid ((lb ++ (⟨#[32]⟩ : ByteArray)).data.toList = encAll (line ++ List.replicate (j + 1) 32)) := by
  have e : line ++ List.replicate (j + 1) 32 = (line ++ List.replicate j 32) ++ [32] := by rw [List.replicate_succ', List.append_assoc]
  have e2 : encAll [32] = [32] := by decide +kernel
  rw [e, encAll_append, ← h, e2]
  show (lb ++ (⟨#[32]⟩ : ByteArray)).data.toList = lb.data.toList ++ [32]
  simp [ByteArray.data_append]
theorem text_more {lb : ByteArray} {line : List Nat} (h : lb.data.toList = encAll line) (q : List Nat) : Hid ((lb ++ mkS (encAll q)).data.toList = encAll (line ++ q)) := by
  rw [encAll_append, ← h]
  show (lb ++ mkS (encAll q)).data.toList = lb.data.toList ++ encAll q
  simp [ByteArray.data_append, mkS]
theorem blanks_num (bn : Int) : ∃ n : Nat, wrap64 (1 + wrap64 ((IntKind.u64.wrap bn).tmod 4)) = (n : Int) ∧ 1 ≤ n ∧ n ≤ 4 := by
  have h0 : 0 ≤ IntKind.u64.wrap bn := by simp [IntKind.wrap, IntKind.signed, IntKind.bits]; omega
  generalize IntKind.u64.wrap bn = x at *
  have h1 : x.tmod 4 = x % 4 := Int.tmod_eq_emod_of_nonneg h0
  rw [h1]
  have h2 : 0 ≤ x % 4 ∧ x % 4 < 4 := by omega
  have h3 : wrap64 (x % 4) = x % 4 := by unfold wrap64; omega
  have h4 : wrap64 (1 + x % 4) = 1 + x % 4 := by unfold wrap64; omega
  rw [h3, h4]
  exact ⟨(1 + x % 4).toNat, by omega, by omega, by omega⟩

set_option maxHeartbeats 8000000 in
theorem split_walk (ea : Nat → Addr) (list : List ByteArray) (blanks : List Int) (a0 a1 : Option Addr) (c0 c1 : Nat) (w : World) (h0 : RowAt w a0 (strRow list)) (h1 : RowAt w a1 (intRow blanks))
    (hl0 : list.length ≤ maxLen) (hl1 : blanks.length ≤ maxLen) (hsz : ∀ s ∈ list, s.size ≤ maxLen) (hbl : ∀ n ∈ blanks, -9223372036854775808 ≤ n ∧ n ≤ 9223372036854775807) (he : LErr w ea) :
    Calls Tryd.prog 3 #[.slice a0 list.length c0, .slice a1 blanks.length c1] w fun e w' => e = .returned (.bool true) ∧ Below w.heap.size w w' := by
  obtain ⟨i1, hj, hy0, hy1, hy2⟩ := info_parts Tryd.infoString
  have HA := Lib.hid (alive_any ea w he)
  have HE := Lib.hid he
  have HR0 := Lib.hid h0
  have HR1 := Lib.hid h1
  have HSZ := Lib.hid hsz
  have HBL := Lib.hid hbl
  clear h0 h1 hsz hbl he
  unfold maxLen at hl0 hl1
  by_cases hn0 : (20 : Int) < (list.length : Int)
  · have hd0 : decide ((20 : Int) < (list.length : Int)) = true := decide_eq_true hn0
    go_enter Tryd.func3, Tryd.ntmps3
    go_wp2_with fail
    refine HA.out.mono ?_
    rintro e w1 ⟨rfl, hb1⟩
    go_wp2_with fail
    go_ret
    exact ⟨rfl, hb1⟩
  · have hd0 : decide ((20 : Int) < (list.length : Int)) = false := decide_eq_false hn0
    by_cases hn1 : (30 : Int) < (blanks.length : Int)
    · have hd1 : decide ((30 : Int) < (blanks.length : Int)) = true := decide_eq_true hn1
      go_enter Tryd.func3, Tryd.ntmps3
      go_wp2_with fail
      refine HA.out.mono ?_
      rintro e w1 ⟨rfl, hb1⟩
      go_wp2_with fail
      go_ret
      exact ⟨rfl, hb1⟩
    · have hd1 : decide ((30 : Int) < (blanks.length : Int)) = false := decide_eq_false hn1
      go_enter Tryd.func3, Tryd.ntmps3
      go_wp2_with fail
      refine HA.out.mono ?_
      rintro e w1 ⟨rfl, hb1⟩
      have HB1 := Lib.hid hb1
      clear hb1
      go_wp2_with fail
      go_loopw [5, 6, 31] (fun vl vw vi wr => ∃ (lb : ByteArray) (line : List Nat) (want : List (List Nat)), vl = .string lb ∧ vi = .int .i64 want.length ∧ want.length ≤ list.length ∧ Below w.heap.size w wr ∧ w1.heap.size ≤ wr.heap.size ∧ OwnE wr w1.heap.size 9 1 vw want.length (strRow (fieldTexts want)) ∧ Hid (lb.data.toList = encAll line) ∧ Hid (allOk line ∧ line.length ≤ want.length * 300 ∧ wsRun ws0 (line ++ [32]) = some ⟨want, [], .gap⟩ ∧ Quoted list want)) (fun _ _ i _ => list.length - (intOf i).toNat)
      case atStart =>
        refine ⟨ByteArray.empty, [], [], rfl, rfl, Nat.zero_le _, ?_, ?_, ?_, rfl, allOk_nil, Nat.zero_le _, rfl, fun j hj => absurd hj (Nat.not_lt_zero j)⟩
        · exact HB1.out.alloc HB1.out.size _
        · simp
        · exact .new
      case round =>
        obtain ⟨lb, line, want, rfl, rfl, hwl, hbel, hws, hown, HLB, HI⟩ := hrel
        have HBE := Lib.hid hbel
        have HOU := Lib.hid hown
        have HWS := Lib.hid hws
        clear hbel hown hws
        by_cases hlt : want.length < list.length
        · obtain ⟨b, o, rfl, hc⟩ := HR0.out want.length (by rw [strRow_len]; exact hlt)
          rw [strRow_at] at hc
          have hcr := (HBE.out.cell (World.block_lt_of_cell? w _ hc)).trans hc
          have HS := Lib.hid (HSZ.out _ (List.getElem_mem hlt))
          have HC0 := Lib.hid hc
          clear hc
          generalize hsx : list[want.length] = s at *
          have HSX := Lib.hid hsx
          clear hsx
          have hsz := HS.out
          unfold maxLen at hsz
          by_cases hs1 : (100 : Int) < (s.size : Int)
          · have hs2 : decide ((100 : Int) < (s.size : Int)) = true := decide_eq_true hs1
            go_wp2_with fail
            go_ret
            exact ⟨rfl, HBE.out⟩
          · have hs2 : decide ((100 : Int) < (s.size : Int)) = false := decide_eq_false hs1
            have hsl : s.size ≤ 100 := by omega
            have HEW := Lib.hid (HE.out.below HBE.out)
            cases hd : dec s.data.toList with
            | none =>
              have HQ := Lib.hid (quote_none ea s wr (HS.out) hd HEW.out)
              clear hd
              go_wp2_with fail
              refine HQ.out.mono ?_
              rintro e w2 ⟨rfl, hb2⟩
              have hq0 := empty_isE
              go_wp2_with fail
              go_ret
              exact ⟨by simp, HBE.out.trans (hb2.mono HBE.out.size)⟩
            | some rs =>
              obtain ⟨ho, h⟩ := dec_some hd
              have HQ := Lib.hid (quote_some ea s rs wr (by omega) ho h HEW.out)
              have HOK := Lib.hid ho
              have HDS := Lib.hid h
              clear hd ho h
              go_wp2_with fail
              refine HQ.out.mono ?_
              rintro e w2 ⟨hb2, hres⟩
              have HB2 := Lib.hid (HBE.out.trans (hb2.mono HBE.out.size))
              have HOU2 := Lib.hid (HOU.out.below hb2)
              have HBL2 := Lib.hid hb2
              have HWS2 := Lib.hid (Nat.le_trans HWS.out hb2.size)
              have HD2 := Lib.hid HB1.out.size
              clear hb2
              rcases hres with ⟨q, hq, rfl⟩ | ⟨hq, rfl⟩
              rotate_left
              · clear hq
                have hq0 := empty_isE
                go_wp2_with fail
                go_ret
                exact ⟨by simp, HB2.out⟩
              · have HQQ := Lib.hid hq
                clear hq
                go_wp2_with (at_builtin; refine appE rfl _ _ 22 rfl 9 i1 (.string ByteArray.empty) 1 16 Tryd.underlying22 hj hy0 hy1 hy2 rfl (by omega) w1.heap.size _ _ _ rfl HOU2.out w.heap.size HD2.out HB2.out HWS2.out [.string (mkS (encAll q))] 1 rfl (by omega) (by intro u hu; simp at hu; subst hu; rfl) rfl (by omega) (by omega) ?_)
                refine Lib.hid ?_
                intro v3 w3 hown3 hbel3 hgrow3
                have HO3 := Lib.hid hown3
                have HB3 := Lib.hid hbel3
                have HZ3 := Lib.hid (show w1.heap.size ≤ w3.heap.size from Nat.le_trans HWS2.out (by have := hgrow3.size; simp at this; omega))
                clear hown3 hbel3 hgrow3
                by_cases hbi : want.length < blanks.length
                · have hbi2 : decide (want.length < blanks.length) = true := decide_eq_true hbi
                  obtain ⟨b1, o1, rfl, hc1⟩ := HR1.out want.length (by rw [intRow, List.length_map]; exact hbi)
                  have hc3 := (HB3.out.cell (World.block_lt_of_cell? w _ hc1)).trans hc1
                  clear hc1
                  rw [show (intRow blanks)[want.length]'(by rw [intRow, List.length_map]; exact hbi) = .int .i64 blanks[want.length] by simp [intRow]] at hc3
                  have hbn := HBL.out _ (List.getElem_mem hbi)
                  generalize blanks[want.length] = bn at *
                  have hnn := blanks_num bn
                  obtain ⟨n, hn, hn1, hn4⟩ := hnn
                  have HNN := Lib.hid hn
                  clear hn
                  go_wp2_with fail
                  rw [HNN.out]
                  go_loopw [5, 66] (fun vl vj wr2 => ∃ (j : Nat) (lb2 : ByteArray), vl = .string lb2 ∧ vj = .int .i64 j ∧ j ≤ n ∧ wr2 = w3 ∧ Hid (lb2.data.toList = encAll (line ++ List.replicate j 32))) (fun _ vj _ => n - (intOf vj).toNat)
                  case atStart => exact ⟨0, lb, rfl, rfl, by omega, rfl, Lib.hid (by simpa using HLB.out)⟩
                  case round =>
                    obtain ⟨j, lb2, rfl, rfl, hjn, rfl, HL2⟩ := hrel
                    have hls : lb2.size ≤ 1000000 := by
                      have h1 := encAll_le4 (line ++ List.replicate j 32)
                      have h2 := HI.out.2.1
                      rw [Lib.size_eq, HL2.out]
                      simp only [List.length_append, List.length_replicate] at h1
                      omega
                    have hqs : (mkS (encAll q)).size ≤ 1000000 := by
                      have h1 := encAll_le4 q
                      have h2 := (quote_ok HQQ.out HOK.out).2
                      have h3 := len_le HDS.out
                      rw [mkS_size]
                      omega
                    by_cases hj : j < n
                    · have hj2 : decide (j < n) = true := decide_eq_true hj
                      go_wp2_with fail
                      go_roundw
                      case rel => exact ⟨j + 1, _, rfl, by go_num, by omega, trivial, blank_more HL2.out⟩
                      case measure => simp [intOf]; omega
                    · obtain rfl : j = n := by omega
                      go_wp2_with fail
                      go_roundw
                      case rel =>
                        obtain ⟨hall, hlen, hrun, hq⟩ := HI.out
                        obtain ⟨hqo, hql⟩ := quote_ok HQQ.out HOK.out
                        have hrl := len_le HDS.out
                        refine ⟨_, line ++ List.replicate j 32 ++ q, want ++ [q], rfl, by simp, by simp; omega, HB3.out, HZ3.out, ?_, ?_, ?_, ?_, ?_, ?_⟩
                        · have := HO3.out
                          rw [strRow_snoc, fieldTexts_snoc] at this
                          rw [List.length_append]
                          exact .inr this
                        · exact text_more HL2.out q
                        · intro c hc
                          rw [List.mem_append, List.mem_append] at hc
                          rcases hc with (hc | hc) | hc
                          · exact hall c hc
                          · exact allOk_blanks _ c hc
                          · exact hqo c hc
                        · simp only [List.length_append, List.length_replicate, List.length_cons, List.length_nil]
                          omega
                        · exact split_step hrun (word_quote HQQ.out) (by omega)
                        · exact hq.snoc hlt HOK.out (by rw [HSX.out]; exact HDS.out) (by rw [HSX.out]; exact hsl) HQQ.out
                      case measure => simp [intOf]; omega
                · have hbi2 : decide (want.length < blanks.length) = false := decide_eq_false hbi
                  go_wp2_with fail
                  go_loopw [5, 66] (fun vl vj wr2 => ∃ (j : Nat) (lb2 : ByteArray), vl = .string lb2 ∧ vj = .int .i64 j ∧ j ≤ 1 ∧ wr2 = w3 ∧ Hid (lb2.data.toList = encAll (line ++ List.replicate j 32))) (fun _ vj _ => 1 - (intOf vj).toNat)
                  case atStart => exact ⟨0, lb, rfl, rfl, by omega, rfl, Lib.hid (by simpa using HLB.out)⟩
                  case round =>
                    obtain ⟨j, lb2, rfl, rfl, hjn, rfl, HL2⟩ := hrel
                    have hls : lb2.size ≤ 1000000 := by
                      have h1 := encAll_le4 (line ++ List.replicate j 32)
                      have h2 := HI.out.2.1
                      rw [Lib.size_eq, HL2.out]
                      simp only [List.length_append, List.length_replicate] at h1
                      omega
                    have hqs : (mkS (encAll q)).size ≤ 1000000 := by
                      have h1 := encAll_le4 q
                      have h2 := (quote_ok HQQ.out HOK.out).2
                      have h3 := len_le HDS.out
                      rw [mkS_size]
                      omega
                    rcases (show j = 0 ∨ j = 1 by omega) with rfl | rfl
                    · go_wp2_with fail
                      go_roundw
                      case rel => exact ⟨1, _, rfl, by go_num, by omega, trivial, blank_more HL2.out⟩
                      case measure => simp [intOf]
                    · skip
                      go_wp2_with fail
                      go_roundw
                      case rel =>
                        obtain ⟨hall, hlen, hrun, hq⟩ := HI.out
                        obtain ⟨hqo, hql⟩ := quote_ok HQQ.out HOK.out
                        have hrl := len_le HDS.out
                        refine ⟨_, line ++ List.replicate 1 32 ++ q, want ++ [q], rfl, by simp, by simp; omega, HB3.out, HZ3.out, ?_, ?_, ?_, ?_, ?_, ?_⟩
                        · have := HO3.out
                          rw [strRow_snoc, fieldTexts_snoc] at this
                          rw [List.length_append]
                          exact .inr this
                        · exact text_more HL2.out q
                        · intro c hc
                          rw [List.mem_append, List.mem_append] at hc
                          rcases hc with (hc | hc) | hc
                          · exact hall c hc
                          · exact allOk_blanks _ c hc
                          · exact hqo c hc
                        · simp only [List.length_append, List.length_replicate, List.length_cons, List.length_nil]
                          omega
                        · exact split_step hrun (word_quote HQQ.out) (by omega)
                        · exact hq.snoc hlt HOK.out (by rw [HSX.out]; exact HDS.out) (by rw [HSX.out]; exact hsl) HQQ.out
                      case measure => simp [intOf]; omega
        · have hwe : want.length = list.length := by omega
          obtain ⟨hall, hlen, hrun, hq⟩ := HI.out
          have hls : lb.size ≤ 1000000 := by
            have h1 := encAll_le4 line
            rw [Lib.size_eq, HLB.out]
            omega
          have hlx := text_more HLB.out [32]
          rw [show mkS (encAll [32]) = (⟨#[32]⟩ : ByteArray) by decide +kernel] at hlx
          have HW := Lib.hid (words_some ea (lb ++ ⟨#[32]⟩) (line ++ [32]) wr (by rw [ByteArray.size_append]; show lb.size + 1 ≤ _; have := encAll_le4 line; rw [Lib.size_eq, HLB.out]; omega) (by intro c hc; rcases List.mem_append.1 hc with hc | hc; exact hall c hc; (obtain rfl : c = 32 := by simpa using hc); decide +kernel) hlx.out (HE.out.below HBE.out))
          have HEND := Lib.hid (split_end hrun)
          have HQ := Lib.hid hq
          have HWL := Lib.hid hwe
          have hwl20 : want.length ≤ 20 := by omega
          clear hall hlen hrun hq hlx hwe
          go_wp2_with fail
          refine HW.out.mono ?_
          rintro e w2 ⟨hb2, hres⟩
          rcases hres with ⟨ws, vg, hws, rfl, hog⟩ | ⟨hno, -⟩
          rotate_left
          · exact absurd (HEND.out.symm.trans hno) (by simp)
          obtain rfl : want = ws := Option.some.inj (HEND.out.symm.trans hws)
          clear hws
          obtain ⟨ag, cg, rfl, hrg, -⟩ := hog.row
          obtain ⟨aw, cw, rfl, hrw, -⟩ := (HOU.out.below hb2).row
          have HSM := Lib.hid (fun ca cb => sameTexts_any (fieldTexts want) (fieldTexts want) ag aw ca cb w2 (by rw [fieldTexts_len]; omega) (by rw [fieldTexts_len]; omega) hrg hrw)
          rw [fieldTexts_len, decide_eq_true rfl] at HSM
          have HB2 := Lib.hid (HBE.out.trans (hb2.mono HBE.out.size))
          have HRG := Lib.hid hrg
          clear hb2 hog hrg hrw
          go_wp2_with fail
          refine (HSM.out _ _).mono ?_
          rintro e w3 ⟨rfl, hb3⟩
          have HB3 := Lib.hid (HB2.out.trans (hb3.mono HB2.out.size))
          have HRG3 := Lib.hid (HRG.out.below hb3)
          clear hb3
          go_wp2_with fail
          go_loopw [91] (fun vi wr2 => ∃ k : Nat, vi = .int .i64 k ∧ k ≤ want.length ∧ Below w3.heap.size w3 wr2) (fun vi _ => want.length - (intOf vi).toNat)
          case atStart => exact ⟨0, rfl, Nat.zero_le _, Below.refl _ _⟩
          case round =>
            obtain ⟨k, rfl, hkl, hbk⟩ := hrel
            have HBK := Lib.hid hbk
            have HBW := Lib.hid (HB3.out.trans (hbk.mono HB3.out.size))
            clear hbk
            by_cases hk : k < want.length
            · have hkd : decide (k < want.length) = true := decide_eq_true hk
              obtain ⟨h2, rs, ho, hd, hsz, hq⟩ := HQ.out k hk
              obtain ⟨bg, og, rfl, hcg⟩ := HRG3.out k (by rw [strRow_len, fieldTexts_len]; exact hk)
              rw [show (strRow (fieldTexts want))[k]'(by rw [strRow_len, fieldTexts_len]; exact hk) = .string (mkS (encAll want[k])) by simp [strRow, fieldTexts]] at hcg
              have hcg2 := (HBK.out.cell (World.block_lt_of_cell? w3 _ hcg)).trans hcg
              obtain ⟨b0, o0, rfl, hc0⟩ := HR0.out k (by rw [strRow_len]; exact h2)
              rw [strRow_at, show list[k] = mkS (encAll rs) from str_ext hd] at hc0
              obtain ⟨hqo, hql⟩ := quote_ok hq ho
              have hrl : rs.length ≤ 100 := by have := len_le hd; omega
              have HU := Lib.hid (unquote_some ea (mkS (encAll want[k])) want[k] wr (by rw [mkS_size]; have := encAll_le4 want[k]; omega) hqo rfl (HE.out.below HBW.out))
              have HUQ := Lib.hid (unquote_quote hq)
              have HC0 := Lib.hid hc0
              clear ho hd hsz hq hcg hc0 hqo hql hrl
              generalize want[k] = q at *
              go_wp2_with fail
              refine HU.out.mono ?_
              rintro e w4 ⟨hb4, hres⟩
              rcases hres with ⟨x, hx, rfl⟩ | ⟨hno, -⟩
              rotate_left
              · exact absurd (HUQ.out.symm.trans hno) (by simp)
              obtain rfl : rs = x := Option.some.inj (HUQ.out.symm.trans hx)
              clear hx
              have HB4 := Lib.hid (HBK.out.trans (hb4.mono HBK.out.size))
              have hc4 := ((HBW.out.trans (hb4.mono HBW.out.size)).cell (World.block_lt_of_cell? w _ HC0.out)).trans HC0.out
              clear hb4 hcg2
              generalize mkS (encAll rs) = x at *
              go_wp2_with fail
              go_roundw
              case rel => exact ⟨k + 1, by go_num, by omega, HB4.out⟩
              case measure => simp [intOf]; omega
            · obtain rfl : k = want.length := by omega
              go_wp2_with fail
              go_ret
              exact ⟨rfl, HBW.out⟩
end Go.Proofs.YtjhmehmmpfnnkaaDoor
