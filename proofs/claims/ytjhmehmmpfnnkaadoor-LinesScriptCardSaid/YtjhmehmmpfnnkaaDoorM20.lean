/-
  Parse of any text: the program's and the reference's contracts by the same answer.
  The contract of slices.Reverse at bytes, of a row of the caller's own.
  The contract of lines.decimal.
  The contract of tidewaterref31.Decimal.
-/
import Derived.Test.YtjhmehmmpfnnkaaDoorM10
import Derived.Test.YtjhmehmmpfnnkaaDoorM18
import Derived.Test.YtjhmehmmpfnnkaaDoorM19
import Derived.Test.YtjhmehmmpfnnkaaDoorM04
namespace Go.Proofs.YtjhmehmmpfnnkaaDoor
open Go.RowKit Utf
set_option maxRecDepth 100000
set_option linter.unusedSimpArgs false
set_option linter.unusedVariables false

set_option maxHeartbeats 4000000 in
theorem parse_rune (ea : Nat → Addr) (s : ByteArray) (w : World) (hs : s.size ≤ 1000000) (hd : dec s.data.toList = none) (he : LErr w ea) :
    Calls Tryd.prog 17 #[.string s] w fun e w' => e = .returned (.tuple #[.agg wZero, errOf ea 6]) ∧ Below w.heap.size w w' := by
  have HW := Lib.hid (fun W he => words_none ea s W (by unfold maxLen; omega) hd he)
  have hz := Blk.new w 48 wZero
  have HZ := Lib.hid hz
  have HE := Lib.hid (he.only (S := fun _ => False) ((Only.refl _ w).alloc (.cells wZero 48)) (fun _ h => h.elim))
  clear he hz
  go_enter Tryd.func17, Tryd.ntmps17
  go_wp2_with fail
  refine (HW.out _ HE.out).mono ?_
  rintro e w1 ⟨rfl, hb1⟩
  have HZ2 := Lib.hid ((HZ.out.below hb1 HZ.out.lt).alloc (.cells #[.slice none 0 0] 22))
  have HO1 := Lib.hid (show Only (fun _ => False) w (w1.alloc (.cells #[.slice none 0 0] 22)) from (((Only.refl _ w).alloc _).trans (Only.below_all hb1)).alloc _)
  clear hb1
  go_wp2_with (refine wpList_store_blk rfl 48 (.tmp 2) (.tmp 20) rfl w.heap.size wZero rfl rfl 48 wZero HZ2.out rfl Tryd.sizeW wZero_one ?_)
  refine Lib.hid ?_
  intro w2 hz2 ho2
  have HZ3 := Lib.hid hz2
  have HO3 := Lib.hid ho2
  clear hz2 ho2
  go_wp2_with fail
  refine bodyPost_ret (results_cell_tmp rfl _ _ w.heap.size 48 wZero (0, 0) _ rfl HZ3.out Tryd.underlying48 rfl Tryd.sizeW) rfl ?_
  exact ⟨rfl, (HO1.out.step HO3.out (fun k hk => .inr (Nat.le_of_eq hk.symm))).to_below (Nat.le_refl _) (fun _ _ h => h)⟩


set_option maxHeartbeats 4000000 in
/-- No words. -/
theorem refParse_empty (s : ByteArray) (w : World) (hm : (wordsR s) = ([], 0)) (hs : s.size ≤ 1000000) :
    Calls Tryd.prog 18 #[.string s] w fun e w' => e = .returned (.tuple #[.agg rZero, .int .i64 16]) ∧ Below w.heap.size w w' := by
  have HW := Lib.hid (fun W => refWords_all s W hs)
  rw [hm] at HW
  have hz := Blk.new w 52 rZero
  have HZ := Lib.hid hz
  clear hz hm
  go_enter Tryd.func18, Tryd.ntmps18
  go_wp2_with fail
  refine (HW.out _).mono ?_
  rintro e w1 ⟨v, rfl, hown1, hb1⟩
  obtain ⟨av, cv, rfl, -⟩ := hown1.row
  clear hown1
  simp only [List.length_nil]
  have HZ2 := Lib.hid (HZ.out.below hb1 HZ.out.lt)
  have HO1 := Lib.hid (show Only (fun _ => False) w w1 from ((Only.refl _ w).alloc _).trans (Only.below_all hb1))
  clear hb1
  go_wp2_with (refine wpList_store_blk rfl 52 (.tmp 2) (.tmp 26) rfl w.heap.size rZero rfl rfl 52 rZero HZ2.out rfl Tryd.sizeR rZero_one ?_)
  refine Lib.hid ?_
  intro w2 hz2 ho2
  have HZ3 := Lib.hid hz2
  have HO3 := Lib.hid ho2
  clear hz2 ho2
  go_wp2_with fail
  refine bodyPost_ret (results_cell_tmp rfl _ _ w.heap.size 52 rZero (0, 0) _ rfl HZ3.out Tryd.underlying52 rfl Tryd.sizeR) rfl ?_
  exact ⟨rfl, (HO1.out.step HO3.out (fun k hk => .inr (Nat.le_of_eq hk.symm))).to_below (Nat.le_refl _) (fun _ _ h => h)⟩

theorem words_goodR {rs : List Nat} {ws : List (List Nat)} (ho : allOk rs) (hl : (encAll rs).length ≤ 100000) (h : wordsL rs = some ws) : GoodR ws ∧ ws.length ≤ 100001 := by
  unfold wordsL at h
  cases hr : wsRun ws0 rs with
  | none => rw [hr] at h; cases h
  | some s =>
    rw [hr] at h
    obtain ⟨h1, h2, h3⟩ := ws_good 100000 rs ws0 s (fun x hx => by cases hx) allOk_nil ho (by simp [ws0, encAll_nil]; exact hl) hr
    have h4 := wsRun_len _ _ _ hr
    have h5 := encAll_len rs
    have hfin : s.fin = some ws := h
    have hout : s.out.length ≤ rs.length := by simpa [ws0] using h4
    have hmem : ∀ l : List (List Nat), l = s.out ∨ l = s.out ++ [s.cur] → GoodR l := by
      intro l hl x hx
      rcases hl with rfl | rfl
      · exact h1 x hx
      · rcases List.mem_append.1 hx with hx | hx
        · exact h1 x hx
        · simp only [List.mem_singleton] at hx
          subst hx
          exact ⟨h2, h3⟩
    unfold WS.fin at hfin
    split at hfin
    · rename_i hm
      cases hfin
      exact ⟨hmem _ (.inl rfl), by omega⟩
    · rename_i hm
      cases hfin
      exact ⟨hmem _ (.inr rfl), by rw [List.length_append]; simp only [List.length_singleton]; omega⟩
    · rename_i hm
      cases hfin
      exact ⟨hmem _ (.inr rfl), by rw [List.length_append]; simp only [List.length_singleton]; omega⟩
    · cases hfin
    · cases hfin


/-- Parse of any text: the error's number, what the line tells. -/
def parseR (s : ByteArray) : Nat × Option PL := match dec s.data.toList with
  | none => (6, none)
  | some rs => match wordsL rs with
    | none => (4, none)
    | some ws => parseW ws
def ParseAll (ea : Nat → Addr) (q : Nat × Option PL) (w : World) (e : Ending) (w' : World) : Prop :=
  Below w.heap.size w w' ∧ ((∃ m, q = (m, none) ∧ e = .returned (.tuple #[.agg wZero, errOf ea m])) ∨
    (∃ l vo vg, q = (0, some l) ∧ e = .returned (.tuple #[.agg (wCells l.p vo vg), .nilIface]) ∧ w'.ownsRow w.heap.size 103 5 vo l.ops.length (l.ops.flatMap opCells) ∧ w'.ownsRow w.heap.size 3 1 vg l.gone.length (intRow l.gone)))
def RefParseAll (q : Nat × Option PL) (w : World) (e : Ending) (w' : World) : Prop :=
  Below w.heap.size w w' ∧ ((∃ m, q = (m, none) ∧ e = .returned (.tuple #[.agg rZero, .int .i64 (m : Nat)])) ∨
    (∃ l vo vg, q = (0, some l) ∧ e = .returned (.tuple #[.agg (rCells l.p vo vg), .int .i64 0]) ∧ w'.ownsRow w.heap.size 103 5 vo l.ops.length (l.ops.flatMap opCells) ∧ w'.ownsRow w.heap.size 3 1 vg l.gone.length (intRow l.gone)))
theorem parse_all (ea : Nat → Addr) (s : ByteArray) (w : World) (hs : s.size ≤ 1000000) (he : LErr w ea) : Calls Tryd.prog 17 #[.string s] w (ParseAll ea (parseR s) w) := by
  unfold parseR
  cases hd : dec s.data.toList with
  | none => exact (parse_rune ea s w hs hd he).mono fun e w' ⟨h1, h2⟩ => ⟨h2, .inl ⟨6, rfl, h1⟩⟩
  | some rs =>
    obtain ⟨ho, h⟩ := dec_some hd
    cases hw : wordsL rs with
    | none => simp only [hw]; exact (parse_bad ea s rs w hs ho h he hw).mono fun e w' ⟨h1, h2⟩ => ⟨h2, .inl ⟨4, rfl, h1⟩⟩
    | some ws =>
      simp only [hw]
      cases ws with
      | nil => exact (parse_empty ea s rs w hs ho h he hw).mono fun e w' ⟨h1, h2⟩ => ⟨h2, .inl ⟨16, rfl, h1⟩⟩
      | cons x r => exact parse_some ea s rs x r w hs ho h he hw
theorem refParse_all (s : ByteArray) (w : World) (hs : s.size ≤ 100000) : Calls Tryd.prog 18 #[.string s] w (RefParseAll (parseR s) w) := by
  have hwr : wordsR s = (match dec s.data.toList with | none => ([], 6) | some rs => match wordsL rs with | none => ([], 4) | some ws => (ws, 0)) := rfl
  unfold parseR
  cases hd : dec s.data.toList with
  | none =>
    rw [hd] at hwr
    exact (refParse_bad s w 6 hwr (by decide) (by decide) (by omega)).mono fun e w' ⟨h1, h2⟩ => ⟨h2, .inl ⟨6, rfl, h1⟩⟩
  | some rs =>
    obtain ⟨ho, h⟩ := dec_some hd
    rw [hd] at hwr
    cases hw : wordsL rs with
    | none =>
      simp only [hw] at hwr ⊢
      exact (refParse_bad s w 4 hwr (by decide) (by decide) (by omega)).mono fun e w' ⟨h1, h2⟩ => ⟨h2, .inl ⟨4, rfl, h1⟩⟩
    | some ws =>
      simp only [hw] at hwr ⊢
      cases ws with
      | nil => exact (refParse_empty s w hwr (by omega)).mono fun e w' ⟨h1, h2⟩ => ⟨h2, .inl ⟨16, rfl, h1⟩⟩
      | cons x r =>
        obtain ⟨hg, hl⟩ := words_goodR ho (by rw [← h, ← Lib.size_eq]; exact hs) hw
        exact refParse_some s x r w hs hwr hg (by simp at hl; omega)
end Go.Proofs.YtjhmehmmpfnnkaaDoor

namespace Go.Proofs.YtjhmehmmpfnnkaaDoor
open Go.RowKit Utf
set_option maxRecDepth 100000
set_option linter.unusedSimpArgs false
set_option linter.unusedVariables false

/-- How far the turning is. -/
def RevAt (bs ys : List UInt8) (k : Nat) : Prop := ys.length = bs.length ∧ ∀ p, p < bs.length → ys[p]? = if p < k ∨ bs.length ≤ p + k then bs[bs.length - 1 - p]? else bs[p]?
theorem RevAt.zero (bs : List UInt8) : RevAt bs bs 0 := ⟨rfl, fun p hp => by rw [if_neg (by omega)]⟩
theorem RevAt.step {bs ys : List UInt8} {k : Nat} (h : RevAt bs ys k) (hk : k < bs.length - 1 - k) (h1 : k < ys.length) (h2 : bs.length - 1 - k < ys.length) : RevAt bs ((ys.set k ys[bs.length - 1 - k]).set (bs.length - 1 - k) ys[k]) (k + 1) := by
  obtain ⟨hl, hp⟩ := h
  have e1 := hp k (by omega)
  have e2 := hp (bs.length - 1 - k) (by omega)
  rw [if_neg (by omega), List.getElem?_eq_getElem h1] at e1
  rw [if_neg (by omega), List.getElem?_eq_getElem h2] at e2
  refine ⟨by simp [hl], fun p hpl => ?_⟩
  rw [List.getElem?_set, List.getElem?_set]
  by_cases c1 : bs.length - 1 - k = p
  · subst c1
    rw [if_pos rfl, if_pos (by simp; omega), if_pos (by omega), e1]
    congr 1
    omega
  · rw [if_neg c1]
    by_cases c2 : k = p
    · subst c2
      rw [if_pos rfl, if_pos (by omega), if_pos (by omega), e2]
    · rw [if_neg c2, hp p hpl]
      by_cases c3 : p < k ∨ bs.length ≤ p + k
      · rw [if_pos c3, if_pos (by omega)]
      · rw [if_neg c3, if_neg (by omega)]
theorem RevAt.done {bs ys : List UInt8} {k : Nat} (h : RevAt bs ys k) (hk : ¬ k < bs.length - 1 - k) : ys = bs.reverse := by
  obtain ⟨hl, hp⟩ := h
  apply List.ext_getElem?
  intro p
  by_cases hpl : p < bs.length
  · rw [hp p hpl, List.getElem?_reverse hpl]
    by_cases c3 : p < k ∨ bs.length ≤ p + k
    · rw [if_pos c3]
    · rw [if_neg c3]
      congr 1
      omega
  · rw [List.getElem?_eq_none (by omega), List.getElem?_eq_none (by simp; omega)]
theorem byteRow_at (l : List UInt8) (k : Nat) (hk : k < l.length) : (byteRow l)[k]? = some (.int .u8 (l[k].toNat : Int)) := by
  simp [byteRow, hk]
theorem byteRow_set (l : List UInt8) (k : Nat) (x : UInt8) : (byteRow l).set k (.int .u8 (x.toNat : Int)) = byteRow (l.set k x) := by
  simp [byteRow, List.map_set]

set_option maxHeartbeats 2000000 in
theorem reverse_any (B g cap : Nat) (bs : List UInt8) (w : World) (h : w.ownsRow B 5 1 (.slice (some ⟨g, 0, none⟩) bs.length cap) bs.length (byteRow bs)) (h1 : 1 ≤ bs.length) (hl : bs.length ≤ 1000000) :
    Calls Tryd.prog 70 #[.slice (some ⟨g, 0, none⟩) bs.length cap] w fun e w' => e = .returned (.tuple #[]) ∧ Only (fun k => k = g) w w' ∧ w'.ownsRow B 5 1 (.slice (some ⟨g, 0, none⟩) bs.length cap) bs.length (byteRow bs.reverse) := by
  have H0 := Lib.hid h
  clear h
  go_enter Tryd.func70, Tryd.ntmps70
  go_wp2_with fail
  go_loopw [2, 3] (fun vi vj wr => ∃ (k : Nat) (ys : List UInt8), vi = .int .i64 k ∧ vj = .int .i64 ((bs.length : Int) - 1 - k) ∧ k ≤ bs.length ∧ Hid (RevAt bs ys k) ∧ Hid (Only (fun k => k = g) w wr) ∧ Hid (wr.ownsRow B 5 1 (.slice (some ⟨g, 0, none⟩) bs.length cap) bs.length (byteRow ys))) (fun vi _ _ => bs.length - (intOf vi).toNat)
  case atStart => exact ⟨0, bs, rfl, by go_num, Nat.zero_le _, RevAt.zero _, Only.refl _ _, H0.out⟩
  case round =>
    obtain ⟨k, ys, rfl, rfl, hk, HR, HO, HW⟩ := hrel
    by_cases hlt : k < bs.length - 1 - k
    · have hj : (bs.length : Int) - 1 - (k : Int) = ((bs.length - 1 - k : Nat) : Int) := by omega
      have hyl := HR.out.1
      have g1 : k < ys.length := by omega
      have g2 : bs.length - 1 - k < ys.length := by omega
      have HR2 := Lib.hid (HR.out.step hlt g1 g2)
      have ck := HW.out.cellAt k (by omega)
      have cj := HW.out.cellAt (bs.length - 1 - k) (by omega)
      rw [byteRow_at _ _ g1] at ck
      rw [byteRow_at _ _ g2] at cj
      have fk := HW.out.frozenAt k
      have fj := HW.out.frozenAt (bs.length - 1 - k)
      have HS1 := Lib.hid (HW.out.stored k (.int .u8 (ys[bs.length - 1 - k].toNat : Int))).1
      rw [byteRow_set] at HS1
      have HS2 := Lib.hid (HS1.out.stored (bs.length - 1 - k) (.int .u8 (ys[k].toNat : Int))).1
      rw [byteRow_set] at HS2
      generalize ys[bs.length - 1 - k] = yj at *
      generalize ys[k] = yk at *
      rw [hj]
      have HJ := Lib.hid hj
      generalize hm : bs.length - 1 - k = m at *
      have HM := Lib.hid hm
      have hkn : (k : Int) < (bs.length : Int) := by omega
      have hmn : m < bs.length := by omega
      clear hj hm hyl
      have hlt2 : (k : Int) < (m : Int) := by omega
      have hmn2 : (m : Int) < (bs.length : Int) := by omega
      have hne : k ≠ m := by omega
      have HO2 := Lib.hid ((HO.out.set (p := ⟨g, k, none⟩) (.inl rfl) (.int .u8 (yj.toNat : Int))).set (p := ⟨g, m, none⟩) (.inl rfl) (.int .u8 (yk.toNat : Int)))
      go_wp2_with fail
      go_region
      all_goals
        go_wp2_with fail
        go_roundw
        case rel => exact ⟨k + 1, _, by go_num, by have := HM.out; go_num, by omega, HR2.out, Only.drewN HO2.out 1, HS2.out⟩
        case measure => simp [intOf]; omega
    · have hn2 : ¬ ((k : Int) < (bs.length : Int) - 1 - (k : Int)) := by omega
      have HD := Lib.hid (HR.out.done hlt)
      go_wp2_with fail
      go_end0
      refine ⟨rfl, HO.out, ?_⟩
      rw [← HD.out]
      exact HW.out
end Go.Proofs.YtjhmehmmpfnnkaaDoor

namespace Go.Proofs.YtjhmehmmpfnnkaaDoor
open Go.RowKit Utf
set_option maxRecDepth 100000
set_option linter.unusedSimpArgs false
set_option linter.unusedVariables false

/-- What decimal answers. -/
def DecPost (ea : Nat → Addr) (b : Nat) (n : Int) (w : World) (e : Ending) (w' : World) : Prop :=
  Below w.heap.size w w' ∧ ∃ t m, e = .returned (.tuple #[.string t, errOf ea m]) ∧ t.size ≤ b ∧ ((∃ d, decL n = some d ∧ t = mkS (encAll d) ∧ m = 0) ∨ (decL n = none ∧ m = 4))

/-- How far the digits are: those told, last first. -/
def DigAt (n : Nat) (out : List Nat) (m : Nat) : Prop := m * 10 ^ out.length ≤ n ∧ (∀ c ∈ out, c < 128) ∧ ((out = [] ∧ m = n) ∨ (out ≠ [] ∧ ((m = 0 ∧ digs n = out.reverse) ∨ (0 < m ∧ digs n = digs m ++ out.reverse))))
theorem DigAt.start (n : Nat) : DigAt n [] n := ⟨by simp, by simp, .inl ⟨rfl, rfl⟩⟩
theorem DigAt.len {n : Nat} {out : List Nat} {m : Nat} (h : DigAt n out m) (hn : n < 10 ^ 19) (hm : 0 < m ∨ out = []) : out.length ≤ 18 := by
  rcases hm with hm | rfl
  · have h1 : 10 ^ out.length ≤ n := Nat.le_trans (Nat.le_mul_of_pos_left _ hm) h.1
    rcases Nat.lt_or_ge out.length 19 with h2 | h2
    · omega
    · have := Nat.pow_le_pow_right (n := 10) (by omega) h2
      omega
  · simp
theorem digs_lt {m : Nat} (h : m < 10) : digs m = [48 + m] := by
  unfold digs
  rw [dif_pos h]
theorem digs_ge {m : Nat} (h : ¬ m < 10) : digs m = digs (m / 10) ++ [48 + m % 10] := by
  conv => lhs; unfold digs
  rw [dif_neg h]
theorem DigAt.step {n : Nat} {out : List Nat} {m : Nat} (h : DigAt n out m) (hm : 0 < m ∨ out = []) : DigAt n (out ++ [48 + m % 10]) (m / 10) := by
  obtain ⟨h1, h2, h3⟩ := h
  refine ⟨?_, ?_, .inr ⟨by simp, ?_⟩⟩
  · rw [List.length_append, List.length_singleton, Nat.pow_succ, Nat.mul_comm (10 ^ _) 10, ← Nat.mul_assoc]
    exact Nat.le_trans (Nat.mul_le_mul_right _ (Nat.div_mul_le_self m 10)) h1
  · intro c hc
    rcases List.mem_append.1 hc with hc | hc
    · exact h2 c hc
    · simp at hc; omega
  · have hd : digs n = digs m ++ out.reverse := by
      rcases h3 with ⟨rfl, rfl⟩ | ⟨hne, h3⟩
      · simp
      · rcases h3 with ⟨rfl, _⟩ | ⟨_, h3⟩
        · rcases hm with hm | hm
          · omega
          · exact absurd hm hne
        · exact h3
    rw [List.reverse_append, List.reverse_singleton, hd]
    by_cases hlt : m < 10
    · refine .inl ⟨by omega, ?_⟩
      rw [digs_lt hlt, show m % 10 = m by omega]
    · refine .inr ⟨by omega, ?_⟩
      rw [digs_ge hlt, List.append_assoc]
theorem DigAt.done {n : Nat} {out : List Nat} (h : DigAt n out 0) (hne : out ≠ []) : digs n = out.reverse := by
  rcases h.2.2 with ⟨h, _⟩ | ⟨_, ⟨_, h⟩ | ⟨h, _⟩⟩
  · exact absurd h hne
  · exact h
  · omega
theorem digs_big {n : Nat} (h : 9 < (digs n).length) : 999999999 < n := by
  rcases Nat.lt_or_ge 999999999 n with h1 | h1
  · exact h1
  · have := digs_len n 8 (by omega)
    omega
theorem digs_small {n : Nat} (h : (digs n).length ≤ 9) : n ≤ 999999999 := by
  have h1 := valOf_lt9 (digs_all n) h
  rw [digs_val] at h1
  exact h1
def dbytes (l : List Nat) : List UInt8 := l.map UInt8.ofNat
theorem dbytes_enc : ∀ (l : List Nat), (∀ c ∈ l, c < 128) → encAll l = dbytes l
  | [], _ => rfl
  | c :: l, h => by
    rw [encAll_cons, enc_one (h c (by simp)), dbytes_enc l (fun x hx => h x (List.mem_cons_of_mem _ hx))]
    rfl
theorem byteRow_dsnoc (l : List Nat) (c : Nat) (hc : c < 128) : byteRow (dbytes l) ++ [.int .u8 (c : Int)] = byteRow (dbytes (l ++ [c])) := by
  simp [byteRow, dbytes, Nat.mod_eq_of_lt (show c < 256 by omega)]
theorem dbytes_rev (l : List Nat) : (dbytes l).reverse = dbytes l.reverse := by simp [dbytes]
theorem dbytes_len (l : List Nat) : (dbytes l).length = l.length := by simp [dbytes]

def decM (v0 v6 : Value) : Nat := 2 * (intOf v0).toNat + (match v6 with | .slice _ 0 _ => 1 | _ => 0)
theorem decM_succ (m : Nat) (ao : Option Addr) (n c : Nat) (h : n ≠ 0) : decM (.int .i64 (m : Int)) (.slice ao n c) = 2 * m := by
  obtain ⟨n, rfl⟩ : ∃ k, n = k + 1 := ⟨n - 1, by omega⟩
  simp [decM, intOf]
theorem decM_zero (m : Nat) (ao : Option Addr) (c : Nat) : decM (.int .i64 (m : Int)) (.slice ao 0 c) = 2 * m + 1 := by
  simp [decM, intOf]
theorem decM_le (m : Nat) (v : Value) : decM (.int .i64 (m : Int)) v ≤ 2 * m + 1 := by
  simp only [decM, intOf]
  split <;> omega

set_option maxHeartbeats 2000000 in
theorem decimal_nat (ea : Nat → Addr) (n : Nat) (w : World) (hn : n ≤ 9223372036854775807) (he : LErr w ea) :
    Calls Tryd.prog 63 #[.int .i64 (n : Int)] w (DecPost ea 29 (n : Int) w) := by
  obtain ⟨i0, hi, hz0, hz1, hz2⟩ := info_parts Tryd.infoByte
  have HE := Lib.hid he
  have hnn : ¬ (n : Int) < 0 := by omega
  clear he
  go_enter Tryd.func63, Tryd.ntmps63
  go_wp2_with fail
  go_loopw [0, 6] (fun v0 v6 wr => ∃ (out : List Nat) (m : Nat), v0 = .int .i64 m ∧ Hid (DigAt n out m) ∧ m ≤ n ∧ Hid (Below w.heap.size w wr) ∧ Hid (wr.ownsRow w.heap.size 5 1 v6 out.length (byteRow (dbytes out)))) (fun v0 v6 _ => decM v0 v6)
  case atStart => exact ⟨[], n, rfl, DigAt.start n, Nat.le_refl _, Below.refl _ _, World.ownsRow_nil _ _ _ _⟩
  case round =>
    obtain ⟨out, m, rfl, HD, hmn, HB, HW⟩ := hrel
    obtain ⟨ao, cap, rfl, -, -, -, -, -, -⟩ := own_row HW.out
    by_cases hc : 0 < m ∨ out = []
    · have hol : out.length ≤ 18 := HD.out.len (by omega) hc
      have hor : 0 < m ∨ (m = 0 ∧ out.length = 0) := by
        rcases hc with h | h
        · exact .inl h
        · rcases Nat.eq_zero_or_pos m with h0 | h0
          · exact .inr ⟨h0, by rw [h]; rfl⟩
          · exact .inl h0
      have HD2 := Lib.hid (HD.out.step hc)
      have HBS := Lib.hid HB.out.size
      clear hc
      rcases hor with hm | ⟨rfl, h0⟩
      · have hcr : (m : Int) % 10 = ((m % 10 : Nat) : Int) := by omega
        have hcr2 : (m : Int).tmod 10 = ((m % 10 : Nat) : Int) := by rw [Int.tmod_eq_emod_of_nonneg (by omega)]; omega
        have hcs : byteRow (dbytes out) ++ [.int .u8 ((48 + m % 10 : Nat) : Int)] = byteRow (dbytes (out ++ [48 + m % 10])) := byteRow_dsnoc out _ (by omega)
        have hr9 : m % 10 ≤ 9 := by omega
        have ht : (m : Int).tdiv 10 = ((m / 10 : Nat) : Int) := by rw [Int.tdiv_eq_ediv_of_nonneg (by omega)]; omega
        have hq1 : m / 10 < m := by omega
        generalize m % 10 = r at *
        generalize m / 10 = q at *
        have hr1 : (0 : Int) ≤ (r : Int) := by omega
        have hr2 : (r : Int) ≤ 9 := by omega
        have hq2 : (0 : Int) ≤ (q : Int) := by omega
        have hq3 : (q : Int) ≤ 9223372036854775807 := by omega
        rw [show ((48 + r : Nat) : Int) = 48 + (r : Int) by omega] at hcs
        have HCS := Lib.hid hcs
        clear hcs
        have hmp : (0 : Int) < (m : Int) := by omega
        go_wp2_with (at_builtin; refine app1 rfl _ _ 41 rfl 5 i0 (.int .u8 0) 1 Tryd.underlying41 hi hz0 hz1 hz2 rfl w.heap.size _ _ _ rfl HW.out w.heap.size (Nat.le_refl _) HB.out HBS.out _ rfl rfl (by omega) (by omega) ?_)
        refine Lib.hid ?_
        intro v' w' hown hbel hgrow
        rw [HCS.out] at hown
        have HW2 := Lib.hid (show w'.ownsRow w.heap.size 5 1 v' (out ++ [48 + r]).length (byteRow (dbytes (out ++ [48 + r]))) by rw [List.length_append]; exact hown)
        have HB2 := Lib.hid hbel
        have HSL := Lib.hid (own_row HW2.out)
        clear hown hbel hgrow
        go_wp2_with fail
        go_roundw
        case rel => exact ⟨out ++ [48 + r], q, by first | rfl | go_num, HD2.out, by omega, HB2.out, HW2.out⟩
        case measure =>
          obtain ⟨ao', cap', rfl, -⟩ := HSL.out
          first | rw [decM_succ q _ _ _ (by simp)] | (show decM (.int .i64 ((q : Nat) : Int)) _ < _; rw [decM_succ q _ _ _ (by simp)])
          rcases Nat.eq_zero_or_pos out.length with h1 | h1
          · rw [h1, decM_zero]; omega
          · rw [decM_succ _ _ _ _ (by omega)]; omega
      · have hol0 : ((out.length : Int) == 0) = true := by simp [h0]
        have HL0 := Lib.hid h0
        have HCS := Lib.hid (show byteRow (dbytes out) ++ [.int .u8 48] = byteRow (dbytes (out ++ [48 + 0 % 10])) from byteRow_dsnoc out 48 (by omega))
        go_wp2_with (at_builtin; refine app1 rfl _ _ 41 rfl 5 i0 (.int .u8 0) 1 Tryd.underlying41 hi hz0 hz1 hz2 rfl w.heap.size _ _ _ rfl HW.out w.heap.size (Nat.le_refl _) HB.out HBS.out _ rfl rfl (by omega) (by omega) ?_)
        refine Lib.hid ?_
        intro v' w' hown hbel hgrow
        rw [HCS.out] at hown
        have HW2 := Lib.hid (show w'.ownsRow w.heap.size 5 1 v' (out ++ [48 + 0 % 10]).length (byteRow (dbytes (out ++ [48 + 0 % 10]))) by rw [List.length_append, HL0.out]; exact hown)
        have HB2 := Lib.hid hbel
        have HSL := Lib.hid (own_row HW2.out)
        clear hown hbel hgrow
        go_wp2_with fail
        go_roundw
        case rel => exact ⟨out ++ [48 + 0 % 10], 0, by first | rfl | go_num, HD2.out, by omega, HB2.out, HW2.out⟩
        case measure =>
          obtain ⟨ao', cap', rfl, -⟩ := HSL.out
          refine Nat.lt_of_le_of_lt (Nat.le_of_eq (decM_succ 0 ao' _ cap' (by simp))) ?_
          show 0 < decM (.int .i64 0) (.slice ao out.length cap)
          rw [HL0.out]
          exact Nat.one_pos
    · obtain rfl : m = 0 := by omega
      have hne : out ≠ [] := fun h => hc (.inr h)
      have HDG := Lib.hid (HD.out.done hne)
      have hol : 1 ≤ out.length := by
        rcases Nat.eq_zero_or_pos out.length with h | h
        · exact absurd (List.length_eq_zero_iff.1 h) hne
        · exact h
      have hol0 : ((out.length : Int) == 0) = false := by simp; omega
      have HLT := Lib.hid (show ∀ c ∈ out, c < 128 from HD.out.2.1)
      have HLE := Lib.hid HE.out
      have HE2 := Lib.hid (HE.out.below HB.out)
      have HBS2 := Lib.hid HB.out.size
      clear hc hne
      by_cases h9 : 9 < out.length
      · have h9i : (9 : Int) < (out.length : Int) := by omega
        have ke := HE2.out.form
        have HDC := Lib.hid (show decL (n : Int) = none by
          unfold decL
          rw [if_pos]
          have := digs_big (n := n) (by rw [HDG.out]; simpa using h9)
          omega)
        go_wp2_with fail
        go_quiet (fail)
        go_wp2_with fail
        go_ret2
        exact ⟨below_drewN HB.out _, _, 4, rfl, by decide, .inr ⟨HDC.out, rfl⟩⟩
      · have h9i : ¬ (9 : Int) < (out.length : Int) := by omega
        have HDC := Lib.hid (show decL (n : Int) = some out.reverse by
          unfold decL
          have := digs_small (n := n) (by rw [HDG.out]; simp; omega)
          rw [if_neg (by omega), if_neg (by omega), show ((n : Int)).natAbs = n by omega, HDG.out]
          rfl)
        obtain ⟨g, rfl⟩ : ∃ g, ao = some ⟨g, 0, none⟩ := by
          rcases HW.out.2 with ⟨h, _⟩ | ⟨g, cap', cur, h, _⟩
          · simp only [Value.slice.injEq] at h; omega
          · simp only [Value.slice.injEq] at h; exact ⟨g, h.1⟩
        have HRV := Lib.hid (reverse_any w.heap.size g cap (dbytes out) wr (by rw [dbytes_len]; exact HW.out) (by rw [dbytes_len]; exact hol) (by rw [dbytes_len]; omega))
        rw [dbytes_len] at HRV
        have HGL := Lib.hid (HW.out.lt g rfl)
        go_wp2_with fail
        refine HRV.out.mono ?_
        rintro e w3 ⟨rfl, ho3, hw3⟩
        have hw4 : w3.ownsRow w.heap.size 5 1 (.slice (some ⟨g, 0, none⟩) out.length cap) (dbytes out.reverse).length (byteRow (dbytes out.reverse)) := by
          rw [dbytes_rev] at hw3
          rw [dbytes_len, List.length_reverse]
          exact hw3
        have hcv := conv_bytes (P := Tryd.prog) (src := 41) (dst := 9) hw4 Tryd.underlying41 Tryd.underlying5 Tryd.underlying9
        have HB3 := Lib.hid (HB.out.trans (ho3.to_below HBS2.out (fun k hk h => by subst h; have := HGL.out.1; omega)))
        have HEQ := Lib.hid (dbytes_enc out.reverse (fun c hc => HLT.out c (by simpa using hc)))
        clear hw3 hw4 ho3
        go_wp2_with fail
        go_ret2
        refine ⟨HB3.out, _, 0, rfl, ?_, .inl ⟨_, HDC.out, ?_, rfl⟩⟩
        · rw [mkS_size, dbytes_len, List.length_reverse]; omega
        · rw [HEQ.out]

theorem decL_neg {n : Int} (h : n < 0) : decL n = (decL (-n)).map (45 :: ·) := by
  unfold decL
  rw [show (-n).natAbs = n.natAbs by omega, if_pos h, if_neg (show ¬ (-n) < 0 by omega)]
  split <;> rfl
theorem cons45 (l : List Nat) : ((⟨#[45]⟩ : ByteArray) ++ mkS (encAll l)) = mkS (encAll (45 :: l)) := by
  apply str_ext
  rw [ByteArray.data_append, Array.toList_append, mkS_data, mkS_data, encAll_cons]
  rfl

set_option maxHeartbeats 1000000 in
theorem decimal_any (ea : Nat → Addr) (n : Int) (w : World) (h1 : -9223372036854775808 ≤ n) (h2 : n ≤ 9223372036854775807) (he : LErr w ea) :
    Calls Tryd.prog 63 #[.int .i64 n] w (DecPost ea 30 n w) := by
  by_cases hn : n < 0
  · have ke := he.form
    by_cases hm : n = -9223372036854775808
    · subst hm
      have HDC := Lib.hid (show decL (-9223372036854775808) = none from by unfold decL; rw [if_pos (by decide)])
      have hw0 : wrap64 9223372036854775808 = -9223372036854775808 := by unfold wrap64 <;> kernel_rfl
      clear he
      go_enter Tryd.func63, Tryd.ntmps63
      go_wp2_with fail
      go_quiet (fail)
      go_wp2_with fail
      go_ret2
      exact ⟨below_drewN (Below.refl _ _) _, _, 4, rfl, by decide, .inr ⟨HDC.out, rfl⟩⟩
    · obtain ⟨m, rfl⟩ : ∃ m : Nat, n = -(m : Int) := ⟨n.natAbs, by omega⟩
      have HP := Lib.hid (decimal_nat ea m w (by omega) he)
      have HN := Lib.hid (decL_neg hn)
      rw [show - -(m : Int) = (m : Int) by omega] at HN
      have hne : ((-(m : Int)) == (m : Int)) = false := by simp; omega
      have hm0 : 0 < m := by omega
      have hm1 : (m : Int) ≤ 9223372036854775807 := by omega
      clear he h1 h2 hm ke
      go_enter Tryd.func63, Tryd.ntmps63
      go_wp2_with fail
      refine HP.out.mono ?_
      rintro e w1 ⟨hb1, t, k, rfl, ht, hres⟩
      have hsz : (1 : Nat) + t.size ≤ 9223372036854775807 := by omega
      have HR := Lib.hid hres
      have HB := Lib.hid hb1
      have HT := Lib.hid ht
      clear hres hb1
      go_wp2_with fail
      go_ret2
      refine ⟨HB.out, _, k, rfl, by rw [ByteArray.size_append]; have := HT.out; show 1 + t.size ≤ 30; omega, ?_⟩
      rcases HR.out with ⟨d, hd, rfl, rfl⟩ | ⟨hd, rfl⟩
      · exact .inl ⟨_, by rw [HN.out, hd]; rfl, cons45 d, rfl⟩
      · exact .inr ⟨by rw [HN.out, hd]; rfl, rfl⟩
  · obtain ⟨m, rfl⟩ : ∃ m : Nat, n = (m : Int) := ⟨n.toNat, by omega⟩
    refine (decimal_nat ea m w (by omega) he).mono ?_
    rintro e w' ⟨hb, t, k, h3, h4, h5⟩
    exact ⟨hb, t, k, h3, by omega, h5⟩
end Go.Proofs.YtjhmehmmpfnnkaaDoor

namespace Go.Proofs.YtjhmehmmpfnnkaaDoor
open Go.RowKit Utf
set_option maxRecDepth 100000
set_option linter.unusedSimpArgs false
set_option linter.unusedVariables false

theorem conv_one {w : World} {c : Nat} {x : Int} (hc : c < 128) (hx : x = (c : Int)) : (convert 41 9 (.slice (some ⟨w.heap.size, 0, none⟩) 1 1)).run Tryd.prog (w.alloc (.cells #[.int .u8 x] 5)) = .ok (.string (mkS [UInt8.ofNat c])) (w.alloc (.cells #[.int .u8 x] 5)) := by
  subst hx
  have h0 : (w.alloc (.cells #[.int .u8 (c : Int)] 5)).ownsRow w.heap.size 5 1 (.slice (some ⟨w.heap.size, 0, none⟩) 1 1) [UInt8.ofNat c].length (byteRow [UInt8.ofNat c]) := by
    have := World.ownsRow_lit (base := w.heap.size) (e := 5) (size := 1) w #[.int .u8 (c : Int)] 1 (Nat.le_refl _) (by simp [maxLen]) rfl
    have hb : byteRow [UInt8.ofNat c] = [.int .u8 (c : Int)] := by simp [byteRow, Nat.mod_eq_of_lt (show c < 256 by omega)]
    rw [hb]
    exact this
  exact conv_bytes (P := Tryd.prog) h0 Tryd.underlying41 Tryd.underlying5 Tryd.underlying9
theorem mkS_append (a b : List UInt8) : mkS a ++ mkS b = mkS (a ++ b) := by
  apply str_ext
  rw [ByteArray.data_append, Array.toList_append, mkS_data, mkS_data, mkS_data]
theorem digs_lt128 (n : Nat) : ∀ c ∈ digs n, c < 128 := fun c hc => by have := digs_all n c hc; omega
theorem digs_size {n : Nat} (h : n ≤ 999999999) : (mkS (encAll (digs n))).size ≤ 9 := by
  rw [mkS_size, dbytes_enc _ (digs_lt128 n), dbytes_len]
  exact digs_len n 8 (by omega)

set_option maxHeartbeats 2000000 in
theorem refdec_nat (n : Nat) : ∀ (w : World), n ≤ 999999999 → Calls Tryd.prog 67 #[.int .i64 (n : Int)] w fun e w' => e = .returned (.tuple #[.string (mkS (encAll (digs n))), .bool true]) ∧ Below w.heap.size w w' := by
  induction n using Nat.strongRecOn with
  | _ n ih =>
    intro w hn
    have h1 : ¬ (n : Int) < -999999999 := by omega
    have h2 : ¬ (999999999 : Int) < (n : Int) := by omega
    have h3 : ¬ (n : Int) < 0 := by omega
    by_cases h10 : n < 10
    · have h4 : (n : Int) < 10 := by omega
      have hcv := conv_one (w := w) (c := 48 + n) (x := 48 + (n : Int)) (by omega) (by omega)
      have HE := Lib.hid (show mkS [UInt8.ofNat (48 + n)] = mkS (encAll (digs n)) by rw [digs_lt h10, dbytes_enc _ (by intro c hc; simp at hc; omega)]; rfl)
      have hn0 : (0 : Int) ≤ (n : Int) := by omega
      clear ih
      generalize mkS [UInt8.ofNat (48 + n)] = ds at *
      go_enter Tryd.func67, Tryd.ntmps67
      go_wp2_with fail
      go_ret2
      exact ⟨by rw [← HE.out]; rfl, (Below.refl _ _).alloc (Nat.le_refl _) _⟩
    · have h4 : ¬ (n : Int) < 10 := by omega
      have HIH := Lib.hid (fun W => ih (n / 10) (by omega) W (by omega))
      have ht : (n : Int).tdiv 10 = ((n / 10 : Nat) : Int) := by rw [Int.tdiv_eq_ediv_of_nonneg (by omega)]; omega
      have hm : (n : Int).tmod 10 = ((n % 10 : Nat) : Int) := by rw [Int.tmod_eq_emod_of_nonneg (by omega)]; omega
      have hme : (n : Int) % 10 = ((n % 10 : Nat) : Int) := by omega
      have hde : (n : Int) / 10 = ((n / 10 : Nat) : Int) := by omega
      have HE := Lib.hid (show mkS (encAll (digs (n / 10))) ++ mkS [UInt8.ofNat (48 + n % 10)] = mkS (encAll (digs n)) by
        rw [mkS_append, digs_ge h10, dbytes_enc _ (digs_lt128 _), dbytes_enc _ (by
          intro c hc
          rcases List.mem_append.1 hc with hc | hc
          · exact digs_lt128 _ c hc
          · simp at hc; omega)]
        simp [dbytes])
      have hsz := digs_size (n := n / 10) (by omega)
      have hr9 : n % 10 ≤ 9 := by omega
      have hq1 : n / 10 ≤ 99999999 := by omega
      clear ih
      generalize n % 10 = r at *
      generalize n / 10 = q at *
      have hcv := fun W : World => conv_one (w := W) (c := 48 + r) (x := 48 + (r : Int)) (by omega) (by omega)
      have hds : (mkS [UInt8.ofNat (48 + r)]).size = 1 := by rw [mkS_size]; rfl
      generalize mkS [UInt8.ofNat (48 + r)] = ds at *
      have HCV := Lib.hid hcv
      have hq2 : (0 : Int) ≤ (q : Int) := by omega
      have hq3 : (q : Int) ≤ 99999999 := by omega
      have hr1 : (0 : Int) ≤ (r : Int) := by omega
      have hr2 : (r : Int) ≤ 9 := by omega
      clear hcv
      generalize mkS (encAll (digs q)) = dq at *
      go_enter Tryd.func67, Tryd.ntmps67
      go_wp2_with fail
      refine (HIH.out _).mono ?_
      rintro e w1 ⟨rfl, hb1⟩
      have HB := Lib.hid hb1
      have hcv := HCV.out w1
      have hs1 : dq.size + ds.size ≤ 9223372036854775807 := by omega
      clear hb1
      go_wp2_with fail
      go_ret2
      exact ⟨by rw [← HE.out]; rfl, HB.out.alloc HB.out.size _⟩

set_option maxHeartbeats 1000000 in
theorem refdec_any (n : Int) (w : World) (h1 : -9223372036854775808 ≤ n) (h2 : n ≤ 9223372036854775807) : Calls Tryd.prog 67 #[.int .i64 n] w fun e w' => Below w.heap.size w w' ∧
    ((∃ d, decL n = some d ∧ e = .returned (.tuple #[.string (mkS (encAll d)), .bool true])) ∨ (decL n = none ∧ e = .returned (.tuple #[.string ByteArray.empty, .bool false]))) := by
  by_cases hb : 999999999 < n.natAbs
  · have HD := Lib.hid (show decL n = none by unfold decL; rw [if_pos hb])
    have hc : n < -999999999 ∨ (¬ n < -999999999 ∧ (999999999 : Int) < n) := by omega
    clear hb
    rcases hc with c1 | ⟨c1, c2⟩
    all_goals
      go_enter Tryd.func67, Tryd.ntmps67
      go_wp2_with fail
      go_ret2
      exact ⟨Below.refl _ _, .inr ⟨HD.out, rfl⟩⟩
  · by_cases hn : n < 0
    · obtain ⟨m, rfl⟩ : ∃ m : Nat, n = -(m : Int) := ⟨n.natAbs, by omega⟩
      have HP := Lib.hid (refdec_nat m w (by omega))
      have HN := Lib.hid (show decL (-(m : Int)) = some (45 :: digs m) by
        unfold decL
        rw [if_neg hb, if_pos hn, show (-(m : Int)).natAbs = m by omega]
        rfl)
      have hsz := digs_size (n := m) (by omega)
      have HC := Lib.hid (cons45 (digs m))
      have c1 : ¬ (-(m : Int)) < -999999999 := by omega
      have c2 : ¬ (999999999 : Int) < -(m : Int) := by omega
      have hm1 : (m : Int) ≤ 999999999 := by omega
      have hm0 : 0 < m := by omega
      clear h1 h2 hb
      generalize mkS (encAll (digs m)) = dq at *
      go_enter Tryd.func67, Tryd.ntmps67
      go_wp2_with fail
      refine HP.out.mono ?_
      rintro e w1 ⟨rfl, hb1⟩
      have HB := Lib.hid hb1
      have hs1 : (⟨#[45]⟩ : ByteArray).size + dq.size ≤ 9223372036854775807 := by show 1 + dq.size ≤ _; omega
      clear hb1
      go_wp2_with fail
      go_ret2
      exact ⟨HB.out, .inl ⟨_, HN.out, by rw [← HC.out]; rfl⟩⟩
    · obtain ⟨m, rfl⟩ : ∃ m : Nat, n = (m : Int) := ⟨n.toNat, by omega⟩
      refine (refdec_nat m w (by omega)).mono ?_
      rintro e w' ⟨rfl, hb'⟩
      refine ⟨hb', .inl ⟨digs m, ?_, rfl⟩⟩
      unfold decL
      rw [if_neg (by omega), if_neg (by omega), show ((m : Int)).natAbs = m by omega]
      rfl
end Go.Proofs.YtjhmehmmpfnnkaaDoor
