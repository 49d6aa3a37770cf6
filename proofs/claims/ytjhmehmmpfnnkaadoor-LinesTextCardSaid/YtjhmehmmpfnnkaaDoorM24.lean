/-
  Parse of any text: the program's and the reference's contracts by the same answer.
  The contract of tidewaterref31.Decimal.
  The contracts of tidewaterref31's line: num, str.
-/
import Derived.Test.YtjhmehmmpfnnkaaDoorM21
import Derived.Test.YtjhmehmmpfnnkaaDoorM23
import Derived.Test.YtjhmehmmpfnnkaaDoorM10
import Derived.Test.YtjhmehmmpfnnkaaDoorM11
import Derived.Test.YtjhmehmmpfnnkaaDoorM15
namespace Go.Proofs.YtjhmehmmpfnnkaaDoor
open Go.RowKit Utf
set_option maxRecDepth 100000
set_option linter.unusedSimpArgs false
set_option linter.unusedVariables false

set_option maxHeartbeats 4000000 in
theorem parse_rune (ea : Nat → Addr) (s : ByteArray) (w : World) (hs : s.size ≤ 1000000) (hd : dec s.data.toList = none) (he : LErr w ea) :
    Calls Tryd.prog 17 #[.string s] w fun e w' => e = .returned (.tuple #[.agg wZero, errOf ea 6]) ∧ Below w.heap.size w w' := by
  have HW := Lib.hid (fun W he => words_none ea s W (by unfold maxLen; omega) hd he)
  have hz := Blk.new w 48 wZero
  have HZ := Lib.hid hz
  have HE := Lib.hid (he.only (S := fun _ => False) ((Only.refl _ w).alloc (.cells wZero 48)) (fun _ h => h.elim))
  clear he hz
  go_enter Tryd.func17, Tryd.ntmps17
  go_wp2_with fail
  refine (HW.out _ HE.out).mono ?_
  rintro e w1 ⟨rfl, hb1⟩
  have HZ2 := Lib.hid ((HZ.out.below hb1 HZ.out.lt).alloc (.cells #[.slice none 0 0] 22))
  have HO1 := Lib.hid (show Only (fun _ => False) w (w1.alloc (.cells #[.slice none 0 0] 22)) from (((Only.refl _ w).alloc _).trans (Only.below_all hb1)).alloc _)
  clear hb1
  go_wp2_with (refine wpList_store_blk rfl 48 (.tmp 2) (.tmp 20) rfl w.heap.size wZero rfl rfl 48 wZero HZ2.out rfl Tryd.sizeW wZero_one ?_)
  refine Lib.hid ?_
  intro w2 hz2 ho2
  have HZ3 := Lib.hid hz2
  have HO3 := Lib.hid ho2
  clear hz2 ho2
  go_wp2_with fail
  refine bodyPost_ret (results_cell_tmp rfl _ _ w.heap.size 48 wZero (0, 0) _ rfl HZ3.out Tryd.underlying48 rfl Tryd.sizeW) rfl ?_
  exact ⟨rfl, (HO1.out.step HO3.out (fun k hk => .inr (Nat.le_of_eq hk.symm))).to_below (Nat.le_refl _) (fun _ _ h => h)⟩


set_option maxHeartbeats 4000000 in
/-- No words. -/
theorem refParse_empty (s : ByteArray) (w : World) (hm : (wordsR s) = ([], 0)) (hs : s.size ≤ 1000000) :
    Calls Tryd.prog 18 #[.string s] w fun e w' => e = .returned (.tuple #[.agg rZero, .int .i64 16]) ∧ Below w.heap.size w w' := by
  have HW := Lib.hid (fun W => refWords_all s W hs)
  rw [hm] at HW
  have hz := Blk.new w 52 rZero
  have HZ := Lib.hid hz
  clear hz hm
  go_enter Tryd.func18, Tryd.ntmps18
  go_wp2_with fail
  refine (HW.out _).mono ?_
  rintro e w1 ⟨v, rfl, hown1, hb1⟩
  obtain ⟨av, cv, rfl, -⟩ := hown1.row
  clear hown1
  simp only [List.length_nil]
  have HZ2 := Lib.hid (HZ.out.below hb1 HZ.out.lt)
  have HO1 := Lib.hid (show Only (fun _ => False) w w1 from ((Only.refl _ w).alloc _).trans (Only.below_all hb1))
  clear hb1
  go_wp2_with (refine wpList_store_blk rfl 52 (.tmp 2) (.tmp 26) rfl w.heap.size rZero rfl rfl 52 rZero HZ2.out rfl Tryd.sizeR rZero_one ?_)
  refine Lib.hid ?_
  intro w2 hz2 ho2
  have HZ3 := Lib.hid hz2
  have HO3 := Lib.hid ho2
  clear hz2 ho2
  go_wp2_with fail
  refine bodyPost_ret (results_cell_tmp rfl _ _ w.heap.size 52 rZero (0, 0) _ rfl HZ3.out Tryd.underlying52 rfl Tryd.sizeR) rfl ?_
  exact ⟨rfl, (HO1.out.step HO3.out (fun k hk => .inr (Nat.le_of_eq hk.symm))).to_below (Nat.le_refl _) (fun _ _ h => h)⟩

theorem words_goodR {rs : List Nat} {ws : List (List Nat)} (ho : allOk rs) (hl : (encAll rs).length ≤ 100000) (h : wordsL rs = some ws) : GoodR ws ∧ ws.length ≤ 100001 := by
  unfold wordsL at h
  cases hr : wsRun ws0 rs with
  | none => rw [hr] at h; cases h
  | some s =>
    rw [hr] at h
    obtain ⟨h1, h2, h3⟩ := ws_good 100000 rs ws0 s (fun x hx => by cases hx) allOk_nil ho (by simp [ws0, encAll_nil]; exact hl) hr
    have h4 := wsRun_len _ _ _ hr
    have h5 := encAll_len rs
    have hfin : s.fin = some ws := h
    have hout : s.out.length ≤ rs.length := by simpa [ws0] using h4
    have hmem : ∀ l : List (List Nat), l = s.out ∨ l = s.out ++ [s.cur] → GoodR l := by
      intro l hl x hx
      rcases hl with rfl | rfl
      · exact h1 x hx
      · rcases List.mem_append.1 hx with hx | hx
        · exact h1 x hx
        · simp only [List.mem_singleton] at hx
          subst hx
          exact ⟨h2, h3⟩
    unfold WS.fin at hfin
    split at hfin
    · rename_i hm
      cases hfin
      exact ⟨hmem _ (.inl rfl), by omega⟩
    · rename_i hm
      cases hfin
      exact ⟨hmem _ (.inr rfl), by rw [List.length_append]; simp only [List.length_singleton]; omega⟩
    · rename_i hm
      cases hfin
      exact ⟨hmem _ (.inr rfl), by rw [List.length_append]; simp only [List.length_singleton]; omega⟩
    · cases hfin
    · cases hfin


/-- Parse of any text: the error's number, what the line tells. -/
def parseR (s : ByteArray) : Nat × Option PL := match dec s.data.toList with
  | none => (6, none)
  | some rs => match wordsL rs with
    | none => (4, none)
    | some ws => parseW ws
def ParseAll (ea : Nat → Addr) (q : Nat × Option PL) (w : World) (e : Ending) (w' : World) : Prop :=
  Below w.heap.size w w' ∧ ((∃ m, q = (m, none) ∧ e = .returned (.tuple #[.agg wZero, errOf ea m])) ∨
    (∃ l vo vg, q = (0, some l) ∧ e = .returned (.tuple #[.agg (wCells l.p vo vg), .nilIface]) ∧ w'.ownsRow w.heap.size 103 5 vo l.ops.length (l.ops.flatMap opCells) ∧ w'.ownsRow w.heap.size 3 1 vg l.gone.length (intRow l.gone)))
def RefParseAll (q : Nat × Option PL) (w : World) (e : Ending) (w' : World) : Prop :=
  Below w.heap.size w w' ∧ ((∃ m, q = (m, none) ∧ e = .returned (.tuple #[.agg rZero, .int .i64 (m : Nat)])) ∨
    (∃ l vo vg, q = (0, some l) ∧ e = .returned (.tuple #[.agg (rCells l.p vo vg), .int .i64 0]) ∧ w'.ownsRow w.heap.size 103 5 vo l.ops.length (l.ops.flatMap opCells) ∧ w'.ownsRow w.heap.size 3 1 vg l.gone.length (intRow l.gone)))
theorem parse_all (ea : Nat → Addr) (s : ByteArray) (w : World) (hs : s.size ≤ 1000000) (he : LErr w ea) : Calls Tryd.prog 17 #[.string s] w (ParseAll ea (parseR s) w) := by
  unfold parseR
  cases hd : dec s.data.toList with
  | none => exact (parse_rune ea s w hs hd he).mono fun e w' ⟨h1, h2⟩ => ⟨h2, .inl ⟨6, rfl, h1⟩⟩
  | some rs =>
    obtain ⟨ho, h⟩ := dec_some hd
    cases hw : wordsL rs with
    | none => simp only [hw]; exact (parse_bad ea s rs w hs ho h he hw).mono fun e w' ⟨h1, h2⟩ => ⟨h2, .inl ⟨4, rfl, h1⟩⟩
    | some ws =>
      simp only [hw]
      cases ws with
      | nil => exact (parse_empty ea s rs w hs ho h he hw).mono fun e w' ⟨h1, h2⟩ => ⟨h2, .inl ⟨16, rfl, h1⟩⟩
      | cons x r => exact parse_some ea s rs x r w hs ho h he hw
theorem refParse_all (s : ByteArray) (w : World) (hs : s.size ≤ 100000) : Calls Tryd.prog 18 #[.string s] w (RefParseAll (parseR s) w) := by
  have hwr : wordsR s = (match dec s.data.toList with | none => ([], 6) | some rs => match wordsL rs with | none => ([], 4) | some ws => (ws, 0)) := rfl
  unfold parseR
  cases hd : dec s.data.toList with
  | none =>
    rw [hd] at hwr
    exact (refParse_bad s w 6 hwr (by decide) (by decide) (by omega)).mono fun e w' ⟨h1, h2⟩ => ⟨h2, .inl ⟨6, rfl, h1⟩⟩
  | some rs =>
    obtain ⟨ho, h⟩ := dec_some hd
    rw [hd] at hwr
    cases hw : wordsL rs with
    | none =>
      simp only [hw] at hwr ⊢
      exact (refParse_bad s w 4 hwr (by decide) (by decide) (by omega)).mono fun e w' ⟨h1, h2⟩ => ⟨h2, .inl ⟨4, rfl, h1⟩⟩
    | some ws =>
      simp only [hw] at hwr ⊢
      cases ws with
      | nil => exact (refParse_empty s w hwr (by omega)).mono fun e w' ⟨h1, h2⟩ => ⟨h2, .inl ⟨16, rfl, h1⟩⟩
      | cons x r =>
        obtain ⟨hg, hl⟩ := words_goodR ho (by rw [← h, ← Lib.size_eq]; exact hs) hw
        exact refParse_some s x r w hs hwr hg (by simp at hl; omega)
end Go.Proofs.YtjhmehmmpfnnkaaDoor

namespace Go.Proofs.YtjhmehmmpfnnkaaDoor
open Go.RowKit Utf
set_option maxRecDepth 100000
set_option linter.unusedSimpArgs false
set_option linter.unusedVariables false

theorem conv_one {w : World} {c : Nat} {x : Int} (hc : c < 128) (hx : x = (c : Int)) : (convert 41 9 (.slice (some ⟨w.heap.size, 0, none⟩) 1 1)).run Tryd.prog (w.alloc (.cells #[.int .u8 x] 5)) = .ok (.string (mkS [UInt8.ofNat c])) (w.alloc (.cells #[.int .u8 x] 5)) := by
  subst hx
  have h0 : (w.alloc (.cells #[.int .u8 (c : Int)] 5)).ownsRow w.heap.size 5 1 (.slice (some ⟨w.heap.size, 0, none⟩) 1 1) [UInt8.ofNat c].length (byteRow [UInt8.ofNat c]) := by
    have := World.ownsRow_lit (base := w.heap.size) (e := 5) (size := 1) w #[.int .u8 (c : Int)] 1 (Nat.le_refl _) (by simp [maxLen]) rfl
    have hb : byteRow [UInt8.ofNat c] = [.int .u8 (c : Int)] := by simp [byteRow, Nat.mod_eq_of_lt (show c < 256 by omega)]
    rw [hb]
    exact this
  exact conv_bytes (P := Tryd.prog) h0 Tryd.underlying41 Tryd.underlying5 Tryd.underlying9
theorem mkS_append (a b : List UInt8) : mkS a ++ mkS b = mkS (a ++ b) := by
  apply str_ext
  rw [ByteArray.data_append, Array.toList_append, mkS_data, mkS_data, mkS_data]
theorem digs_lt128 (n : Nat) : ∀ c ∈ digs n, c < 128 := fun c hc => by have := digs_all n c hc; omega
theorem digs_size {n : Nat} (h : n ≤ 999999999) : (mkS (encAll (digs n))).size ≤ 9 := by
  rw [mkS_size, dbytes_enc _ (digs_lt128 n), dbytes_len]
  exact digs_len n 8 (by omega)

set_option maxHeartbeats 2000000 in
theorem refdec_nat (n : Nat) : ∀ (w : World), n ≤ 999999999 → Calls Tryd.prog 67 #[.int .i64 (n : Int)] w fun e w' => e = .returned (.tuple #[.string (mkS (encAll (digs n))), .bool true]) ∧ Below w.heap.size w w' := by
  induction n using Nat.strongRecOn with
  | _ n ih =>
    intro w hn
    have h1 : ¬ (n : Int) < -999999999 := by omega
    have h2 : ¬ (999999999 : Int) < (n : Int) := by omega
    have h3 : ¬ (n : Int) < 0 := by omega
    by_cases h10 : n < 10
    · have h4 : (n : Int) < 10 := by omega
      have hcv := conv_one (w := w) (c := 48 + n) (x := 48 + (n : Int)) (by omega) (by omega)
      have HE := Lib.hid (show mkS [UInt8.ofNat (48 + n)] = mkS (encAll (digs n)) by rw [digs_lt h10, dbytes_enc _ (by intro c hc; simp at hc; omega)]; rfl)
      have hn0 : (0 : Int) ≤ (n : Int) := by omega
      clear ih
      generalize mkS [UInt8.ofNat (48 + n)] = ds at *
      go_enter Tryd.func67, Tryd.ntmps67
      go_wp2_with fail
      go_ret2
      exact ⟨by rw [← HE.out]; rfl, (Below.refl _ _).alloc (Nat.le_refl _) _⟩
    · have h4 : ¬ (n : Int) < 10 := by omega
      have HIH := Lib.hid (fun W => ih (n / 10) (by omega) W (by omega))
      have ht : (n : Int).tdiv 10 = ((n / 10 : Nat) : Int) := by rw [Int.tdiv_eq_ediv_of_nonneg (by omega)]; omega
      have hm : (n : Int).tmod 10 = ((n % 10 : Nat) : Int) := by rw [Int.tmod_eq_emod_of_nonneg (by omega)]; omega
      have hme : (n : Int) % 10 = ((n % 10 : Nat) : Int) := by omega
      have hde : (n : Int) / 10 = ((n / 10 : Nat) : Int) := by omega
      have HE := Lib.hid (show mkS (encAll (digs (n / 10))) ++ mkS [UInt8.ofNat (48 + n % 10)] = mkS (encAll (digs n)) by
        rw [mkS_append, digs_ge h10, dbytes_enc _ (digs_lt128 _), dbytes_enc _ (by
          intro c hc
          rcases List.mem_append.1 hc with hc | hc
          · exact digs_lt128 _ c hc
          · simp at hc; omega)]
        simp [dbytes])
      have hsz := digs_size (n := n / 10) (by omega)
      have hr9 : n % 10 ≤ 9 := by omega
      have hq1 : n / 10 ≤ 99999999 := by omega
      clear ih
      generalize n % 10 = r at *
      generalize n / 10 = q at *
      have hcv := fun W : World => conv_one (w := W) (c := 48 + r) (x := 48 + (r : Int)) (by omega) (by omega)
      have hds : (mkS [UInt8.ofNat (48 + r)]).size = 1 := by rw [mkS_size]; rfl
      generalize mkS [UInt8.ofNat (48 + r)] = ds at *
      have HCV := Lib.hid hcv
      have hq2 : (0 : Int) ≤ (q : Int) := by omega
      have hq3 : (q : Int) ≤ 99999999 := by omega
      have hr1 : (0 : Int) ≤ (r : Int) := by omega
      have hr2 : (r : Int) ≤ 9 := by omega
      clear hcv
      generalize mkS (encAll (digs q)) = dq at *
      go_enter Tryd.func67, Tryd.ntmps67
      go_wp2_with fail
      refine (HIH.out _).mono ?_
      rintro e w1 ⟨rfl, hb1⟩
      have HB := Lib.hid hb1
      have hcv := HCV.out w1
      have hs1 : dq.size + ds.size ≤ 9223372036854775807 := by omega
      clear hb1
      go_wp2_with fail
      go_ret2
      exact ⟨by rw [← HE.out]; rfl, HB.out.alloc HB.out.size _⟩

set_option maxHeartbeats 1000000 in
theorem refdec_any (n : Int) (w : World) (h1 : -9223372036854775808 ≤ n) (h2 : n ≤ 9223372036854775807) : Calls Tryd.prog 67 #[.int .i64 n] w fun e w' => Below w.heap.size w w' ∧
    ((∃ d, decL n = some d ∧ e = .returned (.tuple #[.string (mkS (encAll d)), .bool true])) ∨ (decL n = none ∧ e = .returned (.tuple #[.string ByteArray.empty, .bool false]))) := by
  by_cases hb : 999999999 < n.natAbs
  · have HD := Lib.hid (show decL n = none by unfold decL; rw [if_pos hb])
    have hc : n < -999999999 ∨ (¬ n < -999999999 ∧ (999999999 : Int) < n) := by omega
    clear hb
    rcases hc with c1 | ⟨c1, c2⟩
    all_goals
      go_enter Tryd.func67, Tryd.ntmps67
      go_wp2_with fail
      go_ret2
      exact ⟨Below.refl _ _, .inr ⟨HD.out, rfl⟩⟩
  · by_cases hn : n < 0
    · obtain ⟨m, rfl⟩ : ∃ m : Nat, n = -(m : Int) := ⟨n.natAbs, by omega⟩
      have HP := Lib.hid (refdec_nat m w (by omega))
      have HN := Lib.hid (show decL (-(m : Int)) = some (45 :: digs m) by
        unfold decL
        rw [if_neg hb, if_pos hn, show (-(m : Int)).natAbs = m by omega]
        rfl)
      have hsz := digs_size (n := m) (by omega)
      have HC := Lib.hid (cons45 (digs m))
      have c1 : ¬ (-(m : Int)) < -999999999 := by omega
      have c2 : ¬ (999999999 : Int) < -(m : Int) := by omega
      have hm1 : (m : Int) ≤ 999999999 := by omega
      have hm0 : 0 < m := by omega
      clear h1 h2 hb
      generalize mkS (encAll (digs m)) = dq at *
      go_enter Tryd.func67, Tryd.ntmps67
      go_wp2_with fail
      refine HP.out.mono ?_
      rintro e w1 ⟨rfl, hb1⟩
      have HB := Lib.hid hb1
      have hs1 : (⟨#[45]⟩ : ByteArray).size + dq.size ≤ 9223372036854775807 := by show 1 + dq.size ≤ _; omega
      clear hb1
      go_wp2_with fail
      go_ret2
      exact ⟨HB.out, .inl ⟨_, HN.out, by rw [← HC.out]; rfl⟩⟩
    · obtain ⟨m, rfl⟩ : ∃ m : Nat, n = (m : Int) := ⟨n.toNat, by omega⟩
      refine (refdec_nat m w (by omega)).mono ?_
      rintro e w' ⟨rfl, hb'⟩
      refine ⟨hb', .inl ⟨digs m, ?_, rfl⟩⟩
      unfold decL
      rw [if_neg (by omega), if_neg (by omega), show ((m : Int)).natAbs = m by omega]
      rfl
end Go.Proofs.YtjhmehmmpfnnkaaDoor

namespace Go.Proofs.YtjhmehmmpfnnkaaDoor
open Go.RowKit Utf
set_option maxRecDepth 100000
set_option linter.unusedSimpArgs false
set_option linter.unusedVariables false

/-- A line that is told: its text in block sb, whether it is right in block kb. -/
def LSt (w : World) (sb kb : Nat) (row : List (Option (List Nat))) : Prop :=
  ∃ t ok, Blk w sb 9 #[.string t] ∧ Blk w kb 4 #[.bool ok] ∧ (∀ ws, tellAll row = some ws → ok = true ∧ t = mkS (encAll (joinW ws))) ∧ (tellAll row = none → ok = false) ∧ t.size ≤ 1000000 * row.length
def LinePost (sb kb : Nat) (row more : List (Option (List Nat))) (w : World) (e : Ending) (w' : World) : Prop :=
  e = .returned (.tuple #[]) ∧ Only (fun k => k = sb ∨ k = kb) w w' ∧ LSt w' sb kb (row ++ more)
theorem joinW_snoc {ws : List (List Nat)} (h : ws ≠ []) (x : List Nat) : joinW (ws ++ [x]) = joinW ws ++ 32 :: x := by
  cases ws with
  | nil => exact absurd rfl h
  | cons a r => simp [joinW]
theorem line_next {w' : World} {sb kb : Nat} {row : List (Option (List Nat))} {t t2 : ByteArray} {ok ok2 : Bool} {x : Option (List Nat)} (h1 : ∀ ws, tellAll row = some ws → ok = true ∧ t = mkS (encAll (joinW ws))) (h2 : tellAll row = none → ok = false) (h3 : t.size ≤ 1000000 * row.length) (hne : row ≠ [])
    (hx : (∃ d, x = some d ∧ t2 = mkS (encAll d) ∧ ok2 = true) ∨ (x = none ∧ ok2 = false)) (hsz : t2.size ≤ 999990) (hs : Blk w' sb 9 #[.string (t ++ (⟨#[32]⟩ ++ t2))]) (hk : Blk w' kb 4 #[.bool (ok && ok2)]) : LSt w' sb kb (row ++ [x]) := by
  refine ⟨_, _, hs, hk, ?_, ?_, ?_⟩
  · intro ws hw
    rw [tellAll_snoc] at hw
    obtain ⟨l, hl, hw2⟩ := Option.bind_eq_some_iff.1 hw
    obtain ⟨hok, ht⟩ := h1 l hl
    rcases hx with ⟨d, rfl, rfl, rfl⟩ | ⟨rfl, rfl⟩
    · obtain rfl := Option.some.inj hw2
      refine ⟨by rw [hok]; rfl, ?_⟩
      have hlne : l ≠ [] := by
        intro e
        subst e
        have := (tellAll_iff _ _).1 hl
        exact hne this
      rw [joinW_snoc hlne, encAll_append, encAll_cons, show enc 32 = [32] from by decide +kernel, ht, ← mkS_append, ← mkS_append]
      rfl
    · cases hw2
  · intro hw
    rw [tellAll_snoc] at hw
    cases hl : tellAll row with
    | none => rw [h2 hl]; rfl
    | some l =>
      rcases hx with ⟨d, rfl, rfl, rfl⟩ | ⟨rfl, rfl⟩
      · rw [hl] at hw; cases hw
      · simp
  · rw [ByteArray.size_append, ByteArray.size_append, List.length_append, List.length_singleton]
    have : (⟨#[32]⟩ : ByteArray).size = 1 := rfl
    omega

theorem quoteR_size (s : ByteArray) : (quoteR s).1.size ≤ 8 * s.size + 8 := by
  by_cases h : (quoteR s).2 = 0
  · obtain ⟨-, q, -, -, h2⟩ := quoteR_back h
    exact h2
  · unfold quoteR at h ⊢
    cases hd : dec s.data.toList with
    | none => exact Nat.zero_le _
    | some rs =>
      simp only
      cases hq : quoteL rs with
      | none => exact Nat.zero_le _
      | some q => rw [hd] at h; simp [hq] at h

set_option maxHeartbeats 4000000 in
theorem line_num (sb kb : Nat) (row : List (Option (List Nat))) (z : Int) (w : World) (h : LSt w sb kb row) (hne : row ≠ []) (hl : row.length ≤ 100000) (hsk : sb ≠ kb) (h1 : -9223372036854775808 ≤ z) (h2 : z ≤ 9223372036854775807) :
    Calls Tryd.prog 52 #[.agg #[.pointer (some ⟨sb, 0, none⟩), .pointer (some ⟨kb, 0, none⟩)], .int .i64 z] w (LinePost sb kb row [decL z] w) := by
  obtain ⟨t, ok, hs, hk, p1, p2, p3⟩ := h
  have HP1 := Lib.hid p1
  have HP2 := Lib.hid p2
  have HD := Lib.hid (fun W => refdec_any z W h1 h2)
  have hN := Blk.new w 112 #[.pointer (some ⟨sb, 0, none⟩), .pointer (some ⟨kb, 0, none⟩)]
  have HN := Lib.hid hN
  have HS := Lib.hid (hs.alloc (.cells #[.pointer (some ⟨sb, 0, none⟩), .pointer (some ⟨kb, 0, none⟩)] 112))
  have HK := Lib.hid (hk.alloc (.cells #[.pointer (some ⟨sb, 0, none⟩), .pointer (some ⟨kb, 0, none⟩)] 112))
  have hsN : sb ≠ w.heap.size := by have := hs.lt; omega
  have hkN : kb ≠ w.heap.size := by have := hk.lt; omega
  clear p1 p2 h1 h2 hN hs hk
  go_enter Tryd.func52, Tryd.ntmps52
  go_wp2_with fail
  refine (HD.out _).mono ?_
  rintro e w1 ⟨hb1, hres⟩
  have HX := Lib.hid (show Only (fun k => k = sb ∨ k = kb) w w1 from ((Only.refl _ w).alloc _).trans (Only.below_all hb1))
  have HN1 := Lib.hid (HN.out.below hb1 HN.out.lt)
  have HS1 := Lib.hid (HS.out.below hb1 HS.out.lt)
  have HK1 := Lib.hid (HK.out.below hb1 HK.out.lt)
  have hres2 : ∃ t2 ok2, e = .returned (.tuple #[.string t2, .bool ok2]) ∧ ((∃ d, decL z = some d ∧ t2 = mkS (encAll d) ∧ ok2 = true) ∨ (decL z = none ∧ ok2 = false)) ∧ t2.size ≤ 50 := by
    rcases hres with ⟨d, hd, rfl⟩ | ⟨hd, rfl⟩
    · refine ⟨_, _, rfl, .inl ⟨d, hd, rfl, rfl⟩, ?_⟩
      have := (decL_word hd).2.2
      rw [mkS_size]
      have := encAll_le d
      omega
    · exact ⟨_, _, rfl, .inr ⟨hd, rfl⟩, by decide⟩
  obtain ⟨t2, ok2, rfl, hx, hsz⟩ := hres2
  have HXX := Lib.hid hx
  clear hres hb1 hx
  have n0 : w1.cell? ⟨w.heap.size, 0, none⟩ = some (.pointer (some ⟨sb, 0, none⟩)) := HN1.out.cell 0
  have n1 : w1.cell? ⟨w.heap.size, 1, none⟩ = some (.pointer (some ⟨kb, 0, none⟩)) := HN1.out.cell 1
  have c0 : w1.cell? ⟨sb, 0, none⟩ = some (.string t) := HS1.out.cell 0
  have c0f := HS1.out.frozen 0
  have c1 : w1.cell? ⟨kb, 0, none⟩ = some (.bool ok) := HK1.out.cell 0
  have c1f := HK1.out.frozen 0
  have hz1 : (⟨#[32]⟩ : ByteArray).size + t2.size ≤ 9223372036854775807 := by show 1 + t2.size ≤ _; omega
  have hz2 : t.size + ((⟨#[32]⟩ : ByteArray) ++ t2).size ≤ 9223372036854775807 := by rw [ByteArray.size_append]; have : (⟨#[32]⟩ : ByteArray).size = 1 := rfl; omega
  have HXS := Lib.hid ((HX.out.set (p := ⟨sb, 0, none⟩) (.inl (.inl rfl)) (.string (t ++ (⟨#[32]⟩ ++ t2)))).set (p := ⟨kb, 0, none⟩) (.inl (.inr rfl)) (.bool (ok && ok2)))
  have HSE := Lib.hid (show Blk ((w1.setCell ⟨sb, 0, none⟩ (.string (t ++ (⟨#[32]⟩ ++ t2)))).setCell ⟨kb, 0, none⟩ (.bool (ok && ok2))) sb 9 #[.string (t ++ (⟨#[32]⟩ ++ t2))] from (HS1.out.put 0 _).far hsk _)
  have HKE := Lib.hid (show Blk ((w1.setCell ⟨sb, 0, none⟩ (.string (t ++ (⟨#[32]⟩ ++ t2)))).setCell ⟨kb, 0, none⟩ (.bool (ok && ok2))) kb 4 #[.bool (ok && ok2)] from (HK1.out.far (Ne.symm hsk) _).put 0 _)
  have n1s : (w1.setCell ⟨sb, 0, none⟩ (.string (t ++ (⟨#[32]⟩ ++ t2)))).cell? ⟨w.heap.size, 1, none⟩ = some (.pointer (some ⟨kb, 0, none⟩)) := (HN1.out.far (Ne.symm hsN) _).cell 1
  have c1s : (w1.setCell ⟨sb, 0, none⟩ (.string (t ++ (⟨#[32]⟩ ++ t2)))).cell? ⟨kb, 0, none⟩ = some (.bool ok) := (HK1.out.far (Ne.symm hsk) _).cell 0
  have c1sf := (HK1.out.far (p := ⟨sb, 0, none⟩) (Ne.symm hsk) (.string (t ++ (⟨#[32]⟩ ++ t2)))).frozen 0
  go_wp2_with fail
  clear n0 n1 c0 c0f c1 c1f
  generalize w1.setCell ⟨sb, 0, none⟩ (.string (t ++ (⟨#[32]⟩ ++ t2))) = w2 at *
  have HLN := Lib.hid (line_next HP1.out HP2.out p3 hne HXX.out (by omega) HSE.out HKE.out)
  clear HP1 HP2 HXX HSE HKE
  cases ok
  all_goals
    go_region
    all_goals
      go_wp2_with fail
      go_end0
      exact ⟨rfl, HXS.out.drewN 1, HLN.out⟩

set_option maxHeartbeats 4000000 in
theorem line_str (sb kb : Nat) (row : List (Option (List Nat))) (z : ByteArray) (w : World) (h : LSt w sb kb row) (hne : row ≠ []) (hl : row.length ≤ 100000) (hsk : sb ≠ kb) (h1 : z.size ≤ 100000) :
    Calls Tryd.prog 53 #[.agg #[.pointer (some ⟨sb, 0, none⟩), .pointer (some ⟨kb, 0, none⟩)], .string z] w (LinePost sb kb row [tellS z] w) := by
  obtain ⟨t, ok, hs, hk, p1, p2, p3⟩ := h
  have HP1 := Lib.hid p1
  have HP2 := Lib.hid p2
  have HD := Lib.hid (fun W => refQuote_all z W (by omega))
  have HQ := Lib.hid (tellS_quoteR z)
  have HQS := Lib.hid (quoteR_size z)
  have hz0 := h1
  have hN := Blk.new w 112 #[.pointer (some ⟨sb, 0, none⟩), .pointer (some ⟨kb, 0, none⟩)]
  have HN := Lib.hid hN
  have HS := Lib.hid (hs.alloc (.cells #[.pointer (some ⟨sb, 0, none⟩), .pointer (some ⟨kb, 0, none⟩)] 112))
  have HK := Lib.hid (hk.alloc (.cells #[.pointer (some ⟨sb, 0, none⟩), .pointer (some ⟨kb, 0, none⟩)] 112))
  have hsN : sb ≠ w.heap.size := by have := hs.lt; omega
  have hkN : kb ≠ w.heap.size := by have := hk.lt; omega
  clear p1 p2 h1 hN hs hk
  go_enter Tryd.func53, Tryd.ntmps53
  go_wp2_with fail
  refine (HD.out _).mono ?_
  rintro e w1 ⟨rfl, hb1⟩
  have HX := Lib.hid (show Only (fun k => k = sb ∨ k = kb) w w1 from ((Only.refl _ w).alloc _).trans (Only.below_all hb1))
  have HN1 := Lib.hid (HN.out.below hb1 HN.out.lt)
  have HS1 := Lib.hid (HS.out.below hb1 HS.out.lt)
  have HK1 := Lib.hid (HK.out.below hb1 HK.out.lt)
  obtain ⟨qv, hqv⟩ : ∃ qv, qv = quoteR z := ⟨_, rfl⟩
  rw [← hqv] at HQ HQS ⊢
  obtain ⟨t2, m⟩ := qv
  have hsz : t2.size ≤ 8 * z.size + 8 := HQS.out
  obtain ⟨ok2, hok2⟩ : ∃ ok2, ok2 = decide (m = 0) := ⟨_, rfl⟩
  have hm2 : ((m : Int) == 0) = ok2 := by rw [hok2, Bool.eq_iff_iff]; simp
  have HXX := Lib.hid (show (∃ d, tellS z = some d ∧ t2 = mkS (encAll d) ∧ ok2 = true) ∨ (tellS z = none ∧ ok2 = false) from by
    rcases HQ.out with ⟨d, hd, hte, hm0⟩ | ⟨hd, hm0⟩
    · exact .inl ⟨d, hd, hte, by rw [hok2]; exact decide_eq_true hm0⟩
    · exact .inr ⟨hd, by rw [hok2]; exact decide_eq_false hm0⟩)
  clear hb1 HQ HQS hqv hok2
  have n0 : w1.cell? ⟨w.heap.size, 0, none⟩ = some (.pointer (some ⟨sb, 0, none⟩)) := HN1.out.cell 0
  have n1 : w1.cell? ⟨w.heap.size, 1, none⟩ = some (.pointer (some ⟨kb, 0, none⟩)) := HN1.out.cell 1
  have c0 : w1.cell? ⟨sb, 0, none⟩ = some (.string t) := HS1.out.cell 0
  have c0f := HS1.out.frozen 0
  have c1 : w1.cell? ⟨kb, 0, none⟩ = some (.bool ok) := HK1.out.cell 0
  have c1f := HK1.out.frozen 0
  have hz1 : (⟨#[32]⟩ : ByteArray).size + t2.size ≤ 9223372036854775807 := by show 1 + t2.size ≤ _; omega
  have hz2 : t.size + ((⟨#[32]⟩ : ByteArray) ++ t2).size ≤ 9223372036854775807 := by rw [ByteArray.size_append]; have : (⟨#[32]⟩ : ByteArray).size = 1 := rfl; omega
  have HXS := Lib.hid ((HX.out.set (p := ⟨sb, 0, none⟩) (.inl (.inl rfl)) (.string (t ++ (⟨#[32]⟩ ++ t2)))).set (p := ⟨kb, 0, none⟩) (.inl (.inr rfl)) (.bool (ok && ok2)))
  have HSE := Lib.hid (show Blk ((w1.setCell ⟨sb, 0, none⟩ (.string (t ++ (⟨#[32]⟩ ++ t2)))).setCell ⟨kb, 0, none⟩ (.bool (ok && ok2))) sb 9 #[.string (t ++ (⟨#[32]⟩ ++ t2))] from (HS1.out.put 0 _).far hsk _)
  have HKE := Lib.hid (show Blk ((w1.setCell ⟨sb, 0, none⟩ (.string (t ++ (⟨#[32]⟩ ++ t2)))).setCell ⟨kb, 0, none⟩ (.bool (ok && ok2))) kb 4 #[.bool (ok && ok2)] from (HK1.out.far (Ne.symm hsk) _).put 0 _)
  have n1s : (w1.setCell ⟨sb, 0, none⟩ (.string (t ++ (⟨#[32]⟩ ++ t2)))).cell? ⟨w.heap.size, 1, none⟩ = some (.pointer (some ⟨kb, 0, none⟩)) := (HN1.out.far (Ne.symm hsN) _).cell 1
  have c1s : (w1.setCell ⟨sb, 0, none⟩ (.string (t ++ (⟨#[32]⟩ ++ t2)))).cell? ⟨kb, 0, none⟩ = some (.bool ok) := (HK1.out.far (Ne.symm hsk) _).cell 0
  have c1sf := (HK1.out.far (p := ⟨sb, 0, none⟩) (Ne.symm hsk) (.string (t ++ (⟨#[32]⟩ ++ t2)))).frozen 0
  go_wp2_with fail
  clear n0 n1 c0 c0f c1 c1f
  generalize w1.setCell ⟨sb, 0, none⟩ (.string (t ++ (⟨#[32]⟩ ++ t2))) = w2 at *
  have HLN := Lib.hid (line_next HP1.out HP2.out p3 hne HXX.out (by omega) HSE.out HKE.out)
  clear HP1 HP2 HXX HSE HKE
  cases ok
  all_goals
    go_region
    all_goals
      go_wp2_with fail
      go_end0
      exact ⟨rfl, HXS.out.drewN 1, HLN.out⟩
end Go.Proofs.YtjhmehmmpfnnkaaDoor
