/-
  tidewaterref02.After; slices.Clone and slices.Backward over runes.
-/
import Derived.Test.YthfjpikloanekaaRunesF
import Derived.RangeFuncNested
import Derived.RangeFuncBound
import Derived.RangeFuncCalls
import Derived.RangeFuncLeaves
import Derived.RangeFuncBox
import Derived.Shelf.Abstract
import Derived.OwnWalkIn
import Derived.TacticsInMore
import Derived.LoopNIn
import Derived.LoopIn
import Derived.Laws.Cover4
namespace Go.Proofs.Ythfjpikloanekaa
open Go.RowKit Utf Go.Shelf
set_option maxRecDepth 100000
set_option linter.unusedSimpArgs false
set_option linter.unusedVariables false
attribute [local go_sem] Oper.semAt_some

/-- A rune's successor: behind the last one ahead of the surrogates comes the first one behind them. -/
def succR (c : Nat) : Nat := if c = 55295 then 57344 else c + 1
def afterAt (rs : List Nat) : Nat → Option (List Nat)
  | 0 => none
  | n + 1 => if rs[n]?.getD 0 = 1114111 then afterAt rs n else some (rs.take n ++ [succR (rs[n]?.getD 0)])
def afterL (rs : List Nat) : Option (List Nat) := afterAt rs rs.length

theorem succR_ok {c : Nat} (h : okR c = true) (hn : c ≠ 1114111) : okR (succR c) = true := by
  rw [okR_def] at *
  unfold succR
  split <;> omega
theorem afterAt_ok {rs : List Nat} (h : allOk rs) : ∀ n t, n ≤ rs.length → afterAt rs n = some t → allOk t
  | 0, t, _, h' => by cases h'
  | n + 1, t, hn, h' => by
    simp only [afterAt] at h'
    split at h'
    · exact afterAt_ok h n t (by omega) h'
    · rename_i hne
      cases h'
      have hlt : n < rs.length := by omega
      rw [List.getElem?_eq_getElem hlt] at hne ⊢
      refine allOk_append.2 ⟨fun c hc => h c (List.mem_of_mem_take hc), allOk_cons.2 ⟨succR_ok (h _ (List.getElem_mem hlt)) hne, allOk_nil⟩⟩
theorem afterAt_len {rs : List Nat} : ∀ n t, afterAt rs n = some t → t.length ≤ n
  | 0, t, h' => by cases h'
  | n + 1, t, h' => by
    simp only [afterAt] at h'
    split at h'
    · have := afterAt_len n t h'; omega
    · cases h'; simp; omega

set_option maxHeartbeats 2000000 in
theorem refAfter_any (rs : List Nat) (B : Nat) (v : Value) (w : World) (hl : rs.length ≤ 1000000) (ho : allOk rs) (hv : w.ownsRow B 3 1 v rs.length (natRow rs)) :
    Calls Try.prog 10 #[v] w fun e w' => ∃ v', e = .returned (.tuple #[v', .bool (afterL rs).isSome]) ∧ Below w.heap.size w w' ∧ ∀ t, afterL rs = some t → w'.ownsRow w.heap.size 3 1 v' t.length (natRow t) := by
  obtain ⟨i0, hi, hz0, hz1, hz2⟩ := info_parts Try.infoInt
  obtain ⟨ao, cap, rfl, hr, -, hcap, hcm, hao, hsp⟩ := own_row hv
  have HO := Lib.hid ho
  have HR := Lib.hid hr
  have HSP := Lib.hid hsp
  unfold maxLen at hcm
  clear ho hr hv hao hsp
  go_enter Try.func10, Try.ntmps10
  go_wp2_with fail
  go_loop [4] (fun i => ∃ k : Nat, k ≤ rs.length ∧ i = .int .i64 k ∧ Hid (afterAt rs k = afterL rs)) (fun i => (intOf i).toNat)
  case atStart => exact ⟨rs.length, Nat.le_refl _, rfl, rfl⟩
  case round =>
    obtain ⟨k, hk, rfl, HC⟩ := hrel
    by_cases hk0 : k = 0
    · subst hk0
      go_wp2_with fail
      go_ret2
      have h1 := HC.out
      simp only [afterAt] at h1
      rw [← h1]
      exact ⟨_, rfl, Below.refl _ _, fun _ h => by cases h⟩
    · obtain ⟨m, rfl⟩ : ∃ m, k = m + 1 := ⟨k - 1, by omega⟩
      have hlt : m < rs.length := by omega
      obtain ⟨b, of, rfl, hc⟩ := HR.out m (by rw [natRow_len]; exact hlt)
      rw [natRow_at] at hc
      have hidx : ((m + 1 : Nat) : Int) - 1 = (m : Int) := by omega
      have hpos : (0 : Int) < ((m + 1 : Nat) : Int) := by omega
      have hok := HO.out _ (List.getElem_mem hlt)
      have HG := Lib.hid (show rs[m]?.getD 0 = rs[m] by rw [List.getElem?_eq_getElem hlt]; rfl)
      have hcb : rs[m] ≤ 1114111 := by rw [okR_def] at hok; omega
      clear hok
      generalize rs[m] = c at *
      have HST := Lib.hid (show afterL rs = if c = 1114111 then afterAt rs m else some (rs.take m ++ [succR c]) by rw [← HC.out]; simp only [afterAt, HG.out])
      by_cases hlast : c = 1114111
      · have hl' : ((c : Int) == 1114111) = true := by simp; omega
        have HLS := Lib.hid hlast
        clear hlast
        go_wp2_with fail
        go_round
        case rel => exact ⟨m, by omega, by first | rfl | go_num, by rw [HST.out, if_pos HLS.out]; rfl⟩
        case measure => simp [intOf] <;> omega
      · have hl' : ((c : Int) == 1114111) = false := by simp; omega
        have HLS := Lib.hid (show afterL rs = some (rs.take m ++ [succR c]) by rw [HST.out, if_neg hlast])
        clear hlast
        have hrow : RowAt (w.alloc (.cells #[] 3)) (some ⟨b, of, none⟩) (natRow (rs.take m)) := by
          intro i hi
          rw [natRow_len, List.length_take] at hi
          obtain ⟨b', o', e1, hc'⟩ := HR.out i (by rw [natRow_len]; omega)
          refine ⟨b', o', e1, ?_⟩
          rw [natRow_at] at hc' ⊢
          rw [List.getElem_take]
          exact (((Below.refl _ w).alloc (Nat.le_refl _) _).cell (World.block_lt_of_cell? w _ hc')).trans hc'
        have HRW := Lib.hid hrow
        have HB0 := Lib.hid (((Below.refl w.heap.size w).alloc (Nat.le_refl _) (.cells #[] 3)))
        have HOW := Lib.hid (World.ownsRow_made (base := w.heap.size) (e := 3) (size := 1) w #[] 0 (Nat.le_refl _) (by simp [maxLen]) rfl)
        have HTL := Lib.hid (show (natRow (rs.take m)).length = m by rw [natRow_len, List.length_take]; omega)
        clear hrow
        by_cases hs : c = 55295
        · have hs' : ((c : Int) + 1 == 55296) = true := by simp; omega
          have HSS := Lib.hid (show succR c = 57344 by simp [succR, hs])
          clear hs
          go_wp2_with (at_builtin; refine appS rfl _ _ 24 rfl 3 i0 (.int .i64 0) 8 Try.underlying24 hi hz0 hz1 hz2 rfl w.heap.size _ _ _ rfl HOW.out w.heap.size (Nat.le_refl _) HB0.out (by simp <;> omega) (natRow (rs.take m)) (some ⟨b, of, none⟩) m cap HTL.out (natRow_one _) rfl HRW.out (by simp) (by simp) (by omega) (by omega) ?_)
          refine Lib.hid ?_
          intro v1 w1 hown1 hbel1 hgrow1
          have hsz1 := hgrow1.size
          simp at hsz1
          go_wp2_with (at_builtin; refine app1 rfl _ _ 24 rfl 3 i0 (.int .i64 0) 8 Try.underlying24 hi hz0 hz1 hz2 rfl w.heap.size _ _ _ rfl hown1 w.heap.size (Nat.le_refl _) hbel1 (by omega) (.int .i64 57344) rfl rfl (by omega) (by omega) ?_)
          refine Lib.hid ?_
          intro v2 w2 hown2 hbel2 hgrow2
          go_wp2_with fail
          go_ret2
          rw [HLS.out]
          refine ⟨_, rfl, hbel2, fun t h => ?_⟩
          cases h
          rw [HSS.out, ← natRow_snoc _ _ 57344 rfl, List.length_append, List.length_take, Nat.min_eq_left (by omega)]
          simpa using hown2
        · have hs' : ((c : Int) + 1 == 55296) = false := by simp; omega
          have HSS := Lib.hid (show succR c = c + 1 by simp [succR, hs])
          clear hs
          go_wp2_with (at_builtin; refine appS rfl _ _ 24 rfl 3 i0 (.int .i64 0) 8 Try.underlying24 hi hz0 hz1 hz2 rfl w.heap.size _ _ _ rfl HOW.out w.heap.size (Nat.le_refl _) HB0.out (by simp <;> omega) (natRow (rs.take m)) (some ⟨b, of, none⟩) m cap HTL.out (natRow_one _) rfl HRW.out (by simp) (by simp) (by omega) (by omega) ?_)
          refine Lib.hid ?_
          intro v1 w1 hown1 hbel1 hgrow1
          have hsz1 := hgrow1.size
          simp at hsz1
          go_wp2_with (at_builtin; refine app1 rfl _ _ 24 rfl 3 i0 (.int .i64 0) 8 Try.underlying24 hi hz0 hz1 hz2 rfl w.heap.size _ _ _ rfl hown1 w.heap.size (Nat.le_refl _) hbel1 (by omega) (.int .i64 ((c : Int) + 1)) rfl rfl (by omega) (by omega) ?_)
          refine Lib.hid ?_
          intro v2 w2 hown2 hbel2 hgrow2
          go_wp2_with fail
          go_ret2
          rw [HLS.out]
          refine ⟨_, rfl, hbel2, fun t h => ?_⟩
          cases h
          rw [HSS.out, ← natRow_snoc _ _ ((c : Int) + 1) (by omega), List.length_append, List.length_take, Nat.min_eq_left (by omega)]
          simpa using hown2

set_option maxHeartbeats 1000000 in
theorem clone_any (xs : List Nat) (b of cap : Nat) (w : World) (hl : xs.length ≤ 1000000) (hr : RowAt w (some ⟨b, of, none⟩) (runeRow xs)) :
    Calls Try.prog 24 #[.slice (some ⟨b, of, none⟩) xs.length cap] w fun e w' => ∃ v, e = .returned v ∧ Below w.heap.size w w' ∧ w'.ownsRow w.heap.size 21 1 v xs.length (runeRow xs) := by
  obtain ⟨i0, hi, hz0, hz1, hz2⟩ := info_parts Try.infoRune
  have heq := fun W => Lib.run_eql_slice_nil (P := Try.prog) W 40 21 (some ⟨b, of, none⟩) xs.length cap 0 0 Try.underlying40
  have HB0 := Lib.hid (((Below.refl w.heap.size w).alloc (Nat.le_refl _) (.cells #[] 21)))
  have HOW := Lib.hid (World.ownsRow_made (base := w.heap.size) (e := 21) (size := 1) w #[] 0 (Nat.le_refl _) (by simp [maxLen]) rfl)
  have HR := Lib.hid (hr.below HB0.out)
  have H1 := Lib.hid (show ∀ u ∈ runeRow xs, u.oneCell' = true by intro u hu; simp [runeRow] at hu; obtain ⟨c, _, rfl⟩ := hu; rfl)
  clear hr
  go_enter Try.func24, Try.ntmps24
  go_wp2_with (at_builtin; refine appS rfl _ _ 40 rfl 21 i0 (.int .i32 0) 4 Try.underlying40 hi hz0 hz1 hz2 rfl w.heap.size _ _ _ rfl HOW.out w.heap.size (Nat.le_refl _) HB0.out (by simp <;> omega) (runeRow xs) (some ⟨b, of, none⟩) xs.length cap (runeRow_len xs) H1.out rfl HR.out (by simp) (by simp) (by omega) (by omega) ?_)
  refine Lib.hid ?_
  intro v1 w1 hown1 hbel1 hgrow1
  go_wp2_with fail
  go_ret
  exact ⟨_, rfl, hbel1, by simpa using hown1⟩
end Go.Proofs.Ythfjpikloanekaa
