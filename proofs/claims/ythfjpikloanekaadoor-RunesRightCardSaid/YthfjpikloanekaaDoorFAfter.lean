/-
  Contracts: clone_any, backward1_in, backward_in, backward_stops, clone_n, after_in, after_some, after_none.
-/
import Derived.Test.YthfjpikloanekaaDoorFList
import Derived.RangeFuncBound
import Derived.RangeFuncCalls
import Derived.RangeFuncLeaves
import Derived.Shelf.Abstract
import Derived.TacticsInMore
import Derived.LoopNIn
import Derived.LoopIn
namespace Go.Proofs.YthfjpikloanekaaDoor
open Go.RowKit Utf
set_option maxRecDepth 100000
set_option linter.unusedSimpArgs false
set_option linter.unusedVariables false
attribute [local go_sem] Oper.semAt_some
open Go.Shelf

set_option maxHeartbeats 1000000 in
theorem clone_any (xs : List Nat) (b of cap : Nat) (w : World) (hl : xs.length ≤ 1000000) (hr : RowAt w (some ⟨b, of, none⟩) (runeRow xs)) :
    Calls Tryd.prog 15 #[.slice (some ⟨b, of, none⟩) xs.length cap] w fun e w' => ∃ v, e = .returned v ∧ Below w.heap.size w w' ∧ w'.ownsRow w.heap.size 21 1 v xs.length (runeRow xs) := by
  obtain ⟨i0, hi, hz0, hz1, hz2⟩ := info_parts Tryd.infoRune
  have heq := fun W => Lib.run_eql_slice_nil (P := Tryd.prog) W 35 21 (some ⟨b, of, none⟩) xs.length cap 0 0 Tryd.underlying35
  have HB0 := Lib.hid (((Below.refl w.heap.size w).alloc (Nat.le_refl _) (.cells #[] 21)))
  have HOW := Lib.hid (World.ownsRow_made (base := w.heap.size) (e := 21) (size := 1) w #[] 0 (Nat.le_refl _) (by simp [maxLen]) rfl)
  have HR := Lib.hid (hr.below HB0.out)
  have H1 := Lib.hid (show ∀ u ∈ runeRow xs, u.oneCell' = true by intro u hu; simp [runeRow] at hu; obtain ⟨c, _, rfl⟩ := hu; rfl)
  clear hr
  go_enter Tryd.func15, Tryd.ntmps15
  go_wp2_with (at_builtin; refine appS rfl _ _ 35 rfl 21 i0 (.int .i32 0) 4 Tryd.underlying35 hi hz0 hz1 hz2 rfl w.heap.size _ _ _ rfl HOW.out w.heap.size (Nat.le_refl _) HB0.out (by simp <;> omega) (runeRow xs) (some ⟨b, of, none⟩) xs.length cap (runeRow_len xs) H1.out rfl HR.out (by simp) (by simp) (by omega) (by omega) ?_)
  refine Lib.hid ?_
  intro v1 w1 hown1 hbel1 hgrow1
  go_wp2_with fail
  go_ret
  exact ⟨_, rfl, hbel1, by simpa using hown1⟩

set_option maxHeartbeats 2000000 in
theorem backward1_in (F : Fence) (n : Nat) (hF : F.fn 18) (hro : F.round = none) (hn : 1 ≤ n) (l Bs n₀ : Nat) (rs : List Nat) (ao : Option Addr) (cap : Nat) (hl : rs.length ≤ 1000000) (hBs : Bs < n₀) (f : Nat → AtRune rs)
    (hf : ∀ k, k < rs.length → (f k).1 = (rs.length - 1 - k, rs[rs.length - 1 - k]?.getD 0)) (J Jx : List (AtRune rs) → World → Prop)
    (hY : ∀ pre x W, J pre W → pre.length < rs.length → YieldAt F (n - 1) Tryd.prog l (encAt x) W fun e W' =>
      (e = .returned (.bool true) ∧ J (pre ++ [x]) W' ∧ Below n₀ W W') ∨ (e = .returned (.bool false) ∧ Jx (pre ++ [x]) W'))
    (W : World) (hc : W.cell? ⟨Bs, 0, none⟩ = some (.slice ao rs.length cap)) (hr : RowAt W ao (runeRow rs)) (hrb : ∀ ad, ao = some ad → ad.block < n₀) (h0 : J [] W) :
    CallsIn F n Tryd.prog 18 #[.func (.yield l) #[] #[], .pointer (some ⟨Bs, 0, none⟩)] W fun e W' => (∃ v, e = .returned v) ∧
      ((∃ ys, ys = fromEnd f rs.length ∧ J ys W') ∨ (∃ pre, (∃ k, k ≤ rs.length ∧ pre = fromEnd f k) ∧ Jx pre W')) := by
  have HR := Lib.hid hr
  have HRB := Lib.hid hrb
  have HC := Lib.hid hc
  have HF := Lib.hid hf
  have HY := Lib.hid hY
  clear hr hrb hf hY
  refine callsIn_of_wp Tryd.func18 rfl hF ?_ hro
  simp only [Tryd.ntmps18, List.size_toArray, List.length_cons, List.length_nil, Nat.reduceAdd, Nat.reduceSub, Array.replicate_succ, Array.replicate_zero, List.push_toArray, List.append_toArray, List.nil_append, List.cons_append]
  gi_wp2
  clear hc
  gi_loopw [3] (fun i wr => ∃ k : Nat, k ≤ rs.length ∧ i = .int .i64 ((rs.length : Int) - 1 - k) ∧ J (fromEnd f k) wr ∧ Below n₀ W wr)
    (fun i _ => (intOf i + 1).toNat)
  case atStart => exact ⟨0, Nat.zero_le _, by go_num, h0, Below.refl _ _⟩
  case round =>
    obtain ⟨k, hk, rfl, hJs, hnx⟩ := hrel
    have HNX := Lib.hid hnx
    clear hnx
    by_cases hlt : k < rs.length
    · have hmlt : rs.length - 1 - k < rs.length := by omega
      have hcx := (HNX.out.cell (p := ⟨Bs, 0, none⟩) hBs).trans HC.out
      obtain ⟨b, of, rfl, hce⟩ := HR.out (rs.length - 1 - k) (by rw [runeRow_len]; exact hmlt)
      rw [runeRow_at] at hce
      have hce2 := (HNX.out.cell (p := ⟨b, of + (rs.length - 1 - k), none⟩) (show b < n₀ from HRB.out ⟨b, of, none⟩ rfl)).trans hce
      clear hce
      have hfk := HF.out k hlt
      rw [List.getElem?_eq_getElem hmlt] at hfk
      obtain ⟨fn, tmps, assign, body, hy, hR⟩ := HY.out _ (f k) wr hJs (by rw [fromEnd_length]; exact hlt)
      simp only [encAt, hfk, Option.getD_some] at hy
      have HFK := Lib.hid hfk
      clear hfk
      generalize rs[rs.length - 1 - k] = c at *
      have hcast : (rs.length : Int) - 1 - (k : Int) = ((rs.length - 1 - k : Nat) : Int) := by omega
      rw [hcast]
      have HCA := Lib.hid hcast
      clear hcast
      generalize hm : rs.length - 1 - k = m at *
      have HM := Lib.hid hm
      clear hm
      have hmi : (m : Int) < (rs.length : Int) := by omega
      gi_wp2
      refine hR.mono ?_
      rintro e W3 (⟨rfl, hJ3, hk3⟩ | ⟨rfl, hJx3⟩)
      · gi_wp2
        go_roundw
        case rel => exact ⟨k + 1, by omega, by have := HCA.out; go_num, by rw [fromEnd_succ]; exact hJ3, HNX.out.trans hk3⟩
        case measure => have := HCA.out; simp [intOf] <;> omega
      · gi_wp2
        refine bodyPost_ret (results_none rfl _ _ _) rfl ?_
        exact ⟨⟨_, rfl⟩, .inr ⟨_, ⟨k + 1, by omega, (fromEnd_succ _ _).symm⟩, hJx3⟩⟩
    · obtain rfl : k = rs.length := by omega
      have hneg : ¬ (0 : Int) ≤ (rs.length : Int) - 1 - (rs.length : Int) := by omega
      gi_wp2
      go_end0
      exact ⟨⟨_, rfl⟩, .inl (by first | exact hJs | exact ⟨_, rfl, hJs⟩)⟩

set_option maxHeartbeats 1000000 in
theorem backward_in (F : Fence) (n : Nat) (hF : F.fn 14) (hro : F.round = none) (a : Option Addr) (len cap : Nat) (w : World) :
    CallsIn F n Tryd.prog 14 #[.slice a len cap] w fun e w' => e = .returned (.func (.func 18) #[] #[.pointer (some ⟨w.heap.size, 0, none⟩)]) ∧ w' = w.alloc (.cells #[.slice a len cap] 35) := by
  refine callsIn_of_wp Tryd.func14 rfl hF ?_ hro
  simp only [Tryd.ntmps14, List.size_toArray, List.length_cons, List.length_nil, Nat.reduceAdd, Nat.reduceSub, Array.replicate_succ, Array.replicate_zero, List.push_toArray, List.append_toArray, List.nil_append, List.cons_append]
  gi_wp2
  go_ret
  exact ⟨rfl, rfl⟩

theorem backward_stops (F : Fence) (n : Nat) (hF : F.fn 18) (hro : F.round = none) (hn : 1 ≤ n) (Bs n₀ : Nat) (rs : List Nat) (ao : Option Addr) (cap : Nat) (hl : rs.length ≤ 1000000) (w : World) (hBs : Bs < n₀) (hn₀ : n₀ ≤ w.heap.size) (f : Nat → AtRune rs)
    (hf : ∀ k, k < rs.length → (f k).1 = (rs.length - 1 - k, rs[rs.length - 1 - k]?.getD 0))
    (hc : w.cell? ⟨Bs, 0, none⟩ = some (.slice ao rs.length cap)) (hr : RowAt w ao (runeRow rs)) (hrb : ∀ ad, ao = some ad → ad.block < n₀) :
    SeqStopsK F n Tryd.prog 18 #[.pointer (some ⟨Bs, 0, none⟩)] (encAt (rs := rs)) (Below n₀) (fun ys => ys = fromEnd f rs.length) (fun pre => ∃ k, k ≤ rs.length ∧ pre = fromEnd f k) rs.length w := fun l J Jx W hW _ _ hY h0 => by
  have hc' := (hW.cell (p := ⟨Bs, 0, none⟩) (by show Bs < w.heap.size; omega)).trans hc
  exact backward1_in F n hF hro hn l Bs n₀ rs ao cap hl hBs f hf J Jx hY W hc' (hr.below hW) hrb h0

theorem clone_n (n : Nat) (xs : List Nat) (b of cap : Nat) (w : World) (hn : xs.length = n) (hl : n ≤ 1000000) (hr : RowAt w (some ⟨b, of, none⟩) (runeRow xs)) :
    Calls Tryd.prog 15 #[.slice (some ⟨b, of, none⟩) n cap] w fun e w' => ∃ v, e = .returned v ∧ Below w.heap.size w w' ∧ w'.ownsRow w.heap.size 21 1 v n (runeRow xs) := by
  subst hn
  exact clone_any xs b of cap w hl hr

set_option maxHeartbeats 4000000 in
theorem after_in (s : ByteArray) (rs : List Nat) (w : World) (hl : rs.length ≤ 1000000) (ho : allOk rs)
    (hli : ∀ W, Calls Tryd.prog 13 #[.string s] W fun e w' => ∃ v, e = .returned v ∧ Below W.heap.size W w' ∧ w'.ownsRow W.heap.size 21 1 v rs.length (runeRow rs)) :
    CallsIn Fence.wide 6 Tryd.prog 11 #[.string s] w fun e w' => e = .returned (.string (mkS (encAll ((afterL rs).getD [])))) ∧ Below w.heap.size w w' := by
  have HLI := Lib.hid hli
  clear hli
  obtain ⟨i0, hi, hz0, hz1, hz2⟩ := info_parts Tryd.infoRune
  refine callsIn_of_wp_marks Tryd.func11 rfl trivial ?_ rfl
  simp only [Tryd.ntmps11, List.size_toArray, List.length_cons, List.length_nil, Nat.reduceAdd, Nat.reduceSub, Array.replicate_succ, Array.replicate_zero, List.push_toArray, List.append_toArray, List.nil_append, List.cons_append]
  gi_wp2_with fail
  refine ⟨trivial, ?_⟩
  refine (callsIn_wide.2 (HLI.out _)).mono ?_
  rintro e w1 ⟨v, rfl, hb1, hown1⟩
  have HOWN := Lib.hid hown1
  have HLTB := Lib.hid hown1.lt
  obtain ⟨ao, cap, rfl, hr1, -, hcap, hcm, hao, hsp⟩ := own_row hown1
  have HB1 := Lib.hid hb1
  have HR1 := Lib.hid hr1
  have HSP := Lib.hid hsp
  clear hb1 hr1 hsp hao hown1
  gi_wp2_with fail
  refine ⟨trivial, ?_⟩
  refine (backward_in Fence.wide _ trivial rfl _ _ _ _).mono ?_
  rintro e w2 ⟨rfl, rfl⟩
  gi_wp2_with fail
  have bR := Boxed.new w 9 (.string ByteArray.empty)
  have bR1 : Boxed w1 w.heap.size 9 (.string ByteArray.empty) := (HB1.out.block _ (by simp)).trans bR
  have bL := Boxed.new w1 35 (.slice ao rs.length cap)
  have bN := Boxed.new (w1.alloc (.cells #[.slice ao rs.length cap] 35)) 35 (.slice ao rs.length cap)
  rw [World.size_alloc] at bN
  have hsz : w.heap.size + 1 ≤ w1.heap.size := by have := HB1.out.size; simpa using this
  have hB1 : Below w.heap.size w w1 := ((Below.refl _ w).alloc (Nat.le_refl _) _).trans (HB1.out.mono (by simp))
  have hB0 : Below w.heap.size w ((w1.alloc (.cells #[.slice ao rs.length cap] 35)).alloc (.cells #[.slice ao rs.length cap] 35)) := (hB1.alloc (by omega) _).alloc (by simp; omega) _
  have hB2 : Below w1.heap.size w1 ((w1.alloc (.cells #[.slice ao rs.length cap] 35)).alloc (.cells #[.slice ao rs.length cap] 35)) := ((Below.refl _ w1).alloc (Nat.le_refl _) _).alloc (by simp) _
  refine wpIn_rangeFunc_ownG rfl (show 1 ≤ 6 by decide) (gf := 18) (lb := #[.pointer (some ⟨w1.heap.size + 1, 0, none⟩)]) rfl trivial (enters_of Tryd.func18 (by kernel_rfl) rfl)
    (backward_stops Fence.wide 5 trivial rfl (by decide) (w1.heap.size + 1) (w1.heap.size + 2) rs ao cap (by omega) _ (by omega) (by simp) (backF rs ho) (fun k _ => rfl) bN.cell (HR1.out.below hB2) (fun ad had => by have := (HLTB.out ad.block (by rw [had]; rfl)).2; omega)) belowK_t (belowK_b (by simp)) (Below.refl _ _) (by intro x; rfl)
    (fun pre W => AI w w1 ao cap rs pre W ∧ Below w.heap.size w W)
    (fun c pre W => AX w rs c pre W ∧ Below w.heap.size w W)
    (OwnFrom.and (Own.from (fun s A B row hs hg hr => ⟨hs.1, cell_kept hs.2.1 hg hr, (frozen_kept hs.2.1 hg hr).trans hs.2.2.1, cell_kept hs.2.2.2.1 hg hr, fun i hi => by obtain ⟨b, o, e1, hc⟩ := hs.2.2.2.2 i hi; exact ⟨b, o, e1, cell_kept hc hg hr⟩⟩) _) (ownFrom_below (Nat.le_refl _) (by simp; omega)))
    (fun c => OwnFrom.and (Own.from (fun s A B row hs hg hr => by obtain ⟨hc, ini, last, e1, e2, e3, e4⟩ := hs; exact ⟨hc, ini, last, e1, e2, e3, cell_kept e4 hg hr⟩) _) (ownFrom_below (Nat.le_refl _) (by simp; omega)))
    ⟨⟨by simp, ((bR1.alloc _).alloc _).cell, ((bR1.alloc _).alloc _).frozen, (bL.alloc _).cell, HR1.out.below hB2⟩, hB0⟩
    (fun x => { tmps := #[.string s, undef, .pointer (some ⟨w.heap.size, 0, none⟩), .pointer (some ⟨w1.heap.size, 0, none⟩), .int .i64 (x.1.1 : Int), .int .i32 (x.1.2 : Int), .string s, .slice ao rs.length cap, .slice ao rs.length cap, .func (.func 18) #[] #[.pointer (some ⟨w1.heap.size + 1, 0, none⟩)], .int .i64 (x.1.1 : Int), .int .i32 (x.1.2 : Int), undef, undef, undef, undef, undef, undef, undef, undef, undef, undef, undef, undef, undef, undef, undef, undef, undef, undef, undef, undef, undef, undef], defers := [] }) ?assign ?body ?done ?stop
  case assign =>
    intro l x W K hK
    simp only [encAt]
    gi_wp2
    exact hK
  case body =>
    rintro l pre x W ⟨⟨hpre, hc0, hf0, hc1, hrow⟩, hB⟩ hlen
    obtain ⟨⟨i, c⟩, hx1, hx2⟩ := x
    have hne : rs ≠ [] := fun h => by
      have h0 : rs.length = 0 := by rw [h]; rfl
      omega
    have hilt : i < rs.length := hx1 hne
    have hcok : okR c = true := hx2
    clear hlen hne
    obtain ⟨b, of, hao, -⟩ := hrow i (by rw [runeRow_len]; exact hilt)
    subst hao
    have HX1 := Lib.hid hx1
    have HX2 := Lib.hid hx2
    have HROW := Lib.hid hrow
    have HPRE := Lib.hid hpre
    have HB := Lib.hid hB
    have HBS := Lib.hid hB.size
    clear hrow hpre hB
    have hcb : c ≤ 1114111 := by rw [okR_def] at hcok; omega
    by_cases hlast : c = 1114111
    · have hl1 : ((c : Int) == 1114111) = true := by simp; omega
      have HLA := Lib.hid hlast
      clear hlast
      gi_wp2_with fail
      exact ⟨KeepsFrom.refl _ _, Below.refl _ _, ⟨fun p hp' => (List.mem_append.1 hp').elim (HPRE.out p) (fun e => by simp at e; subst e; exact HLA.out), hc0, hf0, hc1, HROW.out⟩, HB.out⟩
    · have hl1 : ((c : Int) == 1114111) = false := by simp; omega
      have HLA := Lib.hid hlast
      clear hlast
      have hti : (rs.take i).length = i := by rw [List.length_take]; omega
      have HTL := Lib.hid hti
      have hrt : RowAt W (some ⟨b, of, none⟩) (runeRow (rs.take i)) := by
        intro j hj
        rw [runeRow_len, hti] at hj
        obtain ⟨b', o', e1, hc'⟩ := HROW.out j (by rw [runeRow_len]; omega)
        refine ⟨b', o', e1, ?_⟩
        rw [runeRow_at] at hc' ⊢
        rw [List.getElem_take]
        exact hc'
      have HRT := Lib.hid hrt
      clear hti hrt
      by_cases hs : c = 55295
      · have hl2 : ((c : Int) == 55295) = true := by simp; omega
        have HSU := Lib.hid (show succR c = 57344 by simp [succR, hs])
        clear hs
        gi_wp2_with fail
        refine ⟨trivial, ?_⟩
        refine (CallsIn.inRound l (callsIn_wide.2 (clone_n i (rs.take i) b of cap W HTL.out (by omega) HRT.out))).mono ?_
        rintro e w3 ⟨v3, rfl, hb3, hown3⟩
        have HB3 := Lib.hid hb3
        have HO3 := Lib.hid hown3
        clear hb3 hown3
        gi_wp2_with (gi_at_builtin; refine appIn1 rfl _ _ 35 rfl 21 i0 (.int .i32 0) 4 Tryd.underlying35 hi hz0 hz1 hz2 rfl _ _ _ rfl HO3.out HB3.out (.int .i32 57344) rfl rfl (by omega) (by omega) ?_)
        refine Lib.hid ?_
        intro v4 w4 hown4 hb4 hk4
        have hown5 : w4.ownsRow W.heap.size 21 1 v4 (rs.take i ++ [succR c]).length (runeRow (rs.take i ++ [succR c])) := by
          rw [HSU.out, List.length_append, HTL.out]
          simpa [runeRow] using hown4
        have hcv := conv_runes (P := Tryd.prog) (src := 35) (dst := 9) hown5 Tryd.underlying35 Tryd.underlying21 Tryd.underlying9
        have hc4 := (hb4.cell (p := ⟨w.heap.size, 0, none⟩) (World.block_lt_of_cell? W _ hc0)).trans hc0
        have hf4 := (hb4.frozen (p := ⟨w.heap.size, 0, none⟩) (World.block_lt_of_cell? W _ hc0)).trans hf0
        have HB4 := Lib.hid hb4
        have HK4 := Lib.hid hk4
        clear hown4 hown5 hb4 hk4
        gi_wp2_with fail
        exact ⟨(HK4.out.trans (KeepsOthers.setCell _ _ _)).from _, ⟨rfl, pre, ⟨(i, c), HX1.out, HX2.out⟩, rfl, HPRE.out, HLA.out, World.cell?_setCell_same' _ _ _ (by rw [hc4]; rfl)⟩, (HB.out.trans (HB4.out.mono HBS.out)).setCell (p := ⟨w.heap.size, 0, none⟩) (Nat.le_refl _) _⟩
      · have hl2 : ((c : Int) == 55295) = false := by simp; omega
        have HSU := Lib.hid (show succR c = c + 1 by simp [succR, hs])
        clear hs
        gi_wp2_with fail
        refine ⟨trivial, ?_⟩
        refine (CallsIn.inRound l (callsIn_wide.2 (clone_n i (rs.take i) b of cap W HTL.out (by omega) HRT.out))).mono ?_
        rintro e w3 ⟨v3, rfl, hb3, hown3⟩
        have HB3 := Lib.hid hb3
        have HO3 := Lib.hid hown3
        clear hb3 hown3
        gi_wp2_with (gi_at_builtin; refine appIn1 rfl _ _ 35 rfl 21 i0 (.int .i32 0) 4 Tryd.underlying35 hi hz0 hz1 hz2 rfl _ _ _ rfl HO3.out HB3.out (.int .i32 ((c : Int) + 1)) rfl rfl (by omega) (by omega) ?_)
        refine Lib.hid ?_
        intro v4 w4 hown4 hb4 hk4
        have hown5 : w4.ownsRow W.heap.size 21 1 v4 (rs.take i ++ [succR c]).length (runeRow (rs.take i ++ [succR c])) := by
          rw [HSU.out, List.length_append, HTL.out]
          simpa [runeRow] using hown4
        have hcv := conv_runes (P := Tryd.prog) (src := 35) (dst := 9) hown5 Tryd.underlying35 Tryd.underlying21 Tryd.underlying9
        have hc4 := (hb4.cell (p := ⟨w.heap.size, 0, none⟩) (World.block_lt_of_cell? W _ hc0)).trans hc0
        have hf4 := (hb4.frozen (p := ⟨w.heap.size, 0, none⟩) (World.block_lt_of_cell? W _ hc0)).trans hf0
        have HB4 := Lib.hid hb4
        have HK4 := Lib.hid hk4
        clear hown4 hown5 hb4 hk4
        gi_wp2_with fail
        exact ⟨(HK4.out.trans (KeepsOthers.setCell _ _ _)).from _, ⟨rfl, pre, ⟨(i, c), HX1.out, HX2.out⟩, rfl, HPRE.out, HLA.out, World.cell?_setCell_same' _ _ _ (by rw [hc4]; rfl)⟩, (HB.out.trans (HB4.out.mono HBS.out)).setCell (p := ⟨w.heap.size, 0, none⟩) (Nat.le_refl _) _⟩
  case done =>
    rintro D ys W hD rfl ⟨⟨hpre, hc0, hf0, hc1, hrow⟩, hB⟩ hK
    have hnone := afterL_none (rs := rs) (fun j hj => hpre (backF rs ho j) (by simp only [fromEnd, List.mem_map, List.mem_range]; exact ⟨j, hj, rfl⟩))
    have HN := Lib.hid hnone
    have HB := Lib.hid hB
    clear hpre hrow hnone hB
    gi_wp2
    have hK' := (KeepsOthers.setCell W ⟨w.heap.size, 0, none⟩ (.string ⟨#[]⟩)).same D _ hK rfl
    refine ⟨by simp, .inl ⟨_, _, rfl, run_takeDeferred hK', ?_⟩⟩
    have hc5 := cell_kept (World.cell?_setCell_same' W ⟨w.heap.size, 0, none⟩ (.string ⟨#[]⟩) (by rw [hc0]; rfl)) (grownBy_putObj' _ D (.deferred none)) (fun r e => by cases e; exact ⟨_, hK', rfl⟩)
    refine ⟨.string ⟨#[]⟩, ?_, ?_, (HB.out.setCell (p := ⟨w.heap.size, 0, none⟩) (Nat.le_refl _) _).trans (belowK_b (w := w) (Nat.le_refl _) _ D _ _ (by simp at hD; omega) hK' rfl rfl)⟩
    · simp [results, Tryd.f11, go_sem, hc5]
    · rw [HN.out]; rfl
  case stop =>
    rintro D c pre W hD ⟨k, hk, rfl⟩ ⟨⟨rfl, ini, last, e1, e2, e3, hcr⟩, hB⟩ hK
    have HB := Lib.hid hB
    clear hB
    gi_wp2
    refine ⟨by simp, .inl ⟨_, _, rfl, run_takeDeferred hK, ?_⟩⟩
    have hc5 := cell_kept hcr (grownBy_putObj' _ D (.deferred none)) (fun r e => by cases e; exact ⟨_, hK, rfl⟩)
    obtain ⟨k', rfl⟩ : ∃ k', k = k' + 1 := by
      cases k with
      | zero => simp [fromEnd] at e1
      | succ k' => exact ⟨k', rfl⟩
    rw [fromEnd_succ] at e1
    obtain ⟨rfl, e5⟩ := List.append_inj' e1 rfl
    obtain rfl : backF rs ho k' = last := by simpa using e5
    have hat := afterL_at (rs := rs) k' (by omega) (fun j hj => e2 (backF rs ho j) (by simp only [fromEnd, List.mem_map, List.mem_range]; exact ⟨j, hj, rfl⟩)) e3
    refine ⟨.string (mkS (encAll (rs.take (backF rs ho k').1.1 ++ [succR (backF rs ho k').1.2]))), ?_, ?_, HB.out.trans (belowK_b (w := w) (Nat.le_refl _) W D _ _ (by simp at hD; omega) hK rfl rfl)⟩
    · simp [results, Tryd.f11, go_sem, hc5]
    · rw [hat]; rfl

theorem after_some (s : ByteArray) (rs : List Nat) (w : World) (hs : s.size ≤ 1000000) (ho : allOk rs) (h : s.data.toList = encAll rs) :
    Calls Tryd.prog 11 #[.string s] w fun e w' => e = .returned (.string (mkS (encAll ((afterL rs).getD [])))) ∧ Below w.heap.size w w' :=
  callsIn_wide.1 (after_in s rs w (by have := len_le h; omega) ho (fun W => list_some s rs W hs ho h))

theorem after_none (s : ByteArray) (w : World) (hs : s.size ≤ maxLen) (hd : dec s.data.toList = none) :
    Calls Tryd.prog 11 #[.string s] w fun e w' => e = .returned (.string (mkS [])) ∧ Below w.heap.size w w' :=
  callsIn_wide.1 (after_in s [] w (by simp) allOk_nil (fun W => (list_none s W hs hd).mono fun e w' ⟨h1, h2⟩ => ⟨_, h1, h2, World.ownsRow_nil _ _ _ _⟩))
end Go.Proofs.YthfjpikloanekaaDoor
