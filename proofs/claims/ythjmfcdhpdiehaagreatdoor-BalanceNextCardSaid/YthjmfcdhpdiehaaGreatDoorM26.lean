/-
  tidewaterref20.Apply.
  The law's made: a map, and its model, out of entries.
  The laws' long: is there more than is asked?
  The laws' total, home, alive.
  The walk of the law BalanceEnds.
-/
import Derived.Test.YthjmfcdhpdiehaaGreatDoorM22
import Derived.Test.YthjmfcdhpdiehaaGreatDoorM23
import Derived.Test.YthjmfcdhpdiehaaGreatDoorM25
import Derived.Test.YthjmfcdhpdiehaaGreatDoorM19
import Derived.Test.YthjmfcdhpdiehaaGreatDoorM24
import Derived.Test.YthjmfcdhpdiehaaGreatDoorM05
namespace Go.Proofs.YthjmfcdhpdiehaaGreatDoor
open Go.RowKit Utf
set_option maxRecDepth 100000
set_option linter.unusedSimpArgs false
set_option linter.unusedVariables false

set_option maxHeartbeats 4000000 in
theorem rapply_bad (b B : Nat) (m : RM) (e : EN) (t : Int) (w : World) (hm : RMAt w B b m) (ha : e.at w) (hc : rcountsP m e = false ∨ t < 0 ∨ 4095 < t) :
    Calls Tryz.prog 30 #[.pointer (some ⟨b, 0, none⟩), .agg e.cells.toArray, .int .i64 t] w fun e' w' => e' = .returned (.bool false) ∧ Below w.heap.size w w' := by
  obtain ⟨vl, vu, ve, hm⟩ := hm
  have H0 : Hid (RC w b B m e vl vu ve (w.alloc (.cells #[.int .i64 e.kind, .int .i64 e.shard, .int .i64 e.other, .int .i64 e.server, .int .i64 e.client, .int .i64 e.seq, .slice e.ao e.no e.co, .string e.key, .int .i64 e.upto, .int .i64 e.part, .int .i64 e.parts, .slice e.ad e.nd e.cd] 44))) := Lib.hid (RC.new hm ha)
  have HCA := Lib.hid (fun W hm ha => rcounts_any b B m e W hm ha)
  have HC := Lib.hid hc
  clear hm ha hc
  show Calls Tryz.prog 30 #[.pointer (some ⟨b, 0, none⟩), .agg #[.int .i64 e.kind, .int .i64 e.shard, .int .i64 e.other, .int .i64 e.server, .int .i64 e.client, .int .i64 e.seq, .slice e.ao e.no e.co, .string e.key, .int .i64 e.upto, .int .i64 e.part, .int .i64 e.parts, .slice e.ad e.nd e.cd], .int .i64 t] w _
  go_enter Tryz.func30, Tryz.ntmps30
  go_wp2_with (refine wpList_load_hid rfl 44 (.tmp 4) rfl w.heap.size rfl 44 e.cells.toArray H0.out.box _ Tryz.underlying44 rfl (by kernel_rfl) ?_)
  refine Lib.hid ?_
  go_wp2_with fail
  refine (HCA.out _ H0.out.mp H0.out.ent).mono ?_
  rintro e' w1 ⟨rfl, hb1⟩
  have S1 := Lib.hid (H0.out.next hb1)
  clear hb1
  cases hr : rcountsP m e with
  | false =>
    clear hr
    go_wp2_with fail
    go_ret
    exact ⟨rfl, S1.out.bel⟩
  | true =>
    have hc := HC.out
    rw [hr] at hc
    clear hr
    by_cases h0 : t < 0
    · clear hc
      go_wp2_with fail
      go_ret
      exact ⟨rfl, S1.out.bel⟩
    · have h1 : 4095 < t := by
        rcases hc with h | h | h
        · cases h
        · exact absurd h h0
        · exact h
      clear hc
      go_wp2_with fail
      go_ret
      exact ⟨rfl, S1.out.bel⟩

theorem rapply_any (b B : Nat) (m : RM) (e : EN) (t : Int) (w : World) (hm : RMAt w B b m) (ha : e.at w) (hln : m.live.length ≤ 9000) (hlu : m.used.length ≤ 9000) (hle : m.evs.length ≤ 9000) (hB : B ≤ w.heap.size) :
    Calls Tryz.prog 30 #[.pointer (some ⟨b, 0, none⟩), .agg e.cells.toArray, .int .i64 t] w fun e' w' => e' = .returned (.bool (rapplyP m e t).1) ∧ RMAt w' B b (rapplyP m e t).2 ∧ Chg RT B w w' := by
  by_cases hc : (rcountsP m e && decide (0 ≤ t) && decide (t ≤ 4095)) = true
  · have hz : rapplyP m e t = (true, if e.kind = 2 then rmoveP m e else if e.kind = 3 then rsplitP m e t.toNat else rmergeP m e t.toNat) := by unfold rapplyP; rw [if_pos hc]
    rw [hz]
    simp only [Bool.and_eq_true, decide_eq_true_eq] at hc
    obtain ⟨⟨h1, h2⟩, h3⟩ := hc
    obtain ⟨n, rfl⟩ : ∃ n : Nat, t = (n : Int) := ⟨t.toNat, by omega⟩
    rw [Int.toNat_natCast]
    dsimp only
    rcases rcounts_kind h1 with hk | hk | hk
    · rw [if_pos hk]
      exact rmove_any b B m e n w hm ha h1 hk (by omega) hln hlu hle hB
    · rw [if_neg (by omega), if_pos hk]
      exact rsplit_any b B m e n w hm ha h1 hk (by omega) hln hlu hle hB
    · rw [if_neg (by omega), if_neg (by omega)]
      exact rmerge_any b B m e n w hm ha h1 hk (by omega) hln hlu hle hB
  · have hz : rapplyP m e t = (false, m) := by unfold rapplyP; rw [if_neg hc]
    rw [hz]
    have h : rcountsP m e = false ∨ t < 0 ∨ 4095 < t := by
      cases h : rcountsP m e with
      | false => exact .inl rfl
      | true =>
        right
        by_cases h0 : t < 0
        · exact .inl h0
        · right
          rw [h] at hc
          have : ¬ t ≤ 4095 := fun h4 => hc (by simp [h4]; omega)
          omega
    exact (rapply_bad b B m e t w hm ha h).mono fun e' w' h => ⟨h.1, hm.below h.2, Chg.of_below h.2⟩
end Go.Proofs.YthjmfcdhpdiehaaGreatDoor

namespace Go.Proofs.YthjmfcdhpdiehaaGreatDoor
open Go.RowKit Utf
set_option maxRecDepth 100000
set_option linter.unusedSimpArgs false
set_option linter.unusedVariables false

/-- An entry at an address. -/
abbrev Ac := EN × Int
def acC (x : Ac) : List Value := x.1.cells ++ [.int .i64 x.2]
theorem acC_len (x : Ac) : (acC x).length = 13 := rfl
def acRow (l : List Ac) : List Value := l.flatMap acC
def madeP (l : List Ac) : PM := l.foldl (fun m a => (applyP m a.1 a.2).2) PM.new
def rmadeP (l : List Ac) : RM := l.foldl (fun m a => (rapplyP m a.1 a.2).2) RM.new
/-- How long the model's lists are. -/
structure RLen (m : RM) (n : Nat) : Prop where
  live : m.live.length ≤ n
  used : m.used.length ≤ n
  evs : m.evs.length ≤ n
theorem RLen.mono {m : RM} {n k : Nat} (h : RLen m n) (hk : n ≤ k) : RLen m k := ⟨Nat.le_trans h.live hk, Nat.le_trans h.used hk, Nat.le_trans h.evs hk⟩
theorem RLen.apply {m : RM} {n : Nat} (h : RLen m n) (e : EN) (t : Int) : RLen (rapplyP m e t).2 (n + 1) := by
  have h0 := h.mono (Nat.le_succ n)
  unfold rapplyP
  by_cases hc : (rcountsP m e && decide (0 ≤ t) && decide (t ≤ 4095)) = true
  · rw [if_pos hc]
    dsimp only
    by_cases h2 : e.kind = 2
    · rw [if_pos h2]
      unfold rmoveP
      cases findN e.shard m.live with
      | none => exact h0
      | some i => exact ⟨by have := h0.live; simpa using this, h0.used, h0.evs⟩
    · rw [if_neg h2]
      by_cases h3 : e.kind = 3
      · rw [if_pos h3]
        unfold rsplitP
        cases findN e.shard m.live with
        | none => exact h0
        | some i => exact ⟨by have := h.live; simp; omega, by have := h.used; simp; omega, by have := h.evs; simp; omega⟩
      · rw [if_neg h3]
        unfold rmergeP
        cases findN e.shard m.live with
        | none => exact h0
        | some i =>
          cases findN e.other m.live with
          | none => exact h0
          | some k =>
            dsimp only
            cases joinB (shAt m.live i).lo (shAt m.live i).hi (shAt m.live k).lo (shAt m.live k).hi with
            | none => exact h0
            | some sp =>
              refine ⟨?_, h0.used, by have := h.evs; simp; omega⟩
              have := h.live
              simp only [List.length_append, List.length_take, List.length_drop, List.length_set]
              omega
  · rw [if_neg hc]
    exact h0
theorem made_ok (l : List Ac) : ∀ k, k ≤ l.length → PMok (madeP (l.take k)) (1 + k)
  | 0, _ => by
    rw [List.take_zero]
    exact PMok.new
  | k + 1, h => by
    have := (made_ok l k (by omega)).apply l[k].1 l[k].2
    unfold madeP at this ⊢
    rw [List.take_succ_eq_append_getElem (by omega), List.foldl_append]
    exact this
theorem rmade_len (l : List Ac) : ∀ k, k ≤ l.length → RLen (rmadeP (l.take k)) (1 + k)
  | 0, _ => by
    rw [List.take_zero]
    exact ⟨by decide, by decide, by decide⟩
  | k + 1, h => by
    have := (rmade_len l k (by omega)).apply l[k].1 l[k].2
    unfold rmadeP at this ⊢
    rw [List.take_succ_eq_append_getElem (by omega), List.foldl_append]
    exact this
theorem made_step {l : List Ac} {k : Nat} (hk : k < l.length) : madeP (l.take (k + 1)) = (applyP (madeP (l.take k)) l[k].1 l[k].2).2 := by
  unfold madeP
  rw [List.take_succ_eq_append_getElem hk, List.foldl_append]
  rfl
theorem rmade_step {l : List Ac} {k : Nat} (hk : k < l.length) : rmadeP (l.take (k + 1)) = (rapplyP (rmadeP (l.take k)) l[k].1 l[k].2).2 := by
  unfold rmadeP
  rw [List.take_succ_eq_append_getElem hk, List.foldl_append]
  rfl
/-- How the loop stands. -/
structure MD (w : World) (b b2 : Nat) (m : PM) (r : RM) (W : World) : Prop where
  bel : Below w.heap.size w W
  mp : MapAt W w.heap.size b m
  rp : RMAt W w.heap.size b2 r
theorem MD.next {w W W' : World} {b b2 : Nat} {m : PM} {r : RM} (h : MD w b b2 m r W) (hb : Below W.heap.size W W') : MD w b b2 m r W' :=
  ⟨h.bel.trans (hb.mono h.bel.size), h.mp.below hb, h.rp.below hb⟩
theorem MD.prog {w W W' : World} {b b2 : Nat} {m m' : PM} {r : RM} (h : MD w b b2 m r W) (hm : MapAt W' w.heap.size b m') (hc : Chg PT w.heap.size W W') : MD w b b2 m' r W' :=
  ⟨h.bel.trans (hc.below h.bel.size), hm, h.rp.chg hc (by unfold PT; decide) (by unfold PT; decide) (by unfold PT; decide) (by unfold PT; decide)⟩
theorem MD.ref {w W W' : World} {b b2 : Nat} {m : PM} {r r' : RM} (h : MD w b b2 m r W) (hr : RMAt W' w.heap.size b2 r') (hc : Chg RT w.heap.size W W') : MD w b b2 m r' W' :=
  ⟨h.bel.trans (hc.below h.bel.size), h.mp.chg hc (by unfold RT; decide) (by unfold RT; decide) (by unfold RT; decide), hr⟩

set_option maxHeartbeats 4000000 in
theorem made_any (ea : Nat → Addr) (l : List Ac) (ao : Option Addr) (c : Nat) (w : World) (hn : l.length ≤ 1000) (hr : RowAt w ao (acRow l)) (ha : ∀ x ∈ l, x.1.at w) (he : BErr w ea) (hea : ∀ n, (ea n).block < w.heap.size) :
    Calls Tryz.prog 9 #[.slice ao l.length c] w fun e w' => ∃ b b2, e = .returned (.tuple #[.pointer (some ⟨b, 0, none⟩), .pointer (some ⟨b2, 0, none⟩)]) ∧ MD w b b2 (madeP l) (rmadeP l) w' := by
  have HR := Lib.hid (fun W (hb : Below w.heap.size w W) => hr.below hb)
  have HAT := Lib.hid (fun W (hb : Below w.heap.size w W) k (hk : k < l.length) => (ha l[k] (List.getElem_mem hk)).below hb)
  have HE := Lib.hid (fun W (hb : Below w.heap.size w W) => he.below hb)
  have HEA := Lib.hid hea
  have HOK := Lib.hid (made_ok l)
  have HRL := Lib.hid (rmade_len l)
  have HS := Lib.hid (fun k (hk : k < l.length) => made_step hk)
  have HRS := Lib.hid (fun k (hk : k < l.length) => rmade_step hk)
  clear hr ha he hea
  go_enter Tryz.func9, Tryz.ntmps9
  go_wp2_with fail
  refine (new_any w).mono ?_
  rintro e w1 ⟨b, rfl, hm1, hb1⟩
  have HM1 := Lib.hid hm1
  have B1 := Lib.hid hb1
  clear hm1 hb1
  go_wp2_with fail
  refine (rnew_any w1).mono ?_
  rintro e w2 ⟨b2, rfl, hm2, hb2⟩
  have S2 := Lib.hid (show MD w b b2 (madeP (l.take 0)) (rmadeP (l.take 0)) w2 from ⟨B1.out.trans (hb2.mono B1.out.size), by rw [List.take_zero]; exact HM1.out.below hb2, by rw [List.take_zero]; exact hm2.base B1.out.size⟩)
  clear hm2 hb2 HM1 B1
  go_wp2_with fail
  go_loopw [12] (fun i wr => ∃ k : Nat, k ≤ l.length ∧ i = .int .i64 k ∧ Hid (MD w b b2 (madeP (l.take k)) (rmadeP (l.take k)) wr)) (fun i _ => l.length - (intOf i).toNat)
  case atStart => exact ⟨0, Nat.zero_le _, rfl, S2⟩
  case round =>
    obtain ⟨k, hk, rfl, HB⟩ := hrel
    by_cases hlt : k < l.length
    · obtain ⟨b', o', rfl, hc⟩ := row_flat acC 13 (by decide) acC_len (HR.out _ HB.out.bel) k hlt
      have HRG := Lib.hid (show wr.rangeAt b' (o' + k * 13) (acC l[k]) from fun j v hj => by
        have hj5 : j < 13 := by have := (List.getElem?_eq_some_iff.1 hj).1; rw [acC_len] at this; exact this
        rw [hc j hj5]; exact hj)
      have HSI := Lib.hid (show (Tryz.prog.info? 79).map (·.size) = some (acC l[k]).length by rw [acC_len]; kernel_rfl)
      have HZ1 := Lib.hid (Blk.new wr 79 (EN.zero.cells ++ [Value.int .i64 0]).toArray)
      have HATK := Lib.hid (fun W hb => HAT.out W hb k hlt)
      have HSK := Lib.hid (HS.out k hlt)
      have HRSK := Lib.hid (HRS.out k hlt)
      have HOKK := Lib.hid ((HOK.out k hk).mono (show 1 + k ≤ 9000 by omega))
      have HRLK := Lib.hid ((HRL.out k hk).mono (show 1 + k ≤ 9000 by omega))
      clear hc
      generalize hx : l[k] = x at *
      generalize madeP (l.take k) = m at *
      generalize rmadeP (l.take k) = r at *
      obtain ⟨e, t⟩ := x
      obtain ⟨kd, sh, ot, sv, cl, sq, eo, no, co, ky, up, pt, ps, ad, nd, cd⟩ := e
      unfold acC EN.cells at HRG HSI
      unfold EN.zero EN.cells at HZ1
      dsimp only [List.cons_append, List.nil_append] at HRG HSI HZ1 HATK HSK HRSK
      clear hx
      go_wp2_with (first | (refine wpList_load_mid rfl 79 (.tmp 14) rfl b' (o' + k * 13) rfl _ _ HRG.out Tryz.underlying79 rfl HSI.out ?_) | (refine wpList_store_blk rfl 79 (.tmp 7) (.tmp 15) rfl wr.heap.size #[.int .i64 kd, .int .i64 sh, .int .i64 ot, .int .i64 sv, .int .i64 cl, .int .i64 sq, .slice eo no co, .string ky, .int .i64 up, .int .i64 pt, .int .i64 ps, .slice ad nd cd, .int .i64 t] rfl rfl 79 _ HZ1.out rfl (by kernel_rfl) (by kernel_rfl) ?_))
      refine Lib.hid ?_
      intro w3 hz ho
      have S3 := Lib.hid (HB.out.next ((below_alloc wr _).trans (ho.to_below (B := wr.heap.size) (by simp) (fun q hq e => by omega))))
      have HY3 := Lib.hid hz
      have HQ3 : Hid (w.heap.size ≤ wr.heap.size) := Lib.hid HB.out.bel.size
      have c12 : w3.cell? ⟨wr.heap.size, 12, none⟩ = some (.int .i64 t) := hz.cell 12
      have HR3 := Lib.hid (show w3.rangeAt wr.heap.size 0 [.int .i64 kd, .int .i64 sh, .int .i64 ot, .int .i64 sv, .int .i64 cl, .int .i64 sq, .slice eo no co, .string ky, .int .i64 up, .int .i64 pt, .int .i64 ps, .slice ad nd cd] from fun j v hj => by
        have hj2 : j < 12 := (List.getElem?_eq_some_iff.1 hj).1
        rw [Nat.zero_add, hz.cell, ← hj]
        rcases (show j = 0 ∨ j = 1 ∨ j = 2 ∨ j = 3 ∨ j = 4 ∨ j = 5 ∨ j = 6 ∨ j = 7 ∨ j = 8 ∨ j = 9 ∨ j = 10 ∨ j = 11 by omega) with rfl | rfl | rfl | rfl | rfl | rfl | rfl | rfl | rfl | rfl | rfl | rfl <;> rfl)
      have HEI := Lib.hid (show (Tryz.prog.info? 44).map (·.size) = some [Value.int .i64 kd, .int .i64 sh, .int .i64 ot, .int .i64 sv, .int .i64 cl, .int .i64 sq, .slice eo no co, .string ky, .int .i64 up, .int .i64 pt, .int .i64 ps, .slice ad nd cd].length by kernel_rfl)
      clear hz ho HZ1 HRG
      go_wp2_with (refine wpList_load_mid rfl 44 (.tmp 17) rfl wr.heap.size 0 rfl _ _ HR3.out Tryz.underlying44 rfl HEI.out ?_)
      refine (apply_any ea b w.heap.size m ⟨kd, sh, ot, sv, cl, sq, eo, no, co, ky, up, pt, ps, ad, nd, cd⟩ t w3 S3.out.mp (HE.out _ S3.out.bel) (HATK.out _ S3.out.bel) HEA.out HOKK.out.live HOKK.out.evs S3.out.bel.size).mono ?_
      rintro e w4 ⟨rfl, hm4, hc4⟩
      have S4 := Lib.hid (S3.out.prog hm4 hc4)
      have HY4 := Lib.hid (HY3.out.chg hc4 (.inr (by unfold PT; decide)))
      have d12 : w4.cell? ⟨wr.heap.size, 12, none⟩ = some (.int .i64 t) := HY4.out.cell 12
      have HR4 := Lib.hid (show w4.rangeAt wr.heap.size 0 [.int .i64 kd, .int .i64 sh, .int .i64 ot, .int .i64 sv, .int .i64 cl, .int .i64 sq, .slice eo no co, .string ky, .int .i64 up, .int .i64 pt, .int .i64 ps, .slice ad nd cd] from fun j v hj => by
        have hj2 : j < 12 := (List.getElem?_eq_some_iff.1 hj).1
        rw [Nat.zero_add, HY4.out.cell, ← hj]
        rcases (show j = 0 ∨ j = 1 ∨ j = 2 ∨ j = 3 ∨ j = 4 ∨ j = 5 ∨ j = 6 ∨ j = 7 ∨ j = 8 ∨ j = 9 ∨ j = 10 ∨ j = 11 by omega) with rfl | rfl | rfl | rfl | rfl | rfl | rfl | rfl | rfl | rfl | rfl | rfl <;> rfl)
      clear hm4 hc4 S3 HY3 HR3 c12
      go_wp2_with (refine wpList_load_mid rfl 44 (.tmp 23) rfl wr.heap.size 0 rfl _ _ HR4.out Tryz.underlying44 rfl HEI.out ?_)
      refine (rapply_any b2 w.heap.size r ⟨kd, sh, ot, sv, cl, sq, eo, no, co, ky, up, pt, ps, ad, nd, cd⟩ t w4 S4.out.rp (HATK.out _ S4.out.bel) HRLK.out.live HRLK.out.used HRLK.out.evs S4.out.bel.size).mono ?_
      rintro e w5 ⟨rfl, hm5, hc5⟩
      have S5 := Lib.hid (S4.out.ref hm5 hc5)
      clear hm5 hc5 S4 HY4 HR4 d12
      go_wp2_with fail
      go_roundw
      case rel => exact ⟨k + 1, by omega, by go_num, by rw [HSK.out, HRSK.out]; exact S5⟩
      case measure => simp [intOf]; omega
    · obtain rfl : k = l.length := by omega
      rw [List.take_length] at HB
      go_wp2_with fail
      go_ret2
      exact ⟨b, b2, rfl, HB.out⟩
end Go.Proofs.YthjmfcdhpdiehaaGreatDoor

namespace Go.Proofs.YthjmfcdhpdiehaaGreatDoor
open Go.RowKit Utf
set_option maxRecDepth 100000
set_option linter.unusedSimpArgs false
set_option linter.unusedVariables false

/-- An act's operations lie in memory. -/
def AcAt (w : World) (x : Ac) : Prop := ∃ ops : List BOp, x.1.no = ops.length ∧ RowAt w x.1.ao (ops.flatMap bCells) ∧ ∀ o ∈ ops, -9223372036854775808 ≤ o.version ∧ o.version ≤ 9223372036854775807
/-- What is asked is not long. -/
structure NotLong (w : World) (acs : List Ac) (l : List LD) : Prop where
  acts : acs.length ≤ 40
  list : l.length ≤ 30
  keys : ∀ x ∈ l, x.key.size ≤ 300
  ents : ∀ x ∈ acs, x.1.at w
def LongR (w : World) (acs : List Ac) (l : List LD) (e : Ending) : Prop := ∃ b : Bool, e = .returned (.bool b) ∧ (b = false → NotLong w acs l)

set_option maxHeartbeats 8000000 in
theorem long_any (acs : List Ac) (l : List LD) (ao lo : Option Addr) (ac lc : Nat) (w : World) (hra : RowAt w ao (acRow acs)) (hrl : RowAt w lo (ldRow l)) (hat : ∀ x ∈ acs, AcAt w x) :
    Calls Tryz.prog 8 #[.slice ao acs.length ac, .slice lo l.length lc] w fun e w' => LongR w acs l e ∧ Below w.heap.size w w' := by
  have HRA := Lib.hid hra
  have HRL := Lib.hid hrl
  have HAT := Lib.hid (show ∀ k (hk : k < acs.length), AcAt w acs[k] from fun k hk => hat _ (List.getElem_mem hk))
  clear hra hrl hat
  by_cases h40 : (40 : Int) < (acs.length : Int)
  · go_enter Tryz.func8, Tryz.ntmps8
    go_wp2_with fail
    go_ret
    exact ⟨⟨true, rfl, fun h => by cases h⟩, Below.refl _ _⟩
  by_cases h30 : (30 : Int) < (l.length : Int)
  · go_enter Tryz.func8, Tryz.ntmps8
    go_wp2_with fail
    go_ret
    exact ⟨⟨true, rfl, fun h => by cases h⟩, Below.refl _ _⟩
  go_enter Tryz.func8, Tryz.ntmps8
  go_wp2_with fail
  go_loopw [22] (fun i wr => ∃ k : Nat, k ≤ l.length ∧ i = .int .i64 k ∧ Hid (Below w.heap.size w wr) ∧ Hid (∀ j, j < k → (ldAt l j).key.size ≤ 300)) (fun i _ => l.length - (intOf i).toNat)
  case atStart => exact ⟨0, Nat.zero_le _, rfl, Lib.hid (Below.refl _ _), Lib.hid (fun j hj => by omega)⟩
  case round =>
    obtain ⟨k, hk, rfl, HB, HP⟩ := hrel
    by_cases hlt : k < l.length
    · obtain ⟨b', o', rfl, hc⟩ := row_flat LD.cells 2 (by decide) LD.cells_len (HRL.out.below HB.out) k hlt
      have HRG := Lib.hid (show wr.rangeAt b' (o' + k * 2) (ldAt l k).cells from fun j v hj => by
        have hj5 : j < 2 := by have := (List.getElem?_eq_some_iff.1 hj).1; rw [LD.cells_len] at this; exact this
        rw [hc j hj5, ← ldAt_eq hlt]; exact hj)
      have HSI := Lib.hid (show (Tryz.prog.info? 77).map (·.size) = some (ldAt l k).cells.length by rw [LD.cells_len]; kernel_rfl)
      have HZ1 := Lib.hid (Blk.new wr 77 #[.string ⟨#[]⟩, .int .i64 0])
      have HPK := Lib.hid (fun (h : (ldAt l k).key.size ≤ 300) j (hj : j < k + 1) => show (ldAt l j).key.size ≤ 300 from by
        by_cases hjj : j < k
        · exact HP.out j hjj
        · obtain rfl : j = k := by omega
          exact h)
      clear hc
      generalize ldAt l k = x at *
      obtain ⟨key, n⟩ := x
      unfold LD.cells at HRG HSI
      dsimp only at HRG HSI HPK
      go_wp2_with (first | (refine wpList_load_mid rfl 77 (.tmp 24) rfl b' (o' + k * 2) rfl _ _ HRG.out Tryz.underlying77 rfl HSI.out ?_) | (refine wpList_store_blk rfl 77 (.tmp 6) (.tmp 25) rfl wr.heap.size #[.string key, .int .i64 n] rfl rfl 77 _ HZ1.out rfl (by kernel_rfl) (by kernel_rfl) ?_))
      refine Lib.hid ?_
      intro w2 hz ho
      have HB2 := Lib.hid (HB.out.trans (((below_alloc wr _).trans (ho.to_below (B := wr.heap.size) (by simp) (fun q hq e => by omega))).mono HB.out.size))
      have d0 : w2.cell? ⟨wr.heap.size, 0, none⟩ = some (.string key) := hz.cell 0
      clear hz ho HZ1 HRG
      by_cases hx : (300 : Int) < (key.size : Int)
      · go_wp2_with fail
        go_ret
        exact ⟨⟨true, rfl, fun h => by cases h⟩, HB2.out⟩
      · have HPN := Lib.hid (HPK.out (by omega))
        clear HPK
        go_wp2_with fail
        go_roundw
        case rel => exact ⟨k + 1, by omega, by go_num, HB2, HPN⟩
        case measure => simp [intOf]; omega
    · obtain rfl : k = l.length := by omega
      have HKS := Lib.hid (show ∀ x ∈ l, x.key.size ≤ 300 from fun x hx => by
        obtain ⟨j, hj, rfl⟩ := List.getElem_of_mem hx
        have := HP.out j hj
        rwa [ldAt_eq hj] at this)
      clear HP hlt hk
      go_wp2_with fail
      go_loopw [33] (fun i wr => ∃ k : Nat, k ≤ acs.length ∧ i = .int .i64 k ∧ Hid (Below w.heap.size w wr) ∧ Hid (∀ j (hj : j < acs.length), j < k → acs[j].1.at w)) (fun i _ => acs.length - (intOf i).toNat)
      case atStart => exact ⟨0, Nat.zero_le _, rfl, HB, Lib.hid (fun j _ hj => by omega)⟩
      case round =>
        obtain ⟨k, hk, rfl, HQ, HP⟩ := hrel
        by_cases hlt : k < acs.length
        · obtain ⟨b', o', rfl, hc⟩ := row_flat acC 13 (by decide) acC_len (HRA.out.below HQ.out) k hlt
          have HRG := Lib.hid (show wr.rangeAt b' (o' + k * 13) (acC acs[k]) from fun j v hj => by
            have hj5 : j < 13 := by have := (List.getElem?_eq_some_iff.1 hj).1; rw [acC_len] at this; exact this
            rw [hc j hj5]; exact hj)
          have HSI := Lib.hid (show (Tryz.prog.info? 79).map (·.size) = some (acC acs[k]).length by rw [acC_len]; kernel_rfl)
          have HZ1 := Lib.hid (Blk.new wr 79 (EN.zero.cells ++ [Value.int .i64 0]).toArray)
          have HPK := Lib.hid (fun (h : acs[k].1.at w) j (hj : j < acs.length) (hjk : j < k + 1) => show acs[j].1.at w from by
            by_cases hjj : j < k
            · exact HP.out j hj hjj
            · have : j = k := by omega
              subst this
              exact h)
          obtain ⟨ops, hops, hrow, hver⟩ := HAT.out k hlt
          clear hc
          generalize hx : acs[k] = x at *
          obtain ⟨e, t⟩ := x
          obtain ⟨kd, sh, ot, sv, cl, sq, eo, no, co, ky, up, pt, ps, ad, nd, cd⟩ := e
          dsimp only at hops hrow
          subst hops
          have HROW := Lib.hid hrow
          have HVER := Lib.hid hver
          unfold acC EN.cells at HRG HSI
          unfold EN.zero EN.cells at HZ1
          dsimp only [List.cons_append, List.nil_append] at HRG HSI HZ1 HPK
          clear hx hrow hver
          go_wp2_with (first | (refine wpList_load_mid rfl 79 (.tmp 35) rfl b' (o' + k * 13) rfl _ _ HRG.out Tryz.underlying79 rfl HSI.out ?_) | (refine wpList_store_blk rfl 79 (.tmp 8) (.tmp 36) rfl wr.heap.size #[.int .i64 kd, .int .i64 sh, .int .i64 ot, .int .i64 sv, .int .i64 cl, .int .i64 sq, .slice eo ops.length co, .string ky, .int .i64 up, .int .i64 pt, .int .i64 ps, .slice ad nd cd, .int .i64 t] rfl rfl 79 _ HZ1.out rfl (by kernel_rfl) (by kernel_rfl) ?_))
          refine Lib.hid ?_
          intro w3 hz ho
          have HQ3 := Lib.hid (HQ.out.trans (((below_alloc wr _).trans (ho.to_below (B := wr.heap.size) (by simp) (fun q hq e => by omega))).mono HQ.out.size))
          have HR3 := Lib.hid (show w3.rangeAt wr.heap.size 0 [.int .i64 kd, .int .i64 sh, .int .i64 ot, .int .i64 sv, .int .i64 cl, .int .i64 sq, .slice eo ops.length co, .string ky, .int .i64 up, .int .i64 pt, .int .i64 ps, .slice ad nd cd] from fun j v hj => by
            have hj2 : j < 12 := (List.getElem?_eq_some_iff.1 hj).1
            rw [Nat.zero_add, hz.cell, ← hj]
            rcases (show j = 0 ∨ j = 1 ∨ j = 2 ∨ j = 3 ∨ j = 4 ∨ j = 5 ∨ j = 6 ∨ j = 7 ∨ j = 8 ∨ j = 9 ∨ j = 10 ∨ j = 11 by omega) with rfl | rfl | rfl | rfl | rfl | rfl | rfl | rfl | rfl | rfl | rfl | rfl <;> rfl)
          have HEI := Lib.hid (show (Tryz.prog.info? 44).map (·.size) = some [Value.int .i64 kd, .int .i64 sh, .int .i64 ot, .int .i64 sv, .int .i64 cl, .int .i64 sq, .slice eo ops.length co, .string ky, .int .i64 up, .int .i64 pt, .int .i64 ps, .slice ad nd cd].length by kernel_rfl)
          have HZ3 := Lib.hid (Blk.new w3 44 zeroEn)
          unfold zeroEn at HZ3
          clear hz ho HZ1 HRG
          go_wp2_with (first | (refine wpList_load_mid rfl 44 (.tmp 37) rfl wr.heap.size 0 rfl _ _ HR3.out Tryz.underlying44 rfl HEI.out ?_) | (refine wpList_store_blk rfl 44 (.tmp 9) (.tmp 38) rfl w3.heap.size #[.int .i64 kd, .int .i64 sh, .int .i64 ot, .int .i64 sv, .int .i64 cl, .int .i64 sq, .slice eo ops.length co, .string ky, .int .i64 up, .int .i64 pt, .int .i64 ps, .slice ad nd cd] rfl rfl 44 _ HZ3.out rfl (by kernel_rfl) (by kernel_rfl) ?_))
          refine Lib.hid ?_
          intro w4 hz ho
          have HQ4 := Lib.hid (HQ3.out.trans (((below_alloc w3 _).trans (ho.to_below (B := w3.heap.size) (by simp) (fun q hq e => by omega))).mono HQ3.out.size))
          have d6 : w4.cell? ⟨w3.heap.size, 6, none⟩ = some (.slice eo ops.length co) := hz.cell 6
          have d7 : w4.cell? ⟨w3.heap.size, 7, none⟩ = some (.string ky) := hz.cell 7
          have d11 : w4.cell? ⟨w3.heap.size, 11, none⟩ = some (.slice ad nd cd) := hz.cell 11
          clear hz ho HZ3 HR3
          by_cases q1 : (20 : Int) < (ops.length : Int)
          · go_wp2_with fail
            go_ret
            exact ⟨⟨true, rfl, fun h => by cases h⟩, HQ4.out⟩
          by_cases q2 : (300 : Int) < (ky.size : Int)
          · go_wp2_with fail
            go_ret
            exact ⟨⟨true, rfl, fun h => by cases h⟩, HQ4.out⟩
          by_cases q3 : (600 : Int) < (nd : Int)
          · go_wp2_with fail
            go_ret
            exact ⟨⟨true, rfl, fun h => by cases h⟩, HQ4.out⟩
          have HPA := Lib.hid (fun (h : ∀ o ∈ ops, o.ok) => HPK.out ⟨⟨ops, rfl, by omega, h, HROW.out⟩, by dsimp only; omega, by dsimp only; omega⟩)
          clear HPK
          go_wp2_with fail
          clear d6 d7 d11
          go_loopw [58] (fun i wr => ∃ n : Nat, n ≤ ops.length ∧ i = .int .i64 n ∧ Hid (Below w.heap.size w wr) ∧ Hid (∀ j (hj : j < ops.length), j < n → ops[j].ok)) (fun i _ => ops.length - (intOf i).toNat)
          case atStart => exact ⟨0, Nat.zero_le _, rfl, HQ4, Lib.hid (fun j _ hj => by omega)⟩
          case round =>
            obtain ⟨n, hn, rfl, HY, HO⟩ := hrel
            by_cases hlo : n < ops.length
            · obtain ⟨b2, o2, rfl, hc⟩ := row_flat bCells 5 (by decide) bCells_len (HROW.out.below HY.out) n hlo
              have HRG := Lib.hid (show wr.rangeAt b2 (o2 + n * 5) (bCells ops[n]) from fun j v hj => by
                have hj5 : j < 5 := by have := (List.getElem?_eq_some_iff.1 hj).1; rw [bCells_len] at this; exact this
                rw [hc j hj5]; exact hj)
              have HSI := Lib.hid (show (Tryz.prog.info? 81).map (·.size) = some (bCells ops[n]).length by rw [bCells_len]; kernel_rfl)
              have HZ1 := Lib.hid (Blk.new wr 81 #[.int .i64 0, .string ⟨#[]⟩, .string ⟨#[]⟩, .string ⟨#[]⟩, .int .i64 0])
              have HOK := Lib.hid (fun (h : ops[n].ok) j (hj : j < ops.length) (hjk : j < n + 1) => show ops[j].ok from by
                by_cases hjj : j < n
                · exact HO.out j hj hjj
                · have : j = n := by omega
                  subst this
                  exact h)
              have hv := HVER.out _ (List.getElem_mem hlo)
              clear hc
              generalize ops[n] = x at *
              obtain ⟨okind, okey, value, old, version⟩ := x
              unfold bCells at HRG HSI
              dsimp only at HRG HSI hv
              go_wp2_with (first | (refine wpList_load_mid rfl 81 (.tmp 60) rfl b2 (o2 + n * 5) rfl _ _ HRG.out Tryz.underlying81 rfl HSI.out ?_) | (refine wpList_store_blk rfl 81 (.tmp 11) (.tmp 61) rfl wr.heap.size #[.int .i64 okind, .string okey, .string value, .string old, .int .i64 version] rfl rfl 81 _ HZ1.out rfl (by kernel_rfl) (by kernel_rfl) ?_))
              refine Lib.hid ?_
              intro w5 hz ho
              have HY5 := Lib.hid (HY.out.trans (((below_alloc wr _).trans (ho.to_below (B := wr.heap.size) (by simp) (fun q hq e => by omega))).mono HY.out.size))
              have d1 : w5.cell? ⟨wr.heap.size, 1, none⟩ = some (.string okey) := hz.cell 1
              have d2 : w5.cell? ⟨wr.heap.size, 2, none⟩ = some (.string value) := hz.cell 2
              have d3 : w5.cell? ⟨wr.heap.size, 3, none⟩ = some (.string old) := hz.cell 3
              clear hz ho HZ1 HRG
              by_cases p1 : (300 : Int) < (okey.size : Int)
              · go_wp2_with fail
                go_ret
                exact ⟨⟨true, rfl, fun h => by cases h⟩, HY5.out⟩
              by_cases p2 : (300 : Int) < (value.size : Int)
              · go_wp2_with fail
                go_ret
                exact ⟨⟨true, rfl, fun h => by cases h⟩, HY5.out⟩
              by_cases p3 : (300 : Int) < (old.size : Int)
              · go_wp2_with fail
                go_ret
                exact ⟨⟨true, rfl, fun h => by cases h⟩, HY5.out⟩
              have HON := Lib.hid (HOK.out ⟨by dsimp only; omega, by dsimp only; omega, by dsimp only; omega, hv.1, hv.2⟩)
              clear HOK hv
              go_wp2_with fail
              go_roundw
              case rel => exact ⟨n + 1, by omega, by go_num, HY5, HON⟩
              case measure => simp [intOf]; omega
            · obtain rfl : n = ops.length := by omega
              have HPN := Lib.hid (HPA.out (fun o ho => by
                obtain ⟨j, hj, rfl⟩ := List.getElem_of_mem ho
                exact HO.out j hj hj))
              go_wp2_with fail
              go_roundw
              case rel => exact ⟨k + 1, by omega, by go_num, HY, HPN⟩
              case measure => simp [intOf]; omega
        · obtain rfl : k = acs.length := by omega
          go_wp2_with fail
          go_ret
          exact ⟨⟨false, rfl, fun _ => ⟨by omega, by omega, HKS.out, fun x hx => by
            obtain ⟨j, hj, rfl⟩ := List.getElem_of_mem hx
            exact HP.out j hj hj⟩⟩, HQ.out⟩
end Go.Proofs.YthjmfcdhpdiehaaGreatDoor

namespace Go.Proofs.YthjmfcdhpdiehaaGreatDoor
open Go.RowKit Utf
set_option maxRecDepth 100000
set_option linter.unusedSimpArgs false
set_option linter.unusedVariables false

/-- How home's loop stands. -/
structure HM (w : World) (g : Nat) (l : List Sh) (W : World) : Prop where
  bel : Below w.heap.size w W
  row : RowAt W (some ⟨g, 0, none⟩) (shRow l)
theorem HM.next {w W W' : World} {g : Nat} {l : List Sh} (h : HM w g l W) (hb : Below W.heap.size W W') : HM w g l W' :=
  ⟨h.bel.trans (hb.mono h.bel.size), h.row.below hb⟩
/-- The chapter's example. -/
theorem alive_next : nextP PM.new [] 1 10 = none := by kernel_rfl
theorem alive_right : rightB [⟨⟨#[97]⟩, 5⟩] = true := by kernel_rfl
theorem alive_sums : sumsP (loadsP PM.new.live [⟨⟨#[97]⟩, 5⟩]) = [5] := by kernel_rfl
set_option maxHeartbeats 2000000 in
theorem balive_any (ea : Nat → Addr) (w : World) (he : BErr w ea) :
    Calls Tryz.prog 7 #[] w fun e w' => e = .returned (.bool true) ∧ Below w.heap.size w w' := by
  have HE := Lib.hid (fun W (hb : Below w.heap.size w W) => he.below hb)
  clear he
  go_enter Tryz.func7, Tryz.ntmps7
  go_wp2_with fail
  refine (new_any w).mono ?_
  rintro e w1 ⟨b, rfl, hm1, hb1⟩
  have HM1 := Lib.hid hm1
  have B1 := Lib.hid hb1
  clear hm1 hb1
  go_wp2_with fail
  refine (next_any ea b w.heap.size PM.new [] none 0 1 10 w1 HM1.out (by decide) (fun i h => by cases h) (HE.out _ B1.out) (fun x hx => by cases hx) PMok.new.srv PMok.new.ev).mono ?_
  rintro e w2 ⟨hn, hb2⟩
  have hn2 : e = .returned (.tuple #[.agg EN.zero.cells.toArray, .bool false, .nilIface]) := by
    unfold NextR at hn
    rw [if_pos (by decide), show (1 : Int).toNat = 1 from rfl, alive_next] at hn
    exact hn
  subst hn2
  have B2 := Lib.hid (B1.out.trans (hb2.mono B1.out.size))
  have HM2 := Lib.hid (HM1.out.below hb2)
  have HZ2 := Lib.hid (Blk.new w2 44 zeroEn)
  unfold zeroEn at HZ2
  clear hn hb2
  go_wp2_with (refine wpList_store_blk rfl 44 (.tmp 2) (.tmp 13) rfl w2.heap.size EN.zero.cells.toArray rfl rfl 44 _ HZ2.out rfl (by kernel_rfl) (EN.cells_one _) ?_)
  refine Lib.hid ?_
  intro w3 hz ho
  have B23 := Lib.hid ((below_alloc w2 (.cells #[.int .i64 0, .int .i64 0, .int .i64 0, .int .i64 0, .int .i64 0, .int .i64 0, .slice none 0 0, .string ⟨#[]⟩, .int .i64 0, .int .i64 0, .int .i64 0, .slice none 0 0] 44)).trans (ho.to_below (B := w2.heap.size) (by simp) (fun q hq e => by omega)))
  have B3 := Lib.hid (B2.out.trans (B23.out.mono B2.out.size))
  have HM3 := Lib.hid (HM2.out.below B23.out)
  clear hz ho B23 HZ2
  have HA := Lib.hid (below_alloc w3 (.cells #[.string ⟨#[97]⟩, .int .i64 5] 77))
  have HL := Lib.hid (show RowAt (w3.alloc (.cells #[.string ⟨#[97]⟩, .int .i64 5] 77)) (some ⟨w3.heap.size, 0, none⟩) (ldRow [⟨⟨#[97]⟩, 5⟩]) from blk_row (Blk.new w3 77 #[.string ⟨#[97]⟩, .int .i64 5]))
  go_wp2_with fail
  refine (bshards_any ea b w.heap.size PM.new [⟨⟨#[97]⟩, 5⟩] (some ⟨w3.heap.size, 0, none⟩) 1 _ (HM3.out.below HA.out) (by decide) HL.out (HE.out _ (B3.out.trans (HA.out.mono B3.out.size))) (fun x hx => by rw [List.mem_singleton] at hx; subst hx; decide)).mono ?_
  rintro e w4 ⟨hr, hb4⟩
  rw [if_pos alive_right, alive_sums] at hr
  obtain ⟨v, rfl, ho⟩ := hr
  obtain ⟨ao, cap, rfl, hrow⟩ := ownE_row ho
  have B4 := Lib.hid (B3.out.trans ((HA.out.trans (hb4.mono HA.out.size)).mono B3.out.size))
  have HR4 := Lib.hid hrow
  clear hb4 ho hrow
  have HA5 := Lib.hid (below_alloc w4 (.cells #[.int .i64 5] 3))
  have HL5 := Lib.hid (show RowAt (w4.alloc (.cells #[.int .i64 5] 3)) (some ⟨w4.heap.size, 0, none⟩) (zRow [5]) from blk_row (Blk.new w4 3 #[.int .i64 5]))
  go_wp2_with fail
  refine (sameInts_any [5] [5] ao (some ⟨w4.heap.size, 0, none⟩) cap 1 _ (by decide) (by decide) (HR4.out.below HA5.out) HL5.out).mono ?_
  rintro e w5 ⟨rfl, n5, rfl⟩
  have B5 := Lib.hid (B4.out.trans ((tame_drewN HA5.out n5).mono B4.out.size))
  go_wp2_with fail
  go_ret
  exact ⟨rfl, B5.out⟩
end Go.Proofs.YthjmfcdhpdiehaaGreatDoor

namespace Go.Proofs.YthjmfcdhpdiehaaGreatDoor
open Go.RowKit Utf
set_option maxRecDepth 100000
set_option linter.unusedSimpArgs false
set_option linter.unusedVariables false

theorem NotLong.ldok {w : World} {acs : List Ac} {l : List LD} (h : NotLong w acs l) : LdOk l := fun x hx => by have := h.keys x hx; omega
theorem made_all (acs : List Ac) : PMok (madeP acs) (1 + acs.length) := by
  have := made_ok acs acs.length (Nat.le_refl _)
  rwa [List.take_length] at this
/-- What stands all the while: the loads, the errors, what was asked. -/
structure EW (w : World) (ea : Nat → Addr) (lo : Option Addr) (l : List LD) (s most : Int) (W : World) : Prop where
  bel : Below w.heap.size w W
  row : RowAt W lo (ldRow l)
  err : BErr W ea
  box : Blk W w.heap.size 25 #[.int .i64 s, .int .i64 most]
theorem EW.next {w W W' : World} {ea : Nat → Addr} {lo : Option Addr} {l : List LD} {s most : Int} (h : EW w ea lo l s most W) (hb : Below W.heap.size W W') : EW w ea lo l s most W' :=
  ⟨h.bel.trans (hb.mono h.bel.size), h.row.below hb, h.err.below hb, h.box.below hb h.box.lt⟩
theorem EW.new {w : World} {ea : Nat → Addr} {lo : Option Addr} {l : List LD} {s most : Int} (hr : RowAt w lo (ldRow l)) (he : BErr w ea) : EW w ea lo l s most (w.alloc (.cells #[.int .i64 s, .int .i64 most] 25)) :=
  ⟨below_alloc _ _, hr.below (below_alloc _ _), he.below (below_alloc _ _), Blk.new _ _ _⟩

end Go.Proofs.YthjmfcdhpdiehaaGreatDoor
