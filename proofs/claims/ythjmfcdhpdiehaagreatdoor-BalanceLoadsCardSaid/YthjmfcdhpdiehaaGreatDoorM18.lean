/-
  balance.joins.
-/
import Derived.Test.YthjmfcdhpdiehaaGreatDoorM17
namespace Go.Proofs.YthjmfcdhpdiehaaGreatDoor
open Go.RowKit Utf
set_option maxRecDepth 100000
set_option linter.unusedSimpArgs false
set_option linter.unusedVariables false

theorem join_some {p : List (Sh × List LD)} {most : Int} {k : Nat} (hk : k < p.length) (h : joinAt p most k = true) (hn : ∀ j, j < k → joinAt p most j = false) : joinsP p most = some (joinE (plAt p k).1.id (plAt p (k + 1)).1.id) := by
  have : joinsN p most = some k := by
    unfold joinsN
    rw [List.find?_range_eq_some]
    exact ⟨h, by simpa using hk, fun j hj => by rw [hn j hj]; rfl⟩
  unfold joinsP
  rw [this]
  rfl
theorem join_none {p : List (Sh × List LD)} {most : Int} (hn : ∀ j, j < p.length → joinAt p most j = false) : joinsP p most = none := by
  have : joinsN p most = none := by
    unfold joinsN
    rw [List.find?_eq_none]
    intro j hj
    rw [hn j (List.mem_range.1 hj)]
    simp
  unfold joinsP
  rw [this]
  rfl
theorem joinAt_no {p : List (Sh × List LD)} {most : Int} {k : Nat} (h : ¬ k + 1 < p.length) : joinAt p most k = false := by
  unfold joinAt
  rw [decide_eq_false h, Bool.false_and]
theorem joinAt_eq {p : List (Sh × List LD)} {most : Int} {k : Nat} (h : k + 1 < p.length) : joinAt p most k = (((plAt p k).1.server == (plAt p (k + 1)).1.server) && decide (4 * (sumN (plAt p k).2 + sumN (plAt p (k + 1)).2) ≤ most)) := by
  unfold joinAt
  rw [decide_eq_true h, Bool.true_and]
  rfl
/-- How the loop stands. -/
structure JO (w : World) (b o : Nat) (l : List LO) (W : World) : Prop where
  bel : Below w.heap.size w W
  row : RowAt W (some ⟨b, o, none⟩) (loRow l)
  box : Blk W w.heap.size 44 zeroEn
theorem JO.next {w W W' : World} {b o : Nat} {l : List LO} (h : JO w b o l W) (hb : Below W.heap.size W W') : JO w b o l W' :=
  ⟨h.bel.trans (hb.mono h.bel.size), h.row.below hb, h.box.below hb h.box.lt⟩

set_option maxHeartbeats 4000000 in
theorem joins_any (l : List LO) (b o c : Nat) (most : Int) (w : World) (hn : l.length ≤ 10000) (hr : RowAt w (some ⟨b, o, none⟩) (loRow l)) (hsm : ∀ x ∈ l, 0 ≤ sumN x.keys ∧ sumN x.keys ≤ 1000000000) :
    Calls Tryz.prog 42 #[.slice (some ⟨b, o, none⟩) l.length c, .int .i64 most] w fun e w' => EntR (joinsP (l.map LO.plain) most) e ∧ Below w.heap.size w w' := by
  have H0 := Lib.hid (show JO w b o l (w.alloc (.cells zeroEn 44)) from ⟨below_alloc _ _, hr.below (below_alloc _ _), Blk.new _ _ _⟩)
  unfold zeroEn at H0
  have HSM := Lib.hid hsm
  have HNB0 := Lib.hid (fun (hl : 0 < l.length) (ad : Addr) (e : some (⟨b, o, none⟩ : Addr) = some ad) (h : ad.block = w.heap.size) => show False from by
    cases e
    have h1 : w.cell? ⟨b, o + 0 * 7 + 0, none⟩ = _ := row_lo hr hl 0 _ rfl
    have h2 := World.block_lt_of_cell? w _ h1
    dsimp only at h h2
    omega)
  clear hr hsm
  go_enter Tryz.func42, Tryz.ntmps42
  go_wp2_with fail
  go_loopw [9] (fun i wr => ∃ k : Nat, k ≤ l.length ∧ i = .int .i64 k ∧ Hid (JO w b o l wr) ∧ Hid (∀ j, j < k → joinAt (l.map LO.plain) most j = false)) (fun i _ => l.length - (intOf i).toNat)
  case atStart => exact ⟨0, Nat.zero_le _, rfl, H0, Lib.hid (fun j hj => by omega)⟩
  case round =>
    obtain ⟨k, hk, rfl, HB, HP⟩ := hrel
    by_cases hlt : k < l.length
    · by_cases hl2 : k + 1 < l.length
      · have HL2 := Lib.hid (decide_eq_true (show ((k + 1 : Nat) : Int) < ((l.length : Nat) : Int) by omega))
        have hp1 : k + 1 < (l.map LO.plain).length := by simpa using hl2
        have HJE : Hid (joinAt (l.map LO.plain) most k = ((l[k].sh.server == l[k + 1].sh.server) && decide (4 * (sumN l[k].keys + sumN l[k + 1].keys) ≤ most))) := Lib.hid (by rw [joinAt_eq hp1, plAt_of hlt, plAt_of hl2]; rfl)
        have HJS : Hid (joinAt (l.map LO.plain) most k = true → joinsP (l.map LO.plain) most = some (joinE l[k].sh.id l[k + 1].sh.id)) := Lib.hid (fun h => by rw [join_some (by omega) h HP.out, plAt_of hlt, plAt_of hl2]; rfl)
        have b1 := HSM.out _ (List.getElem_mem hlt)
        have b2 := HSM.out _ (List.getElem_mem hl2)
        have C1 := Lib.hid (fun W (h : RowAt W (some ⟨b, o, none⟩) (loRow l)) => (row_lo h hlt 1 _ rfl : W.cell? ⟨b, o + k * 7 + 1, none⟩ = some (.int .i64 l[k].sh.server)))
        have C2 := Lib.hid (fun W (h : RowAt W (some ⟨b, o, none⟩) (loRow l)) => (row_lo h hl2 1 _ rfl : W.cell? ⟨b, o + (k + 1) * 7 + 1, none⟩ = some (.int .i64 l[k + 1].sh.server)))
        have C3 := Lib.hid (fun W (h : RowAt W (some ⟨b, o, none⟩) (loRow l)) => (row_lo h hlt 6 _ rfl : W.cell? ⟨b, o + k * 7 + 6, none⟩ = some (.int .i64 (sumN l[k].keys))))
        have C4 := Lib.hid (fun W (h : RowAt W (some ⟨b, o, none⟩) (loRow l)) => (row_lo h hl2 6 _ rfl : W.cell? ⟨b, o + (k + 1) * 7 + 6, none⟩ = some (.int .i64 (sumN l[k + 1].keys))))
        have C5 := Lib.hid (fun W (h : RowAt W (some ⟨b, o, none⟩) (loRow l)) => (row_lo h hlt 0 _ rfl : W.cell? ⟨b, o + k * 7, none⟩ = some (.int .i64 l[k].sh.id)))
        have C6 := Lib.hid (fun W (h : RowAt W (some ⟨b, o, none⟩) (loRow l)) => (row_lo h hl2 0 _ rfl : W.cell? ⟨b, o + (k + 1) * 7, none⟩ = some (.int .i64 l[k + 1].sh.id)))
        generalize sumN l[k].keys = s1 at *
        generalize sumN l[k + 1].keys = s2 at *
        generalize l[k].sh.server = v1 at *
        generalize l[k + 1].sh.server = v2 at *
        generalize l[k].sh.id = d1 at *
        generalize l[k + 1].sh.id = d2 at *
        clear hp1
        have HNB := Lib.hid (HNB0.out (by omega))
        cases hv : (v1 == v2) with
        | false =>
          have HV := Lib.hid hv
          have HRS := Lib.hid (fun j (hj : j < k + 1) => show joinAt (l.map LO.plain) most j = false from by
            by_cases hjj : j < k
            · exact HP.out j hjj
            · obtain rfl : j = k := by omega
              exact by rw [HJE.out, hv, Bool.false_and])
          clear hv HJE HJS
          go_wp2_with fail
          refine wp_region_class (JO w b o l) (by kernel_rfl) (by kernel_rfl) (HB.out.next (tame_drewN (Below.refl _ wr) 1)) ?_
          refine wq_val (.int .i64 ((k : Nat) : Int)) (by kernel_rfl) (fun W hW => by kernel_rfl) ?_
          refine wq_val (.int .i64 ((k + 1 : Nat) : Int)) (by kernel_rfl) (fun W hW => run_eqv (v := .int .i64 (IntKind.i64.wrap (((k : Nat) : Int) + 1))) (by kernel_rfl) (wrap_nat _ (k + 1) (by omega) (by omega))) ?_
          refine wq_val (.slice (some ⟨b, o, none⟩) l.length c) (by kernel_rfl) (fun W hW => by kernel_rfl) ?_
          refine wq_val (.int .i64 (l.length : Int)) (by kernel_rfl) (fun W hW => by kernel_rfl) ?_
          refine wq_val (.bool true) (by kernel_rfl) (fun W hW => run_eqv (v := .bool (decide (((k + 1 : Nat) : Int) < ((l.length : Nat) : Int)))) (by kernel_rfl) ((by rw [HL2.out]))) ?_
          refine wq_val (.bool true) (by kernel_rfl) (fun W hW => by kernel_rfl) ?_
          refine wq_val (.slice (some ⟨b, o, none⟩) l.length c) (by kernel_rfl) (fun W hW => by kernel_rfl) ?_
          refine wq_val (.int .i64 ((k : Nat) : Int)) (by kernel_rfl) (fun W hW => by kernel_rfl) ?_
          refine wq_val (.pointer (some ⟨b, o + k * 7, none⟩)) (by kernel_rfl) (fun W hW => run_eqv (run_idx 84 (Operand.tmp 18) (Operand.tmp 19) rfl b o l.length c k 87 7 (by kernel_rfl) (by kernel_rfl) (by omega) Tryz.underlying84 (by kernel_rfl)) rfl) ?_
          refine wq_val (.pointer (some ⟨b, o + k * 7, none⟩)) (by kernel_rfl) (fun W hW => by kernel_rfl) ?_
          refine wq_val (.pointer (some ⟨b, o + k * 7 + 1, none⟩)) (by kernel_rfl) (fun W hW => by kernel_rfl) ?_
          refine wq_val (.int .i64 v1) (by kernel_rfl) (fun W hW => run_load1 3 (Operand.tmp 22) rfl ⟨b, o + k * 7 + 1, none⟩ (by kernel_rfl) (.int .i64 v1) (C1.out W hW.row) _ Tryz.underlying3 rfl) ?_
          refine wq_val (.slice (some ⟨b, o, none⟩) l.length c) (by kernel_rfl) (fun W hW => by kernel_rfl) ?_
          refine wq_val (.int .i64 ((k : Nat) : Int)) (by kernel_rfl) (fun W hW => by kernel_rfl) ?_
          refine wq_val (.int .i64 ((k + 1 : Nat) : Int)) (by kernel_rfl) (fun W hW => run_eqv (v := .int .i64 (IntKind.i64.wrap (((k : Nat) : Int) + 1))) (by kernel_rfl) (wrap_nat _ (k + 1) (by omega) (by omega))) ?_
          refine wq_val (.pointer (some ⟨b, o + (k + 1) * 7, none⟩)) (by kernel_rfl) (fun W hW => run_eqv (run_idx 84 (Operand.tmp 24) (Operand.tmp 26) rfl b o l.length c (k + 1) 87 7 (by kernel_rfl) (by kernel_rfl) (by omega) Tryz.underlying84 (by kernel_rfl)) rfl) ?_
          refine wq_val (.pointer (some ⟨b, o + (k + 1) * 7, none⟩)) (by kernel_rfl) (fun W hW => by kernel_rfl) ?_
          refine wq_val (.pointer (some ⟨b, o + (k + 1) * 7 + 1, none⟩)) (by kernel_rfl) (fun W hW => by kernel_rfl) ?_
          refine wq_val (.int .i64 v2) (by kernel_rfl) (fun W hW => run_load1 3 (Operand.tmp 29) rfl ⟨b, o + (k + 1) * 7 + 1, none⟩ (by kernel_rfl) (.int .i64 v2) (C2.out W hW.row) _ Tryz.underlying3 rfl) ?_
          refine wq_val (.bool false) (by kernel_rfl) (fun W hW => run_eqv (v := .bool (v1 == v2)) (by kernel_rfl) ((by rw [HV.out]))) ?_
          refine wq_val (.bool false) (by kernel_rfl) (fun W hW => by kernel_rfl) ?_
          refine wq_val (.bool false) (by kernel_rfl) (fun W hW => by kernel_rfl) ?_
          refine wq_no (by kernel_rfl) ?_
          refine wq_no (by kernel_rfl) ?_
          refine wq_no (by kernel_rfl) ?_
          refine wq_no (by kernel_rfl) ?_
          refine wq_no (by kernel_rfl) ?_
          refine wq_no (by kernel_rfl) ?_
          refine wq_no (by kernel_rfl) ?_
          refine wq_no (by kernel_rfl) ?_
          refine wq_no (by kernel_rfl) ?_
          refine wq_no (by kernel_rfl) ?_
          refine wq_no (by kernel_rfl) ?_
          refine wq_no (by kernel_rfl) ?_
          refine wq_no (by kernel_rfl) ?_
          refine wq_no (by kernel_rfl) ?_
          refine wq_no (by kernel_rfl) ?_
          refine wq_val (.bool false) (by kernel_rfl) (fun W hW => by kernel_rfl) ?_
          refine quiet_end rfl (Lib.hid ?_)
          refine Lib.hid ?_
          intro w3 hW
          have S3 := Lib.hid hW
          clear hW
          dsimp only [Exit.then, Act.put]
          simp only [List.setIfInBounds_toArray, List.set_cons_succ, List.set_cons_zero]
          go_wp2_with fail
          go_roundw
          case rel => exact ⟨k + 1, by omega, by go_num, S3, HRS⟩
          case measure => simp [intOf]; omega
        | true =>
          have HV := Lib.hid hv
          rw [hv, Bool.true_and] at HJE
          clear hv
          cases hm : decide (4 * (s1 + s2) ≤ most) with
          | false =>
            have HM := Lib.hid hm
            have HRS := Lib.hid (fun j (hj : j < k + 1) => show joinAt (l.map LO.plain) most j = false from by
              by_cases hjj : j < k
              · exact HP.out j hjj
              · obtain rfl : j = k := by omega
                exact by rw [HJE.out, hm])
            clear hm HJE HJS
            go_wp2_with fail
            refine wp_region_class (JO w b o l) (by kernel_rfl) (by kernel_rfl) (HB.out.next (tame_drewN (Below.refl _ wr) 1)) ?_
            refine wq_val (.int .i64 ((k : Nat) : Int)) (by kernel_rfl) (fun W hW => by kernel_rfl) ?_
            refine wq_val (.int .i64 ((k + 1 : Nat) : Int)) (by kernel_rfl) (fun W hW => run_eqv (v := .int .i64 (IntKind.i64.wrap (((k : Nat) : Int) + 1))) (by kernel_rfl) (wrap_nat _ (k + 1) (by omega) (by omega))) ?_
            refine wq_val (.slice (some ⟨b, o, none⟩) l.length c) (by kernel_rfl) (fun W hW => by kernel_rfl) ?_
            refine wq_val (.int .i64 (l.length : Int)) (by kernel_rfl) (fun W hW => by kernel_rfl) ?_
            refine wq_val (.bool true) (by kernel_rfl) (fun W hW => run_eqv (v := .bool (decide (((k + 1 : Nat) : Int) < ((l.length : Nat) : Int)))) (by kernel_rfl) ((by rw [HL2.out]))) ?_
            refine wq_val (.bool true) (by kernel_rfl) (fun W hW => by kernel_rfl) ?_
            refine wq_val (.slice (some ⟨b, o, none⟩) l.length c) (by kernel_rfl) (fun W hW => by kernel_rfl) ?_
            refine wq_val (.int .i64 ((k : Nat) : Int)) (by kernel_rfl) (fun W hW => by kernel_rfl) ?_
            refine wq_val (.pointer (some ⟨b, o + k * 7, none⟩)) (by kernel_rfl) (fun W hW => run_eqv (run_idx 84 (Operand.tmp 18) (Operand.tmp 19) rfl b o l.length c k 87 7 (by kernel_rfl) (by kernel_rfl) (by omega) Tryz.underlying84 (by kernel_rfl)) rfl) ?_
            refine wq_val (.pointer (some ⟨b, o + k * 7, none⟩)) (by kernel_rfl) (fun W hW => by kernel_rfl) ?_
            refine wq_val (.pointer (some ⟨b, o + k * 7 + 1, none⟩)) (by kernel_rfl) (fun W hW => by kernel_rfl) ?_
            refine wq_val (.int .i64 v1) (by kernel_rfl) (fun W hW => run_load1 3 (Operand.tmp 22) rfl ⟨b, o + k * 7 + 1, none⟩ (by kernel_rfl) (.int .i64 v1) (C1.out W hW.row) _ Tryz.underlying3 rfl) ?_
            refine wq_val (.slice (some ⟨b, o, none⟩) l.length c) (by kernel_rfl) (fun W hW => by kernel_rfl) ?_
            refine wq_val (.int .i64 ((k : Nat) : Int)) (by kernel_rfl) (fun W hW => by kernel_rfl) ?_
            refine wq_val (.int .i64 ((k + 1 : Nat) : Int)) (by kernel_rfl) (fun W hW => run_eqv (v := .int .i64 (IntKind.i64.wrap (((k : Nat) : Int) + 1))) (by kernel_rfl) (wrap_nat _ (k + 1) (by omega) (by omega))) ?_
            refine wq_val (.pointer (some ⟨b, o + (k + 1) * 7, none⟩)) (by kernel_rfl) (fun W hW => run_eqv (run_idx 84 (Operand.tmp 24) (Operand.tmp 26) rfl b o l.length c (k + 1) 87 7 (by kernel_rfl) (by kernel_rfl) (by omega) Tryz.underlying84 (by kernel_rfl)) rfl) ?_
            refine wq_val (.pointer (some ⟨b, o + (k + 1) * 7, none⟩)) (by kernel_rfl) (fun W hW => by kernel_rfl) ?_
            refine wq_val (.pointer (some ⟨b, o + (k + 1) * 7 + 1, none⟩)) (by kernel_rfl) (fun W hW => by kernel_rfl) ?_
            refine wq_val (.int .i64 v2) (by kernel_rfl) (fun W hW => run_load1 3 (Operand.tmp 29) rfl ⟨b, o + (k + 1) * 7 + 1, none⟩ (by kernel_rfl) (.int .i64 v2) (C2.out W hW.row) _ Tryz.underlying3 rfl) ?_
            refine wq_val (.bool true) (by kernel_rfl) (fun W hW => run_eqv (v := .bool (v1 == v2)) (by kernel_rfl) ((by rw [HV.out]))) ?_
            refine wq_val (.bool true) (by kernel_rfl) (fun W hW => by kernel_rfl) ?_
            refine wq_val (.bool true) (by kernel_rfl) (fun W hW => by kernel_rfl) ?_
            refine wq_val (.slice (some ⟨b, o, none⟩) l.length c) (by kernel_rfl) (fun W hW => by kernel_rfl) ?_
            refine wq_val (.int .i64 ((k : Nat) : Int)) (by kernel_rfl) (fun W hW => by kernel_rfl) ?_
            refine wq_val (.pointer (some ⟨b, o + k * 7, none⟩)) (by kernel_rfl) (fun W hW => run_eqv (run_idx 84 (Operand.tmp 34) (Operand.tmp 35) rfl b o l.length c k 87 7 (by kernel_rfl) (by kernel_rfl) (by omega) Tryz.underlying84 (by kernel_rfl)) rfl) ?_
            refine wq_val (.pointer (some ⟨b, o + k * 7 + 6, none⟩)) (by kernel_rfl) (fun W hW => by kernel_rfl) ?_
            refine wq_val (.int .i64 s1) (by kernel_rfl) (fun W hW => run_load1 3 (Operand.tmp 37) rfl ⟨b, o + k * 7 + 6, none⟩ (by kernel_rfl) (.int .i64 s1) (C3.out W hW.row) _ Tryz.underlying3 rfl) ?_
            refine wq_val (.slice (some ⟨b, o, none⟩) l.length c) (by kernel_rfl) (fun W hW => by kernel_rfl) ?_
            refine wq_val (.int .i64 ((k : Nat) : Int)) (by kernel_rfl) (fun W hW => by kernel_rfl) ?_
            refine wq_val (.int .i64 ((k + 1 : Nat) : Int)) (by kernel_rfl) (fun W hW => run_eqv (v := .int .i64 (IntKind.i64.wrap (((k : Nat) : Int) + 1))) (by kernel_rfl) (wrap_nat _ (k + 1) (by omega) (by omega))) ?_
            refine wq_val (.pointer (some ⟨b, o + (k + 1) * 7, none⟩)) (by kernel_rfl) (fun W hW => run_eqv (run_idx 84 (Operand.tmp 39) (Operand.tmp 41) rfl b o l.length c (k + 1) 87 7 (by kernel_rfl) (by kernel_rfl) (by omega) Tryz.underlying84 (by kernel_rfl)) rfl) ?_
            refine wq_val (.pointer (some ⟨b, o + (k + 1) * 7 + 6, none⟩)) (by kernel_rfl) (fun W hW => by kernel_rfl) ?_
            refine wq_val (.int .i64 s2) (by kernel_rfl) (fun W hW => run_load1 3 (Operand.tmp 43) rfl ⟨b, o + (k + 1) * 7 + 6, none⟩ (by kernel_rfl) (.int .i64 s2) (C4.out W hW.row) _ Tryz.underlying3 rfl) ?_
            refine wq_val (.int .i64 (s1 + s2)) (by kernel_rfl) (fun W hW => run_eqv (v := .int .i64 (IntKind.i64.wrap (s1 + s2))) (by kernel_rfl) ((by rw [Go.IntWalk.i64_in _ (by omega)]))) ?_
            refine wq_val (.int .i64 (4 * (s1 + s2))) (by kernel_rfl) (fun W hW => run_eqv (v := .int .i64 (IntKind.i64.wrap (4 * (s1 + s2)))) (by kernel_rfl) ((by rw [Go.IntWalk.i64_in _ (by omega)]))) ?_
            refine wq_val (.int .i64 most) (by kernel_rfl) (fun W hW => by kernel_rfl) ?_
            refine wq_val (.bool false) (by kernel_rfl) (fun W hW => run_eqv (v := .bool (decide (4 * (s1 + s2) ≤ most))) (by kernel_rfl) ((by rw [HM.out]))) ?_
            refine wq_val (.bool false) (by kernel_rfl) (fun W hW => by kernel_rfl) ?_
            refine quiet_end rfl (Lib.hid ?_)
            refine Lib.hid ?_
            intro w3 hW
            have S3 := Lib.hid hW
            clear hW
            dsimp only [Exit.then, Act.put]
            simp only [List.setIfInBounds_toArray, List.set_cons_succ, List.set_cons_zero]
            go_wp2_with fail
            go_roundw
            case rel => exact ⟨k + 1, by omega, by go_num, S3, HRS⟩
            case measure => simp [intOf]; omega
          | true =>
            have HM := Lib.hid hm
            have HRS := Lib.hid (HJS.out (by rw [HJE.out, hm]))
            clear hm HJE HJS
            go_wp2_with fail
            refine wp_region_class (JO w b o l) (by kernel_rfl) (by kernel_rfl) (HB.out.next (tame_drewN (Below.refl _ wr) 1)) ?_
            refine wq_val (.int .i64 ((k : Nat) : Int)) (by kernel_rfl) (fun W hW => by kernel_rfl) ?_
            refine wq_val (.int .i64 ((k + 1 : Nat) : Int)) (by kernel_rfl) (fun W hW => run_eqv (v := .int .i64 (IntKind.i64.wrap (((k : Nat) : Int) + 1))) (by kernel_rfl) (wrap_nat _ (k + 1) (by omega) (by omega))) ?_
            refine wq_val (.slice (some ⟨b, o, none⟩) l.length c) (by kernel_rfl) (fun W hW => by kernel_rfl) ?_
            refine wq_val (.int .i64 (l.length : Int)) (by kernel_rfl) (fun W hW => by kernel_rfl) ?_
            refine wq_val (.bool true) (by kernel_rfl) (fun W hW => run_eqv (v := .bool (decide (((k + 1 : Nat) : Int) < ((l.length : Nat) : Int)))) (by kernel_rfl) ((by rw [HL2.out]))) ?_
            refine wq_val (.bool true) (by kernel_rfl) (fun W hW => by kernel_rfl) ?_
            refine wq_val (.slice (some ⟨b, o, none⟩) l.length c) (by kernel_rfl) (fun W hW => by kernel_rfl) ?_
            refine wq_val (.int .i64 ((k : Nat) : Int)) (by kernel_rfl) (fun W hW => by kernel_rfl) ?_
            refine wq_val (.pointer (some ⟨b, o + k * 7, none⟩)) (by kernel_rfl) (fun W hW => run_eqv (run_idx 84 (Operand.tmp 18) (Operand.tmp 19) rfl b o l.length c k 87 7 (by kernel_rfl) (by kernel_rfl) (by omega) Tryz.underlying84 (by kernel_rfl)) rfl) ?_
            refine wq_val (.pointer (some ⟨b, o + k * 7, none⟩)) (by kernel_rfl) (fun W hW => by kernel_rfl) ?_
            refine wq_val (.pointer (some ⟨b, o + k * 7 + 1, none⟩)) (by kernel_rfl) (fun W hW => by kernel_rfl) ?_
            refine wq_val (.int .i64 v1) (by kernel_rfl) (fun W hW => run_load1 3 (Operand.tmp 22) rfl ⟨b, o + k * 7 + 1, none⟩ (by kernel_rfl) (.int .i64 v1) (C1.out W hW.row) _ Tryz.underlying3 rfl) ?_
            refine wq_val (.slice (some ⟨b, o, none⟩) l.length c) (by kernel_rfl) (fun W hW => by kernel_rfl) ?_
            refine wq_val (.int .i64 ((k : Nat) : Int)) (by kernel_rfl) (fun W hW => by kernel_rfl) ?_
            refine wq_val (.int .i64 ((k + 1 : Nat) : Int)) (by kernel_rfl) (fun W hW => run_eqv (v := .int .i64 (IntKind.i64.wrap (((k : Nat) : Int) + 1))) (by kernel_rfl) (wrap_nat _ (k + 1) (by omega) (by omega))) ?_
            refine wq_val (.pointer (some ⟨b, o + (k + 1) * 7, none⟩)) (by kernel_rfl) (fun W hW => run_eqv (run_idx 84 (Operand.tmp 24) (Operand.tmp 26) rfl b o l.length c (k + 1) 87 7 (by kernel_rfl) (by kernel_rfl) (by omega) Tryz.underlying84 (by kernel_rfl)) rfl) ?_
            refine wq_val (.pointer (some ⟨b, o + (k + 1) * 7, none⟩)) (by kernel_rfl) (fun W hW => by kernel_rfl) ?_
            refine wq_val (.pointer (some ⟨b, o + (k + 1) * 7 + 1, none⟩)) (by kernel_rfl) (fun W hW => by kernel_rfl) ?_
            refine wq_val (.int .i64 v2) (by kernel_rfl) (fun W hW => run_load1 3 (Operand.tmp 29) rfl ⟨b, o + (k + 1) * 7 + 1, none⟩ (by kernel_rfl) (.int .i64 v2) (C2.out W hW.row) _ Tryz.underlying3 rfl) ?_
            refine wq_val (.bool true) (by kernel_rfl) (fun W hW => run_eqv (v := .bool (v1 == v2)) (by kernel_rfl) ((by rw [HV.out]))) ?_
            refine wq_val (.bool true) (by kernel_rfl) (fun W hW => by kernel_rfl) ?_
            refine wq_val (.bool true) (by kernel_rfl) (fun W hW => by kernel_rfl) ?_
            refine wq_val (.slice (some ⟨b, o, none⟩) l.length c) (by kernel_rfl) (fun W hW => by kernel_rfl) ?_
            refine wq_val (.int .i64 ((k : Nat) : Int)) (by kernel_rfl) (fun W hW => by kernel_rfl) ?_
            refine wq_val (.pointer (some ⟨b, o + k * 7, none⟩)) (by kernel_rfl) (fun W hW => run_eqv (run_idx 84 (Operand.tmp 34) (Operand.tmp 35) rfl b o l.length c k 87 7 (by kernel_rfl) (by kernel_rfl) (by omega) Tryz.underlying84 (by kernel_rfl)) rfl) ?_
            refine wq_val (.pointer (some ⟨b, o + k * 7 + 6, none⟩)) (by kernel_rfl) (fun W hW => by kernel_rfl) ?_
            refine wq_val (.int .i64 s1) (by kernel_rfl) (fun W hW => run_load1 3 (Operand.tmp 37) rfl ⟨b, o + k * 7 + 6, none⟩ (by kernel_rfl) (.int .i64 s1) (C3.out W hW.row) _ Tryz.underlying3 rfl) ?_
            refine wq_val (.slice (some ⟨b, o, none⟩) l.length c) (by kernel_rfl) (fun W hW => by kernel_rfl) ?_
            refine wq_val (.int .i64 ((k : Nat) : Int)) (by kernel_rfl) (fun W hW => by kernel_rfl) ?_
            refine wq_val (.int .i64 ((k + 1 : Nat) : Int)) (by kernel_rfl) (fun W hW => run_eqv (v := .int .i64 (IntKind.i64.wrap (((k : Nat) : Int) + 1))) (by kernel_rfl) (wrap_nat _ (k + 1) (by omega) (by omega))) ?_
            refine wq_val (.pointer (some ⟨b, o + (k + 1) * 7, none⟩)) (by kernel_rfl) (fun W hW => run_eqv (run_idx 84 (Operand.tmp 39) (Operand.tmp 41) rfl b o l.length c (k + 1) 87 7 (by kernel_rfl) (by kernel_rfl) (by omega) Tryz.underlying84 (by kernel_rfl)) rfl) ?_
            refine wq_val (.pointer (some ⟨b, o + (k + 1) * 7 + 6, none⟩)) (by kernel_rfl) (fun W hW => by kernel_rfl) ?_
            refine wq_val (.int .i64 s2) (by kernel_rfl) (fun W hW => run_load1 3 (Operand.tmp 43) rfl ⟨b, o + (k + 1) * 7 + 6, none⟩ (by kernel_rfl) (.int .i64 s2) (C4.out W hW.row) _ Tryz.underlying3 rfl) ?_
            refine wq_val (.int .i64 (s1 + s2)) (by kernel_rfl) (fun W hW => run_eqv (v := .int .i64 (IntKind.i64.wrap (s1 + s2))) (by kernel_rfl) ((by rw [Go.IntWalk.i64_in _ (by omega)]))) ?_
            refine wq_val (.int .i64 (4 * (s1 + s2))) (by kernel_rfl) (fun W hW => run_eqv (v := .int .i64 (IntKind.i64.wrap (4 * (s1 + s2)))) (by kernel_rfl) ((by rw [Go.IntWalk.i64_in _ (by omega)]))) ?_
            refine wq_val (.int .i64 most) (by kernel_rfl) (fun W hW => by kernel_rfl) ?_
            refine wq_val (.bool true) (by kernel_rfl) (fun W hW => run_eqv (v := .bool (decide (4 * (s1 + s2) ≤ most))) (by kernel_rfl) ((by rw [HM.out]))) ?_
            refine wq_val (.bool true) (by kernel_rfl) (fun W hW => by kernel_rfl) ?_
            refine quiet_end rfl (Lib.hid ?_)
            refine Lib.hid ?_
            intro w3 hW
            have S3 := Lib.hid hW
            clear hW
            dsimp only [Exit.then, Act.put]
            simp only [List.setIfInBounds_toArray, List.set_cons_succ, List.set_cons_zero]
            go_wp2_with fail
            refine wp_region_wa ((Only (fun q => q = w.heap.size) w3)) (by kernel_rfl) (((Only.refl (fun q => q = w.heap.size) w3).drewN 1)) ?_
            intro hS
            refine wa_take 0 (⟨some 50, .move (.tmp 0), 84, "balance.go:177", #[], none⟩) (.slice (some ⟨b, o, none⟩) l.length c) (by kernel_rfl) (by kernel_rfl) (by kernel_rfl) (by kernel_rfl) (fun _ _ _ h => h) (.inl ⟨by kernel_rfl, fun W hW => by kernel_rfl⟩) hS ?_
            refine wa_take 1 (⟨some 51, .move (.tmp 6), 3, "balance.go:177", #[], none⟩) (.int .i64 ((k : Nat) : Int)) (by kernel_rfl) (by kernel_rfl) (by kernel_rfl) (by kernel_rfl) (fun _ _ _ h => h) (.inl ⟨by kernel_rfl, fun W hW => by kernel_rfl⟩) hS ?_
            refine wa_take 2 (⟨some 52, .indexAddr 84 (.tmp 50) (.tmp 51), 0, "balance.go:177", #[eoD 0, eoD 1], none⟩) (.pointer (some ⟨b, o + k * 7, none⟩)) (by kernel_rfl) (by kernel_rfl) (by kernel_rfl) (by kernel_rfl) (fun _ _ _ h => h) (.inl ⟨by kernel_rfl, fun W hW => run_eqv (run_idx 84 (Operand.tmp 50) (Operand.tmp 51) rfl b o l.length c k 87 7 (by kernel_rfl) (by kernel_rfl) (by omega) Tryz.underlying84 (by kernel_rfl)) rfl⟩) hS ?_
            refine wa_take 3 (⟨some 53, .fieldAddr 87 (.tmp 52) 0, 0, "balance.go:177", #[eoD 2], none⟩) (.pointer (some ⟨b, o + k * 7, none⟩)) (by kernel_rfl) (by kernel_rfl) (by kernel_rfl) (by kernel_rfl) (fun _ _ _ h => h) (.inl ⟨by kernel_rfl, fun W hW => by kernel_rfl⟩) hS ?_
            refine wa_take 4 (⟨some 54, .fieldAddr 54 (.tmp 53) 0, 0, "balance.go:177", #[eoD 3], none⟩) (.pointer (some ⟨b, o + k * 7, none⟩)) (by kernel_rfl) (by kernel_rfl) (by kernel_rfl) (by kernel_rfl) (fun _ _ _ h => h) (.inl ⟨by kernel_rfl, fun W hW => by kernel_rfl⟩) hS ?_
            refine wa_take 5 (⟨some 55, .load 3 (.tmp 54), 3, "balance.go:177", #[eoD 4], none⟩) (.int .i64 d1) (by kernel_rfl) (by kernel_rfl) (by kernel_rfl) (by kernel_rfl) (fun _ _ _ h => h) (.inl ⟨by kernel_rfl, fun W hW => run_load1 3 (Operand.tmp 54) rfl ⟨b, o + k * 7, none⟩ (by kernel_rfl) (.int .i64 d1) (C5.out W (S3.out.row.only hW HNB.out)) _ Tryz.underlying3 rfl⟩) hS ?_
            refine wa_take 6 (⟨some 56, .move (.tmp 0), 84, "balance.go:177", #[], none⟩) (.slice (some ⟨b, o, none⟩) l.length c) (by kernel_rfl) (by kernel_rfl) (by kernel_rfl) (by kernel_rfl) (fun _ _ _ h => h) (.inl ⟨by kernel_rfl, fun W hW => by kernel_rfl⟩) hS ?_
            refine wa_take 7 (⟨some 57, .move (.tmp 6), 3, "balance.go:177", #[], none⟩) (.int .i64 ((k : Nat) : Int)) (by kernel_rfl) (by kernel_rfl) (by kernel_rfl) (by kernel_rfl) (fun _ _ _ h => h) (.inl ⟨by kernel_rfl, fun W hW => by kernel_rfl⟩) hS ?_
            refine wa_take 8 (⟨some 58, .binOp .add 3 (.tmp 57) (.const (.int .i64 1)) 3, 3, "balance.go:177", #[eoD 7], none⟩) (.int .i64 ((k + 1 : Nat) : Int)) (by kernel_rfl) (by kernel_rfl) (by kernel_rfl) (by kernel_rfl) (fun _ _ _ h => h) (.inl ⟨by kernel_rfl, fun W hW => run_eqv (v := .int .i64 (IntKind.i64.wrap (((k : Nat) : Int) + 1))) (by kernel_rfl) (wrap_nat _ (k + 1) (by omega) (by omega))⟩) hS ?_
            refine wa_take 9 (⟨some 59, .indexAddr 84 (.tmp 56) (.tmp 58), 0, "balance.go:177", #[eoD 6, eoD 8], none⟩) (.pointer (some ⟨b, o + (k + 1) * 7, none⟩)) (by kernel_rfl) (by kernel_rfl) (by kernel_rfl) (by kernel_rfl) (fun _ _ _ h => h) (.inl ⟨by kernel_rfl, fun W hW => run_eqv (run_idx 84 (Operand.tmp 56) (Operand.tmp 58) rfl b o l.length c (k + 1) 87 7 (by kernel_rfl) (by kernel_rfl) (by omega) Tryz.underlying84 (by kernel_rfl)) rfl⟩) hS ?_
            refine wa_take 10 (⟨some 60, .fieldAddr 87 (.tmp 59) 0, 0, "balance.go:177", #[eoD 9], none⟩) (.pointer (some ⟨b, o + (k + 1) * 7, none⟩)) (by kernel_rfl) (by kernel_rfl) (by kernel_rfl) (by kernel_rfl) (fun _ _ _ h => h) (.inl ⟨by kernel_rfl, fun W hW => by kernel_rfl⟩) hS ?_
            refine wa_take 11 (⟨some 61, .fieldAddr 54 (.tmp 60) 0, 0, "balance.go:177", #[eoD 10], none⟩) (.pointer (some ⟨b, o + (k + 1) * 7, none⟩)) (by kernel_rfl) (by kernel_rfl) (by kernel_rfl) (by kernel_rfl) (fun _ _ _ h => h) (.inl ⟨by kernel_rfl, fun W hW => by kernel_rfl⟩) hS ?_
            refine wa_take 12 (⟨some 62, .load 3 (.tmp 61), 3, "balance.go:177", #[eoD 11], none⟩) (.int .i64 d2) (by kernel_rfl) (by kernel_rfl) (by kernel_rfl) (by kernel_rfl) (fun _ _ _ h => h) (.inl ⟨by kernel_rfl, fun W hW => run_load1 3 (Operand.tmp 61) rfl ⟨b, o + (k + 1) * 7, none⟩ (by kernel_rfl) (.int .i64 d2) (C6.out W (S3.out.row.only hW HNB.out)) _ Tryz.underlying3 rfl⟩) hS ?_
            refine wa_take 13 (⟨some 63, .build 44 #[(0, .const (.int .i64 4)), (1, .tmp 55), (2, .tmp 62)], 44, "balance.go:177", #[eoD 5, eoD 12], none⟩) (.agg #[.int .i64 4, .int .i64 d1, .int .i64 d2, .int .i64 0, .int .i64 0, .int .i64 0, .slice none 0 0, .string ⟨#[]⟩, .int .i64 0, .int .i64 0, .int .i64 0, .slice none 0 0]) (by kernel_rfl) (by kernel_rfl) (by kernel_rfl) (by kernel_rfl) (fun _ _ _ h => h) (.inl ⟨by kernel_rfl, fun W hW => by kernel_rfl⟩) hS ?_
            refine wa_ready [14] (by kernel_rfl) (by simp) ?_
            refine ar_cons (⟨none, .store 44 (.tmp 4) (.tmp 63), 0, "balance.go:177", #[eoD 13, eoP 0, eoP 1, eoP 2, eoP 3, eoP 4, eoP 5, eoP 6, eoP 7, eoP 8, eoP 9, eoP 10, eoP 11, eoP 12, eoP 13], none⟩) (by kernel_rfl) (by kernel_rfl) (fun K hK => ?_) ar_nil
            refine ow_store_blk 44 (.tmp 4) (.tmp 63) rfl w.heap.size #[.int .i64 4, .int .i64 d1, .int .i64 d2, .int .i64 0, .int .i64 0, .int .i64 0, .slice none 0 0, .string ⟨#[]⟩, .int .i64 0, .int .i64 0, .int .i64 0, .slice none 0 0] (by kernel_rfl) (by kernel_rfl) 44 _ (S3.out.box.drewN 1) rfl (by kernel_rfl) (by kernel_rfl) (Lib.hid ?_)
            intro w4 hz hox
            refine hK.out _ _ (hS.trans hox) (fun hS => ?_)
            have HZ4 := Lib.hid hz
            clear hK K hz hox
            refine wa_take 15 (⟨some 5, .assign (.const (.bool true)), 4, "balance.go:177", #[eoC 14, eoP 0, eoP 1, eoP 2, eoP 3, eoP 4, eoP 5, eoP 6, eoP 7, eoP 8, eoP 9, eoP 10, eoP 11, eoP 12, eoP 13, eoP 14], none⟩) (.bool true) (by kernel_rfl) (by kernel_rfl) (by kernel_rfl) (by kernel_rfl) (fun _ _ _ h => h) (.inl ⟨by kernel_rfl, fun W hW => by kernel_rfl⟩) hS ?_
            refine wa_done (by kernel_rfl) ?_
            dsimp only [Exit.then, Act.put]
            simp only [List.setIfInBounds_toArray, List.set_cons_succ, List.set_cons_zero]
            have O4 := Lib.hid hS
            clear hS
            go_wp2_with fail
            refine bodyPost_ret (results_cell_tmp rfl _ _ w.heap.size 44 _ (0, 0) _ rfl HZ4.out Tryz.underlying44 rfl (by kernel_rfl)) rfl ?_
            exact ⟨by rw [HRS.out]; rfl, S3.out.bel.trans (O4.out.to_below S3.out.bel.size (fun q hq e => by omega))⟩
      · have HL2 := Lib.hid (decide_eq_false (show ¬ ((k + 1 : Nat) : Int) < ((l.length : Nat) : Int) by omega))
        have HRS := Lib.hid (fun j (hj : j < k + 1) => show joinAt (l.map LO.plain) most j = false from by
          by_cases hjj : j < k
          · exact HP.out j hjj
          · obtain rfl : j = k := by omega
            exact joinAt_no (by simpa using hl2))
        go_wp2_with fail
        refine wp_region_class (JO w b o l) (by kernel_rfl) (by kernel_rfl) (HB.out.next (tame_drewN (Below.refl _ wr) 1)) ?_
        refine wq_val (.int .i64 ((k : Nat) : Int)) (by kernel_rfl) (fun W hW => by kernel_rfl) ?_
        refine wq_val (.int .i64 ((k + 1 : Nat) : Int)) (by kernel_rfl) (fun W hW => run_eqv (v := .int .i64 (IntKind.i64.wrap (((k : Nat) : Int) + 1))) (by kernel_rfl) (wrap_nat _ (k + 1) (by omega) (by omega))) ?_
        refine wq_val (.slice (some ⟨b, o, none⟩) l.length c) (by kernel_rfl) (fun W hW => by kernel_rfl) ?_
        refine wq_val (.int .i64 (l.length : Int)) (by kernel_rfl) (fun W hW => by kernel_rfl) ?_
        refine wq_val (.bool false) (by kernel_rfl) (fun W hW => run_eqv (v := .bool (decide (((k + 1 : Nat) : Int) < ((l.length : Nat) : Int)))) (by kernel_rfl) ((by rw [HL2.out]))) ?_
        refine wq_val (.bool false) (by kernel_rfl) (fun W hW => by kernel_rfl) ?_
        refine wq_no (by kernel_rfl) ?_
        refine wq_no (by kernel_rfl) ?_
        refine wq_no (by kernel_rfl) ?_
        refine wq_no (by kernel_rfl) ?_
        refine wq_no (by kernel_rfl) ?_
        refine wq_no (by kernel_rfl) ?_
        refine wq_no (by kernel_rfl) ?_
        refine wq_no (by kernel_rfl) ?_
        refine wq_no (by kernel_rfl) ?_
        refine wq_no (by kernel_rfl) ?_
        refine wq_no (by kernel_rfl) ?_
        refine wq_no (by kernel_rfl) ?_
        refine wq_no (by kernel_rfl) ?_
        refine wq_no (by kernel_rfl) ?_
        refine wq_val (.bool false) (by kernel_rfl) (fun W hW => by kernel_rfl) ?_
        refine wq_val (.bool false) (by kernel_rfl) (fun W hW => by kernel_rfl) ?_
        refine wq_no (by kernel_rfl) ?_
        refine wq_no (by kernel_rfl) ?_
        refine wq_no (by kernel_rfl) ?_
        refine wq_no (by kernel_rfl) ?_
        refine wq_no (by kernel_rfl) ?_
        refine wq_no (by kernel_rfl) ?_
        refine wq_no (by kernel_rfl) ?_
        refine wq_no (by kernel_rfl) ?_
        refine wq_no (by kernel_rfl) ?_
        refine wq_no (by kernel_rfl) ?_
        refine wq_no (by kernel_rfl) ?_
        refine wq_no (by kernel_rfl) ?_
        refine wq_no (by kernel_rfl) ?_
        refine wq_no (by kernel_rfl) ?_
        refine wq_no (by kernel_rfl) ?_
        refine wq_val (.bool false) (by kernel_rfl) (fun W hW => by kernel_rfl) ?_
        refine quiet_end rfl (Lib.hid ?_)
        refine Lib.hid ?_
        intro w3 hW
        have S3 := Lib.hid hW
        clear hW
        dsimp only [Exit.then, Act.put]
        simp only [List.setIfInBounds_toArray, List.set_cons_succ, List.set_cons_zero]
        go_wp2_with fail
        go_roundw
        case rel => exact ⟨k + 1, by omega, by go_num, S3, HRS⟩
        case measure => simp [intOf]; omega
    · obtain rfl : k = l.length := by omega
      have HRS := Lib.hid (join_none (p := l.map LO.plain) (most := most) (fun j hj => HP.out j (by simpa using hj)))
      go_wp2_with (refine wpList_store_blk rfl 44 (.tmp 4) (.tmp 65) rfl w.heap.size #[.int .i64 0, .int .i64 0, .int .i64 0, .int .i64 0, .int .i64 0, .int .i64 0, .slice none 0 0, .string ⟨#[]⟩, .int .i64 0, .int .i64 0, .int .i64 0, .slice none 0 0] rfl rfl 44 _ HB.out.box rfl (by kernel_rfl) (by kernel_rfl) ?_)
      refine Lib.hid ?_
      intro w2 hz ho
      have HZ2 := Lib.hid hz
      have B2 := Lib.hid (HB.out.bel.trans (ho.to_below HB.out.bel.size (fun q hq e => by omega)))
      clear hz ho
      go_wp2_with fail
      refine bodyPost_ret (results_cell_tmp rfl _ _ w.heap.size 44 _ (0, 0) _ rfl HZ2.out Tryz.underlying44 rfl (by kernel_rfl)) rfl ?_
      exact ⟨by rw [HRS.out]; rfl, B2.out⟩
end Go.Proofs.YthjmfcdhpdiehaaGreatDoor
