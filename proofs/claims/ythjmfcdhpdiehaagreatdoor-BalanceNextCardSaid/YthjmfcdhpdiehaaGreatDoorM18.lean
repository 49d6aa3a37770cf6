/-
  balance.joins.
-/
import Derived.Test.YthjmfcdhpdiehaaGreatDoorM17
namespace Go.Proofs.YthjmfcdhpdiehaaGreatDoor
open Go.RowKit Utf
set_option maxRecDepth 100000
set_option linter.unusedSimpArgs false
set_option linter.unusedVariables false

theorem join_some {p : List (Sh × List LD)} {most : Int} {k : Nat} (hk : k < p.length) (h : joinAt p most k = true) (hn : ∀ j, j < k → joinAt p most j = false) : joinsP p most = some (joinE (plAt p k).1.id (plAt p (k + 1)).1.id) := by
  have : joinsN p most = some k := by
    unfold joinsN
    rw [List.find?_range_eq_some]
    exact ⟨h, by simpa using hk, fun j hj => by rw [hn j hj]; rfl⟩
  unfold joinsP
  rw [this]
  rfl
theorem join_none {p : List (Sh × List LD)} {most : Int} (hn : ∀ j, j < p.length → joinAt p most j = false) : joinsP p most = none := by
  have : joinsN p most = none := by
    unfold joinsN
    rw [List.find?_eq_none]
    intro j hj
    rw [hn j (List.mem_range.1 hj)]
    simp
  unfold joinsP
  rw [this]
  rfl
theorem joinAt_no {p : List (Sh × List LD)} {most : Int} {k : Nat} (h : ¬ k + 1 < p.length) : joinAt p most k = false := by
  unfold joinAt
  rw [decide_eq_false h, Bool.false_and]
theorem joinAt_eq {p : List (Sh × List LD)} {most : Int} {k : Nat} (h : k + 1 < p.length) : joinAt p most k = (((plAt p k).1.server == (plAt p (k + 1)).1.server) && decide (4 * (sumN (plAt p k).2 + sumN (plAt p (k + 1)).2) ≤ most)) := by
  unfold joinAt
  rw [decide_eq_true h, Bool.true_and]
  rfl
/-- How the loop stands. -/
structure JO (w : World) (b o : Nat) (l : List LO) (W : World) : Prop where
  bel : Below w.heap.size w W
  row : RowAt W (some ⟨b, o, none⟩) (loRow l)
  box : Blk W w.heap.size 44 zeroEn
theorem JO.next {w W W' : World} {b o : Nat} {l : List LO} (h : JO w b o l W) (hb : Below W.heap.size W W') : JO w b o l W' :=
  ⟨h.bel.trans (hb.mono h.bel.size), h.row.below hb, h.box.below hb h.box.lt⟩

set_option maxHeartbeats 4000000 in
theorem joins_any (l : List LO) (b o c : Nat) (most : Int) (w : World) (hn : l.length ≤ 10000) (hr : RowAt w (some ⟨b, o, none⟩) (loRow l)) (hsm : ∀ x ∈ l, 0 ≤ sumN x.keys ∧ sumN x.keys ≤ 1000000000) :
    Calls Tryz.prog 42 #[.slice (some ⟨b, o, none⟩) l.length c, .int .i64 most] w fun e w' => EntR (joinsP (l.map LO.plain) most) e ∧ Below w.heap.size w w' := by
  have H0 := Lib.hid (show JO w b o l (w.alloc (.cells zeroEn 44)) from ⟨below_alloc _ _, hr.below (below_alloc _ _), Blk.new _ _ _⟩)
  unfold zeroEn at H0
  have HSM := Lib.hid hsm
  have HNB0 := Lib.hid (fun (hl : 0 < l.length) (ad : Addr) (e : some (⟨b, o, none⟩ : Addr) = some ad) (h : ad.block = w.heap.size) => show False from by
    cases e
    have h1 : w.cell? ⟨b, o + 0 * 7 + 0, none⟩ = _ := row_lo hr hl 0 _ rfl
    have h2 := World.block_lt_of_cell? w _ h1
    dsimp only at h h2
    omega)
  clear hr hsm
  go_enter Tryz.func42, Tryz.ntmps42
  go_wp2_with fail
  go_loopw [9] (fun i wr => ∃ k : Nat, k ≤ l.length ∧ i = .int .i64 k ∧ Hid (JO w b o l wr) ∧ Hid (∀ j, j < k → joinAt (l.map LO.plain) most j = false)) (fun i _ => l.length - (intOf i).toNat)
  case atStart => exact ⟨0, Nat.zero_le _, rfl, H0, Lib.hid (fun j hj => by omega)⟩
  case round =>
    obtain ⟨k, hk, rfl, HB, HP⟩ := hrel
    by_cases hlt : k < l.length
    · by_cases hl2 : k + 1 < l.length
      · have HL2 := Lib.hid (decide_eq_true (show ((k + 1 : Nat) : Int) < ((l.length : Nat) : Int) by omega))
        have hp1 : k + 1 < (l.map LO.plain).length := by simpa using hl2
        have HJE : Hid (joinAt (l.map LO.plain) most k = ((l[k].sh.server == l[k + 1].sh.server) && decide (4 * (sumN l[k].keys + sumN l[k + 1].keys) ≤ most))) := Lib.hid (by rw [joinAt_eq hp1, plAt_of hlt, plAt_of hl2]; rfl)
        have HJS : Hid (joinAt (l.map LO.plain) most k = true → joinsP (l.map LO.plain) most = some (joinE l[k].sh.id l[k + 1].sh.id)) := Lib.hid (fun h => by rw [join_some (by omega) h HP.out, plAt_of hlt, plAt_of hl2]; rfl)
        have b1 := HSM.out _ (List.getElem_mem hlt)
        have b2 := HSM.out _ (List.getElem_mem hl2)
        have C1 := Lib.hid (fun W (h : RowAt W (some ⟨b, o, none⟩) (loRow l)) => (row_lo h hlt 1 _ rfl : W.cell? ⟨b, o + k * 7 + 1, none⟩ = some (.int .i64 l[k].sh.server)))
        have C2 := Lib.hid (fun W (h : RowAt W (some ⟨b, o, none⟩) (loRow l)) => (row_lo h hl2 1 _ rfl : W.cell? ⟨b, o + (k + 1) * 7 + 1, none⟩ = some (.int .i64 l[k + 1].sh.server)))
        have C3 := Lib.hid (fun W (h : RowAt W (some ⟨b, o, none⟩) (loRow l)) => (row_lo h hlt 6 _ rfl : W.cell? ⟨b, o + k * 7 + 6, none⟩ = some (.int .i64 (sumN l[k].keys))))
        have C4 := Lib.hid (fun W (h : RowAt W (some ⟨b, o, none⟩) (loRow l)) => (row_lo h hl2 6 _ rfl : W.cell? ⟨b, o + (k + 1) * 7 + 6, none⟩ = some (.int .i64 (sumN l[k + 1].keys))))
        have C5 := Lib.hid (fun W (h : RowAt W (some ⟨b, o, none⟩) (loRow l)) => (row_lo h hlt 0 _ rfl : W.cell? ⟨b, o + k * 7, none⟩ = some (.int .i64 l[k].sh.id)))
        have C6 := Lib.hid (fun W (h : RowAt W (some ⟨b, o, none⟩) (loRow l)) => (row_lo h hl2 0 _ rfl : W.cell? ⟨b, o + (k + 1) * 7, none⟩ = some (.int .i64 l[k + 1].sh.id)))
        generalize sumN l[k].keys = s1 at *
        generalize sumN l[k + 1].keys = s2 at *
        generalize l[k].sh.server = v1 at *
        generalize l[k + 1].sh.server = v2 at *
        generalize l[k].sh.id = d1 at *
        generalize l[k + 1].sh.id = d2 at *
        clear hp1
        have HNB := Lib.hid (HNB0.out (by omega))
        cases hv : (v1 == v2) with
        | false =>
          have HV := Lib.hid hv
          have HRS := Lib.hid (fun j (hj : j < k + 1) => show joinAt (l.map LO.plain) most j = false from by
            by_cases hjj : j < k
            · exact HP.out j hjj
            · obtain rfl : j = k := by omega
              exact by rw [HJE.out, hv, Bool.false_and])
          clear hv HJE HJS
          go_wp2_with fail
          refine wp_region_class (JO w b o l) (by kernel_rfl) (by kernel_rfl) (HB.out.next (tame_drewN (Below.refl _ wr) 1)) ?_
          refine wq_k (.int .i64 ((k : Nat) : Int)) (wq_v (.int .i64 ((k + 1 : Nat) : Int)) (fun W hW => run_eqv (v := .int .i64 (IntKind.i64.wrap (((k : Nat) : Int) + 1))) (by kernel_rfl) (wrap_nat _ (k + 1) (by omega) (by omega))) (wq_k (.slice (some ⟨b, o, none⟩) l.length c) (wq_k (.int .i64 (l.length : Int)) (wq_v (.bool true) (fun W hW => run_eqv (v := .bool (decide (((k + 1 : Nat) : Int) < ((l.length : Nat) : Int)))) (by kernel_rfl) ((by rw [HL2.out]))) (wq_k (.bool true) (wq_k (.slice (some ⟨b, o, none⟩) l.length c) (wq_k (.int .i64 ((k : Nat) : Int)) ?_)))))))
          refine wq_v (.pointer (some ⟨b, o + k * 7, none⟩)) (fun W hW => run_eqv (run_idx 84 (.tmp 18) (.tmp 19) (by kernel_rfl) b o l.length c k 87 7 (by kernel_rfl) (by kernel_rfl) (by omega) Tryz.underlying84 (by kernel_rfl)) rfl) (wq_k (.pointer (some ⟨b, o + k * 7, none⟩)) (wq_k (.pointer (some ⟨b, o + k * 7 + 1, none⟩)) (wq_v (.int .i64 v1) (fun W hW => run_load1 3 (.tmp 22) (by kernel_rfl) ⟨b, o + k * 7 + 1, none⟩ (by kernel_rfl) (.int .i64 v1) (C1.out W hW.row) _ Tryz.underlying3 rfl) (wq_k (.slice (some ⟨b, o, none⟩) l.length c) (wq_k (.int .i64 ((k : Nat) : Int)) (wq_v (.int .i64 ((k + 1 : Nat) : Int)) (fun W hW => run_eqv (v := .int .i64 (IntKind.i64.wrap (((k : Nat) : Int) + 1))) (by kernel_rfl) (wrap_nat _ (k + 1) (by omega) (by omega))) (wq_v (.pointer (some ⟨b, o + (k + 1) * 7, none⟩)) (fun W hW => run_eqv (run_idx 84 (.tmp 24) (.tmp 26) (by kernel_rfl) b o l.length c (k + 1) 87 7 (by kernel_rfl) (by kernel_rfl) (by omega) Tryz.underlying84 (by kernel_rfl)) rfl) ?_)))))))
          refine wq_k (.pointer (some ⟨b, o + (k + 1) * 7, none⟩)) (wq_k (.pointer (some ⟨b, o + (k + 1) * 7 + 1, none⟩)) (wq_v (.int .i64 v2) (fun W hW => run_load1 3 (.tmp 29) (by kernel_rfl) ⟨b, o + (k + 1) * 7 + 1, none⟩ (by kernel_rfl) (.int .i64 v2) (C2.out W hW.row) _ Tryz.underlying3 rfl) (wq_v (.bool false) (fun W hW => run_eqv (v := .bool (v1 == v2)) (by kernel_rfl) ((by rw [HV.out]))) (wq_k (.bool false) (wq_k (.bool false) (wq_n (wq_n ?_)))))))
          refine wq_n (wq_n (wq_n (wq_n (wq_n (wq_n (wq_n (wq_n ?_)))))))
          refine wq_n (wq_n (wq_n (wq_n (wq_n (wq_k (.bool false) ?_)))))
          refine quiet_end rfl (Lib.hid ?_)
          refine Lib.hid ?_
          intro w3 hW
          have S3 := Lib.hid hW
          clear hW
          dsimp only [Exit.then, Act.put]
          simp only [List.setIfInBounds_toArray, List.set_cons_succ, List.set_cons_zero]
          go_wp2_with fail
          go_roundw
          case rel => exact ⟨k + 1, by omega, by go_num, S3, HRS⟩
          case measure => simp [intOf]; omega
        | true =>
          have HV := Lib.hid hv
          rw [hv, Bool.true_and] at HJE
          clear hv
          cases hm : decide (4 * (s1 + s2) ≤ most) with
          | false =>
            have HM := Lib.hid hm
            have HRS := Lib.hid (fun j (hj : j < k + 1) => show joinAt (l.map LO.plain) most j = false from by
              by_cases hjj : j < k
              · exact HP.out j hjj
              · obtain rfl : j = k := by omega
                exact by rw [HJE.out, hm])
            clear hm HJE HJS
            go_wp2_with fail
            refine wp_region_class (JO w b o l) (by kernel_rfl) (by kernel_rfl) (HB.out.next (tame_drewN (Below.refl _ wr) 1)) ?_
            refine wq_k (.int .i64 ((k : Nat) : Int)) (wq_v (.int .i64 ((k + 1 : Nat) : Int)) (fun W hW => run_eqv (v := .int .i64 (IntKind.i64.wrap (((k : Nat) : Int) + 1))) (by kernel_rfl) (wrap_nat _ (k + 1) (by omega) (by omega))) (wq_k (.slice (some ⟨b, o, none⟩) l.length c) (wq_k (.int .i64 (l.length : Int)) (wq_v (.bool true) (fun W hW => run_eqv (v := .bool (decide (((k + 1 : Nat) : Int) < ((l.length : Nat) : Int)))) (by kernel_rfl) ((by rw [HL2.out]))) (wq_k (.bool true) (wq_k (.slice (some ⟨b, o, none⟩) l.length c) (wq_k (.int .i64 ((k : Nat) : Int)) ?_)))))))
            refine wq_v (.pointer (some ⟨b, o + k * 7, none⟩)) (fun W hW => run_eqv (run_idx 84 (.tmp 18) (.tmp 19) (by kernel_rfl) b o l.length c k 87 7 (by kernel_rfl) (by kernel_rfl) (by omega) Tryz.underlying84 (by kernel_rfl)) rfl) (wq_k (.pointer (some ⟨b, o + k * 7, none⟩)) (wq_k (.pointer (some ⟨b, o + k * 7 + 1, none⟩)) (wq_v (.int .i64 v1) (fun W hW => run_load1 3 (.tmp 22) (by kernel_rfl) ⟨b, o + k * 7 + 1, none⟩ (by kernel_rfl) (.int .i64 v1) (C1.out W hW.row) _ Tryz.underlying3 rfl) (wq_k (.slice (some ⟨b, o, none⟩) l.length c) (wq_k (.int .i64 ((k : Nat) : Int)) (wq_v (.int .i64 ((k + 1 : Nat) : Int)) (fun W hW => run_eqv (v := .int .i64 (IntKind.i64.wrap (((k : Nat) : Int) + 1))) (by kernel_rfl) (wrap_nat _ (k + 1) (by omega) (by omega))) (wq_v (.pointer (some ⟨b, o + (k + 1) * 7, none⟩)) (fun W hW => run_eqv (run_idx 84 (.tmp 24) (.tmp 26) (by kernel_rfl) b o l.length c (k + 1) 87 7 (by kernel_rfl) (by kernel_rfl) (by omega) Tryz.underlying84 (by kernel_rfl)) rfl) ?_)))))))
            refine wq_k (.pointer (some ⟨b, o + (k + 1) * 7, none⟩)) (wq_k (.pointer (some ⟨b, o + (k + 1) * 7 + 1, none⟩)) (wq_v (.int .i64 v2) (fun W hW => run_load1 3 (.tmp 29) (by kernel_rfl) ⟨b, o + (k + 1) * 7 + 1, none⟩ (by kernel_rfl) (.int .i64 v2) (C2.out W hW.row) _ Tryz.underlying3 rfl) (wq_v (.bool true) (fun W hW => run_eqv (v := .bool (v1 == v2)) (by kernel_rfl) ((by rw [HV.out]))) (wq_k (.bool true) (wq_k (.bool true) (wq_k (.slice (some ⟨b, o, none⟩) l.length c) (wq_k (.int .i64 ((k : Nat) : Int)) ?_)))))))
            refine wq_v (.pointer (some ⟨b, o + k * 7, none⟩)) (fun W hW => run_eqv (run_idx 84 (.tmp 34) (.tmp 35) (by kernel_rfl) b o l.length c k 87 7 (by kernel_rfl) (by kernel_rfl) (by omega) Tryz.underlying84 (by kernel_rfl)) rfl) (wq_k (.pointer (some ⟨b, o + k * 7 + 6, none⟩)) (wq_v (.int .i64 s1) (fun W hW => run_load1 3 (.tmp 37) (by kernel_rfl) ⟨b, o + k * 7 + 6, none⟩ (by kernel_rfl) (.int .i64 s1) (C3.out W hW.row) _ Tryz.underlying3 rfl) (wq_k (.slice (some ⟨b, o, none⟩) l.length c) (wq_k (.int .i64 ((k : Nat) : Int)) (wq_v (.int .i64 ((k + 1 : Nat) : Int)) (fun W hW => run_eqv (v := .int .i64 (IntKind.i64.wrap (((k : Nat) : Int) + 1))) (by kernel_rfl) (wrap_nat _ (k + 1) (by omega) (by omega))) (wq_v (.pointer (some ⟨b, o + (k + 1) * 7, none⟩)) (fun W hW => run_eqv (run_idx 84 (.tmp 39) (.tmp 41) (by kernel_rfl) b o l.length c (k + 1) 87 7 (by kernel_rfl) (by kernel_rfl) (by omega) Tryz.underlying84 (by kernel_rfl)) rfl) (wq_k (.pointer (some ⟨b, o + (k + 1) * 7 + 6, none⟩)) ?_)))))))
            refine wq_v (.int .i64 s2) (fun W hW => run_load1 3 (.tmp 43) (by kernel_rfl) ⟨b, o + (k + 1) * 7 + 6, none⟩ (by kernel_rfl) (.int .i64 s2) (C4.out W hW.row) _ Tryz.underlying3 rfl) (wq_v (.int .i64 (s1 + s2)) (fun W hW => run_eqv (v := .int .i64 (IntKind.i64.wrap (s1 + s2))) (by kernel_rfl) ((by rw [Go.IntWalk.i64_in _ (by omega)]))) (wq_v (.int .i64 (4 * (s1 + s2))) (fun W hW => run_eqv (v := .int .i64 (IntKind.i64.wrap (4 * (s1 + s2)))) (by kernel_rfl) ((by rw [Go.IntWalk.i64_in _ (by omega)]))) (wq_k (.int .i64 most) (wq_v (.bool false) (fun W hW => run_eqv (v := .bool (decide (4 * (s1 + s2) ≤ most))) (by kernel_rfl) ((by rw [HM.out]))) (wq_k (.bool false) ?_)))))
            refine quiet_end rfl (Lib.hid ?_)
            refine Lib.hid ?_
            intro w3 hW
            have S3 := Lib.hid hW
            clear hW
            dsimp only [Exit.then, Act.put]
            simp only [List.setIfInBounds_toArray, List.set_cons_succ, List.set_cons_zero]
            go_wp2_with fail
            go_roundw
            case rel => exact ⟨k + 1, by omega, by go_num, S3, HRS⟩
            case measure => simp [intOf]; omega
          | true =>
            have HM := Lib.hid hm
            have HRS := Lib.hid (HJS.out (by rw [HJE.out, hm]))
            clear hm HJE HJS
            go_wp2_with fail
            refine wp_region_class (JO w b o l) (by kernel_rfl) (by kernel_rfl) (HB.out.next (tame_drewN (Below.refl _ wr) 1)) ?_
            refine wq_k (.int .i64 ((k : Nat) : Int)) (wq_v (.int .i64 ((k + 1 : Nat) : Int)) (fun W hW => run_eqv (v := .int .i64 (IntKind.i64.wrap (((k : Nat) : Int) + 1))) (by kernel_rfl) (wrap_nat _ (k + 1) (by omega) (by omega))) (wq_k (.slice (some ⟨b, o, none⟩) l.length c) (wq_k (.int .i64 (l.length : Int)) (wq_v (.bool true) (fun W hW => run_eqv (v := .bool (decide (((k + 1 : Nat) : Int) < ((l.length : Nat) : Int)))) (by kernel_rfl) ((by rw [HL2.out]))) (wq_k (.bool true) (wq_k (.slice (some ⟨b, o, none⟩) l.length c) (wq_k (.int .i64 ((k : Nat) : Int)) ?_)))))))
            refine wq_v (.pointer (some ⟨b, o + k * 7, none⟩)) (fun W hW => run_eqv (run_idx 84 (.tmp 18) (.tmp 19) (by kernel_rfl) b o l.length c k 87 7 (by kernel_rfl) (by kernel_rfl) (by omega) Tryz.underlying84 (by kernel_rfl)) rfl) (wq_k (.pointer (some ⟨b, o + k * 7, none⟩)) (wq_k (.pointer (some ⟨b, o + k * 7 + 1, none⟩)) (wq_v (.int .i64 v1) (fun W hW => run_load1 3 (.tmp 22) (by kernel_rfl) ⟨b, o + k * 7 + 1, none⟩ (by kernel_rfl) (.int .i64 v1) (C1.out W hW.row) _ Tryz.underlying3 rfl) (wq_k (.slice (some ⟨b, o, none⟩) l.length c) (wq_k (.int .i64 ((k : Nat) : Int)) (wq_v (.int .i64 ((k + 1 : Nat) : Int)) (fun W hW => run_eqv (v := .int .i64 (IntKind.i64.wrap (((k : Nat) : Int) + 1))) (by kernel_rfl) (wrap_nat _ (k + 1) (by omega) (by omega))) (wq_v (.pointer (some ⟨b, o + (k + 1) * 7, none⟩)) (fun W hW => run_eqv (run_idx 84 (.tmp 24) (.tmp 26) (by kernel_rfl) b o l.length c (k + 1) 87 7 (by kernel_rfl) (by kernel_rfl) (by omega) Tryz.underlying84 (by kernel_rfl)) rfl) ?_)))))))
            refine wq_k (.pointer (some ⟨b, o + (k + 1) * 7, none⟩)) (wq_k (.pointer (some ⟨b, o + (k + 1) * 7 + 1, none⟩)) (wq_v (.int .i64 v2) (fun W hW => run_load1 3 (.tmp 29) (by kernel_rfl) ⟨b, o + (k + 1) * 7 + 1, none⟩ (by kernel_rfl) (.int .i64 v2) (C2.out W hW.row) _ Tryz.underlying3 rfl) (wq_v (.bool true) (fun W hW => run_eqv (v := .bool (v1 == v2)) (by kernel_rfl) ((by rw [HV.out]))) (wq_k (.bool true) (wq_k (.bool true) (wq_k (.slice (some ⟨b, o, none⟩) l.length c) (wq_k (.int .i64 ((k : Nat) : Int)) ?_)))))))
            refine wq_v (.pointer (some ⟨b, o + k * 7, none⟩)) (fun W hW => run_eqv (run_idx 84 (.tmp 34) (.tmp 35) (by kernel_rfl) b o l.length c k 87 7 (by kernel_rfl) (by kernel_rfl) (by omega) Tryz.underlying84 (by kernel_rfl)) rfl) (wq_k (.pointer (some ⟨b, o + k * 7 + 6, none⟩)) (wq_v (.int .i64 s1) (fun W hW => run_load1 3 (.tmp 37) (by kernel_rfl) ⟨b, o + k * 7 + 6, none⟩ (by kernel_rfl) (.int .i64 s1) (C3.out W hW.row) _ Tryz.underlying3 rfl) (wq_k (.slice (some ⟨b, o, none⟩) l.length c) (wq_k (.int .i64 ((k : Nat) : Int)) (wq_v (.int .i64 ((k + 1 : Nat) : Int)) (fun W hW => run_eqv (v := .int .i64 (IntKind.i64.wrap (((k : Nat) : Int) + 1))) (by kernel_rfl) (wrap_nat _ (k + 1) (by omega) (by omega))) (wq_v (.pointer (some ⟨b, o + (k + 1) * 7, none⟩)) (fun W hW => run_eqv (run_idx 84 (.tmp 39) (.tmp 41) (by kernel_rfl) b o l.length c (k + 1) 87 7 (by kernel_rfl) (by kernel_rfl) (by omega) Tryz.underlying84 (by kernel_rfl)) rfl) (wq_k (.pointer (some ⟨b, o + (k + 1) * 7 + 6, none⟩)) ?_)))))))
            refine wq_v (.int .i64 s2) (fun W hW => run_load1 3 (.tmp 43) (by kernel_rfl) ⟨b, o + (k + 1) * 7 + 6, none⟩ (by kernel_rfl) (.int .i64 s2) (C4.out W hW.row) _ Tryz.underlying3 rfl) (wq_v (.int .i64 (s1 + s2)) (fun W hW => run_eqv (v := .int .i64 (IntKind.i64.wrap (s1 + s2))) (by kernel_rfl) ((by rw [Go.IntWalk.i64_in _ (by omega)]))) (wq_v (.int .i64 (4 * (s1 + s2))) (fun W hW => run_eqv (v := .int .i64 (IntKind.i64.wrap (4 * (s1 + s2)))) (by kernel_rfl) ((by rw [Go.IntWalk.i64_in _ (by omega)]))) (wq_k (.int .i64 most) (wq_v (.bool true) (fun W hW => run_eqv (v := .bool (decide (4 * (s1 + s2) ≤ most))) (by kernel_rfl) ((by rw [HM.out]))) (wq_k (.bool true) ?_)))))
            refine quiet_end rfl (Lib.hid ?_)
            refine Lib.hid ?_
            intro w3 hW
            have S3 := Lib.hid hW
            clear hW
            dsimp only [Exit.then, Act.put]
            simp only [List.setIfInBounds_toArray, List.set_cons_succ, List.set_cons_zero]
            go_wp2_with fail
            refine wp_region_wb ((Only (fun q => q = w.heap.size) w3)) (by kernel_rfl) (((Only.refl (fun q => q = w.heap.size) w3).drewN 1)) (fun _ _ _ _ _ h => h) ?_
            intro hS HZQ
            refine wa_k 0 50 (.slice (some ⟨b, o, none⟩) l.length c) hS HZQ (wa_k 1 51 (.int .i64 ((k : Nat) : Int)) hS HZQ (wa_v 2 52 (.pointer (some ⟨b, o + k * 7, none⟩)) hS HZQ (fun W hW => run_eqv (run_idx 84 (.tmp 50) (.tmp 51) (by kernel_rfl) b o l.length c k 87 7 (by kernel_rfl) (by kernel_rfl) (by omega) Tryz.underlying84 (by kernel_rfl)) rfl) (wa_k 3 53 (.pointer (some ⟨b, o + k * 7, none⟩)) hS HZQ (wa_k 4 54 (.pointer (some ⟨b, o + k * 7, none⟩)) hS HZQ (wa_v 5 55 (.int .i64 d1) hS HZQ (fun W hW => run_load1 3 (.tmp 54) (by kernel_rfl) ⟨b, o + k * 7, none⟩ (by kernel_rfl) (.int .i64 d1) (C5.out W (S3.out.row.only hW HNB.out)) _ Tryz.underlying3 rfl) (wa_k 6 56 (.slice (some ⟨b, o, none⟩) l.length c) hS HZQ (wa_k 7 57 (.int .i64 ((k : Nat) : Int)) hS HZQ ?_)))))))
            refine wa_v 8 58 (.int .i64 ((k + 1 : Nat) : Int)) hS HZQ (fun W hW => run_eqv (v := .int .i64 (IntKind.i64.wrap (((k : Nat) : Int) + 1))) (by kernel_rfl) (wrap_nat _ (k + 1) (by omega) (by omega))) (wa_v 9 59 (.pointer (some ⟨b, o + (k + 1) * 7, none⟩)) hS HZQ (fun W hW => run_eqv (run_idx 84 (.tmp 56) (.tmp 58) (by kernel_rfl) b o l.length c (k + 1) 87 7 (by kernel_rfl) (by kernel_rfl) (by omega) Tryz.underlying84 (by kernel_rfl)) rfl) (wa_k 10 60 (.pointer (some ⟨b, o + (k + 1) * 7, none⟩)) hS HZQ (wa_k 11 61 (.pointer (some ⟨b, o + (k + 1) * 7, none⟩)) hS HZQ (wa_v 12 62 (.int .i64 d2) hS HZQ (fun W hW => run_load1 3 (.tmp 61) (by kernel_rfl) ⟨b, o + (k + 1) * 7, none⟩ (by kernel_rfl) (.int .i64 d2) (C6.out W (S3.out.row.only hW HNB.out)) _ Tryz.underlying3 rfl) (wa_k 13 63 (.agg #[.int .i64 4, .int .i64 d1, .int .i64 d2, .int .i64 0, .int .i64 0, .int .i64 0, .slice none 0 0, .string ⟨#[]⟩, .int .i64 0, .int .i64 0, .int .i64 0, .slice none 0 0]) hS HZQ ?_)))))
            refine wa_r [14] ?_
            refine ar_a none (fun K hK => ?_) ar_nil
            refine ow_store_blk 44 (.tmp 4) (.tmp 63) (by kernel_rfl) w.heap.size #[.int .i64 4, .int .i64 d1, .int .i64 d2, .int .i64 0, .int .i64 0, .int .i64 0, .slice none 0 0, .string ⟨#[]⟩, .int .i64 0, .int .i64 0, .int .i64 0, .slice none 0 0] (by kernel_rfl) (by kernel_rfl) 44 _ (S3.out.box.drewN 1) rfl (by kernel_rfl) (by kernel_rfl) (Lib.hid ?_)
            intro w4 hz hox
            refine hK.out _ _ (hS.trans hox) (fun hS => ?_)
            have HZ4 := Lib.hid hz
            clear hK K hz hox
            refine wa_k 15 5 (.bool true) hS HZQ ?_
            refine wa_done (by kernel_rfl) ?_
            dsimp only [Exit.then, Act.put]
            simp only [List.setIfInBounds_toArray, List.set_cons_succ, List.set_cons_zero]
            have O4 := Lib.hid hS
            clear hS
            go_wp2_with fail
            refine bodyPost_ret (results_cell_tmp rfl _ _ w.heap.size 44 _ (0, 0) _ rfl HZ4.out Tryz.underlying44 rfl (by kernel_rfl)) rfl ?_
            exact ⟨by rw [HRS.out]; rfl, S3.out.bel.trans (O4.out.to_below S3.out.bel.size (fun q hq e => by omega))⟩
      · have HL2 := Lib.hid (decide_eq_false (show ¬ ((k + 1 : Nat) : Int) < ((l.length : Nat) : Int) by omega))
        have HRS := Lib.hid (fun j (hj : j < k + 1) => show joinAt (l.map LO.plain) most j = false from by
          by_cases hjj : j < k
          · exact HP.out j hjj
          · obtain rfl : j = k := by omega
            exact joinAt_no (by simpa using hl2))
        go_wp2_with fail
        refine wp_region_class (JO w b o l) (by kernel_rfl) (by kernel_rfl) (HB.out.next (tame_drewN (Below.refl _ wr) 1)) ?_
        refine wq_k (.int .i64 ((k : Nat) : Int)) (wq_v (.int .i64 ((k + 1 : Nat) : Int)) (fun W hW => run_eqv (v := .int .i64 (IntKind.i64.wrap (((k : Nat) : Int) + 1))) (by kernel_rfl) (wrap_nat _ (k + 1) (by omega) (by omega))) (wq_k (.slice (some ⟨b, o, none⟩) l.length c) (wq_k (.int .i64 (l.length : Int)) (wq_v (.bool false) (fun W hW => run_eqv (v := .bool (decide (((k + 1 : Nat) : Int) < ((l.length : Nat) : Int)))) (by kernel_rfl) ((by rw [HL2.out]))) (wq_k (.bool false) (wq_n (wq_n ?_)))))))
        refine wq_n (wq_n (wq_n (wq_n (wq_n (wq_n (wq_n (wq_n ?_)))))))
        refine wq_n (wq_n (wq_n (wq_n (wq_k (.bool false) (wq_k (.bool false) (wq_n (wq_n ?_)))))))
        refine wq_n (wq_n (wq_n (wq_n (wq_n (wq_n (wq_n (wq_n ?_)))))))
        refine wq_n (wq_n (wq_n (wq_n (wq_n (wq_k (.bool false) ?_)))))
        refine quiet_end rfl (Lib.hid ?_)
        refine Lib.hid ?_
        intro w3 hW
        have S3 := Lib.hid hW
        clear hW
        dsimp only [Exit.then, Act.put]
        simp only [List.setIfInBounds_toArray, List.set_cons_succ, List.set_cons_zero]
        go_wp2_with fail
        go_roundw
        case rel => exact ⟨k + 1, by omega, by go_num, S3, HRS⟩
        case measure => simp [intOf]; omega
    · obtain rfl : k = l.length := by omega
      have HRS := Lib.hid (join_none (p := l.map LO.plain) (most := most) (fun j hj => HP.out j (by simpa using hj)))
      go_wp2_with (refine wpList_store_blk rfl 44 (.tmp 4) (.tmp 65) rfl w.heap.size #[.int .i64 0, .int .i64 0, .int .i64 0, .int .i64 0, .int .i64 0, .int .i64 0, .slice none 0 0, .string ⟨#[]⟩, .int .i64 0, .int .i64 0, .int .i64 0, .slice none 0 0] rfl rfl 44 _ HB.out.box rfl (by kernel_rfl) (by kernel_rfl) ?_)
      refine Lib.hid ?_
      intro w2 hz ho
      have HZ2 := Lib.hid hz
      have B2 := Lib.hid (HB.out.bel.trans (ho.to_below HB.out.bel.size (fun q hq e => by omega)))
      clear hz ho
      go_wp2_with fail
      refine bodyPost_ret (results_cell_tmp rfl _ _ w.heap.size 44 _ (0, 0) _ rfl HZ2.out Tryz.underlying44 rfl (by kernel_rfl)) rfl ?_
      exact ⟨by rw [HRS.out]; rfl, B2.out⟩
end Go.Proofs.YthjmfcdhpdiehaaGreatDoor
