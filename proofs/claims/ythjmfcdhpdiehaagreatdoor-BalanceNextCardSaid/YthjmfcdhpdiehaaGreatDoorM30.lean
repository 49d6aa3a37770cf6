/-
  The reference's Right (of loads) and Check. (Printed by wip/gen/rchk.py.)
  tidewaternum.Num: the number of an error.
  The walk of the law BalanceLoads.
-/
import Derived.Test.YthjmfcdhpdiehaaGreatDoorM29
import Derived.Test.YthjmfcdhpdiehaaGreatDoorM04
import Derived.Test.YthjmfcdhpdiehaaGreatDoorM26
namespace Go.Proofs.YthjmfcdhpdiehaaGreatDoor
open Go.RowKit Utf
set_option maxRecDepth 100000
set_option linter.unusedSimpArgs false
set_option linter.unusedVariables false

structure RY (w : World) (ao : Option Addr) (l : List LD) (p : Nat) (x : LD) (W : World) : Prop extends GS w ao l W where
  box : Blk W p 109 x.cells.toArray
theorem RY.next {w W W' : World} {ao : Option Addr} {l : List LD} {p : Nat} {x : LD} (h : RY w ao l p x W) (hb : Below W.heap.size W W') : RY w ao l p x W' :=
  ⟨h.toGS.next hb, h.box.below hb h.box.lt⟩

set_option maxHeartbeats 4000000 in
theorem rld_any (l : List LD) (ao : Option Addr) (c : Nat) (w : World) (hn : l.length ≤ 1000000) (hr : RowAt w ao (ldRow l)) (hk : LdOk l) :
    Calls Tryz.prog 22 #[.slice ao l.length c] w fun e w' => e = .returned (.bool (rightB l)) ∧ Below w.heap.size w w' := by
  have HF := Lib.hid (show GS w ao l w from ⟨Below.refl _ _, hr⟩)
  have HKS := Lib.hid hk
  clear hr hk
  go_enter Tryz.func22, Tryz.ntmps22
  go_wp2_with fail
  go_loopw [7] (fun i wr => ∃ k : Nat, k ≤ l.length ∧ i = .int .i64 k ∧ Hid (GS w ao l wr) ∧ Hid (∀ j, j < k → ldOK l j = true)) (fun i _ => l.length - (intOf i).toNat)
  case atStart => exact ⟨0, Nat.zero_le _, rfl, HF, Lib.hid (fun j hj => by omega)⟩
  case round =>
    obtain ⟨k, hk, rfl, HB, HP⟩ := hrel
    by_cases hlt : k < l.length
    · obtain ⟨b', o', rfl, hc⟩ := row_flat LD.cells 2 (by decide) LD.cells_len HB.out.row k hlt
      have HRG := Lib.hid (show wr.rangeAt b' (o' + k * 2) (ldAt l k).cells from fun j v hj => by
        have hj5 : j < 2 := by have := (List.getElem?_eq_some_iff.1 hj).1; rw [LD.cells_len] at this; exact this
        rw [hc j hj5, ← ldAt_eq hlt]; exact hj)
      have HSI := Lib.hid (show (Tryz.prog.info? 109).map (·.size) = some (ldAt l k).cells.length by rw [LD.cells_len]; kernel_rfl)
      have HZ1 := Lib.hid (Blk.new wr 109 #[.string ⟨#[]⟩, .int .i64 0])
      have HKX := Lib.hid (HKS.out.at hlt)
      have HRF := Lib.hid (fun h => rightB_false hlt h)
      have HOK := Lib.hid (show ldOK l k = (isKey (ldAt l k).key && decide (1 ≤ (ldAt l k).n) && decide ((ldAt l k).n ≤ 1000000) && (decide (k = 0) || bLt (ldAt l (k - 1)).key (ldAt l k).key)) from rfl)
      generalize hx : ldAt l k = x at *
      clear hc
      go_wp2_with (first | (refine wpList_load_mid rfl 109 (.tmp 10) rfl b' (o' + k * 2) rfl _ _ HRG.out Tryz.underlying109 rfl HSI.out ?_) | (refine wpList_store_blk rfl 109 (.tmp 4) (.tmp 11) rfl wr.heap.size x.cells.toArray rfl rfl 109 _ HZ1.out rfl (by kernel_rfl) (by kernel_rfl) ?_))
      refine Lib.hid ?_
      intro w2 hz ho
      have S2 := Lib.hid (show RY w (some ⟨b', o', none⟩) l wr.heap.size x w2 from ⟨HB.out.next (((below_alloc wr _)).trans (ho.to_below (by simp) (fun q hq e => by omega))), hz⟩)
      clear hz ho HZ1 HRG
      obtain ⟨key, n⟩ := x
      have HX := Lib.hid hx
      clear hx
      have hn1 : k ≤ 1000000 := by omega
      dsimp only at HKX HOK
      have HNZ := Lib.hid (show (((keyNum key : Nat) : Int) != 0) = !isKey key by rw [← keyNum_z]; rfl)
      cases hkey : isKey key with
      | false =>
        have HRS := Lib.hid (HRF.out (by rw [HOK.out, hkey]; rfl))
        rw [hkey] at HNZ
        clear hkey
        go_wp2_with fail
        refine wp_region_class (RY w (some ⟨b', o', none⟩) l wr.heap.size ⟨key, n⟩) (by kernel_rfl) (by kernel_rfl) (S2.out.next (tame_drewN (Below.refl _ w2) 1)) ?_
        refine wq_k (.pointer (some ⟨wr.heap.size, 0, none⟩)) (wq_v (.string key) (fun W hW => run_load1 9 (.tmp 12) (by kernel_rfl) ⟨wr.heap.size, 0, none⟩ (by kernel_rfl) (.string key) (hW.box.cell 0) _ Tryz.underlying9 rfl) (wq_c (.int .i64 ((keyNum key : Nat) : Int)) 51 #[.string key] (fun W hW => (refKey_any key W HKX.out).mono fun e' w' h => ⟨h.1, hW.next h.2⟩) (wq_v (.bool true) (fun W hW => run_eqv (v := .bool (((keyNum key : Nat) : Int) != 0)) (by kernel_rfl) ((by rw [HNZ.out]; rfl))) (wq_k (.bool true) (wq_n (wq_n (wq_n ?_)))))))
        refine wq_k (.bool true) (wq_k (.bool true) (wq_n (wq_n (wq_n (wq_k (.bool true) (wq_k (.bool true) (wq_n ?_)))))))
        refine wq_n (wq_n (wq_n (wq_n (wq_n (wq_n (wq_n (wq_n ?_)))))))
        refine wq_n (wq_n (wq_n (wq_n (wq_k (.bool true) ?_))))
        refine quiet_end rfl (Lib.hid ?_)
        refine Lib.hid ?_
        intro w3 hW
        have S3 := Lib.hid hW
        clear hW
        dsimp only [Exit.then, Act.put]
        simp only [List.setIfInBounds_toArray, List.set_cons_succ, List.set_cons_zero]
        go_wp2_with fail
        go_ret
        exact ⟨by rw [HRS.out]; rfl, S3.out.bel⟩
      | true =>
      rw [hkey] at HNZ
      by_cases hn0 : n < 1
      · have HD := Lib.hid (show decide (n < 1) = true from decide_eq_true hn0)
        have HRS := Lib.hid (HRF.out (by rw [HOK.out, decide_eq_false (show ¬ 1 ≤ n by omega)]; simp))
        clear hkey hn0
        go_wp2_with fail
        refine wp_region_class (RY w (some ⟨b', o', none⟩) l wr.heap.size ⟨key, n⟩) (by kernel_rfl) (by kernel_rfl) (S2.out.next (tame_drewN (Below.refl _ w2) 1)) ?_
        refine wq_k (.pointer (some ⟨wr.heap.size, 0, none⟩)) (wq_v (.string key) (fun W hW => run_load1 9 (.tmp 12) (by kernel_rfl) ⟨wr.heap.size, 0, none⟩ (by kernel_rfl) (.string key) (hW.box.cell 0) _ Tryz.underlying9 rfl) (wq_c (.int .i64 ((keyNum key : Nat) : Int)) 51 #[.string key] (fun W hW => (refKey_any key W HKX.out).mono fun e' w' h => ⟨h.1, hW.next h.2⟩) (wq_v (.bool false) (fun W hW => run_eqv (v := .bool (((keyNum key : Nat) : Int) != 0)) (by kernel_rfl) ((by rw [HNZ.out]; rfl))) (wq_k (.bool false) (wq_k (.pointer (some ⟨wr.heap.size, 1, none⟩)) (wq_v (.int .i64 n) (fun W hW => run_load1 3 (.tmp 17) (by kernel_rfl) ⟨wr.heap.size, 1, none⟩ (by kernel_rfl) (.int .i64 n) (hW.box.cell 1) _ Tryz.underlying3 rfl) (wq_v (.bool true) (fun W hW => run_eqv (v := .bool (decide (n < 1))) (by kernel_rfl) ((by rw [HD.out]))) ?_)))))))
        refine wq_k (.bool true) (wq_k (.bool true) (wq_n (wq_n (wq_n (wq_k (.bool true) (wq_k (.bool true) (wq_n ?_)))))))
        refine wq_n (wq_n (wq_n (wq_n (wq_n (wq_n (wq_n (wq_n ?_)))))))
        refine wq_n (wq_n (wq_n (wq_n (wq_k (.bool true) ?_))))
        refine quiet_end rfl (Lib.hid ?_)
        refine Lib.hid ?_
        intro w3 hW
        have S3 := Lib.hid hW
        clear hW
        dsimp only [Exit.then, Act.put]
        simp only [List.setIfInBounds_toArray, List.set_cons_succ, List.set_cons_zero]
        go_wp2_with fail
        go_ret
        exact ⟨by rw [HRS.out]; rfl, S3.out.bel⟩
      have HD := Lib.hid (show decide (n < 1) = false from decide_eq_false hn0)
      by_cases hn9 : 1000000 < n
      · have HD2 := Lib.hid (show decide (1000000 < n) = true from decide_eq_true hn9)
        have HRS := Lib.hid (HRF.out (by rw [HOK.out, decide_eq_false (show ¬ n ≤ 1000000 by omega)]; simp))
        clear hkey hn0 hn9
        go_wp2_with fail
        refine wp_region_class (RY w (some ⟨b', o', none⟩) l wr.heap.size ⟨key, n⟩) (by kernel_rfl) (by kernel_rfl) (S2.out.next (tame_drewN (Below.refl _ w2) 1)) ?_
        refine wq_k (.pointer (some ⟨wr.heap.size, 0, none⟩)) (wq_v (.string key) (fun W hW => run_load1 9 (.tmp 12) (by kernel_rfl) ⟨wr.heap.size, 0, none⟩ (by kernel_rfl) (.string key) (hW.box.cell 0) _ Tryz.underlying9 rfl) (wq_c (.int .i64 ((keyNum key : Nat) : Int)) 51 #[.string key] (fun W hW => (refKey_any key W HKX.out).mono fun e' w' h => ⟨h.1, hW.next h.2⟩) (wq_v (.bool false) (fun W hW => run_eqv (v := .bool (((keyNum key : Nat) : Int) != 0)) (by kernel_rfl) ((by rw [HNZ.out]; rfl))) (wq_k (.bool false) (wq_k (.pointer (some ⟨wr.heap.size, 1, none⟩)) (wq_v (.int .i64 n) (fun W hW => run_load1 3 (.tmp 17) (by kernel_rfl) ⟨wr.heap.size, 1, none⟩ (by kernel_rfl) (.int .i64 n) (hW.box.cell 1) _ Tryz.underlying3 rfl) (wq_v (.bool false) (fun W hW => run_eqv (v := .bool (decide (n < 1))) (by kernel_rfl) ((by rw [HD.out]))) ?_)))))))
        refine wq_k (.bool false) (wq_k (.bool false) (wq_k (.pointer (some ⟨wr.heap.size, 1, none⟩)) (wq_v (.int .i64 n) (fun W hW => run_load1 3 (.tmp 22) (by kernel_rfl) ⟨wr.heap.size, 1, none⟩ (by kernel_rfl) (.int .i64 n) (hW.box.cell 1) _ Tryz.underlying3 rfl) (wq_v (.bool true) (fun W hW => run_eqv (v := .bool (decide (1000000 < n))) (by kernel_rfl) ((by rw [HD2.out]))) (wq_k (.bool true) (wq_k (.bool true) (wq_n ?_)))))))
        refine wq_n (wq_n (wq_n (wq_n (wq_n (wq_n (wq_n (wq_n ?_)))))))
        refine wq_n (wq_n (wq_n (wq_n (wq_k (.bool true) ?_))))
        refine quiet_end rfl (Lib.hid ?_)
        refine Lib.hid ?_
        intro w3 hW
        have S3 := Lib.hid hW
        clear hW
        dsimp only [Exit.then, Act.put]
        simp only [List.setIfInBounds_toArray, List.set_cons_succ, List.set_cons_zero]
        go_wp2_with fail
        go_ret
        exact ⟨by rw [HRS.out]; rfl, S3.out.bel⟩
      have HD2 := Lib.hid (show decide (1000000 < n) = false from decide_eq_false hn9)
      have HO2 := Lib.hid (show ldOK l k = (decide (k = 0) || bLt (ldAt l (k - 1)).key key) by rw [HOK.out, hkey, decide_eq_true (show 1 ≤ n by omega), decide_eq_true (show n ≤ 1000000 by omega)]; rfl)
      clear hkey hn0 hn9 HOK
      rcases k with _ | j
      · have HRS : Hid (∀ q, q < 0 + 1 → ldOK l q = true) := Lib.hid (fun q hq => by obtain rfl : q = 0 := (by omega); rw [HO2.out]; rfl)
        go_wp2_with fail
        refine wp_region_class (RY w (some ⟨b', o', none⟩) l wr.heap.size ⟨key, n⟩) (by kernel_rfl) (by kernel_rfl) (S2.out.next (tame_drewN (Below.refl _ w2) 1)) ?_
        refine wq_k (.pointer (some ⟨wr.heap.size, 0, none⟩)) (wq_v (.string key) (fun W hW => run_load1 9 (.tmp 12) (by kernel_rfl) ⟨wr.heap.size, 0, none⟩ (by kernel_rfl) (.string key) (hW.box.cell 0) _ Tryz.underlying9 rfl) (wq_c (.int .i64 ((keyNum key : Nat) : Int)) 51 #[.string key] (fun W hW => (refKey_any key W HKX.out).mono fun e' w' h => ⟨h.1, hW.next h.2⟩) (wq_v (.bool false) (fun W hW => run_eqv (v := .bool (((keyNum key : Nat) : Int) != 0)) (by kernel_rfl) ((by rw [HNZ.out]; rfl))) (wq_k (.bool false) (wq_k (.pointer (some ⟨wr.heap.size, 1, none⟩)) (wq_v (.int .i64 n) (fun W hW => run_load1 3 (.tmp 17) (by kernel_rfl) ⟨wr.heap.size, 1, none⟩ (by kernel_rfl) (.int .i64 n) (hW.box.cell 1) _ Tryz.underlying3 rfl) (wq_v (.bool false) (fun W hW => run_eqv (v := .bool (decide (n < 1))) (by kernel_rfl) ((by rw [HD.out]))) ?_)))))))
        refine wq_k (.bool false) (wq_k (.bool false) (wq_k (.pointer (some ⟨wr.heap.size, 1, none⟩)) (wq_v (.int .i64 n) (fun W hW => run_load1 3 (.tmp 22) (by kernel_rfl) ⟨wr.heap.size, 1, none⟩ (by kernel_rfl) (.int .i64 n) (hW.box.cell 1) _ Tryz.underlying3 rfl) (wq_v (.bool false) (fun W hW => run_eqv (v := .bool (decide (1000000 < n))) (by kernel_rfl) ((by rw [HD2.out]))) (wq_k (.bool false) (wq_k (.bool false) (wq_k (.int .i64 ((0 : Nat) : Int)) ?_)))))))
        refine wq_v (.bool false) (fun W hW => run_eqv (v := .bool (decide (((0 : Nat) : Int) > 0))) (by kernel_rfl) (rfl)) (wq_k (.bool false) (wq_n (wq_n (wq_n (wq_n (wq_n (wq_n ?_)))))))
        refine wq_n (wq_n (wq_n (wq_k (.bool false) (wq_k (.bool false) ?_))))
        refine quiet_end rfl (Lib.hid ?_)
        refine Lib.hid ?_
        intro w3 hW
        have S3 := Lib.hid hW
        clear hW
        dsimp only [Exit.then, Act.put]
        simp only [List.setIfInBounds_toArray, List.set_cons_succ, List.set_cons_zero]
        go_wp2_with fail
        go_roundw
        case rel => exact ⟨0 + 1, by omega, by go_num, Lib.hid S3.out.toGS, HRS⟩
        case measure => simp [intOf]; omega
      · have hjl : j < l.length := by omega
        have hj1 : ((j + 1 : Nat) : Int) > 0 := by omega
        have HG0 := Lib.hid (show decide (((j + 1 : Nat) : Int) > 0) = true from decide_eq_true hj1)
        cases hcm : bLt (ldAt l j).key key with
        | false =>
          have HRS := Lib.hid (HRF.out (by rw [HO2.out, Nat.add_sub_cancel, hcm]; rfl))
          have HC := Lib.hid hcm
          clear hcm
          go_wp2_with fail
          refine wp_region_class (RY w (some ⟨b', o', none⟩) l wr.heap.size ⟨key, n⟩) (by kernel_rfl) (by kernel_rfl) (S2.out.next (tame_drewN (Below.refl _ w2) 1)) ?_
          refine wq_k (.pointer (some ⟨wr.heap.size, 0, none⟩)) (wq_v (.string key) (fun W hW => run_load1 9 (.tmp 12) (by kernel_rfl) ⟨wr.heap.size, 0, none⟩ (by kernel_rfl) (.string key) (hW.box.cell 0) _ Tryz.underlying9 rfl) (wq_c (.int .i64 ((keyNum key : Nat) : Int)) 51 #[.string key] (fun W hW => (refKey_any key W HKX.out).mono fun e' w' h => ⟨h.1, hW.next h.2⟩) (wq_v (.bool false) (fun W hW => run_eqv (v := .bool (((keyNum key : Nat) : Int) != 0)) (by kernel_rfl) ((by rw [HNZ.out]; rfl))) (wq_k (.bool false) (wq_k (.pointer (some ⟨wr.heap.size, 1, none⟩)) (wq_v (.int .i64 n) (fun W hW => run_load1 3 (.tmp 17) (by kernel_rfl) ⟨wr.heap.size, 1, none⟩ (by kernel_rfl) (.int .i64 n) (hW.box.cell 1) _ Tryz.underlying3 rfl) (wq_v (.bool false) (fun W hW => run_eqv (v := .bool (decide (n < 1))) (by kernel_rfl) ((by rw [HD.out]))) ?_)))))))
          refine wq_k (.bool false) (wq_k (.bool false) (wq_k (.pointer (some ⟨wr.heap.size, 1, none⟩)) (wq_v (.int .i64 n) (fun W hW => run_load1 3 (.tmp 22) (by kernel_rfl) ⟨wr.heap.size, 1, none⟩ (by kernel_rfl) (.int .i64 n) (hW.box.cell 1) _ Tryz.underlying3 rfl) (wq_v (.bool false) (fun W hW => run_eqv (v := .bool (decide (1000000 < n))) (by kernel_rfl) ((by rw [HD2.out]))) (wq_k (.bool false) (wq_k (.bool false) (wq_k (.int .i64 ((j + 1 : Nat) : Int)) ?_)))))))
          refine wq_v (.bool true) (fun W hW => run_eqv (v := .bool (decide (((j + 1 : Nat) : Int) > 0))) (by kernel_rfl) ((by rw [HG0.out]))) (wq_k (.bool true) (wq_k (.pointer (some ⟨wr.heap.size, 0, none⟩)) (wq_v (.string key) (fun W hW => run_load1 9 (.tmp 30) (by kernel_rfl) ⟨wr.heap.size, 0, none⟩ (by kernel_rfl) (.string key) (hW.box.cell 0) _ Tryz.underlying9 rfl) (wq_k (.slice (some ⟨b', o', none⟩) l.length c) (wq_k (.int .i64 ((j + 1 : Nat) : Int)) (wq_v (.int .i64 ((j : Nat) : Int)) (fun W hW => run_eqv (v := .int .i64 (IntKind.i64.wrap (((j + 1 : Nat) : Int) - 1))) (by kernel_rfl) (wrap_nat _ _ (by omega) (by omega))) (wq_v (.pointer (some ⟨b', o' + j * 2, none⟩)) (fun W hW => run_eqv (run_idx 61 (.tmp 32) (.tmp 34) (by kernel_rfl) (b') (o') l.length c j 109 2 (by kernel_rfl) (by kernel_rfl) (by omega) Tryz.underlying61 (by kernel_rfl)) rfl) ?_)))))))
          refine wq_k (.pointer (some ⟨b', o' + j * 2, none⟩)) (wq_v (.string (ldAt l j).key) (fun W hW => run_load1 9 (.tmp 36) (by kernel_rfl) ⟨b', o' + j * 2, none⟩ (by kernel_rfl) (.string (ldAt l j).key) (row_ld hW.row hjl 0 (by decide)) _ Tryz.underlying9 rfl) (wq_v (.bool true) (fun W hW => run_eqv (v := .bool (Op.bytesLess key.toList (ldAt l j).key.toList || (key.toList == (ldAt l j).key.toList))) (by kernel_rfl) ((by rw [bLe_list, HC.out]; rfl))) (wq_k (.bool true) (wq_k (.bool true) ?_))))
          refine quiet_end rfl (Lib.hid ?_)
          refine Lib.hid ?_
          intro w3 hW
          have S3 := Lib.hid hW
          clear hW
          dsimp only [Exit.then, Act.put]
          simp only [List.setIfInBounds_toArray, List.set_cons_succ, List.set_cons_zero]
          go_wp2_with fail
          go_ret
          exact ⟨by rw [HRS.out]; rfl, S3.out.bel⟩
        | true =>
          have HRS : Hid (∀ q, q < j + 1 + 1 → ldOK l q = true) := Lib.hid (fun q hq => by
            by_cases hqj : q < j + 1
            · exact HP.out q hqj
            · obtain rfl : q = j + 1 := by omega
              rw [HO2.out, Nat.add_sub_cancel, hcm, Bool.or_true])
          have HC := Lib.hid hcm
          clear hcm
          go_wp2_with fail
          refine wp_region_class (RY w (some ⟨b', o', none⟩) l wr.heap.size ⟨key, n⟩) (by kernel_rfl) (by kernel_rfl) (S2.out.next (tame_drewN (Below.refl _ w2) 1)) ?_
          refine wq_k (.pointer (some ⟨wr.heap.size, 0, none⟩)) (wq_v (.string key) (fun W hW => run_load1 9 (.tmp 12) (by kernel_rfl) ⟨wr.heap.size, 0, none⟩ (by kernel_rfl) (.string key) (hW.box.cell 0) _ Tryz.underlying9 rfl) (wq_c (.int .i64 ((keyNum key : Nat) : Int)) 51 #[.string key] (fun W hW => (refKey_any key W HKX.out).mono fun e' w' h => ⟨h.1, hW.next h.2⟩) (wq_v (.bool false) (fun W hW => run_eqv (v := .bool (((keyNum key : Nat) : Int) != 0)) (by kernel_rfl) ((by rw [HNZ.out]; rfl))) (wq_k (.bool false) (wq_k (.pointer (some ⟨wr.heap.size, 1, none⟩)) (wq_v (.int .i64 n) (fun W hW => run_load1 3 (.tmp 17) (by kernel_rfl) ⟨wr.heap.size, 1, none⟩ (by kernel_rfl) (.int .i64 n) (hW.box.cell 1) _ Tryz.underlying3 rfl) (wq_v (.bool false) (fun W hW => run_eqv (v := .bool (decide (n < 1))) (by kernel_rfl) ((by rw [HD.out]))) ?_)))))))
          refine wq_k (.bool false) (wq_k (.bool false) (wq_k (.pointer (some ⟨wr.heap.size, 1, none⟩)) (wq_v (.int .i64 n) (fun W hW => run_load1 3 (.tmp 22) (by kernel_rfl) ⟨wr.heap.size, 1, none⟩ (by kernel_rfl) (.int .i64 n) (hW.box.cell 1) _ Tryz.underlying3 rfl) (wq_v (.bool false) (fun W hW => run_eqv (v := .bool (decide (1000000 < n))) (by kernel_rfl) ((by rw [HD2.out]))) (wq_k (.bool false) (wq_k (.bool false) (wq_k (.int .i64 ((j + 1 : Nat) : Int)) ?_)))))))
          refine wq_v (.bool true) (fun W hW => run_eqv (v := .bool (decide (((j + 1 : Nat) : Int) > 0))) (by kernel_rfl) ((by rw [HG0.out]))) (wq_k (.bool true) (wq_k (.pointer (some ⟨wr.heap.size, 0, none⟩)) (wq_v (.string key) (fun W hW => run_load1 9 (.tmp 30) (by kernel_rfl) ⟨wr.heap.size, 0, none⟩ (by kernel_rfl) (.string key) (hW.box.cell 0) _ Tryz.underlying9 rfl) (wq_k (.slice (some ⟨b', o', none⟩) l.length c) (wq_k (.int .i64 ((j + 1 : Nat) : Int)) (wq_v (.int .i64 ((j : Nat) : Int)) (fun W hW => run_eqv (v := .int .i64 (IntKind.i64.wrap (((j + 1 : Nat) : Int) - 1))) (by kernel_rfl) (wrap_nat _ _ (by omega) (by omega))) (wq_v (.pointer (some ⟨b', o' + j * 2, none⟩)) (fun W hW => run_eqv (run_idx 61 (.tmp 32) (.tmp 34) (by kernel_rfl) (b') (o') l.length c j 109 2 (by kernel_rfl) (by kernel_rfl) (by omega) Tryz.underlying61 (by kernel_rfl)) rfl) ?_)))))))
          refine wq_k (.pointer (some ⟨b', o' + j * 2, none⟩)) (wq_v (.string (ldAt l j).key) (fun W hW => run_load1 9 (.tmp 36) (by kernel_rfl) ⟨b', o' + j * 2, none⟩ (by kernel_rfl) (.string (ldAt l j).key) (row_ld hW.row hjl 0 (by decide)) _ Tryz.underlying9 rfl) (wq_v (.bool false) (fun W hW => run_eqv (v := .bool (Op.bytesLess key.toList (ldAt l j).key.toList || (key.toList == (ldAt l j).key.toList))) (by kernel_rfl) ((by rw [bLe_list, HC.out]; rfl))) (wq_k (.bool false) (wq_k (.bool false) ?_))))
          refine quiet_end rfl (Lib.hid ?_)
          refine Lib.hid ?_
          intro w3 hW
          have S3 := Lib.hid hW
          clear hW
          dsimp only [Exit.then, Act.put]
          simp only [List.setIfInBounds_toArray, List.set_cons_succ, List.set_cons_zero]
          go_wp2_with fail
          go_roundw
          case rel => exact ⟨j + 1 + 1, by omega, by go_num, Lib.hid S3.out.toGS, HRS⟩
          case measure => simp [intOf]; omega
    · obtain rfl : k = l.length := by omega
      have HR := Lib.hid (rightB_true (fun j hj => HP.out j hj))
      go_wp2_with fail
      go_ret
      exact ⟨by rw [HR.out]; rfl, HB.out.bel⟩
end Go.Proofs.YthjmfcdhpdiehaaGreatDoor

namespace Go.Proofs.YthjmfcdhpdiehaaGreatDoor
open Go.RowKit
set_option maxRecDepth 100000
set_option linter.unusedSimpArgs false
set_option linter.unusedVariables false

theorem is_err {W : World} {ea : Nat → Addr} (h : ErrsAt W ea) (i j : Nat) (hi : i < 19) (hj : j < 19) :
    Calls Tryz.prog 52 #[errV ea i, errV ea j] W fun e w' => e = .returned (.bool (decide (i = j))) ∧ w' = W := by
  by_cases hij : i = j
  · subst hij
    rw [decide_eq_true rfl]
    exact is_same _ _
  · rw [decide_eq_false hij]
    obtain ⟨ci, ti, hci⟩ := h.block i hi
    obtain ⟨cj, tj, hcj⟩ := h.block j hj
    exact is_other _ _ ci cj ti tj W (h.apart i j hi hj hij) hci hcj

set_option maxHeartbeats 1000000 in
theorem num_nil (w : World) :
    Calls Tryz.prog 23 #[.nilIface] w fun e w' => e = .returned (.int .i64 0) ∧ Below w.heap.size w w' := by
  go_enter Tryz.func23, Tryz.ntmps23
  go_wp2_with fail
  go_ret
  exact ⟨rfl, Below.refl _ _⟩

/-- The row of all errors. -/
def errRow (ea : Nat → Addr) : List Value := (List.range 19).map (errV ea)
set_option maxHeartbeats 4000000 in
theorem num_err (ea : Nat → Addr) (n : Nat) (w : World) (hn : n < 19) (h : ErrsAt w ea) :
    Calls Tryz.prog 23 #[errV ea n] w fun e w' => e = .returned (.int .i64 ((n : Int) + 1)) ∧ Below w.heap.size w w' := by
  have c0 : w.cell? ⟨1, 0, none⟩ = some (errV ea 0) := h.cell 0 (by omega)
  have c1 : w.cell? ⟨2, 0, none⟩ = some (errV ea 1) := h.cell 1 (by omega)
  have c2 : w.cell? ⟨3, 0, none⟩ = some (errV ea 2) := h.cell 2 (by omega)
  have c3 : w.cell? ⟨0, 0, none⟩ = some (errV ea 3) := h.cell 3 (by omega)
  have c4 : w.cell? ⟨4, 0, none⟩ = some (errV ea 4) := h.cell 4 (by omega)
  have c5 : w.cell? ⟨5, 0, none⟩ = some (errV ea 5) := h.cell 5 (by omega)
  have c6 : w.cell? ⟨6, 0, none⟩ = some (errV ea 6) := h.cell 6 (by omega)
  have c7 : w.cell? ⟨7, 0, none⟩ = some (errV ea 7) := h.cell 7 (by omega)
  have c8 : w.cell? ⟨8, 0, none⟩ = some (errV ea 8) := h.cell 8 (by omega)
  have c9 : w.cell? ⟨9, 0, none⟩ = some (errV ea 9) := h.cell 9 (by omega)
  have c10 : w.cell? ⟨10, 0, none⟩ = some (errV ea 10) := h.cell 10 (by omega)
  have c11 : w.cell? ⟨11, 0, none⟩ = some (errV ea 11) := h.cell 11 (by omega)
  have c12 : w.cell? ⟨12, 0, none⟩ = some (errV ea 12) := h.cell 12 (by omega)
  have c13 : w.cell? ⟨13, 0, none⟩ = some (errV ea 13) := h.cell 13 (by omega)
  have c14 : w.cell? ⟨14, 0, none⟩ = some (errV ea 14) := h.cell 14 (by omega)
  have c15 : w.cell? ⟨15, 0, none⟩ = some (errV ea 15) := h.cell 15 (by omega)
  have c16 : w.cell? ⟨16, 0, none⟩ = some (errV ea 16) := h.cell 16 (by omega)
  have c17 : w.cell? ⟨17, 0, none⟩ = some (errV ea 17) := h.cell 17 (by omega)
  have c18 : w.cell? ⟨18, 0, none⟩ = some (errV ea 18) := h.cell 18 (by omega)
  have hne := fun W => Go.run_eql_iface_nil_left (P := Tryz.prog) W 184 (.pointer (some (ea n))) Tryz.underlying34
  have H := Lib.hid h
  clear h
  simp only [errV] at *
  go_enter Tryz.func23, Tryz.ntmps23
  go_wp2_with fail
  go_loopw [30] (fun i w2 => ∃ k : Nat, k ≤ n ∧ i = .int .i64 k ∧ w2 = w.alloc (.cells (errRow ea).toArray 34)) (fun i _ => 19 - (intOf i).toNat)
  case atStart => exact ⟨0, Nat.zero_le _, rfl, by simp [errRow, errV, List.range_succ]⟩
  case round =>
    obtain ⟨k, hk, rfl, rfl⟩ := hrel
    clear c0 c1 c2 c3 c4 c5 c6 c7 c8 c9 c10 c11 c12 c13 c14 c15 c16 c17 c18 hne
    have hB : Below w.heap.size w (w.alloc (.cells (errRow ea).toArray 34)) := (Below.refl _ _).alloc (Nat.le_refl _) _
    have hc : (w.alloc (.cells (errRow ea).toArray 34)).cell? ⟨w.heap.size, k, none⟩ = some (.iface 184 (.pointer (some (ea k)))) := by
      have := new_cells (errRow ea) w 34 k (errV ea k) (by simp [errRow, List.getElem?_map, List.getElem?_range (show k < 19 by omega)])
      rw [addr_add, Nat.zero_add] at this
      exact this
    have HB := Lib.hid hB
    have HE := Lib.hid (is_err (H.out.below hB) n k hn (by omega))
    clear hB
    generalize w.alloc (.cells (errRow ea).toArray 34) = W at *
    have hk19 : (k : Int) < 19 := by omega
    by_cases hkn : n = k
    · have HK := Lib.hid hkn
      clear hkn
      go_wp2_with fail
      refine HE.out.mono ?_
      rintro e w' ⟨rfl, rfl⟩
      rw [decide_eq_true HK.out]
      go_wp2_with fail
      go_ret
      exact ⟨ret_int (by rw [HK.out]), HB.out⟩
    · have HK := Lib.hid hkn
      clear hkn
      go_wp2_with fail
      refine HE.out.mono ?_
      rintro e w' ⟨rfl, rfl⟩
      rw [decide_eq_false HK.out]
      go_wp2_with fail
      go_roundw
      case rel => exact ⟨k + 1, by have := HK.out; omega, by go_num, by first | rfl | trivial⟩
      case measure => simp [intOf]; omega
end Go.Proofs.YthjmfcdhpdiehaaGreatDoor

namespace Go.Proofs.YthjmfcdhpdiehaaGreatDoor
open Go.RowKit Utf
set_option maxRecDepth 100000
set_option linter.unusedSimpArgs false
set_option linter.unusedVariables false

theorem addAt_comm (l : List Int) (i j : Nat) (x y : Int) : addAt (addAt l i x) j y = addAt (addAt l j y) i x := by
  unfold addAt
  by_cases h : i = j
  · subst h
    rw [List.set_set, List.set_set]
    by_cases hl : i < l.length
    · rw [List.getD_eq_getElem?_getD, List.getD_eq_getElem?_getD, List.getElem?_set_self hl, List.getD_eq_getElem?_getD, List.getElem?_set_self hl]
      congr 1
      simp only [Option.getD_some]
      omega
    · rw [List.set_eq_of_length_le (by omega), List.set_eq_of_length_le (by omega)]
  · rw [List.set_comm _ _ h]
    rw [List.getD_eq_getElem?_getD, List.getElem?_set_ne h, ← List.getD_eq_getElem?_getD, List.getD_eq_getElem?_getD (l := l.set j _), List.getElem?_set_ne (fun e => h e.symm), ← List.getD_eq_getElem?_getD]
theorem srv_perm {p q : List (Sh × List LD)} (s : Nat) (h : p.Perm q) : srvP s p = srvP s q := by
  unfold srvP
  refine h.foldl_eq' (fun x _ y _ acc => ?_) _
  unfold srvStep
  by_cases h1 : x.1.server ≤ (s : Int)
  · by_cases h2 : y.1.server ≤ (s : Int)
    · simp only [h1, h2, if_true]
      exact addAt_comm ..
    · simp only [h1, h2, if_true, if_false]
  · by_cases h2 : y.1.server ≤ (s : Int)
    · simp only [h1, h2, if_true, if_false]
    · simp only [h1, h2, if_false]
/-- What stands all the while. -/
structure LW (w : World) (ea : Nat → Addr) (lo : Option Addr) (l : List LD) (W : World) : Prop where
  bel : Below w.heap.size w W
  row : RowAt W lo (ldRow l)
  err : ErrsAt W ea
theorem LW.next {w W W' : World} {ea : Nat → Addr} {lo : Option Addr} {l : List LD} (h : LW w ea lo l W) (hb : Below W.heap.size W W') : LW w ea lo l W' :=
  ⟨h.bel.trans (hb.mono h.bel.size), h.row.below hb, h.err.below hb⟩
/-- The two maps and the reference's loads. -/
structure LM (B b b2 : Nat) (m : PM) (r : RM) (ra : Option Addr) (l : List LD) (W : World) : Prop where
  mp : MapAt W B b m
  rp : RMAt W B b2 r
  lr : RowAt W ra (ldRow l)
theorem LM.next {W W' : World} {B b b2 : Nat} {m : PM} {r : RM} {ra : Option Addr} {l : List LD} (h : LM B b b2 m r ra l W) (hb : Below W.heap.size W W') : LM B b b2 m r ra l W' :=
  ⟨h.mp.below hb, h.rp.below hb, h.lr.below hb⟩

end Go.Proofs.YthjmfcdhpdiehaaGreatDoor
