/-
  The reference's Right (of loads) and Check. (Printed by wip/gen/rchk.py.)
  tidewaternum.Num: the number of an error.
  The walk of the law BalanceLoads.
  What the row's list of variables gives: the errors of package api, each a pointer of its own.
-/
import Derived.Test.YthjmfcdhpdiehaaGreatDoorM29
import Derived.Test.YthjmfcdhpdiehaaGreatDoorM04
import Derived.Test.YthjmfcdhpdiehaaGreatDoorM26
import Derived.LaidLaws
namespace Go.Proofs.YthjmfcdhpdiehaaGreatDoor
open Go.RowKit Utf
set_option maxRecDepth 100000
set_option linter.unusedSimpArgs false
set_option linter.unusedVariables false

structure RY (w : World) (ao : Option Addr) (l : List LD) (p : Nat) (x : LD) (W : World) : Prop extends GS w ao l W where
  box : Blk W p 109 x.cells.toArray
theorem RY.next {w W W' : World} {ao : Option Addr} {l : List LD} {p : Nat} {x : LD} (h : RY w ao l p x W) (hb : Below W.heap.size W W') : RY w ao l p x W' :=
  ⟨h.toGS.next hb, h.box.below hb h.box.lt⟩

set_option maxHeartbeats 4000000 in
theorem rld_any (l : List LD) (ao : Option Addr) (c : Nat) (w : World) (hn : l.length ≤ 1000000) (hr : RowAt w ao (ldRow l)) (hk : LdOk l) :
    Calls Tryz.prog 22 #[.slice ao l.length c] w fun e w' => e = .returned (.bool (rightB l)) ∧ Below w.heap.size w w' := by
  have HF := Lib.hid (show GS w ao l w from ⟨Below.refl _ _, hr⟩)
  have HKS := Lib.hid hk
  clear hr hk
  go_enter Tryz.func22, Tryz.ntmps22
  go_wp2_with fail
  go_loopw [7] (fun i wr => ∃ k : Nat, k ≤ l.length ∧ i = .int .i64 k ∧ Hid (GS w ao l wr) ∧ Hid (∀ j, j < k → ldOK l j = true)) (fun i _ => l.length - (intOf i).toNat)
  case atStart => exact ⟨0, Nat.zero_le _, rfl, HF, Lib.hid (fun j hj => by omega)⟩
  case round =>
    obtain ⟨k, hk, rfl, HB, HP⟩ := hrel
    by_cases hlt : k < l.length
    · obtain ⟨b', o', rfl, hc⟩ := row_flat LD.cells 2 (by decide) LD.cells_len HB.out.row k hlt
      have HRG := Lib.hid (show wr.rangeAt b' (o' + k * 2) (ldAt l k).cells from fun j v hj => by
        have hj5 : j < 2 := by have := (List.getElem?_eq_some_iff.1 hj).1; rw [LD.cells_len] at this; exact this
        rw [hc j hj5, ← ldAt_eq hlt]; exact hj)
      have HSI := Lib.hid (show (Tryz.prog.info? 109).map (·.size) = some (ldAt l k).cells.length by rw [LD.cells_len]; kernel_rfl)
      have HZ1 := Lib.hid (Blk.new wr 109 #[.string ⟨#[]⟩, .int .i64 0])
      have HKX := Lib.hid (HKS.out.at hlt)
      have HRF := Lib.hid (fun h => rightB_false hlt h)
      have HOK := Lib.hid (show ldOK l k = (isKey (ldAt l k).key && decide (1 ≤ (ldAt l k).n) && decide ((ldAt l k).n ≤ 1000000) && (decide (k = 0) || bLt (ldAt l (k - 1)).key (ldAt l k).key)) from rfl)
      generalize hx : ldAt l k = x at *
      clear hc
      go_wp2_with (first | (refine wpList_load_mid rfl 109 (.tmp 10) rfl b' (o' + k * 2) rfl _ _ HRG.out Tryz.underlying109 rfl HSI.out ?_) | (refine wpList_store_blk rfl 109 (.tmp 4) (.tmp 11) rfl wr.heap.size x.cells.toArray rfl rfl 109 _ HZ1.out rfl (by kernel_rfl) (by kernel_rfl) ?_))
      refine Lib.hid ?_
      intro w2 hz ho
      have S2 := Lib.hid (show RY w (some ⟨b', o', none⟩) l wr.heap.size x w2 from ⟨HB.out.next (((below_alloc wr _)).trans (ho.to_below (by simp) (fun q hq e => by omega))), hz⟩)
      clear hz ho HZ1 HRG
      obtain ⟨key, n⟩ := x
      have HX := Lib.hid hx
      clear hx
      have hn1 : k ≤ 1000000 := by omega
      dsimp only at HKX HOK
      have HNZ := Lib.hid (show (((keyNum key : Nat) : Int) != 0) = !isKey key by rw [← keyNum_z]; rfl)
      cases hkey : isKey key with
      | false =>
        have HRS := Lib.hid (HRF.out (by rw [HOK.out, hkey]; rfl))
        rw [hkey] at HNZ
        clear hkey
        go_wp2_with fail
        refine wp_region_class (RY w (some ⟨b', o', none⟩) l wr.heap.size ⟨key, n⟩) (by kernel_rfl) (by kernel_rfl) (S2.out.next (tame_drewN (Below.refl _ w2) 1)) ?_
        refine wq_val (.pointer (some ⟨wr.heap.size, 0, none⟩)) (by kernel_rfl) (fun W hW => by kernel_rfl) ?_
        refine wq_val (.string key) (by kernel_rfl) (fun W hW => run_load1 9 (Operand.tmp 12) rfl ⟨wr.heap.size, 0, none⟩ (by kernel_rfl) (.string key) (hW.box.cell 0) _ Tryz.underlying9 rfl) ?_
        refine wq_call (.int .i64 ((keyNum key : Nat) : Int)) 51 #[.string key] (by kernel_rfl) (fun W => by kernel_rfl) (fun W hW => (refKey_any key W HKX.out).mono fun e' w' h => ⟨h.1, hW.next h.2⟩) ?_
        refine wq_val (.bool true) (by kernel_rfl) (fun W hW => run_eqv (v := .bool (((keyNum key : Nat) : Int) != 0)) (by kernel_rfl) ((by rw [HNZ.out]; rfl))) ?_
        refine wq_val (.bool true) (by kernel_rfl) (fun W hW => by kernel_rfl) ?_
        refine wq_no (by kernel_rfl) ?_
        refine wq_no (by kernel_rfl) ?_
        refine wq_no (by kernel_rfl) ?_
        refine wq_val (.bool true) (by kernel_rfl) (fun W hW => by kernel_rfl) ?_
        refine wq_val (.bool true) (by kernel_rfl) (fun W hW => by kernel_rfl) ?_
        refine wq_no (by kernel_rfl) ?_
        refine wq_no (by kernel_rfl) ?_
        refine wq_no (by kernel_rfl) ?_
        refine wq_val (.bool true) (by kernel_rfl) (fun W hW => by kernel_rfl) ?_
        refine wq_val (.bool true) (by kernel_rfl) (fun W hW => by kernel_rfl) ?_
        refine wq_no (by kernel_rfl) ?_
        refine wq_no (by kernel_rfl) ?_
        refine wq_no (by kernel_rfl) ?_
        refine wq_no (by kernel_rfl) ?_
        refine wq_no (by kernel_rfl) ?_
        refine wq_no (by kernel_rfl) ?_
        refine wq_no (by kernel_rfl) ?_
        refine wq_no (by kernel_rfl) ?_
        refine wq_no (by kernel_rfl) ?_
        refine wq_no (by kernel_rfl) ?_
        refine wq_no (by kernel_rfl) ?_
        refine wq_no (by kernel_rfl) ?_
        refine wq_no (by kernel_rfl) ?_
        refine wq_val (.bool true) (by kernel_rfl) (fun W hW => by kernel_rfl) ?_
        refine quiet_end rfl (Lib.hid ?_)
        refine Lib.hid ?_
        intro w3 hW
        have S3 := Lib.hid hW
        clear hW
        dsimp only [Exit.then, Act.put]
        simp only [List.setIfInBounds_toArray, List.set_cons_succ, List.set_cons_zero]
        go_wp2_with fail
        go_ret
        exact ⟨by rw [HRS.out]; rfl, S3.out.bel⟩
      | true =>
      rw [hkey] at HNZ
      by_cases hn0 : n < 1
      · have HD := Lib.hid (show decide (n < 1) = true from decide_eq_true hn0)
        have HRS := Lib.hid (HRF.out (by rw [HOK.out, decide_eq_false (show ¬ 1 ≤ n by omega)]; simp))
        clear hkey hn0
        go_wp2_with fail
        refine wp_region_class (RY w (some ⟨b', o', none⟩) l wr.heap.size ⟨key, n⟩) (by kernel_rfl) (by kernel_rfl) (S2.out.next (tame_drewN (Below.refl _ w2) 1)) ?_
        refine wq_val (.pointer (some ⟨wr.heap.size, 0, none⟩)) (by kernel_rfl) (fun W hW => by kernel_rfl) ?_
        refine wq_val (.string key) (by kernel_rfl) (fun W hW => run_load1 9 (Operand.tmp 12) rfl ⟨wr.heap.size, 0, none⟩ (by kernel_rfl) (.string key) (hW.box.cell 0) _ Tryz.underlying9 rfl) ?_
        refine wq_call (.int .i64 ((keyNum key : Nat) : Int)) 51 #[.string key] (by kernel_rfl) (fun W => by kernel_rfl) (fun W hW => (refKey_any key W HKX.out).mono fun e' w' h => ⟨h.1, hW.next h.2⟩) ?_
        refine wq_val (.bool false) (by kernel_rfl) (fun W hW => run_eqv (v := .bool (((keyNum key : Nat) : Int) != 0)) (by kernel_rfl) ((by rw [HNZ.out]; rfl))) ?_
        refine wq_val (.bool false) (by kernel_rfl) (fun W hW => by kernel_rfl) ?_
        refine wq_val (.pointer (some ⟨wr.heap.size, 1, none⟩)) (by kernel_rfl) (fun W hW => by kernel_rfl) ?_
        refine wq_val (.int .i64 n) (by kernel_rfl) (fun W hW => run_load1 3 (Operand.tmp 17) rfl ⟨wr.heap.size, 1, none⟩ (by kernel_rfl) (.int .i64 n) (hW.box.cell 1) _ Tryz.underlying3 rfl) ?_
        refine wq_val (.bool true) (by kernel_rfl) (fun W hW => run_eqv (v := .bool (decide (n < 1))) (by kernel_rfl) ((by rw [HD.out]))) ?_
        refine wq_val (.bool true) (by kernel_rfl) (fun W hW => by kernel_rfl) ?_
        refine wq_val (.bool true) (by kernel_rfl) (fun W hW => by kernel_rfl) ?_
        refine wq_no (by kernel_rfl) ?_
        refine wq_no (by kernel_rfl) ?_
        refine wq_no (by kernel_rfl) ?_
        refine wq_val (.bool true) (by kernel_rfl) (fun W hW => by kernel_rfl) ?_
        refine wq_val (.bool true) (by kernel_rfl) (fun W hW => by kernel_rfl) ?_
        refine wq_no (by kernel_rfl) ?_
        refine wq_no (by kernel_rfl) ?_
        refine wq_no (by kernel_rfl) ?_
        refine wq_no (by kernel_rfl) ?_
        refine wq_no (by kernel_rfl) ?_
        refine wq_no (by kernel_rfl) ?_
        refine wq_no (by kernel_rfl) ?_
        refine wq_no (by kernel_rfl) ?_
        refine wq_no (by kernel_rfl) ?_
        refine wq_no (by kernel_rfl) ?_
        refine wq_no (by kernel_rfl) ?_
        refine wq_no (by kernel_rfl) ?_
        refine wq_no (by kernel_rfl) ?_
        refine wq_val (.bool true) (by kernel_rfl) (fun W hW => by kernel_rfl) ?_
        refine quiet_end rfl (Lib.hid ?_)
        refine Lib.hid ?_
        intro w3 hW
        have S3 := Lib.hid hW
        clear hW
        dsimp only [Exit.then, Act.put]
        simp only [List.setIfInBounds_toArray, List.set_cons_succ, List.set_cons_zero]
        go_wp2_with fail
        go_ret
        exact ⟨by rw [HRS.out]; rfl, S3.out.bel⟩
      have HD := Lib.hid (show decide (n < 1) = false from decide_eq_false hn0)
      by_cases hn9 : 1000000 < n
      · have HD2 := Lib.hid (show decide (1000000 < n) = true from decide_eq_true hn9)
        have HRS := Lib.hid (HRF.out (by rw [HOK.out, decide_eq_false (show ¬ n ≤ 1000000 by omega)]; simp))
        clear hkey hn0 hn9
        go_wp2_with fail
        refine wp_region_class (RY w (some ⟨b', o', none⟩) l wr.heap.size ⟨key, n⟩) (by kernel_rfl) (by kernel_rfl) (S2.out.next (tame_drewN (Below.refl _ w2) 1)) ?_
        refine wq_val (.pointer (some ⟨wr.heap.size, 0, none⟩)) (by kernel_rfl) (fun W hW => by kernel_rfl) ?_
        refine wq_val (.string key) (by kernel_rfl) (fun W hW => run_load1 9 (Operand.tmp 12) rfl ⟨wr.heap.size, 0, none⟩ (by kernel_rfl) (.string key) (hW.box.cell 0) _ Tryz.underlying9 rfl) ?_
        refine wq_call (.int .i64 ((keyNum key : Nat) : Int)) 51 #[.string key] (by kernel_rfl) (fun W => by kernel_rfl) (fun W hW => (refKey_any key W HKX.out).mono fun e' w' h => ⟨h.1, hW.next h.2⟩) ?_
        refine wq_val (.bool false) (by kernel_rfl) (fun W hW => run_eqv (v := .bool (((keyNum key : Nat) : Int) != 0)) (by kernel_rfl) ((by rw [HNZ.out]; rfl))) ?_
        refine wq_val (.bool false) (by kernel_rfl) (fun W hW => by kernel_rfl) ?_
        refine wq_val (.pointer (some ⟨wr.heap.size, 1, none⟩)) (by kernel_rfl) (fun W hW => by kernel_rfl) ?_
        refine wq_val (.int .i64 n) (by kernel_rfl) (fun W hW => run_load1 3 (Operand.tmp 17) rfl ⟨wr.heap.size, 1, none⟩ (by kernel_rfl) (.int .i64 n) (hW.box.cell 1) _ Tryz.underlying3 rfl) ?_
        refine wq_val (.bool false) (by kernel_rfl) (fun W hW => run_eqv (v := .bool (decide (n < 1))) (by kernel_rfl) ((by rw [HD.out]))) ?_
        refine wq_val (.bool false) (by kernel_rfl) (fun W hW => by kernel_rfl) ?_
        refine wq_val (.bool false) (by kernel_rfl) (fun W hW => by kernel_rfl) ?_
        refine wq_val (.pointer (some ⟨wr.heap.size, 1, none⟩)) (by kernel_rfl) (fun W hW => by kernel_rfl) ?_
        refine wq_val (.int .i64 n) (by kernel_rfl) (fun W hW => run_load1 3 (Operand.tmp 22) rfl ⟨wr.heap.size, 1, none⟩ (by kernel_rfl) (.int .i64 n) (hW.box.cell 1) _ Tryz.underlying3 rfl) ?_
        refine wq_val (.bool true) (by kernel_rfl) (fun W hW => run_eqv (v := .bool (decide (1000000 < n))) (by kernel_rfl) ((by rw [HD2.out]))) ?_
        refine wq_val (.bool true) (by kernel_rfl) (fun W hW => by kernel_rfl) ?_
        refine wq_val (.bool true) (by kernel_rfl) (fun W hW => by kernel_rfl) ?_
        refine wq_no (by kernel_rfl) ?_
        refine wq_no (by kernel_rfl) ?_
        refine wq_no (by kernel_rfl) ?_
        refine wq_no (by kernel_rfl) ?_
        refine wq_no (by kernel_rfl) ?_
        refine wq_no (by kernel_rfl) ?_
        refine wq_no (by kernel_rfl) ?_
        refine wq_no (by kernel_rfl) ?_
        refine wq_no (by kernel_rfl) ?_
        refine wq_no (by kernel_rfl) ?_
        refine wq_no (by kernel_rfl) ?_
        refine wq_no (by kernel_rfl) ?_
        refine wq_no (by kernel_rfl) ?_
        refine wq_val (.bool true) (by kernel_rfl) (fun W hW => by kernel_rfl) ?_
        refine quiet_end rfl (Lib.hid ?_)
        refine Lib.hid ?_
        intro w3 hW
        have S3 := Lib.hid hW
        clear hW
        dsimp only [Exit.then, Act.put]
        simp only [List.setIfInBounds_toArray, List.set_cons_succ, List.set_cons_zero]
        go_wp2_with fail
        go_ret
        exact ⟨by rw [HRS.out]; rfl, S3.out.bel⟩
      have HD2 := Lib.hid (show decide (1000000 < n) = false from decide_eq_false hn9)
      have HO2 := Lib.hid (show ldOK l k = (decide (k = 0) || bLt (ldAt l (k - 1)).key key) by rw [HOK.out, hkey, decide_eq_true (show 1 ≤ n by omega), decide_eq_true (show n ≤ 1000000 by omega)]; rfl)
      clear hkey hn0 hn9 HOK
      rcases k with _ | j
      · have HRS : Hid (∀ q, q < 0 + 1 → ldOK l q = true) := Lib.hid (fun q hq => by obtain rfl : q = 0 := (by omega); rw [HO2.out]; rfl)
        go_wp2_with fail
        refine wp_region_class (RY w (some ⟨b', o', none⟩) l wr.heap.size ⟨key, n⟩) (by kernel_rfl) (by kernel_rfl) (S2.out.next (tame_drewN (Below.refl _ w2) 1)) ?_
        refine wq_val (.pointer (some ⟨wr.heap.size, 0, none⟩)) (by kernel_rfl) (fun W hW => by kernel_rfl) ?_
        refine wq_val (.string key) (by kernel_rfl) (fun W hW => run_load1 9 (Operand.tmp 12) rfl ⟨wr.heap.size, 0, none⟩ (by kernel_rfl) (.string key) (hW.box.cell 0) _ Tryz.underlying9 rfl) ?_
        refine wq_call (.int .i64 ((keyNum key : Nat) : Int)) 51 #[.string key] (by kernel_rfl) (fun W => by kernel_rfl) (fun W hW => (refKey_any key W HKX.out).mono fun e' w' h => ⟨h.1, hW.next h.2⟩) ?_
        refine wq_val (.bool false) (by kernel_rfl) (fun W hW => run_eqv (v := .bool (((keyNum key : Nat) : Int) != 0)) (by kernel_rfl) ((by rw [HNZ.out]; rfl))) ?_
        refine wq_val (.bool false) (by kernel_rfl) (fun W hW => by kernel_rfl) ?_
        refine wq_val (.pointer (some ⟨wr.heap.size, 1, none⟩)) (by kernel_rfl) (fun W hW => by kernel_rfl) ?_
        refine wq_val (.int .i64 n) (by kernel_rfl) (fun W hW => run_load1 3 (Operand.tmp 17) rfl ⟨wr.heap.size, 1, none⟩ (by kernel_rfl) (.int .i64 n) (hW.box.cell 1) _ Tryz.underlying3 rfl) ?_
        refine wq_val (.bool false) (by kernel_rfl) (fun W hW => run_eqv (v := .bool (decide (n < 1))) (by kernel_rfl) ((by rw [HD.out]))) ?_
        refine wq_val (.bool false) (by kernel_rfl) (fun W hW => by kernel_rfl) ?_
        refine wq_val (.bool false) (by kernel_rfl) (fun W hW => by kernel_rfl) ?_
        refine wq_val (.pointer (some ⟨wr.heap.size, 1, none⟩)) (by kernel_rfl) (fun W hW => by kernel_rfl) ?_
        refine wq_val (.int .i64 n) (by kernel_rfl) (fun W hW => run_load1 3 (Operand.tmp 22) rfl ⟨wr.heap.size, 1, none⟩ (by kernel_rfl) (.int .i64 n) (hW.box.cell 1) _ Tryz.underlying3 rfl) ?_
        refine wq_val (.bool false) (by kernel_rfl) (fun W hW => run_eqv (v := .bool (decide (1000000 < n))) (by kernel_rfl) ((by rw [HD2.out]))) ?_
        refine wq_val (.bool false) (by kernel_rfl) (fun W hW => by kernel_rfl) ?_
        refine wq_val (.bool false) (by kernel_rfl) (fun W hW => by kernel_rfl) ?_
        refine wq_val (.int .i64 ((0 : Nat) : Int)) (by kernel_rfl) (fun W hW => by kernel_rfl) ?_
        refine wq_val (.bool false) (by kernel_rfl) (fun W hW => run_eqv (v := .bool (decide (((0 : Nat) : Int) > 0))) (by kernel_rfl) (rfl)) ?_
        refine wq_val (.bool false) (by kernel_rfl) (fun W hW => by kernel_rfl) ?_
        refine wq_no (by kernel_rfl) ?_
        refine wq_no (by kernel_rfl) ?_
        refine wq_no (by kernel_rfl) ?_
        refine wq_no (by kernel_rfl) ?_
        refine wq_no (by kernel_rfl) ?_
        refine wq_no (by kernel_rfl) ?_
        refine wq_no (by kernel_rfl) ?_
        refine wq_no (by kernel_rfl) ?_
        refine wq_no (by kernel_rfl) ?_
        refine wq_val (.bool false) (by kernel_rfl) (fun W hW => by kernel_rfl) ?_
        refine wq_val (.bool false) (by kernel_rfl) (fun W hW => by kernel_rfl) ?_
        refine quiet_end rfl (Lib.hid ?_)
        refine Lib.hid ?_
        intro w3 hW
        have S3 := Lib.hid hW
        clear hW
        dsimp only [Exit.then, Act.put]
        simp only [List.setIfInBounds_toArray, List.set_cons_succ, List.set_cons_zero]
        go_wp2_with fail
        go_roundw
        case rel => exact ⟨0 + 1, by omega, by go_num, Lib.hid S3.out.toGS, HRS⟩
        case measure => simp [intOf]; omega
      · have hjl : j < l.length := by omega
        have hj1 : ((j + 1 : Nat) : Int) > 0 := by omega
        have HG0 := Lib.hid (show decide (((j + 1 : Nat) : Int) > 0) = true from decide_eq_true hj1)
        cases hcm : bLt (ldAt l j).key key with
        | false =>
          have HRS := Lib.hid (HRF.out (by rw [HO2.out, Nat.add_sub_cancel, hcm]; rfl))
          have HC := Lib.hid hcm
          clear hcm
          go_wp2_with fail
          refine wp_region_class (RY w (some ⟨b', o', none⟩) l wr.heap.size ⟨key, n⟩) (by kernel_rfl) (by kernel_rfl) (S2.out.next (tame_drewN (Below.refl _ w2) 1)) ?_
          refine wq_val (.pointer (some ⟨wr.heap.size, 0, none⟩)) (by kernel_rfl) (fun W hW => by kernel_rfl) ?_
          refine wq_val (.string key) (by kernel_rfl) (fun W hW => run_load1 9 (Operand.tmp 12) rfl ⟨wr.heap.size, 0, none⟩ (by kernel_rfl) (.string key) (hW.box.cell 0) _ Tryz.underlying9 rfl) ?_
          refine wq_call (.int .i64 ((keyNum key : Nat) : Int)) 51 #[.string key] (by kernel_rfl) (fun W => by kernel_rfl) (fun W hW => (refKey_any key W HKX.out).mono fun e' w' h => ⟨h.1, hW.next h.2⟩) ?_
          refine wq_val (.bool false) (by kernel_rfl) (fun W hW => run_eqv (v := .bool (((keyNum key : Nat) : Int) != 0)) (by kernel_rfl) ((by rw [HNZ.out]; rfl))) ?_
          refine wq_val (.bool false) (by kernel_rfl) (fun W hW => by kernel_rfl) ?_
          refine wq_val (.pointer (some ⟨wr.heap.size, 1, none⟩)) (by kernel_rfl) (fun W hW => by kernel_rfl) ?_
          refine wq_val (.int .i64 n) (by kernel_rfl) (fun W hW => run_load1 3 (Operand.tmp 17) rfl ⟨wr.heap.size, 1, none⟩ (by kernel_rfl) (.int .i64 n) (hW.box.cell 1) _ Tryz.underlying3 rfl) ?_
          refine wq_val (.bool false) (by kernel_rfl) (fun W hW => run_eqv (v := .bool (decide (n < 1))) (by kernel_rfl) ((by rw [HD.out]))) ?_
          refine wq_val (.bool false) (by kernel_rfl) (fun W hW => by kernel_rfl) ?_
          refine wq_val (.bool false) (by kernel_rfl) (fun W hW => by kernel_rfl) ?_
          refine wq_val (.pointer (some ⟨wr.heap.size, 1, none⟩)) (by kernel_rfl) (fun W hW => by kernel_rfl) ?_
          refine wq_val (.int .i64 n) (by kernel_rfl) (fun W hW => run_load1 3 (Operand.tmp 22) rfl ⟨wr.heap.size, 1, none⟩ (by kernel_rfl) (.int .i64 n) (hW.box.cell 1) _ Tryz.underlying3 rfl) ?_
          refine wq_val (.bool false) (by kernel_rfl) (fun W hW => run_eqv (v := .bool (decide (1000000 < n))) (by kernel_rfl) ((by rw [HD2.out]))) ?_
          refine wq_val (.bool false) (by kernel_rfl) (fun W hW => by kernel_rfl) ?_
          refine wq_val (.bool false) (by kernel_rfl) (fun W hW => by kernel_rfl) ?_
          refine wq_val (.int .i64 ((j + 1 : Nat) : Int)) (by kernel_rfl) (fun W hW => by kernel_rfl) ?_
          refine wq_val (.bool true) (by kernel_rfl) (fun W hW => run_eqv (v := .bool (decide (((j + 1 : Nat) : Int) > 0))) (by kernel_rfl) ((by rw [HG0.out]))) ?_
          refine wq_val (.bool true) (by kernel_rfl) (fun W hW => by kernel_rfl) ?_
          refine wq_val (.pointer (some ⟨wr.heap.size, 0, none⟩)) (by kernel_rfl) (fun W hW => by kernel_rfl) ?_
          refine wq_val (.string key) (by kernel_rfl) (fun W hW => run_load1 9 (Operand.tmp 30) rfl ⟨wr.heap.size, 0, none⟩ (by kernel_rfl) (.string key) (hW.box.cell 0) _ Tryz.underlying9 rfl) ?_
          refine wq_val (.slice (some ⟨b', o', none⟩) l.length c) (by kernel_rfl) (fun W hW => by kernel_rfl) ?_
          refine wq_val (.int .i64 ((j + 1 : Nat) : Int)) (by kernel_rfl) (fun W hW => by kernel_rfl) ?_
          refine wq_val (.int .i64 ((j : Nat) : Int)) (by kernel_rfl) (fun W hW => run_eqv (v := .int .i64 (IntKind.i64.wrap (((j + 1 : Nat) : Int) - 1))) (by kernel_rfl) (wrap_nat _ _ (by omega) (by omega))) ?_
          refine wq_val (.pointer (some ⟨b', o' + j * 2, none⟩)) (by kernel_rfl) (fun W hW => run_eqv (run_idx 61 (Operand.tmp 32) (Operand.tmp 34) rfl (b') (o') l.length c j 109 2 (by kernel_rfl) (by kernel_rfl) (by omega) Tryz.underlying61 (by kernel_rfl)) rfl) ?_
          refine wq_val (.pointer (some ⟨b', o' + j * 2, none⟩)) (by kernel_rfl) (fun W hW => by kernel_rfl) ?_
          refine wq_val (.string (ldAt l j).key) (by kernel_rfl) (fun W hW => run_load1 9 (Operand.tmp 36) rfl ⟨b', o' + j * 2, none⟩ (by kernel_rfl) (.string (ldAt l j).key) (row_ld hW.row hjl 0 (by decide)) _ Tryz.underlying9 rfl) ?_
          refine wq_val (.bool true) (by kernel_rfl) (fun W hW => run_eqv (v := .bool (Op.bytesLess key.toList (ldAt l j).key.toList || (key.toList == (ldAt l j).key.toList))) (by kernel_rfl) ((by rw [bLe_list, HC.out]; rfl))) ?_
          refine wq_val (.bool true) (by kernel_rfl) (fun W hW => by kernel_rfl) ?_
          refine wq_val (.bool true) (by kernel_rfl) (fun W hW => by kernel_rfl) ?_
          refine quiet_end rfl (Lib.hid ?_)
          refine Lib.hid ?_
          intro w3 hW
          have S3 := Lib.hid hW
          clear hW
          dsimp only [Exit.then, Act.put]
          simp only [List.setIfInBounds_toArray, List.set_cons_succ, List.set_cons_zero]
          go_wp2_with fail
          go_ret
          exact ⟨by rw [HRS.out]; rfl, S3.out.bel⟩
        | true =>
          have HRS : Hid (∀ q, q < j + 1 + 1 → ldOK l q = true) := Lib.hid (fun q hq => by
            by_cases hqj : q < j + 1
            · exact HP.out q hqj
            · obtain rfl : q = j + 1 := by omega
              rw [HO2.out, Nat.add_sub_cancel, hcm, Bool.or_true])
          have HC := Lib.hid hcm
          clear hcm
          go_wp2_with fail
          refine wp_region_class (RY w (some ⟨b', o', none⟩) l wr.heap.size ⟨key, n⟩) (by kernel_rfl) (by kernel_rfl) (S2.out.next (tame_drewN (Below.refl _ w2) 1)) ?_
          refine wq_val (.pointer (some ⟨wr.heap.size, 0, none⟩)) (by kernel_rfl) (fun W hW => by kernel_rfl) ?_
          refine wq_val (.string key) (by kernel_rfl) (fun W hW => run_load1 9 (Operand.tmp 12) rfl ⟨wr.heap.size, 0, none⟩ (by kernel_rfl) (.string key) (hW.box.cell 0) _ Tryz.underlying9 rfl) ?_
          refine wq_call (.int .i64 ((keyNum key : Nat) : Int)) 51 #[.string key] (by kernel_rfl) (fun W => by kernel_rfl) (fun W hW => (refKey_any key W HKX.out).mono fun e' w' h => ⟨h.1, hW.next h.2⟩) ?_
          refine wq_val (.bool false) (by kernel_rfl) (fun W hW => run_eqv (v := .bool (((keyNum key : Nat) : Int) != 0)) (by kernel_rfl) ((by rw [HNZ.out]; rfl))) ?_
          refine wq_val (.bool false) (by kernel_rfl) (fun W hW => by kernel_rfl) ?_
          refine wq_val (.pointer (some ⟨wr.heap.size, 1, none⟩)) (by kernel_rfl) (fun W hW => by kernel_rfl) ?_
          refine wq_val (.int .i64 n) (by kernel_rfl) (fun W hW => run_load1 3 (Operand.tmp 17) rfl ⟨wr.heap.size, 1, none⟩ (by kernel_rfl) (.int .i64 n) (hW.box.cell 1) _ Tryz.underlying3 rfl) ?_
          refine wq_val (.bool false) (by kernel_rfl) (fun W hW => run_eqv (v := .bool (decide (n < 1))) (by kernel_rfl) ((by rw [HD.out]))) ?_
          refine wq_val (.bool false) (by kernel_rfl) (fun W hW => by kernel_rfl) ?_
          refine wq_val (.bool false) (by kernel_rfl) (fun W hW => by kernel_rfl) ?_
          refine wq_val (.pointer (some ⟨wr.heap.size, 1, none⟩)) (by kernel_rfl) (fun W hW => by kernel_rfl) ?_
          refine wq_val (.int .i64 n) (by kernel_rfl) (fun W hW => run_load1 3 (Operand.tmp 22) rfl ⟨wr.heap.size, 1, none⟩ (by kernel_rfl) (.int .i64 n) (hW.box.cell 1) _ Tryz.underlying3 rfl) ?_
          refine wq_val (.bool false) (by kernel_rfl) (fun W hW => run_eqv (v := .bool (decide (1000000 < n))) (by kernel_rfl) ((by rw [HD2.out]))) ?_
          refine wq_val (.bool false) (by kernel_rfl) (fun W hW => by kernel_rfl) ?_
          refine wq_val (.bool false) (by kernel_rfl) (fun W hW => by kernel_rfl) ?_
          refine wq_val (.int .i64 ((j + 1 : Nat) : Int)) (by kernel_rfl) (fun W hW => by kernel_rfl) ?_
          refine wq_val (.bool true) (by kernel_rfl) (fun W hW => run_eqv (v := .bool (decide (((j + 1 : Nat) : Int) > 0))) (by kernel_rfl) ((by rw [HG0.out]))) ?_
          refine wq_val (.bool true) (by kernel_rfl) (fun W hW => by kernel_rfl) ?_
          refine wq_val (.pointer (some ⟨wr.heap.size, 0, none⟩)) (by kernel_rfl) (fun W hW => by kernel_rfl) ?_
          refine wq_val (.string key) (by kernel_rfl) (fun W hW => run_load1 9 (Operand.tmp 30) rfl ⟨wr.heap.size, 0, none⟩ (by kernel_rfl) (.string key) (hW.box.cell 0) _ Tryz.underlying9 rfl) ?_
          refine wq_val (.slice (some ⟨b', o', none⟩) l.length c) (by kernel_rfl) (fun W hW => by kernel_rfl) ?_
          refine wq_val (.int .i64 ((j + 1 : Nat) : Int)) (by kernel_rfl) (fun W hW => by kernel_rfl) ?_
          refine wq_val (.int .i64 ((j : Nat) : Int)) (by kernel_rfl) (fun W hW => run_eqv (v := .int .i64 (IntKind.i64.wrap (((j + 1 : Nat) : Int) - 1))) (by kernel_rfl) (wrap_nat _ _ (by omega) (by omega))) ?_
          refine wq_val (.pointer (some ⟨b', o' + j * 2, none⟩)) (by kernel_rfl) (fun W hW => run_eqv (run_idx 61 (Operand.tmp 32) (Operand.tmp 34) rfl (b') (o') l.length c j 109 2 (by kernel_rfl) (by kernel_rfl) (by omega) Tryz.underlying61 (by kernel_rfl)) rfl) ?_
          refine wq_val (.pointer (some ⟨b', o' + j * 2, none⟩)) (by kernel_rfl) (fun W hW => by kernel_rfl) ?_
          refine wq_val (.string (ldAt l j).key) (by kernel_rfl) (fun W hW => run_load1 9 (Operand.tmp 36) rfl ⟨b', o' + j * 2, none⟩ (by kernel_rfl) (.string (ldAt l j).key) (row_ld hW.row hjl 0 (by decide)) _ Tryz.underlying9 rfl) ?_
          refine wq_val (.bool false) (by kernel_rfl) (fun W hW => run_eqv (v := .bool (Op.bytesLess key.toList (ldAt l j).key.toList || (key.toList == (ldAt l j).key.toList))) (by kernel_rfl) ((by rw [bLe_list, HC.out]; rfl))) ?_
          refine wq_val (.bool false) (by kernel_rfl) (fun W hW => by kernel_rfl) ?_
          refine wq_val (.bool false) (by kernel_rfl) (fun W hW => by kernel_rfl) ?_
          refine quiet_end rfl (Lib.hid ?_)
          refine Lib.hid ?_
          intro w3 hW
          have S3 := Lib.hid hW
          clear hW
          dsimp only [Exit.then, Act.put]
          simp only [List.setIfInBounds_toArray, List.set_cons_succ, List.set_cons_zero]
          go_wp2_with fail
          go_roundw
          case rel => exact ⟨j + 1 + 1, by omega, by go_num, Lib.hid S3.out.toGS, HRS⟩
          case measure => simp [intOf]; omega
    · obtain rfl : k = l.length := by omega
      have HR := Lib.hid (rightB_true (fun j hj => HP.out j hj))
      go_wp2_with fail
      go_ret
      exact ⟨by rw [HR.out]; rfl, HB.out.bel⟩
end Go.Proofs.YthjmfcdhpdiehaaGreatDoor

namespace Go.Proofs.YthjmfcdhpdiehaaGreatDoor
open Go.RowKit
set_option maxRecDepth 100000
set_option linter.unusedSimpArgs false
set_option linter.unusedVariables false

theorem is_err {W : World} {ea : Nat → Addr} (h : ErrsAt W ea) (i j : Nat) (hi : i < 19) (hj : j < 19) :
    Calls Tryz.prog 52 #[errV ea i, errV ea j] W fun e w' => e = .returned (.bool (decide (i = j))) ∧ w' = W := by
  by_cases hij : i = j
  · subst hij
    rw [decide_eq_true rfl]
    exact is_same _ _
  · rw [decide_eq_false hij]
    obtain ⟨ci, ti, hci⟩ := h.block i hi
    obtain ⟨cj, tj, hcj⟩ := h.block j hj
    exact is_other _ _ ci cj ti tj W (h.apart i j hi hj hij) hci hcj

/-- The row of all errors. -/
def errRow (ea : Nat → Addr) : List Value := (List.range 19).map (errV ea)
set_option maxHeartbeats 4000000 in
theorem num_err (ea : Nat → Addr) (n : Nat) (w : World) (hn : n < 19) (h : ErrsAt w ea) :
    Calls Tryz.prog 23 #[errV ea n] w fun e w' => e = .returned (.int .i64 ((n : Int) + 1)) ∧ Below w.heap.size w w' := by
  have c0 : w.cell? ⟨1, 0, none⟩ = some (errV ea 0) := h.cell 0 (by omega)
  have c1 : w.cell? ⟨2, 0, none⟩ = some (errV ea 1) := h.cell 1 (by omega)
  have c2 : w.cell? ⟨3, 0, none⟩ = some (errV ea 2) := h.cell 2 (by omega)
  have c3 : w.cell? ⟨0, 0, none⟩ = some (errV ea 3) := h.cell 3 (by omega)
  have c4 : w.cell? ⟨4, 0, none⟩ = some (errV ea 4) := h.cell 4 (by omega)
  have c5 : w.cell? ⟨5, 0, none⟩ = some (errV ea 5) := h.cell 5 (by omega)
  have c6 : w.cell? ⟨6, 0, none⟩ = some (errV ea 6) := h.cell 6 (by omega)
  have c7 : w.cell? ⟨7, 0, none⟩ = some (errV ea 7) := h.cell 7 (by omega)
  have c8 : w.cell? ⟨8, 0, none⟩ = some (errV ea 8) := h.cell 8 (by omega)
  have c9 : w.cell? ⟨9, 0, none⟩ = some (errV ea 9) := h.cell 9 (by omega)
  have c10 : w.cell? ⟨10, 0, none⟩ = some (errV ea 10) := h.cell 10 (by omega)
  have c11 : w.cell? ⟨11, 0, none⟩ = some (errV ea 11) := h.cell 11 (by omega)
  have c12 : w.cell? ⟨12, 0, none⟩ = some (errV ea 12) := h.cell 12 (by omega)
  have c13 : w.cell? ⟨13, 0, none⟩ = some (errV ea 13) := h.cell 13 (by omega)
  have c14 : w.cell? ⟨14, 0, none⟩ = some (errV ea 14) := h.cell 14 (by omega)
  have c15 : w.cell? ⟨15, 0, none⟩ = some (errV ea 15) := h.cell 15 (by omega)
  have c16 : w.cell? ⟨16, 0, none⟩ = some (errV ea 16) := h.cell 16 (by omega)
  have c17 : w.cell? ⟨17, 0, none⟩ = some (errV ea 17) := h.cell 17 (by omega)
  have c18 : w.cell? ⟨18, 0, none⟩ = some (errV ea 18) := h.cell 18 (by omega)
  have hne := fun W => Go.run_eql_iface_nil_left (P := Tryz.prog) W 184 (.pointer (some (ea n))) Tryz.underlying34
  have H := Lib.hid h
  clear h
  simp only [errV] at *
  go_enter Tryz.func23, Tryz.ntmps23
  go_wp2_with fail
  go_loopw [30] (fun i w2 => ∃ k : Nat, k ≤ n ∧ i = .int .i64 k ∧ w2 = w.alloc (.cells (errRow ea).toArray 34)) (fun i _ => 19 - (intOf i).toNat)
  case atStart => exact ⟨0, Nat.zero_le _, rfl, by simp [errRow, errV, List.range_succ]⟩
  case round =>
    obtain ⟨k, hk, rfl, rfl⟩ := hrel
    clear c0 c1 c2 c3 c4 c5 c6 c7 c8 c9 c10 c11 c12 c13 c14 c15 c16 c17 c18 hne
    have hB : Below w.heap.size w (w.alloc (.cells (errRow ea).toArray 34)) := (Below.refl _ _).alloc (Nat.le_refl _) _
    have hc : (w.alloc (.cells (errRow ea).toArray 34)).cell? ⟨w.heap.size, k, none⟩ = some (.iface 184 (.pointer (some (ea k)))) := by
      have := new_cells (errRow ea) w 34 k (errV ea k) (by simp [errRow, List.getElem?_map, List.getElem?_range (show k < 19 by omega)])
      rw [addr_add, Nat.zero_add] at this
      exact this
    have HB := Lib.hid hB
    have HE := Lib.hid (is_err (H.out.below hB) n k hn (by omega))
    clear hB
    generalize w.alloc (.cells (errRow ea).toArray 34) = W at *
    have hk19 : (k : Int) < 19 := by omega
    by_cases hkn : n = k
    · have HK := Lib.hid hkn
      clear hkn
      go_wp2_with fail
      refine HE.out.mono ?_
      rintro e w' ⟨rfl, rfl⟩
      rw [decide_eq_true HK.out]
      go_wp2_with fail
      go_ret
      exact ⟨ret_int (by rw [HK.out]), HB.out⟩
    · have HK := Lib.hid hkn
      clear hkn
      go_wp2_with fail
      refine HE.out.mono ?_
      rintro e w' ⟨rfl, rfl⟩
      rw [decide_eq_false HK.out]
      go_wp2_with fail
      go_roundw
      case rel => exact ⟨k + 1, by have := HK.out; omega, by go_num, by first | rfl | trivial⟩
      case measure => simp [intOf]; omega
end Go.Proofs.YthjmfcdhpdiehaaGreatDoor

namespace Go.Proofs.YthjmfcdhpdiehaaGreatDoor
open Go.RowKit Utf
set_option maxRecDepth 100000
set_option linter.unusedSimpArgs false
set_option linter.unusedVariables false

theorem addAt_comm (l : List Int) (i j : Nat) (x y : Int) : addAt (addAt l i x) j y = addAt (addAt l j y) i x := by
  unfold addAt
  by_cases h : i = j
  · subst h
    rw [List.set_set, List.set_set]
    by_cases hl : i < l.length
    · rw [List.getD_eq_getElem?_getD, List.getD_eq_getElem?_getD, List.getElem?_set_self hl, List.getD_eq_getElem?_getD, List.getElem?_set_self hl]
      congr 1
      simp only [Option.getD_some]
      omega
    · rw [List.set_eq_of_length_le (by omega), List.set_eq_of_length_le (by omega)]
  · rw [List.set_comm _ _ h]
    rw [List.getD_eq_getElem?_getD, List.getElem?_set_ne h, ← List.getD_eq_getElem?_getD, List.getD_eq_getElem?_getD (l := l.set j _), List.getElem?_set_ne (fun e => h e.symm), ← List.getD_eq_getElem?_getD]
theorem srv_perm {p q : List (Sh × List LD)} (s : Nat) (h : p.Perm q) : srvP s p = srvP s q := by
  unfold srvP
  refine h.foldl_eq' (fun x _ y _ acc => ?_) _
  unfold srvStep
  by_cases h1 : x.1.server ≤ (s : Int)
  · by_cases h2 : y.1.server ≤ (s : Int)
    · simp only [h1, h2, if_true]
      exact addAt_comm ..
    · simp only [h1, h2, if_true, if_false]
  · by_cases h2 : y.1.server ≤ (s : Int)
    · simp only [h1, h2, if_true, if_false]
    · simp only [h1, h2, if_false]
/-- What stands all the while. -/
structure LW (w : World) (ea : Nat → Addr) (lo : Option Addr) (l : List LD) (W : World) : Prop where
  bel : Below w.heap.size w W
  row : RowAt W lo (ldRow l)
  err : ErrsAt W ea
theorem LW.next {w W W' : World} {ea : Nat → Addr} {lo : Option Addr} {l : List LD} (h : LW w ea lo l W) (hb : Below W.heap.size W W') : LW w ea lo l W' :=
  ⟨h.bel.trans (hb.mono h.bel.size), h.row.below hb, h.err.below hb⟩
/-- The two maps and the reference's loads. -/
structure LM (B b b2 : Nat) (m : PM) (r : RM) (ra : Option Addr) (l : List LD) (W : World) : Prop where
  mp : MapAt W B b m
  rp : RMAt W B b2 r
  lr : RowAt W ra (ldRow l)
theorem LM.next {W W' : World} {B b b2 : Nat} {m : PM} {r : RM} {ra : Option Addr} {l : List LD} (h : LM B b b2 m r ra l W) (hb : Below W.heap.size W W') : LM B b b2 m r ra l W' :=
  ⟨h.mp.below hb, h.rp.below hb, h.lr.below hb⟩

set_option maxHeartbeats 8000000 in
theorem loads_walk (ea : Nat → Addr) (acs : List Ac) (l : List LD) (ao lo : Option Addr) (ac lc : Nat) (s : Int) (w : World) (hra : RowAt w ao (acRow acs)) (hrl : RowAt w lo (ldRow l)) (hat : ∀ x ∈ acs, AcAt w x) (he : ErrsAt w ea) (hea : ∀ n, (ea n).block < w.heap.size) :
    Calls Tryz.prog 5 #[.slice ao acs.length ac, .slice lo l.length lc, .int .i64 s] w fun e w' => e = .returned (.bool true) ∧ Below w.heap.size w w' := by
  have hq : ∀ (a : Addr) (w : World), (Op.equal 34 (.iface 184 (.pointer (some a))) .nilIface).run Tryz.prog w = .ok false w := fun a w => by kernel_rfl
  have S0 := Lib.hid (show LW w ea lo l w from ⟨Below.refl _ _, hrl, he⟩)
  have HA := Lib.hid (fun W (hb : Below w.heap.size w W) => balive_any ea W (he.berr.below hb))
  have HL := Lib.hid (fun W (hb : Below w.heap.size w W) => long_any acs l ao lo ac lc W (hra.below hb) (hrl.below hb) (fun x hx => by
    obtain ⟨ops, h1, h2, h3⟩ := hat x hx
    exact ⟨ops, h1, h2.below hb, h3⟩))
  have HMD := Lib.hid (fun W (hb : Below w.heap.size w W) (h : acs.length ≤ 40) (ha : ∀ x ∈ acs, x.1.at W) => made_any ea acs ao ac W (by omega) (hra.below hb) ha (he.berr.below hb) (fun n => Nat.lt_of_lt_of_le (hea n) hb.size))
  clear hra hrl hat he hea
  go_enter Tryz.func5, Tryz.ntmps5
  go_wp2_with fail
  refine (HA.out _ S0.out.bel).mono ?_
  rintro e w1 ⟨rfl, hb1⟩
  have S1 := Lib.hid (S0.out.next hb1)
  clear hb1 HA
  go_wp2_with fail
  refine (HL.out _ S1.out.bel).mono ?_
  rintro e w2 ⟨⟨bb, rfl, hnl⟩, hb2⟩
  have S2 := Lib.hid (S1.out.next hb2)
  have HN := Lib.hid hnl
  have HB2 := Lib.hid hb2
  clear hb2 hnl HL
  cases bb with
  | true =>
    clear HN
    go_wp2_with fail
    go_ret
    exact ⟨rfl, S2.out.bel⟩
  | false =>
    have HNL := Lib.hid (HN.out rfl)
    have h30 := HNL.out.list
    clear HN
    go_wp2_with fail
    refine (HMD.out _ S2.out.bel HNL.out.acts (fun x hx => (HNL.out.ents x hx).below HB2.out)).mono ?_
    rintro e w3 ⟨b, b2, rfl, hmd⟩
    have S3 := Lib.hid (S2.out.next hmd.bel)
    have HM3 := Lib.hid hmd.mp
    have HR3 := Lib.hid hmd.rp
    have HK := Lib.hid HNL.out.ldok
    have HMO := Lib.hid (made_all acs)
    have HSI := Lib.hid (made_same acs)
    have h40 := HNL.out.acts
    clear hmd HMD HB2 HNL
    generalize madeP acs = m at *
    generalize rmadeP acs = r at *
    have HST := Lib.hid (sort_same HSI.out.1 HSI.out.2)
    have HSP := Lib.hid (fun s => srv_perm s (HSI.out.1.perm.map (fun s => (s, keysP s l))))
    have HRS := Lib.hid (show ∀ x ∈ r.live, 1 ≤ x.server from fun x hx => HMO.out.srv x (HSI.out.1.perm.mem_iff.1 hx))
    have HSK := Lib.hid (show ∀ x ∈ m.live, x.ok from by obtain ⟨vl, ve, h⟩ := HM3.out; exact h.ok)
    have hml : m.live.length ≤ 10000 := by obtain ⟨vl, ve, h⟩ := HM3.out; exact h.len.1
    go_wp2_with fail
    refine (ofLd_any l lo lc w3 (by omega) S3.out.row).mono ?_
    rintro e w4 ⟨v, rfl, ho, hb4⟩
    obtain ⟨ra, rc, rfl, hrr⟩ := ownE_row ho
    have S4 := Lib.hid (S3.out.next hb4)
    have L4 := Lib.hid (show LM w2.heap.size b b2 m r ra l w4 from ⟨HM3.out.below hb4, HR3.out.below hb4, hrr⟩)
    clear ho hb4 hrr HM3 HR3
    go_wp2_with fail
    refine (bshards_any ea b w2.heap.size m l lo lc w4 L4.out.mp (by omega) S4.out.row S4.out.err.berr HK.out).mono ?_
    rintro e w5 ⟨hr5, hb5⟩
    have S5 := Lib.hid (S4.out.next hb5)
    have L5 := Lib.hid (L4.out.next hb5)
    clear hb5
    cases hrb : rightB l with
    | false =>
      rw [if_neg (by rw [hrb]; decide)] at hr5
      have hr52 : e = .returned (.tuple #[.slice none 0 0, .iface 184 (.pointer (some (ea 3)))]) := hr5
      subst hr52
      have HRB := Lib.hid hrb
      clear hr5 hrb
      go_wp2_with fail
      refine (bservers_any ea b w2.heap.size m l lo lc s w5 L5.out.mp (by omega) S5.out.row S5.out.err.berr HK.out HMO.out.srv).mono ?_
      rintro e w6 ⟨hr6, hb6⟩
      have hc4 : checkN l s 1 = 4 := by unfold checkN; rw [if_pos HRB.out]
      unfold ServersR at hr6
      rw [if_neg (by omega), hc4] at hr6
      have hr62 : e = .returned (.tuple #[.slice none 0 0, .iface 184 (.pointer (some (ea 3)))]) := hr6
      subst hr62
      have S6 := Lib.hid (S5.out.next hb6)
      have L6 := Lib.hid (L5.out.next hb6)
      clear hr6 hb6 hc4
      go_wp2_with fail
      refine (rld_any l ra rc w6 (by omega) L6.out.lr HK.out).mono ?_
      rintro e w7 ⟨rfl, hb7⟩
      rw [HRB.out]
      have S7 := Lib.hid (S6.out.next hb7)
      clear hb7
      go_wp2_with fail
      refine (num_err ea 3 w7 (by decide) S7.out.err).mono ?_
      rintro e w8 ⟨rfl, hb8⟩
      rw [show (((3 : Nat) : Int) + 1) = 4 from rfl]
      have S8 := Lib.hid (S7.out.next hb8)
      clear hb8
      go_wp2_with fail
      refine (num_err ea 3 w8 (by decide) S8.out.err).mono ?_
      rintro e w9 ⟨rfl, hb9⟩
      rw [show (((3 : Nat) : Int) + 1) = 4 from rfl]
      have S9 := Lib.hid (S8.out.next hb9)
      clear hb9
      go_wp2_with fail
      go_ret
      exact ⟨rfl, S9.out.bel⟩
    | true =>
      rw [if_pos hrb] at hr5
      obtain ⟨v5, rfl, ho5⟩ := hr5
      have hsl := sums_len m l
      rw [← hsl] at ho5
      obtain ⟨a5, c5, rfl, hrow5⟩ := ownE_row ho5
      have HA5 := Lib.hid hrow5
      have HRB := Lib.hid hrb
      have HNO := Lib.hid (rightB_num hrb)
      have HSL := Lib.hid hsl
      clear ho5 hrow5 hrb hsl
      go_wp2_with fail
      refine (bservers_any ea b w2.heap.size m l lo lc s w5 L5.out.mp (by omega) S5.out.row S5.out.err.berr HK.out HMO.out.srv).mono ?_
      rintro e w6 ⟨hr6, hb6⟩
      have S6 := Lib.hid (S5.out.next hb6)
      have L6 := Lib.hid (L5.out.next hb6)
      have HA6 := Lib.hid (HA5.out.below hb6)
      clear hb6
      have HSH := Lib.hid (fun W h1 h2 => rshards_any b2 w2.heap.size r l ra rc W h1 (by omega) h2 HK.out HNO.out (by rw [HST.out]; exact HSK.out))
      rw [HST.out] at HSH
      have HEQ := Lib.hid (show m.live.map (fun s => sumN (keysP s l)) = sumsP (loadsP m.live l) from by unfold sumsP loadsP; rw [List.map_map]; rfl)
      rw [HEQ.out] at HSH
      have hsm : (sumsP (loadsP m.live l)).length ≤ 1000000 := by rw [HSL.out]; omega
      generalize sumsP (loadsP m.live l) = sl at *
      unfold ServersR at hr6
      rcases checkN_cases l s 1 with h4 | h4 | ⟨h4, -, hs1, hs4, -⟩
      · exfalso
        unfold checkN at h4
        rw [if_neg (by rw [HRB.out]; decide)] at h4
        split at h4
        · cases h4
        · split at h4
          · cases h4
          · rw [if_neg (by decide)] at h4
            cases h4
      · rw [if_neg (by omega), h4] at hr6
        have hr62 : e = .returned (.tuple #[.slice none 0 0, .iface 184 (.pointer (some (ea 0)))]) := hr6
        subst hr62
        have hsb : s < 1 ∨ 4 < s := by
          unfold checkN at h4
          rw [if_neg (by rw [HRB.out]; decide)] at h4
          by_cases h1 : s < 1
          · exact .inl h1
          · rw [if_neg h1] at h4
            by_cases h2 : 4 < s
            · exact .inr h2
            · rw [if_neg h2, if_neg (by decide)] at h4
              cases h4
        clear hr6 h4
        go_wp2_with fail
        refine (rld_any l ra rc w6 (by omega) L6.out.lr HK.out).mono ?_
        rintro e w7 ⟨rfl, hb7⟩
        rw [HRB.out]
        have S7 := Lib.hid (S6.out.next hb7)
        have L7 := Lib.hid (L6.out.next hb7)
        have HA7 := Lib.hid (HA6.out.below hb7)
        clear hb7
        go_wp2_with fail
        refine (HSH.out w7 L7.out.rp L7.out.lr).mono ?_
        rintro e w8 ⟨v8, rfl, ho8, hb8⟩
        obtain ⟨a8, c8, rfl, hrow8⟩ := ownE_row ho8
        have S8 := Lib.hid (S7.out.next hb8)
        have HA8 := Lib.hid (HA7.out.below hb8)
        have HB8 := Lib.hid hrow8
        clear hb8 ho8 hrow8
        go_wp2_with fail
        refine (sameInts_any sl sl a5 a8 c5 c8 w8 hsm hsm HA8.out HB8.out).mono ?_
        rintro e w9 ⟨rfl, n9, rfl⟩
        rw [decide_eq_true rfl]
        have S9 := Lib.hid (S8.out.next (tame_drewN (Below.refl _ w8) n9))
        generalize w8.drewN n9 = w9 at *
        rcases hsb with h1 | h1
        · have hd : s < 1 := h1
          go_wp2_with fail
          refine (num_err ea 0 w9 (by decide) S9.out.err).mono ?_
          rintro e w10 ⟨rfl, hb10⟩
          rw [show (((0 : Nat) : Int) + 1) = 1 from rfl]
          have S10 := Lib.hid (S9.out.next hb10)
          clear hb10
          go_wp2_with fail
          go_ret
          exact ⟨rfl, S10.out.bel⟩
        · have hd : ¬ s < 1 := by omega
          go_wp2_with fail
          refine (num_err ea 0 w9 (by decide) S9.out.err).mono ?_
          rintro e w10 ⟨rfl, hb10⟩
          rw [show (((0 : Nat) : Int) + 1) = 1 from rfl]
          have S10 := Lib.hid (S9.out.next hb10)
          clear hb10
          go_wp2_with fail
          go_ret
          exact ⟨rfl, S10.out.bel⟩
      · rw [if_pos h4] at hr6
        obtain ⟨v6, rfl, ho6⟩ := hr6
        obtain ⟨g6, c6, rfl, -, -, -, hrow6⟩ := own_some ho6 (by omega)
        obtain ⟨sn, rfl⟩ : ∃ sn : Nat, s = (sn : Int) := ⟨s.toNat, by omega⟩
        rw [Int.toNat_natCast] at hrow6 
        have HB6 := Lib.hid hrow6
        have hsn : 1 ≤ sn ∧ sn ≤ 4 := by omega
        have HSV := Lib.hid (fun W h1 h2 => rservers_any b2 w2.heap.size r l ra rc sn W h1 hsn (by omega) h2 HK.out HNO.out HRS.out)
        have HVE := Lib.hid (show srvP sn (loadsP r.live l) = srvP sn (loadsP m.live l) from HSP.out sn)
        rw [HVE.out] at HSV
        have HVL := Lib.hid (srvP_len sn (loadsP m.live l))
        generalize srvP sn (loadsP m.live l) = vl at *
        have hvl : vl.length = sn := HVL.out
        subst hvl
        have hd1 : ¬ ((vl.length : Nat) : Int) < 1 := by omega
        have hd2 : ¬ (4 : Int) < ((vl.length : Nat) : Int) := by omega
        clear ho6 hrow6 h4 HVE HVL
        simp only [Int.toNat_natCast]
        go_wp2_with fail
        refine (rld_any l ra rc w6 (by omega) L6.out.lr HK.out).mono ?_
        rintro e w7 ⟨rfl, hb7⟩
        rw [HRB.out]
        have S7 := Lib.hid (S6.out.next hb7)
        have L7 := Lib.hid (L6.out.next hb7)
        have HA7 := Lib.hid (HA6.out.below hb7)
        have HB7 := Lib.hid (HB6.out.below hb7)
        clear hb7
        go_wp2_with fail
        refine (HSH.out w7 L7.out.rp L7.out.lr).mono ?_
        rintro e w8 ⟨v8, rfl, ho8, hb8⟩
        obtain ⟨a8, c8, rfl, hrow8⟩ := ownE_row ho8
        have S8 := Lib.hid (S7.out.next hb8)
        have L8 := Lib.hid (L7.out.next hb8)
        have HA8 := Lib.hid (HA7.out.below hb8)
        have HB8 := Lib.hid (HB7.out.below hb8)
        have HC8 := Lib.hid hrow8
        clear hb8 ho8 hrow8
        go_wp2_with fail
        refine (sameInts_any sl sl a5 a8 c5 c8 w8 hsm hsm HA8.out HC8.out).mono ?_
        rintro e w9 ⟨rfl, n9, rfl⟩
        rw [decide_eq_true rfl]
        have hb9 := tame_drewN (Below.refl w8.heap.size w8) n9
        have S9 := Lib.hid (S8.out.next hb9)
        have L9 := Lib.hid (L8.out.next hb9)
        have HB9 := Lib.hid (HB8.out.below hb9)
        clear hb9
        generalize w8.drewN n9 = w9 at *
        go_wp2_with fail
        refine (HSV.out w9 L9.out.rp L9.out.lr).mono ?_
        rintro e w10 ⟨v10, rfl, ho10, hb10⟩
        obtain ⟨g10, c10, rfl, -, -, -, hrow10⟩ := own_some ho10 hsn.1
        have S10 := Lib.hid (S9.out.next hb10)
        have HB10 := Lib.hid (HB9.out.below hb10)
        have HC10 := Lib.hid hrow10
        clear hb10 ho10 hrow10
        go_wp2_with fail
        refine (sameInts_any vl vl (some ⟨g6, 0, none⟩) (some ⟨g10, 0, none⟩) c6 c10 w10 (by omega) (by omega) HB10.out HC10.out).mono ?_
        rintro e w11 ⟨rfl, n11, rfl⟩
        rw [decide_eq_true rfl]
        have S11 := Lib.hid (S10.out.next (tame_drewN (Below.refl _ w10) n11))
        go_wp2_with fail
        go_ret
        exact ⟨rfl, S11.out.bel⟩
end Go.Proofs.YthjmfcdhpdiehaaGreatDoor

namespace Go.Proofs.YthjmfcdhpdiehaaGreatDoor
open Go.RowKit Go.ChangeShapes
set_option maxRecDepth 100000
set_option linter.unusedSimpArgs false
set_option linter.unusedVariables false

def mkD (x : String × List UInt8) : String × DataW Unit := (x.1, .iface "*errors.errorString" (.ptr (.agg [.lit (.string x.2)])))

/-- All errors of package api, with their texts. -/
def errL : List (String × List UInt8) := [("tidewater/api.ErrRange", [116, 105, 100, 101, 119, 97, 116, 101, 114, 58, 32, 114, 97, 110, 103, 101]), ("tidewater/api.ErrShort", [116, 105, 100, 101, 119, 97, 116, 101, 114, 58, 32, 115, 104, 111, 114, 116]), ("tidewater/api.ErrLong", [116, 105, 100, 101, 119, 97, 116, 101, 114, 58, 32, 108, 111, 110, 103]), ("tidewater/api.ErrForm", [116, 105, 100, 101, 119, 97, 116, 101, 114, 58, 32, 102, 111, 114, 109]), ("tidewater/api.ErrSum", [116, 105, 100, 101, 119, 97, 116, 101, 114, 58, 32, 115, 117, 109]), ("tidewater/api.ErrRune", [116, 105, 100, 101, 119, 97, 116, 101, 114, 58, 32, 114, 117, 110, 101]), ("tidewater/api.ErrName", [116, 105, 100, 101, 119, 97, 116, 101, 114, 58, 32, 110, 97, 109, 101]), ("tidewater/api.ErrSealed", [116, 105, 100, 101, 119, 97, 116, 101, 114, 58, 32, 115, 101, 97, 108, 101, 100]), ("tidewater/api.ErrWritten", [116, 105, 100, 101, 119, 97, 116, 101, 114, 58, 32, 119, 114, 105, 116, 116, 101, 110]), ("tidewater/api.ErrUnwritten", [116, 105, 100, 101, 119, 97, 116, 101, 114, 58, 32, 117, 110, 119, 114, 105, 116, 116, 101, 110]), ("tidewater/api.ErrTrimmed", [116, 105, 100, 101, 119, 97, 116, 101, 114, 58, 32, 116, 114, 105, 109, 109, 101, 100]), ("tidewater/api.ErrDown", [116, 105, 100, 101, 119, 97, 116, 101, 114, 58, 32, 100, 111, 119, 110]), ("tidewater/api.ErrFull", [116, 105, 100, 101, 119, 97, 116, 101, 114, 58, 32, 102, 117, 108, 108]), ("tidewater/api.ErrEpoch", [116, 105, 100, 101, 119, 97, 116, 101, 114, 58, 32, 101, 112, 111, 99, 104]), ("tidewater/api.ErrMoved", [116, 105, 100, 101, 119, 97, 116, 101, 114, 58, 32, 109, 111, 118, 101, 100]), ("tidewater/api.ErrNone", [116, 105, 100, 101, 119, 97, 116, 101, 114, 58, 32, 110, 111, 110, 101]), ("tidewater/api.ErrState", [116, 105, 100, 101, 119, 97, 116, 101, 114, 58, 32, 115, 116, 97, 116, 101]), ("tidewater/api.ErrClash", [116, 105, 100, 101, 119, 97, 116, 101, 114, 58, 32, 99, 108, 97, 115, 104]), ("tidewater/api.ErrStale", [116, 105, 100, 101, 119, 97, 116, 101, 114, 58, 32, 115, 116, 97, 108, 101])]

theorem Tryz.cellsErrStr : Tryz.prog.cellsOf 216 = 1 := by kernel_rfl
theorem Tryz.cellsStr : Tryz.prog.cellsOf 9 = 1 := by kernel_rfl
theorem Tryz.errGs : (List.range 19).all (fun i => Tryz.prog.globalNamed (errL.getD i ("", [])).1 == some (errG i)) = true := by kernel_rfl
theorem Tryz.errTs : (List.range 19).all (fun i => (Tryz.prog.globals[errG i]?).map (·.type) == some 34) = true := by kernel_rfl
theorem Tryz.star : ("*errors.errorString" : String) = "*" ++ "errors.errorString" := by decide
theorem Tryz.errName (u : TypeId) (h : Tryz.prog.typeName? 3 u = some "*errors.errorString") : u = 184 := typeName_ptr_named (nm := "errors.errorString") (by rw [← Tryz.star]; kernel_rfl) (by kernel_rfl) (by decide) u (by rw [← Tryz.star]; exact h)

theorem errL_global (i : Nat) (hi : i < 19) : Tryz.prog.globalNamed (errL.getD i ("", [])).1 = some (errG i) := by
  have := List.all_eq_true.1 Tryz.errGs i (List.mem_range.2 hi)
  exact eq_of_beq this
theorem errG_type (i : Nat) (hi : i < 19) : (Tryz.prog.globals[errG i]?).map (·.type) = some 34 := by
  have := List.all_eq_true.1 Tryz.errTs i (List.mem_range.2 hi)
  exact eq_of_beq this

theorem laid_from {W : World} : ∀ (n k : Nat) (ps : List MemPlace), n + k = 19 → DataW.LaidVars Tryz.prog W ((errL.drop k).map mkD) ps →
    (∀ b off, MemPlace.cell b off ∈ ps → (∃ c t, W.heap[b]? = some (.cells c t (0, 0))) ∧ ∀ u v, W.cell? ⟨b, off, none⟩ = some (.iface u v) → Value.okWide Tryz.prog W .any 0 u v) →
    ∃ al : List Addr, al.length = n ∧ (∀ i, i < n → W.cell? ⟨errG (k + i), 0, none⟩ = some (.iface 184 (.pointer (some (al.getD i ⟨0, 0, none⟩))))) ∧
      (∀ i, i < n → ∃ c t, W.heap[(al.getD i ⟨0, 0, none⟩).block]? = some (.cells c t (0, 0))) ∧ (al.map fun a => MemPlace.row a 1).flatten.Sublist ps
  | 0, k, ps, hk, h, _ => ⟨[], rfl, fun i hi => by omega, fun i hi => by omega, List.nil_sublist _⟩
  | n + 1, k, ps, hk, h, hrows => by
    have hk19 : k < 19 := by omega
    have hlen : k < errL.length := by show k < 19; exact hk19
    have hd : errL.drop k = errL.getD k ("", []) :: errL.drop (k + 1) := by
      rw [List.drop_eq_getElem_cons hlen]
      simp [List.getD, List.getElem?_eq_getElem hlen]
    rw [hd, List.map_cons] at h
    obtain ⟨g, t, cs, fuel, p, q, hg, ht, hv, hdat, hq, rfl⟩ := h
    obtain rfl := Option.some.inj ((errL_global k hk19).symm.trans hg)
    obtain rfl := Option.some.inj ((errG_type k hk19).symm.trans ht)
    obtain ⟨l⟩ := cs
    have ok0 : ∀ u v, l = [.iface u v] → Value.okWide Tryz.prog W .any 0 u v := fun u v e => by
      subst e
      exact (hrows (errG k) 0 (by simp [MemPlace.row])).2 u v (by simpa using World.var?_cell hg hv 0)
    obtain ⟨a, s, rfl, hc, hs, hz, rfl⟩ := errorString_of_trod Tryz.underlying34 Tryz.errName Tryz.underlying184 Tryz.underlying216 rfl rfl Tryz.underlying9 Tryz.cellsErrStr Tryz.cellsStr hdat ok0
    obtain ⟨al, h1, h2, h3, h4⟩ := laid_from n (k + 1) q (by omega) hq (fun b off hm => hrows b off (List.mem_append_right _ hm))
    refine ⟨a :: al, by simp [h1], ?_, ?_, ?_⟩
    · intro i hi
      cases i with
      | zero => simpa using World.var?_cell hg hv 0
      | succ i =>
        have := h2 i (by omega)
        rw [show k + (i + 1) = k + 1 + i by omega]
        simpa using this
    · intro i hi
      cases i with
      | zero =>
        obtain ⟨c, t, hb⟩ := (hrows a.block a.off (by simp [MemPlace.row])).1
        exact ⟨c, t, by simpa using hb⟩
      | succ i => simpa using h3 i (by omega)
    · rw [List.map_cons, List.flatten_cons, List.append_assoc]
      exact (List.Sublist.append (List.Sublist.refl _) h4).trans (List.sublist_append_right _ _)

/-- The errors, out of the row's list. -/
theorem errs_of_laid {W : World} (h : laidMet Tryz.prog (errL.map mkD) W) : ∃ ea, ErrsAt W ea := by
  obtain ⟨ps, hv, hnd, hrows⟩ := h
  obtain ⟨al, h1, h2, h3, h4⟩ := laid_from 19 0 ps rfl hv hrows
  refine ⟨fun i => al.getD i ⟨0, 0, none⟩, fun i hi => by simpa [errV] using h2 i hi, h3, ?_⟩
  intro i j hi hj hij he
  have hnd2 := hnd.sublist h4
  have hi' : i < al.length := by omega
  have hj' : j < al.length := by omega
  simp only [List.getD, List.getElem?_eq_getElem hi', List.getElem?_eq_getElem hj', Option.getD_some] at he
  have hfl : (al.map fun a => MemPlace.row a 1).flatten = al.map fun a => MemPlace.cell a.block a.off := by
    rw [← List.flatMap_def]
    have : (fun a : Addr => MemPlace.row a 1) = fun a => [MemPlace.cell a.block a.off] := by
      funext a; simp [MemPlace.row]
    rw [this]
    clear h1 h2 h3 h4 hnd2 hi' hj' he
    induction al with
    | nil => rfl
    | cons a al ih => simp [ih]
  rw [hfl] at hnd2
  have hi2 : i < (al.map fun a => MemPlace.cell a.block a.off).length := by simpa using hi'
  have hj2 : j < (al.map fun a => MemPlace.cell a.block a.off).length := by simpa using hj'
  have hp := List.pairwise_iff_getElem.1 hnd2
  rcases Nat.lt_or_ge i j with hlt | hge
  · exact hp i j hi2 hj2 hlt (by simp [he])
  · exact hp j i hj2 hi2 (by omega) (by simp [he])
end Go.Proofs.YthjmfcdhpdiehaaGreatDoor
