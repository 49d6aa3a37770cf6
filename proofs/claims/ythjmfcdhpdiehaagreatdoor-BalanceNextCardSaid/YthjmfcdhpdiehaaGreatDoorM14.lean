/-
  balance.right: are loads right? (Printed by wip/gen/bload.py.)
  balance.loads: all shards' loads.
-/
import Derived.Test.YthjmfcdhpdiehaaGreatDoorM13
namespace Go.Proofs.YthjmfcdhpdiehaaGreatDoor
open Go.RowKit Utf
set_option maxRecDepth 100000
set_option linter.unusedSimpArgs false
set_option linter.unusedVariables false

/-- A load: a key, a number. -/
structure LD where
  key : ByteArray
  n : Int
def LD.cells (x : LD) : List Value := [.string x.key, .int .i64 x.n]
theorem LD.cells_len (x : LD) : x.cells.length = 2 := rfl
theorem LD.one (x : LD) : ∀ u ∈ x.cells, u.oneCell' = true := by
  intro u hu
  simp only [LD.cells, List.mem_cons, List.mem_nil_iff, or_false] at hu
  rcases hu with rfl | rfl <;> rfl
def ldRow (l : List LD) : List Value := l.flatMap LD.cells
def ldAt (l : List LD) (i : Nat) : LD := l.getD i ⟨⟨#[]⟩, 0⟩
theorem ldAt_eq {l : List LD} {i : Nat} (hi : i < l.length) : ldAt l i = l[i] := by
  unfold ldAt
  rw [List.getD_eq_getElem?_getD, List.getElem?_eq_getElem hi]
  rfl
/-- Is the load at i right? -/
def ldOK (l : List LD) (i : Nat) : Bool := isKey (ldAt l i).key && decide (1 ≤ (ldAt l i).n) && decide ((ldAt l i).n ≤ 1000000) && (decide (i = 0) || bLt (ldAt l (i - 1)).key (ldAt l i).key)
def rightB (l : List LD) : Bool := (List.range l.length).all (ldOK l)
theorem rightB_false {l : List LD} {i : Nat} (hi : i < l.length) (h : ldOK l i = false) : rightB l = false := by
  unfold rightB
  rw [List.all_eq_false]
  exact ⟨i, List.mem_range.2 hi, by rw [h]; simp⟩
theorem rightB_true {l : List LD} (h : ∀ i, i < l.length → ldOK l i = true) : rightB l = true := by
  unfold rightB
  rw [List.all_eq_true]
  exact fun i hi => h i (List.mem_range.1 hi)
theorem rightB_at {l : List LD} (h : rightB l = true) {i : Nat} (hi : i < l.length) : ldOK l i = true := by
  unfold rightB at h
  rw [List.all_eq_true] at h
  exact h i (List.mem_range.2 hi)
theorem ldOK_key {l : List LD} {i : Nat} (h : ldOK l i = true) : isKey (ldAt l i).key = true := by
  unfold ldOK at h
  simp only [Bool.and_eq_true] at h
  exact h.1.1.1

/-- Keys that are not too long. -/
def LdOk (l : List LD) : Prop := ∀ x ∈ l, x.key.size ≤ 1000000
theorem LdOk.at {l : List LD} (h : LdOk l) {i : Nat} (hi : i < l.length) : (ldAt l i).key.size ≤ 1000000 := by
  rw [ldAt_eq hi]
  exact h _ (List.getElem_mem hi)
/-- How the loop of right stands. -/
structure RQ (w : World) (ea : Nat → Addr) (ao : Option Addr) (l : List LD) (W : World) : Prop where
  bel : Below w.heap.size w W
  row : RowAt W ao (ldRow l)
  err : BErr W ea
theorem RQ.next {w W W' : World} {ea : Nat → Addr} {ao : Option Addr} {l : List LD} (h : RQ w ea ao l W) (hb : Below W.heap.size W W') : RQ w ea ao l W' :=
  ⟨h.bel.trans (hb.mono h.bel.size), h.row.below hb, h.err.below hb⟩
structure RX (w : World) (ea : Nat → Addr) (ao : Option Addr) (l : List LD) (p : Nat) (x : LD) (W : World) : Prop extends RQ w ea ao l W where
  box : Blk W p 77 x.cells.toArray
theorem RX.next {w W W' : World} {ea : Nat → Addr} {ao : Option Addr} {l : List LD} {p : Nat} {x : LD} (h : RX w ea ao l p x W) (hb : Below W.heap.size W W') : RX w ea ao l p x W' :=
  ⟨h.toRQ.next hb, h.box.below hb h.box.lt⟩
theorem row_ld {w : World} {b o : Nat} {l : List LD} (h : RowAt w (some ⟨b, o, none⟩) (ldRow l)) {i : Nat} (hi : i < l.length) (j : Nat) (hj : j < 2) : w.cell? ⟨b, o + i * 2 + j, none⟩ = (ldAt l i).cells[j]? := by
  obtain ⟨b', o', e', hc⟩ := row_flat LD.cells 2 (by decide) LD.cells_len h i hi
  cases e'
  have := hc j hj
  rw [this, ldAt_eq hi]

set_option maxHeartbeats 4000000 in
theorem ldRight_any (ea : Nat → Addr) (l : List LD) (ao : Option Addr) (c : Nat) (w : World) (hn : l.length ≤ 1000000) (hr : RowAt w ao (ldRow l)) (he : BErr w ea) (hk : LdOk l) :
    Calls Tryz.prog 34 #[.slice ao l.length c] w fun e w' => e = .returned (.bool (rightB l)) ∧ Below w.heap.size w w' := by
  have HF := Lib.hid (show RQ w ea ao l w from ⟨Below.refl _ _, hr, he⟩)
  have HKS := Lib.hid hk
  clear hr he hk
  go_enter Tryz.func34, Tryz.ntmps34
  go_wp2_with fail
  go_loopw [7] (fun i wr => ∃ k : Nat, k ≤ l.length ∧ i = .int .i64 k ∧ Hid (RQ w ea ao l wr) ∧ Hid (∀ j, j < k → ldOK l j = true)) (fun i _ => l.length - (intOf i).toNat)
  case atStart => exact ⟨0, Nat.zero_le _, rfl, HF, Lib.hid (fun j hj => by omega)⟩
  case round =>
    obtain ⟨k, hk, rfl, HB, HP⟩ := hrel
    by_cases hlt : k < l.length
    · obtain ⟨b', o', rfl, hc⟩ := row_flat LD.cells 2 (by decide) LD.cells_len HB.out.row k hlt
      have HRG := Lib.hid (show wr.rangeAt b' (o' + k * 2) (ldAt l k).cells from fun j v hj => by
        have hj5 : j < 2 := by have := (List.getElem?_eq_some_iff.1 hj).1; rw [LD.cells_len] at this; exact this
        rw [hc j hj5, ← ldAt_eq hlt]; exact hj)
      have HSI := Lib.hid (show (Tryz.prog.info? 77).map (·.size) = some (ldAt l k).cells.length by rw [LD.cells_len]; kernel_rfl)
      have HZ1 := Lib.hid (Blk.new wr 77 #[.string ⟨#[]⟩, .int .i64 0])
      have HKX := Lib.hid (HKS.out.at hlt)
      have HRF := Lib.hid (fun h => rightB_false hlt h)
      have HOK := Lib.hid (show ldOK l k = (isKey (ldAt l k).key && decide (1 ≤ (ldAt l k).n) && decide ((ldAt l k).n ≤ 1000000) && (decide (k = 0) || bLt (ldAt l (k - 1)).key (ldAt l k).key)) from rfl)
      have HKP := Lib.hid (show ∀ j, j < k → (ldAt l j).key.size ≤ 1000000 from fun j hj => HKS.out.at (by omega))
      generalize hx : ldAt l k = x at *
      clear hc
      go_wp2_with (first | (refine wpList_load_mid rfl 77 (.tmp 10) rfl b' (o' + k * 2) rfl _ _ HRG.out Tryz.underlying77 rfl HSI.out ?_) | (refine wpList_store_blk rfl 77 (.tmp 4) (.tmp 11) rfl wr.heap.size x.cells.toArray rfl rfl 77 _ HZ1.out rfl (by kernel_rfl) (by kernel_rfl) ?_))
      refine Lib.hid ?_
      intro w2 hz ho
      have S2 := Lib.hid (show RX w ea (some ⟨b', o', none⟩) l wr.heap.size x w2 from ⟨HB.out.next (((below_alloc wr _)).trans (ho.to_below (by simp) (fun q hq e => by omega))), hz⟩)
      clear hz ho HZ1 HRG
      obtain ⟨key, n⟩ := x
      have HX := Lib.hid hx
      clear hx
      have hn1 : k ≤ 1000000 := by omega
      dsimp only at HKX HOK
      cases hkey : isKey key with
      | false =>
        obtain ⟨en, hen, -⟩ := errOf_some ea hkey
        have HE := Lib.hid hen
        have HRS := Lib.hid (HRF.out (by rw [HOK.out, hkey]; rfl))
        clear hkey hen
        go_wp2_with fail
        refine wp_region_class (RX w ea (some ⟨b', o', none⟩) l wr.heap.size ⟨key, n⟩) (by kernel_rfl) (by kernel_rfl) (S2.out.next (tame_drewN (Below.refl _ w2) 1)) ?_
        refine wq_k (.pointer (some ⟨wr.heap.size, 0, none⟩)) (wq_v (.string key) (fun W hW => run_load1 9 (.tmp 12) (by kernel_rfl) ⟨wr.heap.size, 0, none⟩ (by kernel_rfl) (.string key) (hW.box.cell 0) _ Tryz.underlying9 rfl) (wq_c (.iface 184 (.pointer (some (ea en)))) 62 #[.string key] (fun W hW => (key_any ea key W HKX.out hW.err).mono fun e' w' h => ⟨by rw [h.1, HE.out], hW.next h.2⟩) (wq_k (.bool true) (wq_k (.bool true) (wq_n (wq_n (wq_n ?_)))))))
        refine wq_k (.bool true) (wq_k (.bool true) (wq_n (wq_n (wq_n (wq_k (.bool true) (wq_k (.bool true) (wq_n ?_)))))))
        refine wq_n (wq_n (wq_n (wq_n (wq_n (wq_n (wq_n (wq_n ?_)))))))
        refine wq_n (wq_n (wq_n (wq_n (wq_n (wq_k (.bool true) ?_)))))
        refine quiet_end rfl (Lib.hid ?_)
        refine Lib.hid ?_
        intro w3 hW
        have S3 := Lib.hid hW
        clear hW
        dsimp only [Exit.then, Act.put]
        simp only [List.setIfInBounds_toArray, List.set_cons_succ, List.set_cons_zero]
        go_wp2_with fail
        go_ret
        exact ⟨by rw [HRS.out]; rfl, S3.out.bel⟩
      | true =>
      have HG := Lib.hid hkey
      by_cases hn0 : n < 1
      · have hd : decide (n < 1) = true := decide_eq_true hn0
        have HD := Lib.hid hd
        have HRS := Lib.hid (HRF.out (by rw [HOK.out, decide_eq_false (show ¬ 1 ≤ n by omega)]; simp))
        clear hkey hn0 hd
        go_wp2_with fail
        refine wp_region_class (RX w ea (some ⟨b', o', none⟩) l wr.heap.size ⟨key, n⟩) (by kernel_rfl) (by kernel_rfl) (S2.out.next (tame_drewN (Below.refl _ w2) 1)) ?_
        refine wq_k (.pointer (some ⟨wr.heap.size, 0, none⟩)) (wq_v (.string key) (fun W hW => run_load1 9 (.tmp 12) (by kernel_rfl) ⟨wr.heap.size, 0, none⟩ (by kernel_rfl) (.string key) (hW.box.cell 0) _ Tryz.underlying9 rfl) (wq_c (.nilIface) 62 #[.string key] (fun W hW => (key_good ea key W HKX.out hW.err HG.out).mono fun e' w' h => ⟨h.1, hW.next h.2⟩) (wq_k (.bool false) (wq_k (.bool false) (wq_k (.pointer (some ⟨wr.heap.size, 1, none⟩)) (wq_v (.int .i64 n) (fun W hW => run_load1 3 (.tmp 17) (by kernel_rfl) ⟨wr.heap.size, 1, none⟩ (by kernel_rfl) (.int .i64 n) (hW.box.cell 1) _ Tryz.underlying3 rfl) (wq_v (.bool true) (fun W hW => run_eqv (v := .bool (decide (n < 1))) (by kernel_rfl) ((by rw [HD.out]))) ?_)))))))
        refine wq_k (.bool true) (wq_k (.bool true) (wq_n (wq_n (wq_n (wq_k (.bool true) (wq_k (.bool true) (wq_n ?_)))))))
        refine wq_n (wq_n (wq_n (wq_n (wq_n (wq_n (wq_n (wq_n ?_)))))))
        refine wq_n (wq_n (wq_n (wq_n (wq_n (wq_k (.bool true) ?_)))))
        refine quiet_end rfl (Lib.hid ?_)
        refine Lib.hid ?_
        intro w3 hW
        have S3 := Lib.hid hW
        clear hW
        dsimp only [Exit.then, Act.put]
        simp only [List.setIfInBounds_toArray, List.set_cons_succ, List.set_cons_zero]
        go_wp2_with fail
        go_ret
        exact ⟨by rw [HRS.out]; rfl, S3.out.bel⟩
      by_cases hn9 : n > 1000000
      · have HD := Lib.hid (show decide (n < 1) = false from decide_eq_false hn0)
        have HD2 := Lib.hid (show decide (n > 1000000) = true from decide_eq_true hn9)
        have HRS := Lib.hid (HRF.out (by rw [HOK.out, decide_eq_false (show ¬ n ≤ 1000000 by omega)]; simp))
        clear hkey hn0 hn9
        go_wp2_with fail
        refine wp_region_class (RX w ea (some ⟨b', o', none⟩) l wr.heap.size ⟨key, n⟩) (by kernel_rfl) (by kernel_rfl) (S2.out.next (tame_drewN (Below.refl _ w2) 1)) ?_
        refine wq_k (.pointer (some ⟨wr.heap.size, 0, none⟩)) (wq_v (.string key) (fun W hW => run_load1 9 (.tmp 12) (by kernel_rfl) ⟨wr.heap.size, 0, none⟩ (by kernel_rfl) (.string key) (hW.box.cell 0) _ Tryz.underlying9 rfl) (wq_c (.nilIface) 62 #[.string key] (fun W hW => (key_good ea key W HKX.out hW.err HG.out).mono fun e' w' h => ⟨h.1, hW.next h.2⟩) (wq_k (.bool false) (wq_k (.bool false) (wq_k (.pointer (some ⟨wr.heap.size, 1, none⟩)) (wq_v (.int .i64 n) (fun W hW => run_load1 3 (.tmp 17) (by kernel_rfl) ⟨wr.heap.size, 1, none⟩ (by kernel_rfl) (.int .i64 n) (hW.box.cell 1) _ Tryz.underlying3 rfl) (wq_v (.bool false) (fun W hW => run_eqv (v := .bool (decide (n < 1))) (by kernel_rfl) ((by rw [HD.out]))) ?_)))))))
        refine wq_k (.bool false) (wq_k (.bool false) (wq_k (.pointer (some ⟨wr.heap.size, 1, none⟩)) (wq_v (.int .i64 n) (fun W hW => run_load1 3 (.tmp 22) (by kernel_rfl) ⟨wr.heap.size, 1, none⟩ (by kernel_rfl) (.int .i64 n) (hW.box.cell 1) _ Tryz.underlying3 rfl) (wq_v (.bool true) (fun W hW => run_eqv (v := .bool (decide (n > 1000000))) (by kernel_rfl) ((by rw [HD2.out]))) (wq_k (.bool true) (wq_k (.bool true) (wq_n ?_)))))))
        refine wq_n (wq_n (wq_n (wq_n (wq_n (wq_n (wq_n (wq_n ?_)))))))
        refine wq_n (wq_n (wq_n (wq_n (wq_n (wq_k (.bool true) ?_)))))
        refine quiet_end rfl (Lib.hid ?_)
        refine Lib.hid ?_
        intro w3 hW
        have S3 := Lib.hid hW
        clear hW
        dsimp only [Exit.then, Act.put]
        simp only [List.setIfInBounds_toArray, List.set_cons_succ, List.set_cons_zero]
        go_wp2_with fail
        go_ret
        exact ⟨by rw [HRS.out]; rfl, S3.out.bel⟩
      have HD := Lib.hid (show decide (n < 1) = false from decide_eq_false hn0)
      have HD2 := Lib.hid (show decide (n > 1000000) = false from decide_eq_false hn9)
      have HO2 := Lib.hid (show ldOK l k = (decide (k = 0) || bLt (ldAt l (k - 1)).key key) by rw [HOK.out, hkey, decide_eq_true (show 1 ≤ n by omega), decide_eq_true (show n ≤ 1000000 by omega)]; rfl)
      clear hkey hn0 hn9 HOK
      rcases k with _ | j
      · have HRS : Hid (∀ q, q < 0 + 1 → ldOK l q = true) := Lib.hid (fun q hq => by obtain rfl : q = 0 := (by omega); rw [HO2.out]; rfl)
        go_wp2_with fail
        refine wp_region_class (RX w ea (some ⟨b', o', none⟩) l wr.heap.size ⟨key, n⟩) (by kernel_rfl) (by kernel_rfl) (S2.out.next (tame_drewN (Below.refl _ w2) 1)) ?_
        refine wq_k (.pointer (some ⟨wr.heap.size, 0, none⟩)) (wq_v (.string key) (fun W hW => run_load1 9 (.tmp 12) (by kernel_rfl) ⟨wr.heap.size, 0, none⟩ (by kernel_rfl) (.string key) (hW.box.cell 0) _ Tryz.underlying9 rfl) (wq_c (.nilIface) 62 #[.string key] (fun W hW => (key_good ea key W HKX.out hW.err HG.out).mono fun e' w' h => ⟨h.1, hW.next h.2⟩) (wq_k (.bool false) (wq_k (.bool false) (wq_k (.pointer (some ⟨wr.heap.size, 1, none⟩)) (wq_v (.int .i64 n) (fun W hW => run_load1 3 (.tmp 17) (by kernel_rfl) ⟨wr.heap.size, 1, none⟩ (by kernel_rfl) (.int .i64 n) (hW.box.cell 1) _ Tryz.underlying3 rfl) (wq_v (.bool false) (fun W hW => run_eqv (v := .bool (decide (n < 1))) (by kernel_rfl) ((by rw [HD.out]))) ?_)))))))
        refine wq_k (.bool false) (wq_k (.bool false) (wq_k (.pointer (some ⟨wr.heap.size, 1, none⟩)) (wq_v (.int .i64 n) (fun W hW => run_load1 3 (.tmp 22) (by kernel_rfl) ⟨wr.heap.size, 1, none⟩ (by kernel_rfl) (.int .i64 n) (hW.box.cell 1) _ Tryz.underlying3 rfl) (wq_v (.bool false) (fun W hW => run_eqv (v := .bool (decide (n > 1000000))) (by kernel_rfl) ((by rw [HD2.out]))) (wq_k (.bool false) (wq_k (.bool false) (wq_k (.int .i64 ((0 : Nat) : Int)) ?_)))))))
        refine wq_v (.bool false) (fun W hW => run_eqv (v := .bool (decide (((0 : Nat) : Int) > 0))) (by kernel_rfl) (rfl)) (wq_k (.bool false) (wq_n (wq_n (wq_n (wq_n (wq_n (wq_n ?_)))))))
        refine wq_n (wq_n (wq_n (wq_n (wq_k (.bool false) (wq_k (.bool false) ?_)))))
        refine quiet_end rfl (Lib.hid ?_)
        refine Lib.hid ?_
        intro w3 hW
        have S3 := Lib.hid hW
        clear hW
        dsimp only [Exit.then, Act.put]
        simp only [List.setIfInBounds_toArray, List.set_cons_succ, List.set_cons_zero]
        go_wp2_with fail
        go_roundw
        case rel => exact ⟨0 + 1, by omega, by go_num, Lib.hid S3.out.toRQ, HRS⟩
        case measure => simp [intOf]; omega
      · have HPK := Lib.hid (isKey_R (ldOK_key (HP.out j (by omega))))
        have HGK := Lib.hid (isKey_R HG.out)
        have HPS := Lib.hid (HKP.out j (by omega))
        have HPJ := Lib.hid (ldAt_eq (l := l) (i := j) (by omega))
        cases hcm : bLt (ldAt l j).key key with
        | false =>
          have HRS := Lib.hid (HRF.out (by rw [HO2.out, Nat.add_sub_cancel, hcm]; rfl))
          have HC := Lib.hid (show decide ((0 : Int) ≤ cmpB (ldAt l j).key key) = true by rw [cmpB_not, hcm]; rfl)
          clear hcm
          go_wp2_with fail
          refine wp_region_class (RX w ea (some ⟨b', o', none⟩) l wr.heap.size ⟨key, n⟩) (by kernel_rfl) (by kernel_rfl) (S2.out.next (tame_drewN (Below.refl _ w2) 1)) ?_
          refine wq_k (.pointer (some ⟨wr.heap.size, 0, none⟩)) (wq_v (.string key) (fun W hW => run_load1 9 (.tmp 12) (by kernel_rfl) ⟨wr.heap.size, 0, none⟩ (by kernel_rfl) (.string key) (hW.box.cell 0) _ Tryz.underlying9 rfl) (wq_c (.nilIface) 62 #[.string key] (fun W hW => (key_good ea key W HKX.out hW.err HG.out).mono fun e' w' h => ⟨h.1, hW.next h.2⟩) (wq_k (.bool false) (wq_k (.bool false) (wq_k (.pointer (some ⟨wr.heap.size, 1, none⟩)) (wq_v (.int .i64 n) (fun W hW => run_load1 3 (.tmp 17) (by kernel_rfl) ⟨wr.heap.size, 1, none⟩ (by kernel_rfl) (.int .i64 n) (hW.box.cell 1) _ Tryz.underlying3 rfl) (wq_v (.bool false) (fun W hW => run_eqv (v := .bool (decide (n < 1))) (by kernel_rfl) ((by rw [HD.out]))) ?_)))))))
          refine wq_k (.bool false) (wq_k (.bool false) (wq_k (.pointer (some ⟨wr.heap.size, 1, none⟩)) (wq_v (.int .i64 n) (fun W hW => run_load1 3 (.tmp 22) (by kernel_rfl) ⟨wr.heap.size, 1, none⟩ (by kernel_rfl) (.int .i64 n) (hW.box.cell 1) _ Tryz.underlying3 rfl) (wq_v (.bool false) (fun W hW => run_eqv (v := .bool (decide (n > 1000000))) (by kernel_rfl) ((by rw [HD2.out]))) (wq_k (.bool false) (wq_k (.bool false) (wq_k (.int .i64 ((j + 1 : Nat) : Int)) ?_)))))))
          refine wq_v (.bool true) (fun W hW => run_eqv (v := .bool (decide (((j + 1 : Nat) : Int) > 0))) (by kernel_rfl) ((by rw [decide_eq_true (show ((j + 1 : Nat) : Int) > 0 by omega)]))) (wq_k (.bool true) (wq_k (.slice (some ⟨b', o', none⟩) l.length c) (wq_k (.int .i64 ((j + 1 : Nat) : Int)) (wq_v (.int .i64 ((j : Nat) : Int)) (fun W hW => run_eqv (v := .int .i64 (IntKind.i64.wrap (((j + 1 : Nat) : Int) - 1))) (by kernel_rfl) (wrap_nat _ _ (by omega) (by omega))) (wq_v (.pointer (some ⟨b', o' + j * 2, none⟩)) (fun W hW => run_eqv (run_idx 23 (.tmp 30) (.tmp 32) (by kernel_rfl) (b') (o') l.length c j 77 2 (by kernel_rfl) (by kernel_rfl) (by omega) Tryz.underlying23 (by kernel_rfl)) rfl) (wq_k (.pointer (some ⟨b', o' + j * 2, none⟩)) (wq_v (.string (ldAt l j).key) (fun W hW => run_load1 9 (.tmp 34) (by kernel_rfl) ⟨b', o' + j * 2, none⟩ (by kernel_rfl) (.string (ldAt l j).key) (row_ld hW.row (by omega) 0 (by decide)) _ Tryz.underlying9 rfl) ?_)))))))
          refine wq_k (.pointer (some ⟨wr.heap.size, 0, none⟩)) (wq_v (.string key) (fun W hW => run_load1 9 (.tmp 36) (by kernel_rfl) ⟨wr.heap.size, 0, none⟩ (by kernel_rfl) (.string key) (hW.box.cell 0) _ Tryz.underlying9 rfl) (wq_c (.int .i64 (cmpB (ldAt l j).key key)) 63 #[.string (ldAt l j).key, .string key] (fun W hW => (compare_any _ _ W HPS.out HKX.out HPK.out HGK.out).mono fun e' w' h => ⟨h.1, hW.next h.2⟩) (wq_v (.bool true) (fun W hW => run_eqv (v := .bool (decide ((0 : Int) ≤ cmpB (ldAt l j).key key))) (by kernel_rfl) ((by rw [HC.out]))) (wq_k (.bool true) (wq_k (.bool true) ?_)))))
          refine quiet_end rfl (Lib.hid ?_)
          refine Lib.hid ?_
          intro w3 hW
          have S3 := Lib.hid hW
          clear hW
          dsimp only [Exit.then, Act.put]
          simp only [List.setIfInBounds_toArray, List.set_cons_succ, List.set_cons_zero]
          go_wp2_with fail
          go_ret
          exact ⟨by rw [HRS.out]; rfl, S3.out.bel⟩
        | true =>
          have HRS : Hid (∀ q, q < j + 1 + 1 → ldOK l q = true) := Lib.hid (fun q hq => by
            by_cases hqj : q < j + 1
            · exact HP.out q hqj
            · obtain rfl : q = j + 1 := by omega
              rw [HO2.out, Nat.add_sub_cancel, hcm, Bool.or_true])
          have HC := Lib.hid (show decide ((0 : Int) ≤ cmpB (ldAt l j).key key) = false by rw [cmpB_not, hcm]; rfl)
          clear hcm
          go_wp2_with fail
          refine wp_region_class (RX w ea (some ⟨b', o', none⟩) l wr.heap.size ⟨key, n⟩) (by kernel_rfl) (by kernel_rfl) (S2.out.next (tame_drewN (Below.refl _ w2) 1)) ?_
          refine wq_k (.pointer (some ⟨wr.heap.size, 0, none⟩)) (wq_v (.string key) (fun W hW => run_load1 9 (.tmp 12) (by kernel_rfl) ⟨wr.heap.size, 0, none⟩ (by kernel_rfl) (.string key) (hW.box.cell 0) _ Tryz.underlying9 rfl) (wq_c (.nilIface) 62 #[.string key] (fun W hW => (key_good ea key W HKX.out hW.err HG.out).mono fun e' w' h => ⟨h.1, hW.next h.2⟩) (wq_k (.bool false) (wq_k (.bool false) (wq_k (.pointer (some ⟨wr.heap.size, 1, none⟩)) (wq_v (.int .i64 n) (fun W hW => run_load1 3 (.tmp 17) (by kernel_rfl) ⟨wr.heap.size, 1, none⟩ (by kernel_rfl) (.int .i64 n) (hW.box.cell 1) _ Tryz.underlying3 rfl) (wq_v (.bool false) (fun W hW => run_eqv (v := .bool (decide (n < 1))) (by kernel_rfl) ((by rw [HD.out]))) ?_)))))))
          refine wq_k (.bool false) (wq_k (.bool false) (wq_k (.pointer (some ⟨wr.heap.size, 1, none⟩)) (wq_v (.int .i64 n) (fun W hW => run_load1 3 (.tmp 22) (by kernel_rfl) ⟨wr.heap.size, 1, none⟩ (by kernel_rfl) (.int .i64 n) (hW.box.cell 1) _ Tryz.underlying3 rfl) (wq_v (.bool false) (fun W hW => run_eqv (v := .bool (decide (n > 1000000))) (by kernel_rfl) ((by rw [HD2.out]))) (wq_k (.bool false) (wq_k (.bool false) (wq_k (.int .i64 ((j + 1 : Nat) : Int)) ?_)))))))
          refine wq_v (.bool true) (fun W hW => run_eqv (v := .bool (decide (((j + 1 : Nat) : Int) > 0))) (by kernel_rfl) ((by rw [decide_eq_true (show ((j + 1 : Nat) : Int) > 0 by omega)]))) (wq_k (.bool true) (wq_k (.slice (some ⟨b', o', none⟩) l.length c) (wq_k (.int .i64 ((j + 1 : Nat) : Int)) (wq_v (.int .i64 ((j : Nat) : Int)) (fun W hW => run_eqv (v := .int .i64 (IntKind.i64.wrap (((j + 1 : Nat) : Int) - 1))) (by kernel_rfl) (wrap_nat _ _ (by omega) (by omega))) (wq_v (.pointer (some ⟨b', o' + j * 2, none⟩)) (fun W hW => run_eqv (run_idx 23 (.tmp 30) (.tmp 32) (by kernel_rfl) (b') (o') l.length c j 77 2 (by kernel_rfl) (by kernel_rfl) (by omega) Tryz.underlying23 (by kernel_rfl)) rfl) (wq_k (.pointer (some ⟨b', o' + j * 2, none⟩)) (wq_v (.string (ldAt l j).key) (fun W hW => run_load1 9 (.tmp 34) (by kernel_rfl) ⟨b', o' + j * 2, none⟩ (by kernel_rfl) (.string (ldAt l j).key) (row_ld hW.row (by omega) 0 (by decide)) _ Tryz.underlying9 rfl) ?_)))))))
          refine wq_k (.pointer (some ⟨wr.heap.size, 0, none⟩)) (wq_v (.string key) (fun W hW => run_load1 9 (.tmp 36) (by kernel_rfl) ⟨wr.heap.size, 0, none⟩ (by kernel_rfl) (.string key) (hW.box.cell 0) _ Tryz.underlying9 rfl) (wq_c (.int .i64 (cmpB (ldAt l j).key key)) 63 #[.string (ldAt l j).key, .string key] (fun W hW => (compare_any _ _ W HPS.out HKX.out HPK.out HGK.out).mono fun e' w' h => ⟨h.1, hW.next h.2⟩) (wq_v (.bool false) (fun W hW => run_eqv (v := .bool (decide ((0 : Int) ≤ cmpB (ldAt l j).key key))) (by kernel_rfl) ((by rw [HC.out]))) (wq_k (.bool false) (wq_k (.bool false) ?_)))))
          refine quiet_end rfl (Lib.hid ?_)
          refine Lib.hid ?_
          intro w3 hW
          have S3 := Lib.hid hW
          clear hW
          dsimp only [Exit.then, Act.put]
          simp only [List.setIfInBounds_toArray, List.set_cons_succ, List.set_cons_zero]
          go_wp2_with fail
          go_roundw
          case rel => exact ⟨j + 1 + 1, by omega, by go_num, Lib.hid S3.out.toRQ, HRS⟩
          case measure => simp [intOf]; omega
    · obtain rfl : k = l.length := by omega
      have HR := Lib.hid (rightB_true (fun j hj => HP.out j hj))
      go_wp2_with fail
      go_ret
      exact ⟨by rw [HR.out]; rfl, HB.out.bel⟩
end Go.Proofs.YthjmfcdhpdiehaaGreatDoor

namespace Go.Proofs.YthjmfcdhpdiehaaGreatDoor
open Go.RowKit Utf
set_option maxRecDepth 100000
set_option linter.unusedSimpArgs false
set_option linter.unusedVariables false

/-- The sum of loads; the loads of a shard's keys. -/
def sumN (l : List LD) : Int := (l.map LD.n).sum
def keysP (s : Sh) (l : List LD) : List LD := l.filter (fun x => hasB s.lo s.hi x.key)
theorem sumN_app (l : List LD) (x : LD) : sumN (l ++ [x]) = sumN l + x.n := by simp [sumN]
theorem keysP_take (s : Sh) (l : List LD) (k : Nat) (hk : k < l.length) : keysP s (l.take (k + 1)) = keysP s (l.take k) ++ (if hasB s.lo s.hi (ldAt l k).key = true then [ldAt l k] else []) := by
  unfold keysP
  rw [List.take_succ_eq_append_getElem hk, List.filter_append, ldAt_eq hk]
  congr 1
  by_cases h : hasB s.lo s.hi (l[k]).key = true
  · simp [h]
  · simp [h]
/-- Numbers of loads that are right. -/
def NumOk (l : List LD) : Prop := ∀ x ∈ l, 1 ≤ x.n ∧ x.n ≤ 1000000
theorem sumN_bound {l : List LD} (h : NumOk l) : 0 ≤ sumN l ∧ sumN l ≤ l.length * 1000000 := by
  induction l with
  | nil => simp [sumN]
  | cons x r ih =>
    have h1 := ih (fun y hy => h y (List.mem_cons_of_mem _ hy))
    have h2 := h x List.mem_cons_self
    simp only [sumN, List.map_cons, List.sum_cons, List.length_cons] at h1 ⊢
    omega
theorem keysP_len (s : Sh) (l : List LD) : (keysP s l).length ≤ l.length := List.length_filter_le ..
theorem NumOk.keys {l : List LD} (h : NumOk l) (s : Sh) (k : Nat) : NumOk (keysP s (l.take k)) := fun x hx => h x (List.mem_of_mem_take (List.mem_filter.1 hx |>.1))
/-- A shard with its keys' loads, in memory: the slice of the loads. -/
structure LO where
  sh : Sh
  kv : Value
  keys : List LD
def LO.cells (x : LO) : List Value := [.int .i64 x.sh.id, .int .i64 x.sh.server, .int .i64 x.sh.since, .string x.sh.lo, .string x.sh.hi, x.kv, .int .i64 (sumN x.keys)]
theorem LO.cells_len (x : LO) : x.cells.length = 7 := rfl
def loRow (l : List LO) : List Value := l.flatMap LO.cells
/-- What it is of. -/
def LO.plain (x : LO) : Sh × List LD := (x.sh, x.keys)
def loadsP (live : List Sh) (l : List LD) : List (Sh × List LD) := live.map (fun s => (s, keysP s l))
theorem OwnE.one {w : World} {B sz : Nat} {e : TypeId} {v : Value} {n : Nat} {xs : List Value} (h : OwnE w B e sz v n xs) : v.oneCell' = true := by
  rcases h with ⟨h | ⟨g, h⟩, -⟩ | h
  · rw [h]; rfl
  · rw [h]; rfl
  · obtain ⟨ao, cap, hv, -⟩ := own_row_of h
    rw [hv]; rfl
theorem ownE_row1 {w : World} {B sz g n c : Nat} {e : TypeId} {xs : List Value} (h : OwnE w B e sz (.slice (some ⟨g, 0, none⟩) n c) n xs) : RowAt w (some ⟨g, 0, none⟩) xs := by
  obtain ⟨ao, cap, hv, hr⟩ := ownE_row h
  cases hv
  exact hr
theorem own_ge {w : World} {B sz : Nat} {e : TypeId} {v : Value} {n : Nat} {xs : List Value} (h : w.ownsRow B e sz v n xs) {q : Nat} (hq : v.ownBlock = some q) : B ≤ q := by
  rcases h.2 with ⟨rfl, -⟩ | ⟨g, cap, cur, rfl, hB, hg, -⟩
  · cases hq
  · obtain rfl : g = q := by simpa [Value.ownBlock] using hq
    exact hB
theorem ldRow_app (l : List LD) (x : LD) : ldRow (l ++ [x]) = ldRow l ++ [.string x.key, .int .i64 x.n] := by simp [ldRow, LD.cells]
theorem loRow_app (l : List LO) (x : LO) : loRow (l ++ [x]) = loRow l ++ x.cells := by simp [loRow]
theorem grown_blk {w w' : World} {row : Option Nat} {g : Nat} {t : TypeId} {cs : Array Value} (h : Blk w g t cs) (hg : w.grownBy w' row) (hne : row ≠ some g) : Blk w' g t cs := (hg.block g h.lt (fun e => hne e.symm)).trans h
theorem Tryz.infoLd : (Tryz.prog.info? 77).map (fun i => (i.zero, i.size, i.bytes)) = some (some (.agg #[.string ⟨#[]⟩, .int .i64 0]), 2, 24) := by kernel_rfl
theorem Tryz.infoLo : (Tryz.prog.info? 87).map (fun i => (i.zero, i.size, i.bytes)) = some (some (.agg #[.int .i64 0, .int .i64 0, .int .i64 0, .string ⟨#[]⟩, .string ⟨#[]⟩, .slice none 0 0, .int .i64 0]), 7, 88) := by kernel_rfl

/-- How the outer loop stands. -/
structure LS (w : World) (live : List Sh) (vs vo : Value) (xs : List LO) (W : World) : Prop where
  bel : Below w.heap.size w W
  shs : OwnE W w.heap.size 54 5 vs live.length (shRow live)
  out : OwnE W w.heap.size 87 7 vo xs.length (loRow xs)
  ks : ∀ x ∈ xs, OwnE W w.heap.size 77 2 x.kv x.keys.length (ldRow x.keys)
theorem LS.next {w W W' : World} {live : List Sh} {vs vo : Value} {xs : List LO} (h : LS w live vs vo xs W) (hb : Below W.heap.size W W') : LS w live vs vo xs W' :=
  ⟨h.bel.trans (hb.mono h.bel.size), h.shs.below hb, h.out.below hb, fun x hx => (h.ks x hx).below hb⟩
/-- How the inner loop stands. -/
structure LI (wr : World) (p7 p8 : Nat) (s : Sh) (kv : Value) (keys : List LD) (W : World) : Prop where
  bel : Below wr.heap.size wr W
  b7 : Blk W p7 54 s.cells.toArray
  b8 : Blk W p8 87 (LO.mk s kv keys).cells.toArray
  own : OwnE W (p8 + 1) 77 2 kv keys.length (ldRow keys)
theorem LI.next {wr W W' : World} {p7 p8 : Nat} {s : Sh} {kv : Value} {keys : List LD} (h : LI wr p7 p8 s kv keys W) (hb : Below W.heap.size W W') : LI wr p7 p8 s kv keys W' :=
  ⟨h.bel.trans (hb.mono h.bel.size), h.b7.below hb h.b7.lt, h.b8.below hb h.b8.lt, h.own.below hb⟩

set_option maxHeartbeats 4000000 in
theorem loads_any (ea : Nat → Addr) (b B : Nat) (m : PM) (l : List LD) (lo : Option Addr) (lc : Nat) (w : World) (hm : MapAt w B b m) (hn : l.length ≤ 1000) (hr : RowAt w lo (ldRow l)) (he : BErr w ea) (hk : LdOk l) (hno : NumOk l) :
    Calls Tryz.prog 35 #[.pointer (some ⟨b, 0, none⟩), .slice lo l.length lc] w fun e w' => ∃ v xs, e = .returned v ∧ xs.map LO.plain = loadsP m.live l ∧ OwnE w' w.heap.size 87 7 v xs.length (loRow xs) ∧ (∀ x ∈ xs, OwnE w' w.heap.size 77 2 x.kv x.keys.length (ldRow x.keys)) ∧ Below w.heap.size w w' := by
  have HM := Lib.hid hm
  have HR := Lib.hid hr
  have HE := Lib.hid he
  have HK := Lib.hid hk
  have HNO := Lib.hid hno
  have hml : m.live.length ≤ 10000 := by obtain ⟨vl, ve, h⟩ := hm; exact h.len.1
  have hml1 : 1 ≤ m.live.length := by obtain ⟨vl, ve, h⟩ := hm; exact h.l1
  have HOKS := Lib.hid (show ∀ s ∈ m.live, s.ok from by obtain ⟨vl, ve, h⟩ := hm; exact h.ok)
  obtain ⟨i0, hinf, hz0, hz1, hz2⟩ := info_parts Tryz.infoLd
  have HI := Lib.hid (And.intro hinf (And.intro hz0 (And.intro hz1 hz2)))
  clear hinf hz0 hz1 hz2
  obtain ⟨j0, hinf, hz0, hz1, hz2⟩ := info_parts Tryz.infoLo
  have HJ := Lib.hid (And.intro hinf (And.intro hz0 (And.intro hz1 hz2)))
  clear hinf hz0 hz1 hz2 hm hr he hk hno
  go_enter Tryz.func35, Tryz.ntmps35
  go_wp2_with fail
  refine (shards_any b B m _ HM.out).mono ?_
  rintro e w1 ⟨vs, rfl, h1, h2⟩
  obtain ⟨g, cap, rfl, -, -, -, -⟩ := own_some h1 hml1
  have S1 := Lib.hid (show LS w m.live (.slice (some ⟨g, 0, none⟩) m.live.length cap) (.slice none 0 0) [] w1 from ⟨h2, .inr h1, OwnE.nil, fun x hx => by cases hx⟩)
  clear h1 h2
  generalize hlv : m.live = live at *
  have HLV := Lib.hid hlv
  clear hlv
  go_wp2_with fail
  go_loopw [5, 14] (fun vo i wr => ∃ (k : Nat) (xs : List LO), k ≤ live.length ∧ i = .int .i64 k ∧ Hid (xs.map LO.plain = loadsP (live.take k) l) ∧ Hid (LS w live (.slice (some ⟨g, 0, none⟩) live.length cap) vo xs wr)) (fun _ i _ => live.length - (intOf i).toNat)
  case atStart => exact ⟨0, [], Nat.zero_le _, rfl, Lib.hid rfl, S1⟩
  case round =>
    obtain ⟨k, xs, hk, rfl, HP, HS⟩ := hrel
    by_cases hlt : k < live.length
    · obtain ⟨b', o', e', hc⟩ := row_flat Sh.cells 5 (by decide) Sh.cells_len (ownE_row1 HS.out.shs) k hlt
      cases e'
      have HRG := Lib.hid (show wr.rangeAt g (0 + k * 5) (shAt live k).cells from fun j v hj => by
        have hj5 : j < 5 := by have := (List.getElem?_eq_some_iff.1 hj).1; rw [Sh.cells_len] at this; exact this
        rw [hc j hj5, ← shAt_eq hlt]; exact hj)
      have HSI := Lib.hid (show (Tryz.prog.info? 54).map (·.size) = some (shAt live k).cells.length by rw [Sh.cells_len]; kernel_rfl)
      have HZ1 := Lib.hid (Blk.new wr 54 #[.int .i64 0, .int .i64 0, .int .i64 0, .string ⟨#[]⟩, .string ⟨#[]⟩])
      have HSO := Lib.hid (show (shAt live k).ok by rw [shAt_eq hlt]; exact HOKS.out _ (List.getElem_mem hlt))
      have HPN := Lib.hid (fun (x : LO) (h : x.plain = (shAt live k, keysP (shAt live k) l)) => show (xs ++ [x]).map LO.plain = loadsP (live.take (k + 1)) l by
        rw [List.map_append, HP.out, List.take_succ_eq_append_getElem hlt]
        unfold loadsP
        rw [List.map_append, ← shAt_eq hlt]
        simp [h])
      have HXL := Lib.hid (show xs.length ≤ 10000 by
        have h1 : (xs.map LO.plain).length = (loadsP (live.take k) l).length := by rw [HP.out]
        unfold loadsP at h1
        simp only [List.length_map, List.length_take] at h1
        omega)
      generalize hx : shAt live k = x at *
      clear hc hx HP
      obtain ⟨sid, server, since, slo, shi⟩ := x
      rw [Nat.zero_add] at HRG
      go_wp2_with (first | (refine wpList_load_mid rfl 54 (.tmp 16) rfl g (k * 5) rfl _ _ HRG.out Tryz.underlying54 rfl HSI.out ?_) | (refine wpList_store_blk rfl 54 (.tmp 7) (.tmp 17) rfl wr.heap.size (Sh.mk sid server since slo shi).cells.toArray rfl rfl 54 _ HZ1.out rfl (by kernel_rfl) (by kernel_rfl) ?_))
      refine Lib.hid ?_
      intro w2 hz ho
      have HB7 := Lib.hid (show Blk w2 wr.heap.size 54 #[.int .i64 sid, .int .i64 server, .int .i64 since, .string slo, .string shi] from hz)
      have B2 := Lib.hid ((below_alloc wr _).trans (ho.to_below (B := wr.heap.size) (by simp) (fun q hq e => by omega)))
      have HZ2 := Lib.hid (Blk.new w2 87 #[.int .i64 0, .int .i64 0, .int .i64 0, .string ⟨#[]⟩, .string ⟨#[]⟩, .slice none 0 0, .int .i64 0])
      clear hz ho HZ1 HRG
      go_wp2_with (first | (refine wpList_load_hid rfl 54 (.tmp 7) rfl wr.heap.size rfl 54 #[.int .i64 sid, .int .i64 server, .int .i64 since, .string slo, .string shi] HB7.out _ Tryz.underlying54 rfl (by kernel_rfl) ?_; refine Lib.hid ?_) | (refine wpList_store_blk rfl 87 (.tmp 8) (.tmp 19) rfl w2.heap.size #[.int .i64 sid, .int .i64 server, .int .i64 since, .string slo, .string shi, .slice none 0 0, .int .i64 0] rfl rfl 87 _ HZ2.out rfl (by kernel_rfl) (by kernel_rfl) ?_))
      refine Lib.hid ?_
      intro w3 hz ho
      have LI0 := Lib.hid (show LI wr wr.heap.size w2.heap.size ⟨sid, server, since, slo, shi⟩ (.slice none 0 0) [] w3 from
        ⟨B2.out.trans (((below_alloc w2 _).trans (ho.to_below (B := w2.heap.size) (by simp) (fun q hq e => by omega))).mono B2.out.size), (HB7.out.alloc _).only ho (Nat.ne_of_lt HB7.out.lt), hz, OwnE.nil⟩)
      have H78 : Hid (wr.heap.size < w2.heap.size) := Lib.hid HB7.out.lt
      clear hz ho HZ2 HB7 B2
      generalize w2.heap.size = p8 at *
      go_wp2_with fail
      have HRW := Lib.hid (show ∀ W, Below wr.heap.size wr W → RowAt W lo (ldRow l) from fun W hb => HR.out.below (HS.out.bel.trans (hb.mono HS.out.bel.size)))
      have HEW := Lib.hid (show ∀ W, Below wr.heap.size wr W → BErr W ea from fun W hb => HE.out.below (HS.out.bel.trans (hb.mono HS.out.bel.size)))
      have HSX : Hid (slo.size ≤ 1000000 ∧ shi.size ≤ 1000000) := Lib.hid HSO.out
      go_loopw [22] (fun v22 W => ∃ (i : Nat) (kv : Value), i ≤ l.length ∧ v22 = .int .i64 i ∧ Hid (LI wr wr.heap.size p8 ⟨sid, server, since, slo, shi⟩ kv (keysP ⟨sid, server, since, slo, shi⟩ (l.take i)) W)) (fun v _ => l.length - (intOf v).toNat)
      case atStart => exact ⟨0, _, Nat.zero_le _, rfl, LI0⟩
      case round =>
        obtain ⟨i, kv, hi, rfl, HL⟩ := hrel
        rename World => wq
        clear LI0
        by_cases hil : i < l.length
        · obtain ⟨b', o', rfl, hc⟩ := row_flat LD.cells 2 (by decide) LD.cells_len (HRW.out _ HL.out.bel) i hil
          have HRG := Lib.hid (show wq.rangeAt b' (o' + i * 2) (ldAt l i).cells from fun j v hj => by
            have hj5 : j < 2 := by have := (List.getElem?_eq_some_iff.1 hj).1; rw [LD.cells_len] at this; exact this
            rw [hc j hj5, ← ldAt_eq hil]; exact hj)
          have HSI := Lib.hid (show (Tryz.prog.info? 77).map (·.size) = some (ldAt l i).cells.length by rw [LD.cells_len]; kernel_rfl)
          have HZ1 := Lib.hid (Blk.new wq 77 #[.string ⟨#[]⟩, .int .i64 0])
          have HKX := Lib.hid (HK.out.at hil)
          have HKT := Lib.hid (keysP_take ⟨sid, server, since, slo, shi⟩ l i hil)
          have HSB := Lib.hid (sumN_bound (HNO.out.keys ⟨sid, server, since, slo, shi⟩ i))
          have HNB := Lib.hid (show 1 ≤ (ldAt l i).n ∧ (ldAt l i).n ≤ 1000000 by rw [ldAt_eq hil]; exact HNO.out _ (List.getElem_mem hil))
          have HKL := Lib.hid (show (keysP ⟨sid, server, since, slo, shi⟩ (l.take i)).length ≤ 1000 from Nat.le_trans (keysP_len _ _) (by rw [List.length_take]; omega))
          generalize keysP ⟨sid, server, since, slo, shi⟩ (l.take i) = ks at *
          generalize ldAt l i = x at *
          obtain ⟨key, n⟩ := x
          clear hc
          go_wp2_with (first | (refine wpList_load_mid rfl 77 (.tmp 24) rfl b' (o' + i * 2) rfl _ _ HRG.out Tryz.underlying77 rfl HSI.out ?_) | (refine wpList_store_blk rfl 77 (.tmp 10) (.tmp 25) rfl wq.heap.size #[.string key, .int .i64 n] rfl rfl 77 _ HZ1.out rfl (by kernel_rfl) (by kernel_rfl) ?_))
          refine Lib.hid ?_
          intro w4 hz ho
          have HB10 := Lib.hid hz
          have HL4 := Lib.hid (HL.out.next ((below_alloc wq _).trans (ho.to_below (B := wq.heap.size) (by simp) (fun q hq e => by omega))))
          have HQ := Lib.hid (And.intro (HL.out.b8.lt) (fun q h => HL.out.own.lt (k := q) h))
          clear hz ho HZ1 HRG HL
          generalize wq.heap.size = p10 at *
          have r7 := HL4.out.b7.range (o := 3) (l := [.string slo, .string shi]) (fun j v hj => by
            rcases j with _ | _ | j
            · exact hj
            · exact hj
            · simp at hj)
          have c10 : w4.cell? ⟨p10, 0, none⟩ = some (.string key) := HB10.out.cell 0
          go_wp2_with (refine wpList_load_mid rfl 52 (.tmp 26) rfl wr.heap.size 3 rfl _ _ r7 Tryz.underlying52 rfl (by kernel_rfl) ?_)
          refine (spanHas_any ea slo shi key w4 HSX.out.1 HSX.out.2 HKX.out (HEW.out _ HL4.out.bel)).mono ?_
          rintro e w5 ⟨rfl, hb5⟩
          have HL5 := Lib.hid (HL4.out.next hb5)
          have HX5 := Lib.hid (show Blk w5 p10 77 #[.string key, .int .i64 n] from HB10.out.below hb5 HB10.out.lt)
          clear hb5 r7 c10 HB10 HL4
          cases hh : hasB slo shi key with
          | false =>
            have HLN : Hid (LI wr wr.heap.size p8 ⟨sid, server, since, slo, shi⟩ kv (keysP ⟨sid, server, since, slo, shi⟩ (l.take (i + 1))) w5) := Lib.hid (by
              rw [HKT.out, if_neg (by rw [hh]; simp), List.append_nil]
              exact HL5.out)
            clear hh
            go_wp2_with fail
            go_roundw
            case rel => exact ⟨i + 1, kv, by omega, by go_num, HLN⟩
            case measure => simp [intOf]; omega
          | true =>
            have HKT2 := Lib.hid (show keysP ⟨sid, server, since, slo, shi⟩ (l.take (i + 1)) = ks ++ [⟨key, n⟩] by rw [HKT.out, if_pos hh])
            clear hh HKT
            have c5 : w5.cell? ⟨p8, 5, none⟩ = some kv := HL5.out.b8.cell 5
            have HOW := Lib.hid HL5.out.own
            have HB8 := Lib.hid HL5.out.b8
            have HS8 : Hid (p8 + 1 ≤ w5.heap.size) := Lib.hid HL5.out.b8.lt
            go_wp2_with (first | (refine wpList_load_hid rfl 77 (.tmp 10) rfl p10 rfl 77 _ HX5.out _ Tryz.underlying77 rfl (by kernel_rfl) ?_; refine Lib.hid ?_) | (refine appE rfl (.tmp 32) (.tmp 34) 23 rfl 77 i0 _ 2 24 Tryz.underlying23 HI.out.1 HI.out.2.1 HI.out.2.2.1 HI.out.2.2.2 rfl (by decide) (p8 + 1) kv ks.length (ldRow ks) rfl HOW.out (p8 + 1) (Nat.le_refl _) (Below.refl _ w5) HS8.out [.string key, .int .i64 n] 1 rfl (by decide) (LD.one ⟨key, n⟩) rfl (by have := HKL.out; omega) (by decide) ?_))
            refine Lib.hid ?_
            intro v6 w6 h1 h2 h3
            obtain ⟨gk, ck, rfl, -, -, -, -⟩ := own_some h1 (by omega)
            have HN6 := Lib.hid h1
            have HB86 := Lib.hid (HB8.out.below h2 (Nat.lt_succ_self _))
            have HB76 := Lib.hid (HL5.out.b7.below h2 (by have := H78.out; omega))
            have HX6 := Lib.hid (grown_blk (HX5.out.alloc (.cells #[.string key, .int .i64 n] 77)) h3 (fun e => by have := HQ.out.2 _ e; omega))
            have BB6 := Lib.hid (HL5.out.bel.trans (h2.mono (by have := H78.out; omega)))
            have hne : p8 ≠ p10 := Nat.ne_of_lt HQ.out.1
            have d5 : w6.cell? ⟨p8, 5, none⟩ = some kv := HB86.out.cell 5
            have f5 : w6.frozen? ⟨p8, 5, none⟩ = false := HB86.out.frozen 5
            have HB87 := Lib.hid (HB86.out.put 5 (.slice (some ⟨gk, 0, none⟩) (ks.length + 1) ck))
            have HX7 := Lib.hid (HX6.out.far (p := ⟨p8, 5, none⟩) (fun e => hne e.symm) (.slice (some ⟨gk, 0, none⟩) (ks.length + 1) ck))
            have d6 : (w6.setCell ⟨p8, 5, none⟩ (.slice (some ⟨gk, 0, none⟩) (ks.length + 1) ck)).cell? ⟨p8, 6, none⟩ = some (.int .i64 (sumN ks)) := HB87.out.cell 6
            have f6 : (w6.setCell ⟨p8, 5, none⟩ (.slice (some ⟨gk, 0, none⟩) (ks.length + 1) ck)).frozen? ⟨p8, 6, none⟩ = false := HB87.out.frozen 6
            have d1 : (w6.setCell ⟨p8, 5, none⟩ (.slice (some ⟨gk, 0, none⟩) (ks.length + 1) ck)).cell? ⟨p10, 1, none⟩ = some (.int .i64 n) := HX7.out.cell 1
            have hs0 : 0 ≤ sumN ks ∧ sumN ks ≤ 1000000000 := by
              have h4 := HSB.out
              have h5 := HKL.out
              omega
            have hn0 := HNB.out
            clear h1 h2 h3 HOW HB8 HX5 c5 HX6
            go_wp2_with fail
            go_roundw
            case rel =>
              refine ⟨i + 1, .slice (some ⟨gk, 0, none⟩) (ks.length + 1) ck, by omega, by go_num, Lib.hid ?_⟩
              rw [HKT2.out]
              have ho : Only (fun k => k = p8) w6 ((w6.setCell ⟨p8, 5, none⟩ (.slice (some ⟨gk, 0, none⟩) (ks.length + 1) ck)).setCell ⟨p8, 6, none⟩ (.int .i64 (sumN ks + n))) := ((Only.refl (fun k => k = p8) w6).set (p := ⟨p8, 5, none⟩) (.inl rfl) _).set (p := ⟨p8, 6, none⟩) (.inl rfl) _
              refine ⟨BB6.out.trans (ho.to_below BB6.out.size (fun q hq e => by have := H78.out; omega)), HB76.out.only ho (by have := H78.out; omega), ?_, .inr ?_⟩
              · have := HB87.out.put 6 (.int .i64 (sumN ks + n))
                unfold LO.cells
                rw [sumN_app]
                exact this
              · rw [List.length_append, ldRow_app]
                exact own_only HN6.out ho (fun q hq e => by
                  have := own_ge HN6.out hq
                  omega)
            case measure => simp [intOf]; omega
        · obtain rfl : i = l.length := by omega
          rw [List.take_length] at HL
          have HO := Lib.hid (HS.out.next HL.out.bel)
          obtain ⟨ak, ck, hkv, -⟩ := ownE_row HL.out.own
          generalize hks : keysP ⟨sid, server, since, slo, shi⟩ l = ks at *
          subst hkv
          have HB8 := Lib.hid (show Blk wq p8 87 #[.int .i64 sid, .int .i64 server, .int .i64 since, .string slo, .string shi, .slice ak ks.length ck, .int .i64 (sumN ks)] from HL.out.b8)
          have HOW := Lib.hid HO.out.out
          have HOS : Hid (w.heap.size ≤ wq.heap.size) := Lib.hid HO.out.bel.size
          go_wp2_with (first | (refine wpList_load_hid rfl 87 (.tmp 8) rfl p8 rfl 87 #[.int .i64 sid, .int .i64 server, .int .i64 since, .string slo, .string shi, .slice ak ks.length ck, .int .i64 (sumN ks)] HB8.out _ Tryz.underlying87 rfl (by kernel_rfl) ?_; refine Lib.hid ?_) | (refine appE rfl (.tmp 44) (.tmp 46) 84 rfl 87 j0 _ 7 88 Tryz.underlying84 HJ.out.1 HJ.out.2.1 HJ.out.2.2.1 HJ.out.2.2.2 rfl (by decide) w.heap.size u5 xs.length (loRow xs) rfl HOW.out w.heap.size (Nat.le_refl _) HO.out.bel HOS.out [.int .i64 sid, .int .i64 server, .int .i64 since, .string slo, .string shi, .slice ak ks.length ck, .int .i64 (sumN ks)] 1 rfl (by decide) (by intro u hu; simp only [List.mem_cons, List.mem_nil_iff, or_false] at hu; rcases hu with rfl | rfl | rfl | rfl | rfl | rfl | rfl <;> rfl) rfl (by have := HXL.out; omega) (by decide) ?_))
          refine Lib.hid ?_
          intro v9 w9 h1 h2 h3
          obtain ⟨g9, c9, rfl, -, -, -, -⟩ := own_some h1 (by omega)
          have h3' := h3
          have HLS := Lib.hid (show LS w live (.slice (some ⟨g, 0, none⟩) live.length cap) (.slice (some ⟨g9, 0, none⟩) (xs.length + 1) c9) (xs ++ [⟨⟨sid, server, since, slo, shi⟩, .slice ak ks.length ck, ks⟩]) w9 from by
            refine ⟨h2, (HO.out.shs.alloc _).other (HO.out.out.alloc _) (by decide) h3, ?_, ?_⟩
            · rw [List.length_append, loRow_app]
              exact .inr h1
            · intro x hx
              rcases List.mem_append.1 hx with hx | hx
              · exact ((HO.out.ks x hx).alloc _).other (HO.out.out.alloc _) (by decide) h3
              · obtain rfl := List.mem_singleton.1 hx
                exact OwnE.base ((HL.out.own.alloc _).other (HO.out.out.alloc _) (by decide) h3) (by have := H78.out; have := HS.out.bel.size; omega))
          have HPX := Lib.hid (HPN.out ⟨⟨sid, server, since, slo, shi⟩, .slice ak ks.length ck, ks⟩ (by unfold LO.plain; rw [← hks]))
          clear h1 h2 h3 hks
          go_wp2_with fail
          go_roundw
          case rel => exact ⟨k + 1, _, by omega, by go_num, HPX, HLS⟩
          case measure => simp [intOf]; omega
    · obtain rfl : k = live.length := by omega
      rw [List.take_length] at HP
      go_wp2_with fail
      go_ret
      exact ⟨_, xs, rfl, by rw [HLV.out]; exact HP.out, HS.out.out, HS.out.ks, HS.out.bel⟩
end Go.Proofs.YthjmfcdhpdiehaaGreatDoor
