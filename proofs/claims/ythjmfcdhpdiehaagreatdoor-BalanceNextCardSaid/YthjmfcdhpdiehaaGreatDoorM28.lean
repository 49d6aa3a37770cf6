/-
  The reference's Sorted: shards by rising Lo.
-/
import Derived.Test.YthjmfcdhpdiehaaGreatDoorM27
namespace Go.Proofs.YthjmfcdhpdiehaaGreatDoor
open Go.RowKit Utf
set_option maxRecDepth 100000
set_option linter.unusedSimpArgs false
set_option linter.unusedVariables false

theorem shRow_app (l : List Sh) (x : Sh) : shRow (l ++ [x]) = shRow l ++ x.cells := by simp [shRow]
theorem Tryz.infoRSh : (Tryz.prog.info? 75).map (fun i => (i.zero, i.size, i.bytes)) = some (some (.agg #[.int .i64 0, .int .i64 0, .int .i64 0, .string ⟨#[]⟩, .string ⟨#[]⟩]), 5, 56) := by kernel_rfl
theorem bLe_list (a b : ByteArray) : (Op.bytesLess a.toList b.toList || (a.toList == b.toList)) = !bLt b a := by
  rw [bLt_list]
  cases h : bLt a b with
  | true => rw [bLt_asymm h]; rfl
  | false =>
    cases h2 : bLt b a with
    | true =>
      cases h3 : (a.toList == b.toList) with
      | false => rfl
      | true =>
        have h4 := eq_of_beq h3
        rw [← bLt_list, h4, bLt_list, bLt_irrefl] at h2
        cases h2
    | false =>
      rw [bLt_total h h2]
      simp
theorem bGt_list (a b : ByteArray) : (!(Op.bytesLess a.toList b.toList || (a.toList == b.toList))) = bLt b a := by
  rw [bLe_list, Bool.not_not]
/-- How the loops stand. -/
structure SO (w : World) (b g cap : Nat) (m : RM) (u v : Value) (vo : Value) (xs : List Sh) (W : World) : Prop where
  bel : Below w.heap.size w W
  blk : Blk W b 117 #[.slice (some ⟨g, 0, none⟩) m.live.length cap, u, v]
  row : RowAt W (some ⟨g, 0, none⟩) (shRow m.live)
  out : OwnE W w.heap.size 75 5 vo xs.length (shRow xs)
theorem SO.next {w W W' : World} {b g cap : Nat} {m : RM} {u v vo : Value} {xs : List Sh} (h : SO w b g cap m u v vo xs W) (hb : Below W.heap.size W W') : SO w b g cap m u v vo xs W' :=
  ⟨h.bel.trans (hb.mono h.bel.size), h.blk.below hb h.blk.lt, h.row.below hb, h.out.below hb⟩
structure SX (w : World) (b g cap : Nat) (m : RM) (u v : Value) (vo : Value) (xs : List Sh) (q : Nat) (x : Sh) (W : World) : Prop extends SO w b g cap m u v vo xs W where
  box : Blk W q 75 x.cells.toArray
theorem SX.next {w W W' : World} {b g cap q : Nat} {m : RM} {u v vo : Value} {xs : List Sh} {x : Sh} (h : SX w b g cap m u v vo xs q x W) (hb : Below W.heap.size W W') : SX w b g cap m u v vo xs q x W' :=
  ⟨h.toSO.next hb, h.box.below hb h.box.lt⟩
theorem row_sh' {w : World} {g : Nat} {l : List Sh} (h : RowAt w (some ⟨g, 0, none⟩) (shRow l)) {i : Nat} (hi : i < l.length) (j : Nat) (hj : j < 5) : w.cell? ⟨g, i * 5 + j, none⟩ = (shAt l i).cells[j]? := by
  rw [row_sh h hi j hj]
/-- Later: by the last one. -/
theorem later_last {xs : List Sh} {n : Nat} (h : xs.length = n + 1) (s : Sh) : laterP xs s = bLt (shAt xs n).lo s.lo := by
  unfold laterP
  rw [List.getLast?_eq_getElem?, h, Nat.add_sub_cancel, List.getElem?_eq_getElem (by omega)]
  dsimp only
  rw [← shAt_eq (by omega)]
theorem later_nil {xs : List Sh} (h : xs.length = 0) (s : Sh) : laterP xs s = true := by
  rw [List.length_eq_zero_iff.1 h]
  rfl
theorem pick_some_lt {l out : List Sh} {k b : Nat} (h : pickN l out k = some b) : b < k := ((pick_spec l out k).2 b h).1

theorem wrap_last (k n : Nat) (h : k = n + 1) (h2 : k ≤ 10000) : Value.int .i64 (IntKind.i64.wrap ((k : Int) - 1)) = .int .i64 ((n : Nat) : Int) := by
  subst h
  exact wrap_nat _ n (by omega) (by omega)
theorem SO.outRow {w W : World} {b g cap n cp : Nat} {m : RM} {u v : Value} {ao : Option Addr} {xs : List Sh} (h : SO w b g cap m u v (.slice ao n cp) xs W) : RowAt W ao (shRow xs) := by
  obtain ⟨a2, c2, hv, hr⟩ := ownE_row h.out
  cases hv
  exact hr
theorem row_last {w W : World} {b g cap cp ob oo n k : Nat} {m : RM} {u v : Value} {xs : List Sh} (h : SO w b g cap m u v (.slice (some ⟨ob, oo, none⟩) k cp) xs W) (hn : xs.length = n + 1) : W.cell? ⟨ob, oo + n * 5 + 3, none⟩ = some (.string (shAt xs n).lo) := by
  obtain ⟨b', o', e', hc⟩ := row_flat Sh.cells 5 (by decide) Sh.cells_len h.outRow n (by omega)
  cases e'
  rw [hc 3 (by decide), ← shAt_eq (by omega)]
  rfl
set_option maxHeartbeats 16000000 in
theorem rsorted_any (b B : Nat) (m : RM) (w : World) (hm : RMAt w B b m) :
    Calls Tryz.prog 31 #[.pointer (some ⟨b, 0, none⟩)] w fun e w' => ∃ v, e = .returned v ∧ OwnE w' w.heap.size 75 5 v (sortN m.live m.live.length).length (shRow (sortN m.live m.live.length)) ∧ Below w.heap.size w w' := by
  obtain ⟨vl, vu, ve, hm⟩ := hm
  obtain ⟨g, cap, rfl, -, -, -, hr⟩ := own_some hm.live hm.l1.1
  have hln := hm.len.1
  have HBK := Lib.hid hm.blk
  have HRR := Lib.hid hr
  have HOK := Lib.hid hm.ok
  obtain ⟨i0, hinf, hz0, hz1, hz2⟩ := info_parts Tryz.infoRSh
  have HI := Lib.hid (And.intro hinf (And.intro hz0 (And.intro hz1 hz2)))
  have c0 : (w.alloc (.cells #[] 75)).cell? ⟨b, 0, none⟩ = some (.slice (some ⟨g, 0, none⟩) m.live.length cap) := (hm.blk.alloc _).cell 0
  have S0 := Lib.hid (fun q => show SO w b g cap m vu ve (.slice (some ⟨q, 0, none⟩) 0 0) [] (w.alloc (.cells #[] 75)) from ⟨below_alloc _ _, hm.blk.alloc _, hr.below (below_alloc _ _), OwnE.new⟩)
  clear hinf hz0 hz1 hz2 hm hr
  go_enter Tryz.func31, Tryz.ntmps31
  go_wp2_with fail
  go_loopw [3, 14] (fun vo i wr => ∃ k : Nat, k ≤ m.live.length ∧ i = .int .i64 k ∧ Hid (SO w b g cap m vu ve vo (sortN m.live k) wr)) (fun _ i _ => m.live.length - (intOf i).toNat)
  case atStart => exact ⟨0, Nat.zero_le _, rfl, Lib.hid (S0.out _)⟩
  case round =>
    obtain ⟨k, hk, rfl, HB⟩ := hrel
    by_cases hlt : k < m.live.length
    · have HSN := Lib.hid (show sortN m.live (k + 1) = match pickN m.live (sortN m.live k) m.live.length with | none => sortN m.live k | some b => sortN m.live k ++ [shAt m.live b] from rfl)
      have hxl : (sortN m.live k).length ≤ 10000 := Nat.le_trans (sortN_len _ _) (by omega)
      generalize hx2 : sortN m.live (k + 1) = xs2 at *
      have HXE := Lib.hid hx2
      clear hx2
      generalize sortN m.live k = xs at *
      obtain ⟨ao, cp, rfl, -⟩ := ownE_row HB.out.out
      have c0 : wr.cell? ⟨b, 0, none⟩ = some (.slice (some ⟨g, 0, none⟩) m.live.length cap) := HB.out.blk.cell 0
      go_wp2_with fail
      go_loopw [4, 21] (fun bv i wq => ∃ j : Nat, j ≤ m.live.length ∧ i = .int .i64 j ∧ ((bv = .int .i64 (-1) ∧ Hid (pickN m.live xs j = none)) ∨ ∃ b0 : Nat, bv = .int .i64 (b0 : Nat) ∧ Hid (pickN m.live xs j = some b0)) ∧ Hid (SO w b g cap m vu ve (.slice ao xs.length cp) xs wq)) (fun _ i _ => m.live.length - (intOf i).toNat)
      case atStart => exact ⟨0, Nat.zero_le _, rfl, .inl ⟨rfl, Lib.hid rfl⟩, HB⟩
      case round =>
        obtain ⟨j, hj, rfl, HPV, HL⟩ := hrel
        rename World => wq
        clear c0
        by_cases hjl : j < m.live.length
        · have HPS := Lib.hid (show pickN m.live xs (j + 1) = if laterP xs (shAt m.live j) && (match pickN m.live xs j with | none => true | some b => bLt (shAt m.live j).lo (shAt m.live b).lo) then some j else pickN m.live xs j from rfl)
          have HRG := Lib.hid (show wq.rangeAt g (j * 5) (shAt m.live j).cells from fun i v hi => by
            have hi5 : i < 5 := by have := (List.getElem?_eq_some_iff.1 hi).1; rw [Sh.cells_len] at this; exact this
            rw [row_sh' HL.out.row hjl i hi5]; exact hi)
          have HSI := Lib.hid (show (Tryz.prog.info? 75).map (·.size) = some (shAt m.live j).cells.length by rw [Sh.cells_len]; kernel_rfl)
          have HZ1 := Lib.hid (Blk.new wq 75 #[.int .i64 0, .int .i64 0, .int .i64 0, .string ⟨#[]⟩, .string ⟨#[]⟩])
          generalize shAt m.live j = x at *
          obtain ⟨sid, server, since, slo, shi⟩ := x
          unfold Sh.cells at HRG HSI
          dsimp only at HRG HSI
          go_wp2_with (first | (refine wpList_load_mid rfl 75 (.tmp 24) rfl g (j * 5) rfl _ _ HRG.out Tryz.underlying75 rfl HSI.out ?_) | (refine wpList_store_blk rfl 75 (.tmp 6) (.tmp 25) rfl wq.heap.size #[.int .i64 sid, .int .i64 server, .int .i64 since, .string slo, .string shi] rfl rfl 75 _ HZ1.out rfl (by kernel_rfl) (by kernel_rfl) ?_))
          refine Lib.hid ?_
          intro w4 hz ho
          have S4 := Lib.hid (show SX w b g cap m vu ve (.slice ao xs.length cp) xs wq.heap.size ⟨sid, server, since, slo, shi⟩ w4 from ⟨HL.out.next ((below_alloc wq _).trans (ho.to_below (B := wq.heap.size) (by simp) (fun q hq e => by omega))), hz⟩)
          clear hz ho HZ1 HRG HL
          rcases Nat.eq_zero_or_pos xs.length with hx0 | hx0
          · have HL0 := Lib.hid hx0
            clear hx0
            rcases HPV with ⟨rfl, HP⟩ | ⟨b0, rfl, HP⟩
            · have HLA := Lib.hid (later_nil HL0.out ⟨sid, server, since, slo, shi⟩)
              have HPK := Lib.hid (show pickN m.live xs (j + 1) = some j by rw [HPS.out, HLA.out, HP.out]; rfl)
              clear HPS HP HLA
              go_wp2_with fail
              refine wp_region_class ((SX w b g cap m vu ve (.slice ao xs.length cp) xs wq.heap.size ⟨sid, server, since, slo, shi⟩)) (by kernel_rfl) (by kernel_rfl) (S4.out.next (tame_drewN (Below.refl _ w4) 1)) ?_
              refine wq_k (.slice ao xs.length cp) (wq_k (.int .i64 (xs.length : Int)) (wq_v (.bool true) (fun W hW => run_eqv (v := .bool ((xs.length : Int) == 0)) (by kernel_rfl) ((by rw [HL0.out]; rfl))) (wq_k (.bool true) (wq_n (wq_n (wq_n (wq_n ?_)))))))
              refine wq_n (wq_n (wq_n (wq_n (wq_n (wq_n (wq_n (wq_n ?_)))))))
              refine wq_k (.bool true) (wq_k (.bool true) ?_)
              refine quiet_end rfl (Lib.hid ?_)
              refine Lib.hid ?_
              intro w5 hW
              have S5 := Lib.hid hW
              clear hW S4
              dsimp only [Exit.then, Act.put]
              simp only [List.setIfInBounds_toArray, List.set_cons_succ, List.set_cons_zero]
              go_wp2_with fail
              refine wp_region_class ((SX w b g cap m vu ve (.slice ao xs.length cp) xs wq.heap.size ⟨sid, server, since, slo, shi⟩)) (by kernel_rfl) (by kernel_rfl) (S5.out.next (tame_drewN (Below.refl _ w5) 1)) ?_
              refine wq_k (.bool true) (wq_k (.bool true) (wq_k (.int .i64 (-1)) (wq_v (.bool true) (fun W hW => run_eqv (v := .bool (decide ((-1 : Int) < 0))) (by kernel_rfl) (rfl)) (wq_k (.bool true) (wq_n (wq_n (wq_n ?_)))))))
              refine wq_n (wq_n (wq_n (wq_n (wq_n (wq_n (wq_n (wq_n ?_)))))))
              refine wq_n (wq_n (wq_k (.bool true) (wq_k (.bool true) ?_)))
              refine quiet_end rfl (Lib.hid ?_)
              refine Lib.hid ?_
              intro w6 hW
              have S6 := Lib.hid hW.toSO
              clear hW S5
              dsimp only [Exit.then, Act.put]
              simp only [List.setIfInBounds_toArray, List.set_cons_succ, List.set_cons_zero]
              go_wp2_with fail
              go_roundw
              case rel => exact ⟨j + 1, by omega, by go_num, .inr ⟨j, by go_num, HPK⟩, S6⟩
              case measure => simp [intOf]; omega
            · have hb0 : b0 < m.live.length := Nat.lt_of_lt_of_le (pick_some_lt HP.out) hj
              have HLA := Lib.hid (later_nil HL0.out ⟨sid, server, since, slo, shi⟩)
              cases hle : bLt slo (shAt m.live b0).lo with
              | false =>
                have HLE := Lib.hid hle
                have HPK := Lib.hid (show pickN m.live xs (j + 1) = some b0 by simp [HPS.out, HLA.out, HP.out, HLE.out])
                clear hle HPS HP HLA
                go_wp2_with fail
                refine wp_region_class ((SX w b g cap m vu ve (.slice ao xs.length cp) xs wq.heap.size ⟨sid, server, since, slo, shi⟩)) (by kernel_rfl) (by kernel_rfl) (S4.out.next (tame_drewN (Below.refl _ w4) 1)) ?_
                refine wq_k (.slice ao xs.length cp) (wq_k (.int .i64 (xs.length : Int)) (wq_v (.bool true) (fun W hW => run_eqv (v := .bool ((xs.length : Int) == 0)) (by kernel_rfl) ((by rw [HL0.out]; rfl))) (wq_k (.bool true) (wq_n (wq_n (wq_n (wq_n ?_)))))))
                refine wq_n (wq_n (wq_n (wq_n (wq_n (wq_n (wq_n (wq_n ?_)))))))
                refine wq_k (.bool true) (wq_k (.bool true) ?_)
                refine quiet_end rfl (Lib.hid ?_)
                refine Lib.hid ?_
                intro w5 hW
                have S5 := Lib.hid hW
                clear hW S4
                dsimp only [Exit.then, Act.put]
                simp only [List.setIfInBounds_toArray, List.set_cons_succ, List.set_cons_zero]
                go_wp2_with fail
                refine wp_region_class ((SX w b g cap m vu ve (.slice ao xs.length cp) xs wq.heap.size ⟨sid, server, since, slo, shi⟩)) (by kernel_rfl) (by kernel_rfl) (S5.out.next (tame_drewN (Below.refl _ w5) 1)) ?_
                refine wq_k (.bool true) (wq_k (.bool true) (wq_k (.int .i64 ((b0 : Nat) : Int)) (wq_v (.bool false) (fun W hW => run_eqv (v := .bool (decide (((b0 : Nat) : Int) < 0))) (by kernel_rfl) ((by rw [decide_eq_false (by omega)]))) (wq_k (.bool false) (wq_k (.pointer (some ⟨wq.heap.size, 3, none⟩)) (wq_k (.pointer (some ⟨wq.heap.size, 3, none⟩)) (wq_v (.string slo) (fun W hW => run_load1 9 (.tmp 49) (by kernel_rfl) ⟨wq.heap.size, 3, none⟩ (by kernel_rfl) (.string slo) (hW.box.cell 3) _ Tryz.underlying9 rfl) ?_)))))))
                refine wq_k (.pointer (some ⟨b, 0, none⟩)) (wq_k (.pointer (some ⟨b, 0, none⟩)) (wq_k (.pointer (some ⟨b, 0, none⟩)) (wq_v (.slice (some ⟨g, 0, none⟩) m.live.length cap) (fun W hW => run_load1 73 (.tmp 53) (by kernel_rfl) ⟨b, 0, none⟩ (by kernel_rfl) (.slice (some ⟨g, 0, none⟩) m.live.length cap) (hW.blk.cell 0) _ Tryz.underlying73 rfl) (wq_k (.int .i64 ((b0 : Nat) : Int)) (wq_v (.pointer (some ⟨g, b0 * 5, none⟩)) (fun W hW => run_eqv (run_idx 73 (.tmp 54) (.tmp 55) (by kernel_rfl) g 0 m.live.length cap b0 75 5 (by kernel_rfl) (by kernel_rfl) (by omega) Tryz.underlying73 (by kernel_rfl)) (by rw [Nat.zero_add])) (wq_k (.pointer (some ⟨g, b0 * 5 + 3, none⟩)) (wq_k (.pointer (some ⟨g, b0 * 5 + 3, none⟩)) ?_)))))))
                refine wq_v (.string (shAt m.live b0).lo) (fun W hW => run_load1 9 (.tmp 58) (by kernel_rfl) ⟨g, b0 * 5 + 3, none⟩ (by kernel_rfl) (.string (shAt m.live b0).lo) (row_sh' hW.row hb0 3 (by decide)) _ Tryz.underlying9 rfl) (wq_v (.bool false) (fun W hW => run_eqv (v := .bool (Op.bytesLess slo.toList (shAt m.live b0).lo.toList)) (by kernel_rfl) ((by rw [bLt_list, HLE.out]))) (wq_k (.bool false) (wq_k (.bool false) ?_)))
                refine quiet_end rfl (Lib.hid ?_)
                refine Lib.hid ?_
                intro w6 hW
                have S6 := Lib.hid hW.toSO
                clear hW S5
                dsimp only [Exit.then, Act.put]
                simp only [List.setIfInBounds_toArray, List.set_cons_succ, List.set_cons_zero]
                go_wp2_with fail
                go_roundw
                case rel => exact ⟨j + 1, by omega, by go_num, .inr ⟨b0, rfl, HPK⟩, S6⟩
                case measure => simp [intOf]; omega
              | true =>
                have HLE := Lib.hid hle
                have HPK := Lib.hid (show pickN m.live xs (j + 1) = some j by simp [HPS.out, HLA.out, HP.out, HLE.out])
                clear hle HPS HP HLA
                go_wp2_with fail
                refine wp_region_class ((SX w b g cap m vu ve (.slice ao xs.length cp) xs wq.heap.size ⟨sid, server, since, slo, shi⟩)) (by kernel_rfl) (by kernel_rfl) (S4.out.next (tame_drewN (Below.refl _ w4) 1)) ?_
                refine wq_k (.slice ao xs.length cp) (wq_k (.int .i64 (xs.length : Int)) (wq_v (.bool true) (fun W hW => run_eqv (v := .bool ((xs.length : Int) == 0)) (by kernel_rfl) ((by rw [HL0.out]; rfl))) (wq_k (.bool true) (wq_n (wq_n (wq_n (wq_n ?_)))))))
                refine wq_n (wq_n (wq_n (wq_n (wq_n (wq_n (wq_n (wq_n ?_)))))))
                refine wq_k (.bool true) (wq_k (.bool true) ?_)
                refine quiet_end rfl (Lib.hid ?_)
                refine Lib.hid ?_
                intro w5 hW
                have S5 := Lib.hid hW
                clear hW S4
                dsimp only [Exit.then, Act.put]
                simp only [List.setIfInBounds_toArray, List.set_cons_succ, List.set_cons_zero]
                go_wp2_with fail
                refine wp_region_class ((SX w b g cap m vu ve (.slice ao xs.length cp) xs wq.heap.size ⟨sid, server, since, slo, shi⟩)) (by kernel_rfl) (by kernel_rfl) (S5.out.next (tame_drewN (Below.refl _ w5) 1)) ?_
                refine wq_k (.bool true) (wq_k (.bool true) (wq_k (.int .i64 ((b0 : Nat) : Int)) (wq_v (.bool false) (fun W hW => run_eqv (v := .bool (decide (((b0 : Nat) : Int) < 0))) (by kernel_rfl) ((by rw [decide_eq_false (by omega)]))) (wq_k (.bool false) (wq_k (.pointer (some ⟨wq.heap.size, 3, none⟩)) (wq_k (.pointer (some ⟨wq.heap.size, 3, none⟩)) (wq_v (.string slo) (fun W hW => run_load1 9 (.tmp 49) (by kernel_rfl) ⟨wq.heap.size, 3, none⟩ (by kernel_rfl) (.string slo) (hW.box.cell 3) _ Tryz.underlying9 rfl) ?_)))))))
                refine wq_k (.pointer (some ⟨b, 0, none⟩)) (wq_k (.pointer (some ⟨b, 0, none⟩)) (wq_k (.pointer (some ⟨b, 0, none⟩)) (wq_v (.slice (some ⟨g, 0, none⟩) m.live.length cap) (fun W hW => run_load1 73 (.tmp 53) (by kernel_rfl) ⟨b, 0, none⟩ (by kernel_rfl) (.slice (some ⟨g, 0, none⟩) m.live.length cap) (hW.blk.cell 0) _ Tryz.underlying73 rfl) (wq_k (.int .i64 ((b0 : Nat) : Int)) (wq_v (.pointer (some ⟨g, b0 * 5, none⟩)) (fun W hW => run_eqv (run_idx 73 (.tmp 54) (.tmp 55) (by kernel_rfl) g 0 m.live.length cap b0 75 5 (by kernel_rfl) (by kernel_rfl) (by omega) Tryz.underlying73 (by kernel_rfl)) (by rw [Nat.zero_add])) (wq_k (.pointer (some ⟨g, b0 * 5 + 3, none⟩)) (wq_k (.pointer (some ⟨g, b0 * 5 + 3, none⟩)) ?_)))))))
                refine wq_v (.string (shAt m.live b0).lo) (fun W hW => run_load1 9 (.tmp 58) (by kernel_rfl) ⟨g, b0 * 5 + 3, none⟩ (by kernel_rfl) (.string (shAt m.live b0).lo) (row_sh' hW.row hb0 3 (by decide)) _ Tryz.underlying9 rfl) (wq_v (.bool true) (fun W hW => run_eqv (v := .bool (Op.bytesLess slo.toList (shAt m.live b0).lo.toList)) (by kernel_rfl) ((by rw [bLt_list, HLE.out]))) (wq_k (.bool true) (wq_k (.bool true) ?_)))
                refine quiet_end rfl (Lib.hid ?_)
                refine Lib.hid ?_
                intro w6 hW
                have S6 := Lib.hid hW.toSO
                clear hW S5
                dsimp only [Exit.then, Act.put]
                simp only [List.setIfInBounds_toArray, List.set_cons_succ, List.set_cons_zero]
                go_wp2_with fail
                go_roundw
                case rel => exact ⟨j + 1, by omega, by go_num, .inr ⟨j, by go_num, HPK⟩, S6⟩
                case measure => simp [intOf]; omega
          · obtain ⟨n, hn⟩ : ∃ n, xs.length = n + 1 := ⟨xs.length - 1, by omega⟩
            have HL1 := Lib.hid hn
            have HL0 := Lib.hid (show ((xs.length : Int) == 0) = false by rw [hn]; simp; omega)
            have HL2 := Lib.hid hxl
            obtain ⟨ob, oo, rfl, -⟩ := row_flat Sh.cells 5 (by decide) Sh.cells_len S4.out.outRow 0 (by omega)
            have hnx : n < xs.length := by omega
            clear hx0 hn
            rcases HPV with ⟨rfl, HP⟩ | ⟨b0, rfl, HP⟩
            · cases hlt2 : bLt (shAt xs n).lo slo with
              | false =>
                have HLT := Lib.hid hlt2
                have HLA := Lib.hid (show laterP xs ⟨sid, server, since, slo, shi⟩ = false from (later_last HL1.out _).trans hlt2)
                clear hlt2
                have HPK := Lib.hid (show pickN m.live xs (j + 1) = none by rw [HPS.out, HLA.out, HP.out]; rfl)
                clear HPS HP HLA
                go_wp2_with fail
                refine wp_region_class ((SX w b g cap m vu ve (.slice (some ⟨ob, oo, none⟩) xs.length cp) xs wq.heap.size ⟨sid, server, since, slo, shi⟩)) (by kernel_rfl) (by kernel_rfl) (S4.out.next (tame_drewN (Below.refl _ w4) 1)) ?_
                refine wq_k (.slice (some ⟨ob, oo, none⟩) xs.length cp) (wq_k (.int .i64 (xs.length : Int)) (wq_v (.bool false) (fun W hW => run_eqv (v := .bool ((xs.length : Int) == 0)) (by kernel_rfl) ((by rw [HL0.out]))) (wq_k (.bool false) (wq_k (.pointer (some ⟨wq.heap.size, 3, none⟩)) (wq_k (.pointer (some ⟨wq.heap.size, 3, none⟩)) (wq_v (.string slo) (fun W hW => run_load1 9 (.tmp 31) (by kernel_rfl) ⟨wq.heap.size, 3, none⟩ (by kernel_rfl) (.string slo) (hW.box.cell 3) _ Tryz.underlying9 rfl) (wq_k (.slice (some ⟨ob, oo, none⟩) xs.length cp) ?_)))))))
                refine wq_k (.slice (some ⟨ob, oo, none⟩) xs.length cp) (wq_k (.int .i64 (xs.length : Int)) (wq_v (.int .i64 ((n : Nat) : Int)) (fun W hW => run_eqv (v := .int .i64 (IntKind.i64.wrap ((xs.length : Int) - 1))) (by kernel_rfl) (wrap_last xs.length n HL1.out HL2.out)) (wq_v (.pointer (some ⟨ob, oo + n * 5, none⟩)) (fun W hW => run_eqv (run_idx 73 (.tmp 33) (.tmp 36) (by kernel_rfl) ob oo xs.length cp n 75 5 (by kernel_rfl) (by kernel_rfl) (by omega) Tryz.underlying73 (by kernel_rfl)) rfl) (wq_k (.pointer (some ⟨ob, oo + n * 5 + 3, none⟩)) (wq_k (.pointer (some ⟨ob, oo + n * 5 + 3, none⟩)) (wq_v (.string (shAt xs n).lo) (fun W hW => run_load1 9 (.tmp 39) (by kernel_rfl) ⟨ob, oo + n * 5 + 3, none⟩ (by kernel_rfl) (.string (shAt xs n).lo) (row_last hW.toSO HL1.out) _ Tryz.underlying9 rfl) (wq_v (.bool false) (fun W hW => run_eqv (v := .bool (!(Op.bytesLess slo.toList (shAt xs n).lo.toList || (slo.toList == (shAt xs n).lo.toList)))) (by kernel_rfl) ((by rw [bGt_list, HLT.out]))) ?_)))))))
                refine wq_k (.bool false) (wq_k (.bool false) ?_)
                refine quiet_end rfl (Lib.hid ?_)
                refine Lib.hid ?_
                intro w5 hW
                have S5 := Lib.hid hW
                clear hW S4
                dsimp only [Exit.then, Act.put]
                simp only [List.setIfInBounds_toArray, List.set_cons_succ, List.set_cons_zero]
                go_wp2_with fail
                refine wp_region_class ((SX w b g cap m vu ve (.slice (some ⟨ob, oo, none⟩) xs.length cp) xs wq.heap.size ⟨sid, server, since, slo, shi⟩)) (by kernel_rfl) (by kernel_rfl) (S5.out.next (tame_drewN (Below.refl _ w5) 1)) ?_
                refine wq_k (.bool false) (wq_k (.bool false) (wq_n (wq_n (wq_n (wq_n (wq_n (wq_n ?_)))))))
                refine wq_n (wq_n (wq_n (wq_n (wq_n (wq_n (wq_n (wq_n ?_)))))))
                refine wq_n (wq_n (wq_n (wq_k (.bool false) ?_)))
                refine quiet_end rfl (Lib.hid ?_)
                refine Lib.hid ?_
                intro w6 hW
                have S6 := Lib.hid hW.toSO
                clear hW S5
                dsimp only [Exit.then, Act.put]
                simp only [List.setIfInBounds_toArray, List.set_cons_succ, List.set_cons_zero]
                go_wp2_with fail
                go_roundw
                case rel => exact ⟨j + 1, by omega, by go_num, .inl ⟨rfl, HPK⟩, S6⟩
                case measure => simp [intOf]; omega
              | true =>
                have HLT := Lib.hid hlt2
                have HLA := Lib.hid (show laterP xs ⟨sid, server, since, slo, shi⟩ = true from (later_last HL1.out _).trans hlt2)
                clear hlt2
                have HPK := Lib.hid (show pickN m.live xs (j + 1) = some j by rw [HPS.out, HLA.out, HP.out]; rfl)
                clear HPS HP HLA
                go_wp2_with fail
                refine wp_region_class ((SX w b g cap m vu ve (.slice (some ⟨ob, oo, none⟩) xs.length cp) xs wq.heap.size ⟨sid, server, since, slo, shi⟩)) (by kernel_rfl) (by kernel_rfl) (S4.out.next (tame_drewN (Below.refl _ w4) 1)) ?_
                refine wq_k (.slice (some ⟨ob, oo, none⟩) xs.length cp) (wq_k (.int .i64 (xs.length : Int)) (wq_v (.bool false) (fun W hW => run_eqv (v := .bool ((xs.length : Int) == 0)) (by kernel_rfl) ((by rw [HL0.out]))) (wq_k (.bool false) (wq_k (.pointer (some ⟨wq.heap.size, 3, none⟩)) (wq_k (.pointer (some ⟨wq.heap.size, 3, none⟩)) (wq_v (.string slo) (fun W hW => run_load1 9 (.tmp 31) (by kernel_rfl) ⟨wq.heap.size, 3, none⟩ (by kernel_rfl) (.string slo) (hW.box.cell 3) _ Tryz.underlying9 rfl) (wq_k (.slice (some ⟨ob, oo, none⟩) xs.length cp) ?_)))))))
                refine wq_k (.slice (some ⟨ob, oo, none⟩) xs.length cp) (wq_k (.int .i64 (xs.length : Int)) (wq_v (.int .i64 ((n : Nat) : Int)) (fun W hW => run_eqv (v := .int .i64 (IntKind.i64.wrap ((xs.length : Int) - 1))) (by kernel_rfl) (wrap_last xs.length n HL1.out HL2.out)) (wq_v (.pointer (some ⟨ob, oo + n * 5, none⟩)) (fun W hW => run_eqv (run_idx 73 (.tmp 33) (.tmp 36) (by kernel_rfl) ob oo xs.length cp n 75 5 (by kernel_rfl) (by kernel_rfl) (by omega) Tryz.underlying73 (by kernel_rfl)) rfl) (wq_k (.pointer (some ⟨ob, oo + n * 5 + 3, none⟩)) (wq_k (.pointer (some ⟨ob, oo + n * 5 + 3, none⟩)) (wq_v (.string (shAt xs n).lo) (fun W hW => run_load1 9 (.tmp 39) (by kernel_rfl) ⟨ob, oo + n * 5 + 3, none⟩ (by kernel_rfl) (.string (shAt xs n).lo) (row_last hW.toSO HL1.out) _ Tryz.underlying9 rfl) (wq_v (.bool true) (fun W hW => run_eqv (v := .bool (!(Op.bytesLess slo.toList (shAt xs n).lo.toList || (slo.toList == (shAt xs n).lo.toList)))) (by kernel_rfl) ((by rw [bGt_list, HLT.out]))) ?_)))))))
                refine wq_k (.bool true) (wq_k (.bool true) ?_)
                refine quiet_end rfl (Lib.hid ?_)
                refine Lib.hid ?_
                intro w5 hW
                have S5 := Lib.hid hW
                clear hW S4
                dsimp only [Exit.then, Act.put]
                simp only [List.setIfInBounds_toArray, List.set_cons_succ, List.set_cons_zero]
                go_wp2_with fail
                refine wp_region_class ((SX w b g cap m vu ve (.slice (some ⟨ob, oo, none⟩) xs.length cp) xs wq.heap.size ⟨sid, server, since, slo, shi⟩)) (by kernel_rfl) (by kernel_rfl) (S5.out.next (tame_drewN (Below.refl _ w5) 1)) ?_
                refine wq_k (.bool true) (wq_k (.bool true) (wq_k (.int .i64 (-1)) (wq_v (.bool true) (fun W hW => run_eqv (v := .bool (decide ((-1 : Int) < 0))) (by kernel_rfl) (rfl)) (wq_k (.bool true) (wq_n (wq_n (wq_n ?_)))))))
                refine wq_n (wq_n (wq_n (wq_n (wq_n (wq_n (wq_n (wq_n ?_)))))))
                refine wq_n (wq_n (wq_k (.bool true) (wq_k (.bool true) ?_)))
                refine quiet_end rfl (Lib.hid ?_)
                refine Lib.hid ?_
                intro w6 hW
                have S6 := Lib.hid hW.toSO
                clear hW S5
                dsimp only [Exit.then, Act.put]
                simp only [List.setIfInBounds_toArray, List.set_cons_succ, List.set_cons_zero]
                go_wp2_with fail
                go_roundw
                case rel => exact ⟨j + 1, by omega, by go_num, .inr ⟨j, by go_num, HPK⟩, S6⟩
                case measure => simp [intOf]; omega
            · have hb0 : b0 < m.live.length := Nat.lt_of_lt_of_le (pick_some_lt HP.out) hj
              cases hlt2 : bLt (shAt xs n).lo slo with
              | false =>
                have HLT := Lib.hid hlt2
                have HLA := Lib.hid (show laterP xs ⟨sid, server, since, slo, shi⟩ = false from (later_last HL1.out _).trans hlt2)
                clear hlt2
                have HPK := Lib.hid (show pickN m.live xs (j + 1) = some b0 by rw [HPS.out, HLA.out, HP.out]; rfl)
                clear HPS HP HLA
                go_wp2_with fail
                refine wp_region_class ((SX w b g cap m vu ve (.slice (some ⟨ob, oo, none⟩) xs.length cp) xs wq.heap.size ⟨sid, server, since, slo, shi⟩)) (by kernel_rfl) (by kernel_rfl) (S4.out.next (tame_drewN (Below.refl _ w4) 1)) ?_
                refine wq_k (.slice (some ⟨ob, oo, none⟩) xs.length cp) (wq_k (.int .i64 (xs.length : Int)) (wq_v (.bool false) (fun W hW => run_eqv (v := .bool ((xs.length : Int) == 0)) (by kernel_rfl) ((by rw [HL0.out]))) (wq_k (.bool false) (wq_k (.pointer (some ⟨wq.heap.size, 3, none⟩)) (wq_k (.pointer (some ⟨wq.heap.size, 3, none⟩)) (wq_v (.string slo) (fun W hW => run_load1 9 (.tmp 31) (by kernel_rfl) ⟨wq.heap.size, 3, none⟩ (by kernel_rfl) (.string slo) (hW.box.cell 3) _ Tryz.underlying9 rfl) (wq_k (.slice (some ⟨ob, oo, none⟩) xs.length cp) ?_)))))))
                refine wq_k (.slice (some ⟨ob, oo, none⟩) xs.length cp) (wq_k (.int .i64 (xs.length : Int)) (wq_v (.int .i64 ((n : Nat) : Int)) (fun W hW => run_eqv (v := .int .i64 (IntKind.i64.wrap ((xs.length : Int) - 1))) (by kernel_rfl) (wrap_last xs.length n HL1.out HL2.out)) (wq_v (.pointer (some ⟨ob, oo + n * 5, none⟩)) (fun W hW => run_eqv (run_idx 73 (.tmp 33) (.tmp 36) (by kernel_rfl) ob oo xs.length cp n 75 5 (by kernel_rfl) (by kernel_rfl) (by omega) Tryz.underlying73 (by kernel_rfl)) rfl) (wq_k (.pointer (some ⟨ob, oo + n * 5 + 3, none⟩)) (wq_k (.pointer (some ⟨ob, oo + n * 5 + 3, none⟩)) (wq_v (.string (shAt xs n).lo) (fun W hW => run_load1 9 (.tmp 39) (by kernel_rfl) ⟨ob, oo + n * 5 + 3, none⟩ (by kernel_rfl) (.string (shAt xs n).lo) (row_last hW.toSO HL1.out) _ Tryz.underlying9 rfl) (wq_v (.bool false) (fun W hW => run_eqv (v := .bool (!(Op.bytesLess slo.toList (shAt xs n).lo.toList || (slo.toList == (shAt xs n).lo.toList)))) (by kernel_rfl) ((by rw [bGt_list, HLT.out]))) ?_)))))))
                refine wq_k (.bool false) (wq_k (.bool false) ?_)
                refine quiet_end rfl (Lib.hid ?_)
                refine Lib.hid ?_
                intro w5 hW
                have S5 := Lib.hid hW
                clear hW S4
                dsimp only [Exit.then, Act.put]
                simp only [List.setIfInBounds_toArray, List.set_cons_succ, List.set_cons_zero]
                go_wp2_with fail
                refine wp_region_class ((SX w b g cap m vu ve (.slice (some ⟨ob, oo, none⟩) xs.length cp) xs wq.heap.size ⟨sid, server, since, slo, shi⟩)) (by kernel_rfl) (by kernel_rfl) (S5.out.next (tame_drewN (Below.refl _ w5) 1)) ?_
                refine wq_k (.bool false) (wq_k (.bool false) (wq_n (wq_n (wq_n (wq_n (wq_n (wq_n ?_)))))))
                refine wq_n (wq_n (wq_n (wq_n (wq_n (wq_n (wq_n (wq_n ?_)))))))
                refine wq_n (wq_n (wq_n (wq_k (.bool false) ?_)))
                refine quiet_end rfl (Lib.hid ?_)
                refine Lib.hid ?_
                intro w6 hW
                have S6 := Lib.hid hW.toSO
                clear hW S5
                dsimp only [Exit.then, Act.put]
                simp only [List.setIfInBounds_toArray, List.set_cons_succ, List.set_cons_zero]
                go_wp2_with fail
                go_roundw
                case rel => exact ⟨j + 1, by omega, by go_num, .inr ⟨b0, rfl, HPK⟩, S6⟩
                case measure => simp [intOf]; omega
              | true =>
                have HLT := Lib.hid hlt2
                have HLA := Lib.hid (show laterP xs ⟨sid, server, since, slo, shi⟩ = true from (later_last HL1.out _).trans hlt2)
                clear hlt2
                cases hle : bLt slo (shAt m.live b0).lo with
                | false =>
                  have HLE := Lib.hid hle
                  have HPK := Lib.hid (show pickN m.live xs (j + 1) = some b0 by simp [HPS.out, HLA.out, HP.out, HLE.out])
                  clear hle HPS HP HLA
                  go_wp2_with fail
                  refine wp_region_class ((SX w b g cap m vu ve (.slice (some ⟨ob, oo, none⟩) xs.length cp) xs wq.heap.size ⟨sid, server, since, slo, shi⟩)) (by kernel_rfl) (by kernel_rfl) (S4.out.next (tame_drewN (Below.refl _ w4) 1)) ?_
                  refine wq_k (.slice (some ⟨ob, oo, none⟩) xs.length cp) (wq_k (.int .i64 (xs.length : Int)) (wq_v (.bool false) (fun W hW => run_eqv (v := .bool ((xs.length : Int) == 0)) (by kernel_rfl) ((by rw [HL0.out]))) (wq_k (.bool false) (wq_k (.pointer (some ⟨wq.heap.size, 3, none⟩)) (wq_k (.pointer (some ⟨wq.heap.size, 3, none⟩)) (wq_v (.string slo) (fun W hW => run_load1 9 (.tmp 31) (by kernel_rfl) ⟨wq.heap.size, 3, none⟩ (by kernel_rfl) (.string slo) (hW.box.cell 3) _ Tryz.underlying9 rfl) (wq_k (.slice (some ⟨ob, oo, none⟩) xs.length cp) ?_)))))))
                  refine wq_k (.slice (some ⟨ob, oo, none⟩) xs.length cp) (wq_k (.int .i64 (xs.length : Int)) (wq_v (.int .i64 ((n : Nat) : Int)) (fun W hW => run_eqv (v := .int .i64 (IntKind.i64.wrap ((xs.length : Int) - 1))) (by kernel_rfl) (wrap_last xs.length n HL1.out HL2.out)) (wq_v (.pointer (some ⟨ob, oo + n * 5, none⟩)) (fun W hW => run_eqv (run_idx 73 (.tmp 33) (.tmp 36) (by kernel_rfl) ob oo xs.length cp n 75 5 (by kernel_rfl) (by kernel_rfl) (by omega) Tryz.underlying73 (by kernel_rfl)) rfl) (wq_k (.pointer (some ⟨ob, oo + n * 5 + 3, none⟩)) (wq_k (.pointer (some ⟨ob, oo + n * 5 + 3, none⟩)) (wq_v (.string (shAt xs n).lo) (fun W hW => run_load1 9 (.tmp 39) (by kernel_rfl) ⟨ob, oo + n * 5 + 3, none⟩ (by kernel_rfl) (.string (shAt xs n).lo) (row_last hW.toSO HL1.out) _ Tryz.underlying9 rfl) (wq_v (.bool true) (fun W hW => run_eqv (v := .bool (!(Op.bytesLess slo.toList (shAt xs n).lo.toList || (slo.toList == (shAt xs n).lo.toList)))) (by kernel_rfl) ((by rw [bGt_list, HLT.out]))) ?_)))))))
                  refine wq_k (.bool true) (wq_k (.bool true) ?_)
                  refine quiet_end rfl (Lib.hid ?_)
                  refine Lib.hid ?_
                  intro w5 hW
                  have S5 := Lib.hid hW
                  clear hW S4
                  dsimp only [Exit.then, Act.put]
                  simp only [List.setIfInBounds_toArray, List.set_cons_succ, List.set_cons_zero]
                  go_wp2_with fail
                  refine wp_region_class ((SX w b g cap m vu ve (.slice (some ⟨ob, oo, none⟩) xs.length cp) xs wq.heap.size ⟨sid, server, since, slo, shi⟩)) (by kernel_rfl) (by kernel_rfl) (S5.out.next (tame_drewN (Below.refl _ w5) 1)) ?_
                  refine wq_k (.bool true) (wq_k (.bool true) (wq_k (.int .i64 ((b0 : Nat) : Int)) (wq_v (.bool false) (fun W hW => run_eqv (v := .bool (decide (((b0 : Nat) : Int) < 0))) (by kernel_rfl) ((by rw [decide_eq_false (by omega)]))) (wq_k (.bool false) (wq_k (.pointer (some ⟨wq.heap.size, 3, none⟩)) (wq_k (.pointer (some ⟨wq.heap.size, 3, none⟩)) (wq_v (.string slo) (fun W hW => run_load1 9 (.tmp 49) (by kernel_rfl) ⟨wq.heap.size, 3, none⟩ (by kernel_rfl) (.string slo) (hW.box.cell 3) _ Tryz.underlying9 rfl) ?_)))))))
                  refine wq_k (.pointer (some ⟨b, 0, none⟩)) (wq_k (.pointer (some ⟨b, 0, none⟩)) (wq_k (.pointer (some ⟨b, 0, none⟩)) (wq_v (.slice (some ⟨g, 0, none⟩) m.live.length cap) (fun W hW => run_load1 73 (.tmp 53) (by kernel_rfl) ⟨b, 0, none⟩ (by kernel_rfl) (.slice (some ⟨g, 0, none⟩) m.live.length cap) (hW.blk.cell 0) _ Tryz.underlying73 rfl) (wq_k (.int .i64 ((b0 : Nat) : Int)) (wq_v (.pointer (some ⟨g, b0 * 5, none⟩)) (fun W hW => run_eqv (run_idx 73 (.tmp 54) (.tmp 55) (by kernel_rfl) g 0 m.live.length cap b0 75 5 (by kernel_rfl) (by kernel_rfl) (by omega) Tryz.underlying73 (by kernel_rfl)) (by rw [Nat.zero_add])) (wq_k (.pointer (some ⟨g, b0 * 5 + 3, none⟩)) (wq_k (.pointer (some ⟨g, b0 * 5 + 3, none⟩)) ?_)))))))
                  refine wq_v (.string (shAt m.live b0).lo) (fun W hW => run_load1 9 (.tmp 58) (by kernel_rfl) ⟨g, b0 * 5 + 3, none⟩ (by kernel_rfl) (.string (shAt m.live b0).lo) (row_sh' hW.row hb0 3 (by decide)) _ Tryz.underlying9 rfl) (wq_v (.bool false) (fun W hW => run_eqv (v := .bool (Op.bytesLess slo.toList (shAt m.live b0).lo.toList)) (by kernel_rfl) ((by rw [bLt_list, HLE.out]))) (wq_k (.bool false) (wq_k (.bool false) ?_)))
                  refine quiet_end rfl (Lib.hid ?_)
                  refine Lib.hid ?_
                  intro w6 hW
                  have S6 := Lib.hid hW.toSO
                  clear hW S5
                  dsimp only [Exit.then, Act.put]
                  simp only [List.setIfInBounds_toArray, List.set_cons_succ, List.set_cons_zero]
                  go_wp2_with fail
                  go_roundw
                  case rel => exact ⟨j + 1, by omega, by go_num, .inr ⟨b0, rfl, HPK⟩, S6⟩
                  case measure => simp [intOf]; omega
                | true =>
                  have HLE := Lib.hid hle
                  have HPK := Lib.hid (show pickN m.live xs (j + 1) = some j by simp [HPS.out, HLA.out, HP.out, HLE.out])
                  clear hle HPS HP HLA
                  go_wp2_with fail
                  refine wp_region_class ((SX w b g cap m vu ve (.slice (some ⟨ob, oo, none⟩) xs.length cp) xs wq.heap.size ⟨sid, server, since, slo, shi⟩)) (by kernel_rfl) (by kernel_rfl) (S4.out.next (tame_drewN (Below.refl _ w4) 1)) ?_
                  refine wq_k (.slice (some ⟨ob, oo, none⟩) xs.length cp) (wq_k (.int .i64 (xs.length : Int)) (wq_v (.bool false) (fun W hW => run_eqv (v := .bool ((xs.length : Int) == 0)) (by kernel_rfl) ((by rw [HL0.out]))) (wq_k (.bool false) (wq_k (.pointer (some ⟨wq.heap.size, 3, none⟩)) (wq_k (.pointer (some ⟨wq.heap.size, 3, none⟩)) (wq_v (.string slo) (fun W hW => run_load1 9 (.tmp 31) (by kernel_rfl) ⟨wq.heap.size, 3, none⟩ (by kernel_rfl) (.string slo) (hW.box.cell 3) _ Tryz.underlying9 rfl) (wq_k (.slice (some ⟨ob, oo, none⟩) xs.length cp) ?_)))))))
                  refine wq_k (.slice (some ⟨ob, oo, none⟩) xs.length cp) (wq_k (.int .i64 (xs.length : Int)) (wq_v (.int .i64 ((n : Nat) : Int)) (fun W hW => run_eqv (v := .int .i64 (IntKind.i64.wrap ((xs.length : Int) - 1))) (by kernel_rfl) (wrap_last xs.length n HL1.out HL2.out)) (wq_v (.pointer (some ⟨ob, oo + n * 5, none⟩)) (fun W hW => run_eqv (run_idx 73 (.tmp 33) (.tmp 36) (by kernel_rfl) ob oo xs.length cp n 75 5 (by kernel_rfl) (by kernel_rfl) (by omega) Tryz.underlying73 (by kernel_rfl)) rfl) (wq_k (.pointer (some ⟨ob, oo + n * 5 + 3, none⟩)) (wq_k (.pointer (some ⟨ob, oo + n * 5 + 3, none⟩)) (wq_v (.string (shAt xs n).lo) (fun W hW => run_load1 9 (.tmp 39) (by kernel_rfl) ⟨ob, oo + n * 5 + 3, none⟩ (by kernel_rfl) (.string (shAt xs n).lo) (row_last hW.toSO HL1.out) _ Tryz.underlying9 rfl) (wq_v (.bool true) (fun W hW => run_eqv (v := .bool (!(Op.bytesLess slo.toList (shAt xs n).lo.toList || (slo.toList == (shAt xs n).lo.toList)))) (by kernel_rfl) ((by rw [bGt_list, HLT.out]))) ?_)))))))
                  refine wq_k (.bool true) (wq_k (.bool true) ?_)
                  refine quiet_end rfl (Lib.hid ?_)
                  refine Lib.hid ?_
                  intro w5 hW
                  have S5 := Lib.hid hW
                  clear hW S4
                  dsimp only [Exit.then, Act.put]
                  simp only [List.setIfInBounds_toArray, List.set_cons_succ, List.set_cons_zero]
                  go_wp2_with fail
                  refine wp_region_class ((SX w b g cap m vu ve (.slice (some ⟨ob, oo, none⟩) xs.length cp) xs wq.heap.size ⟨sid, server, since, slo, shi⟩)) (by kernel_rfl) (by kernel_rfl) (S5.out.next (tame_drewN (Below.refl _ w5) 1)) ?_
                  refine wq_k (.bool true) (wq_k (.bool true) (wq_k (.int .i64 ((b0 : Nat) : Int)) (wq_v (.bool false) (fun W hW => run_eqv (v := .bool (decide (((b0 : Nat) : Int) < 0))) (by kernel_rfl) ((by rw [decide_eq_false (by omega)]))) (wq_k (.bool false) (wq_k (.pointer (some ⟨wq.heap.size, 3, none⟩)) (wq_k (.pointer (some ⟨wq.heap.size, 3, none⟩)) (wq_v (.string slo) (fun W hW => run_load1 9 (.tmp 49) (by kernel_rfl) ⟨wq.heap.size, 3, none⟩ (by kernel_rfl) (.string slo) (hW.box.cell 3) _ Tryz.underlying9 rfl) ?_)))))))
                  refine wq_k (.pointer (some ⟨b, 0, none⟩)) (wq_k (.pointer (some ⟨b, 0, none⟩)) (wq_k (.pointer (some ⟨b, 0, none⟩)) (wq_v (.slice (some ⟨g, 0, none⟩) m.live.length cap) (fun W hW => run_load1 73 (.tmp 53) (by kernel_rfl) ⟨b, 0, none⟩ (by kernel_rfl) (.slice (some ⟨g, 0, none⟩) m.live.length cap) (hW.blk.cell 0) _ Tryz.underlying73 rfl) (wq_k (.int .i64 ((b0 : Nat) : Int)) (wq_v (.pointer (some ⟨g, b0 * 5, none⟩)) (fun W hW => run_eqv (run_idx 73 (.tmp 54) (.tmp 55) (by kernel_rfl) g 0 m.live.length cap b0 75 5 (by kernel_rfl) (by kernel_rfl) (by omega) Tryz.underlying73 (by kernel_rfl)) (by rw [Nat.zero_add])) (wq_k (.pointer (some ⟨g, b0 * 5 + 3, none⟩)) (wq_k (.pointer (some ⟨g, b0 * 5 + 3, none⟩)) ?_)))))))
                  refine wq_v (.string (shAt m.live b0).lo) (fun W hW => run_load1 9 (.tmp 58) (by kernel_rfl) ⟨g, b0 * 5 + 3, none⟩ (by kernel_rfl) (.string (shAt m.live b0).lo) (row_sh' hW.row hb0 3 (by decide)) _ Tryz.underlying9 rfl) (wq_v (.bool true) (fun W hW => run_eqv (v := .bool (Op.bytesLess slo.toList (shAt m.live b0).lo.toList)) (by kernel_rfl) ((by rw [bLt_list, HLE.out]))) (wq_k (.bool true) (wq_k (.bool true) ?_)))
                  refine quiet_end rfl (Lib.hid ?_)
                  refine Lib.hid ?_
                  intro w6 hW
                  have S6 := Lib.hid hW.toSO
                  clear hW S5
                  dsimp only [Exit.then, Act.put]
                  simp only [List.setIfInBounds_toArray, List.set_cons_succ, List.set_cons_zero]
                  go_wp2_with fail
                  go_roundw
                  case rel => exact ⟨j + 1, by omega, by go_num, .inr ⟨j, by go_num, HPK⟩, S6⟩
                  case measure => simp [intOf]; omega
        · obtain rfl : j = m.live.length := by omega
          rcases HPV with ⟨rfl, HP⟩ | ⟨b0, rfl, HP⟩
          · have HS2 := Lib.hid (show SO w b g cap m vu ve (.slice ao xs.length cp) xs2 wq by rw [HSN.out, HP.out]; exact HL.out)
            clear HSN HP
            go_wp2_with fail
            go_roundw
            case rel => exact ⟨k + 1, by omega, by go_num, by rw [HXE.out]; exact HS2⟩
            case measure => simp [intOf]; omega
          · have hb0 : b0 < m.live.length := pick_some_lt HP.out
            have HX2 := Lib.hid (show xs2 = xs ++ [shAt m.live b0] by rw [HSN.out, HP.out])
            have HRG := Lib.hid (show wq.rangeAt g (b0 * 5) (shAt m.live b0).cells from fun i v hi => by
              have hi5 : i < 5 := by have := (List.getElem?_eq_some_iff.1 hi).1; rw [Sh.cells_len] at this; exact this
              rw [row_sh' HL.out.row hb0 i hi5]; exact hi)
            have HSI := Lib.hid (show (Tryz.prog.info? 75).map (·.size) = some (shAt m.live b0).cells.length by rw [Sh.cells_len]; kernel_rfl)
            have c1 : wq.cell? ⟨b, 0, none⟩ = some (.slice (some ⟨g, 0, none⟩) m.live.length cap) := HL.out.blk.cell 0
            have HOW := Lib.hid HL.out.out
            have HQ2 : Hid (w.heap.size ≤ wq.heap.size) := Lib.hid HL.out.bel.size
            have hnn : ¬ ((b0 : Nat) : Int) < 0 := by omega
            generalize shAt m.live b0 = x at *
            obtain ⟨sid, server, since, slo, shi⟩ := x
            unfold Sh.cells at HRG HSI
            dsimp only at HRG HSI
            clear HSN HP
            go_wp2_with (first | (refine wpList_load_mid rfl 75 (.tmp 73) rfl g (b0 * 5) rfl _ _ HRG.out Tryz.underlying75 rfl HSI.out ?_) | (refine appE rfl (.tmp 67) (.tmp 75) 73 rfl 75 i0 _ 5 56 Tryz.underlying73 HI.out.1 HI.out.2.1 HI.out.2.2.1 HI.out.2.2.2 rfl (by decide) w.heap.size _ xs.length (shRow xs) rfl HOW.out w.heap.size (Nat.le_refl _) HL.out.bel HQ2.out [.int .i64 sid, .int .i64 server, .int .i64 since, .string slo, .string shi] 1 rfl (by decide) (by intro u hu; simp only [List.mem_cons, List.mem_nil_iff, or_false] at hu; rcases hu with rfl | rfl | rfl | rfl | rfl <;> rfl) rfl (by omega) (by decide) ?_))
            refine Lib.hid ?_
            intro v3 w5 h1 h2 h3
            have S5 := Lib.hid (show SO w b g cap m vu ve v3 xs2 w5 from ⟨h2, HBK.out.below h2 HBK.out.lt, HRR.out.below h2, .inr (by rw [HX2.out, List.length_append, List.length_singleton, shRow_app]; exact h1)⟩)
            clear h1 h2 h3 HOW c1
            go_wp2_with fail
            go_roundw
            case rel => exact ⟨k + 1, by omega, by go_num, by rw [HXE.out]; exact S5⟩
            case measure => simp [intOf]; omega
    · obtain rfl : k = m.live.length := by omega
      go_wp2_with fail
      go_ret
      exact ⟨_, rfl, HB.out.out, HB.out.bel⟩
end Go.Proofs.YthjmfcdhpdiehaaGreatDoor
