/-
  slices.Delete of one shard.
-/
import Derived.Test.YthjmfcdhpdiehaaGreatDoorM09
namespace Go.Proofs.YthjmfcdhpdiehaaGreatDoor
open Go.RowKit Utf
set_option maxRecDepth 100000
set_option linter.unusedSimpArgs false
set_option linter.unusedVariables false

theorem Tryz.zeroSh : (∀ u ∈ (Value.agg #[.int .i64 0, .int .i64 0, .int .i64 0, .string ByteArray.empty, .string ByteArray.empty]).cells.toList, u.oneCell' = true) := by
  intro u hu
  simp only [Value.cells, List.mem_cons, List.mem_nil_iff, or_false] at hu
  rcases hu with rfl | rfl | rfl | rfl | rfl <;> rfl
/-- What the append and the clearing make of a row. -/
theorem del_splices (cur R Z : List Value) (N k : Nat) (hR : R.length = (N + 1) * 5) (hk : k ≤ N) (ht : cur.take ((N + 1) * 5) = R) (hl : (N + 1) * 5 ≤ cur.length) (hZ : Z.length = 5) :
    (splice (splice cur (k * 5) (R.drop ((k + 1) * 5))) (N * 5) Z).take (N * 5) = R.take (k * 5) ++ R.drop ((k + 1) * 5) := by
  have hd : (R.drop ((k + 1) * 5)).length = (N - k) * 5 := by rw [List.length_drop, hR]; omega
  have h0 : ∀ (S Y : List Value) o, splice S o Y = S.take o ++ (Y ++ S.drop (o + Y.length)) := fun _ _ _ => rfl
  have hls : (splice cur (k * 5) (R.drop ((k + 1) * 5))).length = cur.length := length_splice _ _ _ (by rw [hd]; omega)
  rw [h0 (splice cur (k * 5) (R.drop ((k + 1) * 5))), List.take_left' (by rw [List.length_take, hls]; omega), h0 cur, ← List.append_assoc]
  have htk : cur.take (k * 5) = R.take (k * 5) := by rw [← ht, List.take_take]; congr 1; omega
  rw [htk, List.take_left' (by rw [List.length_append, hd, List.length_take, hR]; omega)]
theorem row_del (l : List Sh) (k : Nat) : shRow (l.take k ++ l.drop (k + 1)) = (shRow l).take (k * 5) ++ (shRow l).drop ((k + 1) * 5) := by
  have : shRow (l.take k ++ l.drop (k + 1)) = shRow (l.take k) ++ shRow (l.drop (k + 1)) := by simp [shRow]
  rw [this, flat_take, flat_drop]

set_option maxHeartbeats 2000000 in
theorem delete_go (l : List Sh) (N k g cap B : Nat) (cur : List Value) (w : World) (hN : l.length = N + 1) (hk : k ≤ N) (h1N : 1 ≤ N) (hn : N ≤ 100000) (hcap : N + 1 ≤ cap) (hcm : cap ≤ maxLen) (hg : Blk w g 54 cur.toArray) (hlen : cur.length = cap * 5) (ht : cur.take ((N + 1) * 5) = shRow l) (hB : B ≤ g) :
    Calls Tryz.prog 81 #[.slice (some ⟨g, 0, none⟩) (N + 1) cap, .int .i64 (k : Nat), .int .i64 ((k : Int) + 1)] w fun e w' => ∃ v, e = .returned v ∧ w'.ownsRow B 54 5 v N (shRow (l.take k ++ l.drop (k + 1))) ∧ Only (fun k => k = g) w w' := by
  obtain ⟨i0, hinf, hz0, hz1, hz2⟩ := info_parts Tryz.infoSh
  have HI := Lib.hid (And.intro hinf (And.intro hz0 (And.intro hz1 hz2)))
  have HG := Lib.hid hg
  have HRL : Hid ((shRow l).length = (N + 1) * 5) := Lib.hid (by rw [shRow_len, hN])
  have HRO := Lib.hid (shRow_one l)
  have HRW := Lib.hid (row_del l k)
  have HLN := Lib.hid hlen
  have HF1 : Hid (k * 5 + ((shRow l).drop ((k + 1) * 5)).length ≤ cur.length) := Lib.hid (by rw [List.length_drop, HRL.out, hlen]; omega)
  have HF2 : Hid (((shRow l).drop ((k + 1) * 5)).length = (N - k) * 5) := Lib.hid (by rw [List.length_drop, HRL.out]; omega)
  have HSR : ∀ o, (k < N → o = (k + 1) * 5) → Hid (w.rangeAt g o ((shRow l).drop ((k + 1) * 5))) := fun o ho => Lib.hid (hg.range (fun j v hj => by
    have hlt := (List.getElem?_eq_some_iff.1 hj).1
    rw [HF2.out] at hlt
    rw [ho (by omega)]
    rw [← ht, List.getElem?_drop, List.getElem?_take, if_pos (by omega)] at hj
    simpa using hj))
  have HSR := Lib.hid HSR
  have HFIN := Lib.hid (fun (W : World) (us : List Value) (h5 : us.length = 5) (hb : Blk W g 54 (splice (splice cur (k * 5) ((shRow l).drop ((k + 1) * 5))) (N * 5) us).toArray) => show W.ownsRow B 54 5 (.slice (some ⟨g, 0, none⟩) N cap) N (shRow (l.take k ++ l.drop (k + 1))) from
    own_blk hb hB (by rw [HRW.out, List.length_append, HF2.out, List.length_take, HRL.out]; omega) (by omega) hcm (by
      rw [length_splice _ _ _ (by rw [length_splice _ _ _ HF1.out, h5]; omega), length_splice _ _ _ HF1.out, hlen]) (by rw [del_splices cur (shRow l) us N k HRL.out hk ht (by omega) h5, HRW.out]))
  clear hg ht hlen hinf hz0 hz1 hz2
  unfold maxLen at hcm
  have e1 : ((k : Int) == (k : Int) + 1) = false := beq_eq_false_iff_ne.2 (by omega)
  have e2 : ¬ N + 1 = k := by omega
  have e3 : ¬ cap = N := by omega
  go_enter Tryz.func81, Tryz.ntmps81
  go_wp2_with fail
  by_cases hc : cap = k + 1
  ·
    refine wp_region_wb ((fun _ => True)) (by kernel_rfl) (trivial) (fun _ _ _ _ _ h => h) ?_
    intro hS HZQ
    refine wa_k 0 20 (.slice (some ⟨g, 0, none⟩) (N + 1) cap) hS HZQ (wa_k 1 21 (.int .i64 ((k : Nat) : Int)) hS HZQ (wa_v 2 22 (.slice (some ⟨g, 0, none⟩) k cap) hS HZQ (fun W hW => run_eqv (run_slcH 48 (.tmp 20) (.tmp 21) (by kernel_rfl) g 0 (N + 1) cap k 54 5 (by kernel_rfl) (by kernel_rfl) (by omega) Tryz.underlying48 (by kernel_rfl)) rfl) (wa_k 3 23 (.slice (some ⟨g, 0, none⟩) (N + 1) cap) hS HZQ (wa_k 4 24 (.int .i64 ((k + 1 : Nat) : Int)) hS HZQ (wa_v 5 25 (.slice (some ⟨g, 0, none⟩) (N + 1 - (k + 1)) 0) hS HZQ (fun W hW => run_slcE 48 (.tmp 23) (.tmp 24) (by kernel_rfl) g 0 (N + 1) cap (k + 1) 54 5 (by kernel_rfl) (by kernel_rfl) (by omega) (by omega) Tryz.underlying48 (by kernel_rfl)) ?_)))))
    refine wa_r [6] ?_
    refine ar_a (some 26) (fun K hK => ?_) ar_nil
    refine ow_appIn (.tmp 22) (.tmp 25) 48 (by kernel_rfl) 54 i0 5 Tryz.underlying48 HI.out.1 HI.out.2.2.1 g k cap g (0) (N + 1 - (k + 1)) (0) N (by omega) cur 54 ((shRow l).drop ((k + 1) * 5)) (by kernel_rfl) (by kernel_rfl) (HG.out.drewN 1) (by rw [HF2.out]; omega) (HSR.out (0) (by omega)).out HF1.out (fun v hv => HRO.out v (List.mem_of_mem_drop hv)) (by omega) (Lib.hid ?_)
    intro w1 hz1 ho1
    refine hK.out _ _ trivial (fun hS1 => ?_)
    have G1 := Lib.hid hz1
    have O1 := Lib.hid ((((Only.refl (fun k => k = g) w).drewN 1).trans ho1))
    clear hK K hz1 ho1 hS HG HSR HF2
    refine wa_k 7 0 (.slice (some ⟨g, 0, none⟩) N cap) hS1 HZQ ?_
    refine wa_done (by kernel_rfl) ?_
    dsimp only [Exit.then, Act.put]
    simp only [List.setIfInBounds_toArray, List.set_cons_succ, List.set_cons_zero]
    clear hS1 hc
    have HF4 : Hid (N * 5 + (0 + 1) * 5 ≤ (splice cur (k * 5) ((shRow l).drop ((k + 1) * 5))).length) := Lib.hid (by rw [length_splice _ _ _ HF1.out, HLN.out]; omega)
    go_wp2_with (refine wpList_clearN rfl (.tmp 31) 48 rfl 54 i0 _ 5 Tryz.underlying48 HI.out.1 HI.out.2.1 rfl Tryz.zeroSh g (N * 5) 0 (cap - N) (splice cur (k * 5) ((shRow l).drop ((k + 1) * 5))) 54 rfl G1.out HF4.out ?_)
    refine Lib.hid ?_
    intro w2 us hu hz2 ho2
    have R2 := Lib.hid (HFIN.out w2 us (by rw [hu]) hz2)
    have O2 := Lib.hid (O1.out.trans ho2)
    clear hz2 ho2 G1 hu
    go_wp2_with fail
    go_ret
    exact ⟨_, rfl, R2.out, O2.out⟩
  ·
    refine wp_region_wb ((fun _ => True)) (by kernel_rfl) (trivial) (fun _ _ _ _ _ h => h) ?_
    intro hS HZQ
    refine wa_k 0 20 (.slice (some ⟨g, 0, none⟩) (N + 1) cap) hS HZQ (wa_k 1 21 (.int .i64 ((k : Nat) : Int)) hS HZQ (wa_v 2 22 (.slice (some ⟨g, 0, none⟩) k cap) hS HZQ (fun W hW => run_eqv (run_slcH 48 (.tmp 20) (.tmp 21) (by kernel_rfl) g 0 (N + 1) cap k 54 5 (by kernel_rfl) (by kernel_rfl) (by omega) Tryz.underlying48 (by kernel_rfl)) rfl) (wa_k 3 23 (.slice (some ⟨g, 0, none⟩) (N + 1) cap) hS HZQ (wa_k 4 24 (.int .i64 ((k + 1 : Nat) : Int)) hS HZQ (wa_v 5 25 (.slice (some ⟨g, (k + 1) * 5, none⟩) (N + 1 - (k + 1)) (cap - (k + 1))) hS HZQ (fun W hW => run_eqv (run_slcL 48 (.tmp 23) (.tmp 24) (by kernel_rfl) g 0 (N + 1) cap (k + 1) 54 5 (by kernel_rfl) (by kernel_rfl) (by omega) (by omega) Tryz.underlying48 (by kernel_rfl)) (by rw [Nat.zero_add])) ?_)))))
    refine wa_r [6] ?_
    refine ar_a (some 26) (fun K hK => ?_) ar_nil
    refine ow_appIn (.tmp 22) (.tmp 25) 48 (by kernel_rfl) 54 i0 5 Tryz.underlying48 HI.out.1 HI.out.2.2.1 g k cap g ((k + 1) * 5) (N + 1 - (k + 1)) ((cap - (k + 1))) N (by omega) cur 54 ((shRow l).drop ((k + 1) * 5)) (by kernel_rfl) (by kernel_rfl) (HG.out.drewN 1) (by rw [HF2.out]; omega) (HSR.out ((k + 1) * 5) (by omega)).out HF1.out (fun v hv => HRO.out v (List.mem_of_mem_drop hv)) (by omega) (Lib.hid ?_)
    intro w1 hz1 ho1
    refine hK.out _ _ trivial (fun hS1 => ?_)
    have G1 := Lib.hid hz1
    have O1 := Lib.hid ((((Only.refl (fun k => k = g) w).drewN 1).trans ho1))
    clear hK K hz1 ho1 hS HG HSR HF2
    refine wa_k 7 0 (.slice (some ⟨g, 0, none⟩) N cap) hS1 HZQ ?_
    refine wa_done (by kernel_rfl) ?_
    dsimp only [Exit.then, Act.put]
    simp only [List.setIfInBounds_toArray, List.set_cons_succ, List.set_cons_zero]
    clear hS1 hc
    have HF4 : Hid (N * 5 + (0 + 1) * 5 ≤ (splice cur (k * 5) ((shRow l).drop ((k + 1) * 5))).length) := Lib.hid (by rw [length_splice _ _ _ HF1.out, HLN.out]; omega)
    go_wp2_with (refine wpList_clearN rfl (.tmp 31) 48 rfl 54 i0 _ 5 Tryz.underlying48 HI.out.1 HI.out.2.1 rfl Tryz.zeroSh g (N * 5) 0 (cap - N) (splice cur (k * 5) ((shRow l).drop ((k + 1) * 5))) 54 rfl G1.out HF4.out ?_)
    refine Lib.hid ?_
    intro w2 us hu hz2 ho2
    have R2 := Lib.hid (HFIN.out w2 us (by rw [hu]) hz2)
    have O2 := Lib.hid (O1.out.trans ho2)
    clear hz2 ho2 G1 hu
    go_wp2_with fail
    go_ret
    exact ⟨_, rfl, R2.out, O2.out⟩
/-- slices.Delete of one shard. -/
theorem delete_any (l : List Sh) (N k B : Nat) (v : Value) (w : World) (hown : w.ownsRow B 54 5 v l.length (shRow l)) (hN : l.length = N + 1) (hk : k ≤ N) (h1N : 1 ≤ N) (hn : N ≤ 100000) :
    Calls Tryz.prog 81 #[v, .int .i64 (k : Nat), .int .i64 ((k : Int) + 1)] w fun e w' => ∃ v', e = .returned v' ∧ w'.ownsRow B 54 5 v' N (shRow (l.take k ++ l.drop (k + 1))) ∧ Only (fun k => v.ownBlock = some k) w w' := by
  obtain ⟨g, cap, cur, rfl, h1, h2, h3, h4, h5, h6, h7⟩ := own_open hown (by omega)
  rw [hN] at h3 h6 ⊢
  refine (delete_go l N k g cap B cur w hN hk h1N hn h3 h4 h2 h5 h6 h1).mono fun e w' ⟨v', e1, e2, e3⟩ => ⟨v', e1, e2, e3.mono (fun k hk => by subst hk; rfl)⟩
end Go.Proofs.YthjmfcdhpdiehaaGreatDoor
