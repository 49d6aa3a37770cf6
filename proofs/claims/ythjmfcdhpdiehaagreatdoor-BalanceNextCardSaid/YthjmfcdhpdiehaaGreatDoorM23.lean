/-
  tidewaterref20.Apply of an entry that counts: kind 3.
-/
import Derived.Test.YthjmfcdhpdiehaaGreatDoorM22
namespace Go.Proofs.YthjmfcdhpdiehaaGreatDoor
open Go.RowKit Utf
set_option maxRecDepth 100000
set_option linter.unusedSimpArgs false
set_option linter.unusedVariables false

set_option maxHeartbeats 8000000 in
theorem rsplit_any (b B : Nat) (m : RM) (e : EN) (t : Nat) (w : World) (hm : RMAt w B b m) (ha : e.at w) (hc : rcountsP m e = true) (hk : e.kind = 3) (ht : t ≤ 4095) (hln : m.live.length ≤ 9000) (hlu : m.used.length ≤ 9000) (hle : m.evs.length ≤ 9000) (hB : B ≤ w.heap.size) :
    Calls Tryz.prog 30 #[.pointer (some ⟨b, 0, none⟩), .agg e.cells.toArray, .int .i64 (t : Nat)] w fun e' w' => e' = .returned (.bool true) ∧ RMAt w' B b (rsplitP m e t) ∧ Chg RT B w w' := by
  obtain ⟨vl, vu, ve, hm⟩ := hm
  obtain ⟨g, cap, cur, rfl, hgB, hgk, hgc, hgm, hgl, hgt, -⟩ := own_open hm.live hm.l1.1
  have H0 : Hid (RC w b B m e (.slice (some ⟨g, 0, none⟩) m.live.length cap) vu ve (w.alloc (.cells #[.int .i64 e.kind, .int .i64 e.shard, .int .i64 e.other, .int .i64 e.server, .int .i64 e.client, .int .i64 e.seq, .slice e.ao e.no e.co, .string e.key, .int .i64 e.upto, .int .i64 e.part, .int .i64 e.parts, .slice e.ad e.nd e.cd] 44))) := Lib.hid (RC.new hm ha)
  have HK := Lib.hid ha.key
  have HCA := Lib.hid (fun W hm ha => rcounts_any b B m e W hm ha)
  rw [hc] at HCA
  have HM := Lib.hid hm
  have HGK := Lib.hid hgk
  have HGL := Lib.hid hgl
  have HGT := Lib.hid hgt
  have HGM := Lib.hid hgm
  have HGC := Lib.hid hgc
  have HLN := Lib.hid hln
  have HLU := Lib.hid hlu
  have HLE := Lib.hid hle
  have hl1 := hm.l1.1
  cases hf : findN e.shard m.live with
  | none => rw [rcounts_none hf] at hc; cases hc
  | some i =>
  rw [rcounts_some hf, if_neg (by omega), if_pos hk] at hc
  simp only [Bool.and_eq_true, decide_eq_true_eq, Bool.not_eq_true'] at hc
  obtain ⟨⟨⟨hr, hu⟩, hh⟩, hq⟩ := hc
  have hi := (findN_lt hf).1
  have HF := Lib.hid hf
  have HSP := Lib.hid (show rsplitP m e t = _ by unfold rsplitP; rw [hf])
  have HKI := Lib.hid hk
  have HCUT := Lib.hid (fun W => rcut_ok (shAt m.live i).lo (shAt m.live i).hi e.key W (rmap_ok HM.out hi).1 (rmap_ok HM.out hi).2 HK.out hh hq)
  clear hm ha hr hu hh hq hk hf hgk hgl hgt hgm hgc hln hlu hle
  show Calls Tryz.prog 30 #[.pointer (some ⟨b, 0, none⟩), .agg #[.int .i64 e.kind, .int .i64 e.shard, .int .i64 e.other, .int .i64 e.server, .int .i64 e.client, .int .i64 e.seq, .slice e.ao e.no e.co, .string e.key, .int .i64 e.upto, .int .i64 e.part, .int .i64 e.parts, .slice e.ad e.nd e.cd], .int .i64 (t : Nat)] w _
  go_enter Tryz.func30, Tryz.ntmps30
  go_wp2_with (refine wpList_load_hid rfl 44 (.tmp 4) rfl w.heap.size rfl 44 e.cells.toArray H0.out.box _ Tryz.underlying44 rfl (by kernel_rfl) ?_)
  refine Lib.hid ?_
  go_wp2_with fail
  refine (HCA.out _ H0.out.mp H0.out.ent).mono ?_
  rintro e' w1 ⟨rfl, hb1⟩
  have S1 := Lib.hid (H0.out.next hb1)
  clear hb1
  have s1 := S1.out.c1
  have htn : ¬ (4095 : Int) < (t : Int) := by omega
  have htn0 : ¬ (t : Int) < 0 := by omega
  go_wp2_with fail
  refine (rfind_any b B m e.shard _ S1.out.mp).mono ?_
  rintro e' w2 ⟨rfl, hb2⟩
  have S2 := Lib.hid (S1.out.next hb2)
  clear hb2 s1
  rw [HF.out]
  dsimp only [idxI]
  have s0 := S2.out.c0
  have e2 : (e.kind == 2) = false := by rw [HKI.out]; decide
  have e3 : (e.kind == 3) = true := by rw [HKI.out]; decide
  go_wp2_with fail
  apply merge2 (F := fun g8 g9 w' => Below w2.heap.size w2 w' ∧ w2.heap.size ≤ g8 ∧ w2.heap.size ≤ g9 ∧ Blk w' g8 52 #[.string (shAt m.live i).lo, .string e.key] ∧ Blk w' g9 52 #[.string e.key, .string (shAt m.live i).hi])
  case h1 =>
    obtain ⟨i0, hinf, hz0, -, -⟩ := info_parts Tryz.infoSp
    have HI := Lib.hid (And.intro hinf hz0)
    clear hinf hz0
    refine wp_region_wb ((Below w2.heap.size w2)) (by kernel_rfl) (tame_drewN (Below.refl _ w2) 1) (fun _ _ _ _ _ h => nomatch h.1) ?_
    intro hS HZQ
    refine wa_k 0 46 (.pointer (some ⟨b, 0, none⟩)) hS HZQ (wa_k 1 47 (.pointer (some ⟨b, 0, none⟩)) hS HZQ (wa_k 2 48 (.pointer (some ⟨b, 0, none⟩)) hS HZQ (wa_v 3 49 (.slice (some ⟨g, 0, none⟩) m.live.length cap) hS HZQ (fun W hW => run_load1 73 (.tmp 48) (by kernel_rfl) ⟨b, 0, none⟩ (by kernel_rfl) (.slice (some ⟨g, 0, none⟩) m.live.length cap) ((S2.out.next hW).map.blk.cell 0) _ Tryz.underlying73 rfl) (wa_k 4 50 (.int .i64 ((i : Nat) : Int)) hS HZQ (wa_v 5 51 (.pointer (some ⟨g, i * 5, none⟩)) hS HZQ (fun W hW => run_eqv (run_idx 73 (.tmp 49) (.tmp 50) (by kernel_rfl) g 0 m.live.length cap i 75 5 (by kernel_rfl) (by kernel_rfl) (by omega) Tryz.underlying73 (by kernel_rfl)) (by rw [Nat.zero_add])) (wa_k 6 52 (.pointer (some ⟨g, i * 5 + 3, none⟩)) hS HZQ (wa_v 7 53 (.agg #[.string (shAt m.live i).lo, .string (shAt m.live i).hi]) hS HZQ (fun W hW => run_eqv (run_loadN 52 (.tmp 52) (by kernel_rfl) g (i * 5 + 3) (by kernel_rfl) [.string (shAt m.live i).lo, .string (shAt m.live i).hi] (row_span (own_row1 (S2.out.next hW).map.live) hi) _ Tryz.underlying52 rfl (by kernel_rfl)) rfl) ?_)))))))
    refine wa_k 8 54 (.pointer (some ⟨w.heap.size, 7, none⟩)) hS HZQ (wa_v 9 55 (.string e.key) hS HZQ (fun W hW => run_load1 9 (.tmp 54) (by kernel_rfl) ⟨w.heap.size, 7, none⟩ (by kernel_rfl) (.string e.key) ((S2.out.next hW).c7) _ Tryz.underlying9 rfl) ?_)
    refine wa_r [10, 15, 16] ?_
    refine (ar_a (some 56) (fun K hK => ?_) (ar_a (some 8) (fun K hK => ?_) (ar_a (some 9) (fun K hK => ?_) ar_nil)))
    ·
      refine ow_call 60 #[.agg #[.string (shAt m.live i).lo, .string (shAt m.live i).hi], .string e.key] (by kernel_rfl) (fun v w' => v = .tuple #[.agg #[.string (shAt m.live i).lo, .string e.key], .agg #[.string e.key, .string (shAt m.live i).hi], .int .i64 0] ∧ Below _ _ w') ((HCUT.out _).mono fun e' w' h => ⟨_, h.1, rfl, h.2⟩) (Lib.hid ?_)
      rintro v wx ⟨rfl, hbx⟩
      refine hK.out _ _ (hS.trans (hbx.mono hS.size)) (fun hS => ?_)
      try have H7 := Lib.hid (H7.out.below hbx H7.out.lt)
      try have H8 := Lib.hid (H8.out.below hbx H8.out.lt)
      clear hK K hbx
      refine wa_k 11 45 (.tuple #[.agg #[.string (shAt m.live i).lo, .string e.key], .agg #[.string e.key, .string (shAt m.live i).hi], .int .i64 0]) hS HZQ (wa_k 12 57 (.agg #[.string (shAt m.live i).lo, .string e.key]) hS HZQ (wa_k 13 58 (.agg #[.string e.key, .string (shAt m.live i).hi]) hS HZQ (wa_k 14 59 (.int .i64 0) hS HZQ ?_)))
      refine wa_r [15, 16] ?_
      refine (ar_a (some 8) (fun K hK => ?_) (ar_a (some 9) (fun K hK => ?_) ar_nil))
      ·
        refine ow_alloc 52 (by kernel_rfl) i0 _ HI.out.1 HI.out.2 (Lib.hid ?_)
        intro g7 wx hg7 hz hbx
        refine hK.out _ _ (hS.trans (hbx.mono hS.size)) (fun hS' => ?_)
        have G7 := Lib.hid (show w2.heap.size ≤ g7 by rw [hg7]; exact hS.size)
        try have HNE := Lib.hid (show g8 ≠ g7 by rw [hg7]; exact Nat.ne_of_lt H8.out.lt)
        try have H8 := Lib.hid (H8.out.below hbx H8.out.lt)
        have H7 := Lib.hid hz
        clear hK K hbx hg7 hz
        have hS := hS'
        clear hS'
        refine wa_r [16] ?_
        refine ar_a (some 9) (fun K hK => ?_) ar_nil
        refine ow_alloc 52 (by kernel_rfl) i0 _ HI.out.1 HI.out.2 (Lib.hid ?_)
        intro g8 wx hg8 hz hbx
        refine hK.out _ _ (hS.trans (hbx.mono hS.size)) (fun hS' => ?_)
        have G8 := Lib.hid (show w2.heap.size ≤ g8 by rw [hg8]; exact hS.size)
        try have HNE := Lib.hid (show g8 ≠ g7 by rw [hg8]; exact Nat.ne_of_gt H7.out.lt)
        try have H7 := Lib.hid (H7.out.below hbx H7.out.lt)
        have H8 := Lib.hid hz
        clear hK K hbx hg8 hz
        have hS := hS'
        clear hS'
        refine wa_r [17] ?_
        refine ar_a none (fun K hK => ?_) ar_nil
        refine ow_store_blk 52 (.tmp 8) (.tmp 57) (by kernel_rfl) g7 #[.string (shAt m.live i).lo, .string e.key] (by kernel_rfl) (by kernel_rfl) 52 #[.string ⟨#[]⟩, .string ⟨#[]⟩] H7.out rfl (by kernel_rfl) (by kernel_rfl) (Lib.hid ?_)
        intro wx hz hox
        refine hK.out _ _ (hS.trans (hox.to_below hS.size (fun q hq e => by have := G7.out; omega))) (fun hS => ?_)
        have H7 := Lib.hid hz
        have H8 := Lib.hid (H8.out.only hox HNE.out)
        clear hK K hz hox
        refine wa_r [18] ?_
        refine ar_a none (fun K hK => ?_) ar_nil
        refine ow_store_blk 52 (.tmp 9) (.tmp 58) (by kernel_rfl) g8 #[.string e.key, .string (shAt m.live i).hi] (by kernel_rfl) (by kernel_rfl) 52 #[.string ⟨#[]⟩, .string ⟨#[]⟩] H8.out rfl (by kernel_rfl) (by kernel_rfl) (Lib.hid ?_)
        intro wx hz hox
        refine hK.out _ _ (hS.trans (hox.to_below hS.size (fun q hq e => by have := G8.out; omega))) (fun hS => ?_)
        have H8 := Lib.hid hz
        have H7 := Lib.hid (H7.out.only hox (fun e => HNE.out e.symm))
        clear hK K hz hox
        refine wa_k 19 10 (.int .i64 0) hS HZQ ?_
        refine wa_done (by kernel_rfl) ?_
        dsimp only [Exit.then, Act.put]
        simp only [List.setIfInBounds_toArray, List.set_cons_succ, List.set_cons_zero]
        refine ⟨by trivial, g7, g8, rfl, hS, G7.out, G8.out, H7.out, H8.out⟩
      ·
        refine ow_alloc 52 (by kernel_rfl) i0 _ HI.out.1 HI.out.2 (Lib.hid ?_)
        intro g8 wx hg8 hz hbx
        refine hK.out _ _ (hS.trans (hbx.mono hS.size)) (fun hS' => ?_)
        have G8 := Lib.hid (show w2.heap.size ≤ g8 by rw [hg8]; exact hS.size)
        try have HNE := Lib.hid (show g8 ≠ g7 by rw [hg8]; exact Nat.ne_of_gt H7.out.lt)
        try have H7 := Lib.hid (H7.out.below hbx H7.out.lt)
        have H8 := Lib.hid hz
        clear hK K hbx hg8 hz
        have hS := hS'
        clear hS'
        refine wa_r [15] ?_
        refine ar_a (some 8) (fun K hK => ?_) ar_nil
        refine ow_alloc 52 (by kernel_rfl) i0 _ HI.out.1 HI.out.2 (Lib.hid ?_)
        intro g7 wx hg7 hz hbx
        refine hK.out _ _ (hS.trans (hbx.mono hS.size)) (fun hS' => ?_)
        have G7 := Lib.hid (show w2.heap.size ≤ g7 by rw [hg7]; exact hS.size)
        try have HNE := Lib.hid (show g8 ≠ g7 by rw [hg7]; exact Nat.ne_of_lt H8.out.lt)
        try have H8 := Lib.hid (H8.out.below hbx H8.out.lt)
        have H7 := Lib.hid hz
        clear hK K hbx hg7 hz
        have hS := hS'
        clear hS'
        refine wa_r [17] ?_
        refine ar_a none (fun K hK => ?_) ar_nil
        refine ow_store_blk 52 (.tmp 8) (.tmp 57) (by kernel_rfl) g7 #[.string (shAt m.live i).lo, .string e.key] (by kernel_rfl) (by kernel_rfl) 52 #[.string ⟨#[]⟩, .string ⟨#[]⟩] H7.out rfl (by kernel_rfl) (by kernel_rfl) (Lib.hid ?_)
        intro wx hz hox
        refine hK.out _ _ (hS.trans (hox.to_below hS.size (fun q hq e => by have := G7.out; omega))) (fun hS => ?_)
        have H7 := Lib.hid hz
        have H8 := Lib.hid (H8.out.only hox HNE.out)
        clear hK K hz hox
        refine wa_r [18] ?_
        refine ar_a none (fun K hK => ?_) ar_nil
        refine ow_store_blk 52 (.tmp 9) (.tmp 58) (by kernel_rfl) g8 #[.string e.key, .string (shAt m.live i).hi] (by kernel_rfl) (by kernel_rfl) 52 #[.string ⟨#[]⟩, .string ⟨#[]⟩] H8.out rfl (by kernel_rfl) (by kernel_rfl) (Lib.hid ?_)
        intro wx hz hox
        refine hK.out _ _ (hS.trans (hox.to_below hS.size (fun q hq e => by have := G8.out; omega))) (fun hS => ?_)
        have H8 := Lib.hid hz
        have H7 := Lib.hid (H7.out.only hox (fun e => HNE.out e.symm))
        clear hK K hz hox
        refine wa_k 19 10 (.int .i64 0) hS HZQ ?_
        refine wa_done (by kernel_rfl) ?_
        dsimp only [Exit.then, Act.put]
        simp only [List.setIfInBounds_toArray, List.set_cons_succ, List.set_cons_zero]
        refine ⟨by trivial, g7, g8, rfl, hS, G7.out, G8.out, H7.out, H8.out⟩
    ·
      refine ow_alloc 52 (by kernel_rfl) i0 _ HI.out.1 HI.out.2 (Lib.hid ?_)
      intro g7 wx hg7 hz hbx
      refine hK.out _ _ (hS.trans (hbx.mono hS.size)) (fun hS' => ?_)
      have G7 := Lib.hid (show w2.heap.size ≤ g7 by rw [hg7]; exact hS.size)
      try have HNE := Lib.hid (show g8 ≠ g7 by rw [hg7]; exact Nat.ne_of_lt H8.out.lt)
      try have H8 := Lib.hid (H8.out.below hbx H8.out.lt)
      have H7 := Lib.hid hz
      clear hK K hbx hg7 hz
      have hS := hS'
      clear hS'
      refine wa_r [10, 16] ?_
      refine (ar_a (some 56) (fun K hK => ?_) (ar_a (some 9) (fun K hK => ?_) ar_nil))
      ·
        refine ow_call 60 #[.agg #[.string (shAt m.live i).lo, .string (shAt m.live i).hi], .string e.key] (by kernel_rfl) (fun v w' => v = .tuple #[.agg #[.string (shAt m.live i).lo, .string e.key], .agg #[.string e.key, .string (shAt m.live i).hi], .int .i64 0] ∧ Below _ _ w') ((HCUT.out _).mono fun e' w' h => ⟨_, h.1, rfl, h.2⟩) (Lib.hid ?_)
        rintro v wx ⟨rfl, hbx⟩
        refine hK.out _ _ (hS.trans (hbx.mono hS.size)) (fun hS => ?_)
        try have H7 := Lib.hid (H7.out.below hbx H7.out.lt)
        try have H8 := Lib.hid (H8.out.below hbx H8.out.lt)
        clear hK K hbx
        refine wa_k 11 45 (.tuple #[.agg #[.string (shAt m.live i).lo, .string e.key], .agg #[.string e.key, .string (shAt m.live i).hi], .int .i64 0]) hS HZQ (wa_k 12 57 (.agg #[.string (shAt m.live i).lo, .string e.key]) hS HZQ (wa_k 13 58 (.agg #[.string e.key, .string (shAt m.live i).hi]) hS HZQ (wa_k 14 59 (.int .i64 0) hS HZQ ?_)))
        refine wa_r [16] ?_
        refine ar_a (some 9) (fun K hK => ?_) ar_nil
        refine ow_alloc 52 (by kernel_rfl) i0 _ HI.out.1 HI.out.2 (Lib.hid ?_)
        intro g8 wx hg8 hz hbx
        refine hK.out _ _ (hS.trans (hbx.mono hS.size)) (fun hS' => ?_)
        have G8 := Lib.hid (show w2.heap.size ≤ g8 by rw [hg8]; exact hS.size)
        try have HNE := Lib.hid (show g8 ≠ g7 by rw [hg8]; exact Nat.ne_of_gt H7.out.lt)
        try have H7 := Lib.hid (H7.out.below hbx H7.out.lt)
        have H8 := Lib.hid hz
        clear hK K hbx hg8 hz
        have hS := hS'
        clear hS'
        refine wa_r [17] ?_
        refine ar_a none (fun K hK => ?_) ar_nil
        refine ow_store_blk 52 (.tmp 8) (.tmp 57) (by kernel_rfl) g7 #[.string (shAt m.live i).lo, .string e.key] (by kernel_rfl) (by kernel_rfl) 52 #[.string ⟨#[]⟩, .string ⟨#[]⟩] H7.out rfl (by kernel_rfl) (by kernel_rfl) (Lib.hid ?_)
        intro wx hz hox
        refine hK.out _ _ (hS.trans (hox.to_below hS.size (fun q hq e => by have := G7.out; omega))) (fun hS => ?_)
        have H7 := Lib.hid hz
        have H8 := Lib.hid (H8.out.only hox HNE.out)
        clear hK K hz hox
        refine wa_r [18] ?_
        refine ar_a none (fun K hK => ?_) ar_nil
        refine ow_store_blk 52 (.tmp 9) (.tmp 58) (by kernel_rfl) g8 #[.string e.key, .string (shAt m.live i).hi] (by kernel_rfl) (by kernel_rfl) 52 #[.string ⟨#[]⟩, .string ⟨#[]⟩] H8.out rfl (by kernel_rfl) (by kernel_rfl) (Lib.hid ?_)
        intro wx hz hox
        refine hK.out _ _ (hS.trans (hox.to_below hS.size (fun q hq e => by have := G8.out; omega))) (fun hS => ?_)
        have H8 := Lib.hid hz
        have H7 := Lib.hid (H7.out.only hox (fun e => HNE.out e.symm))
        clear hK K hz hox
        refine wa_k 19 10 (.int .i64 0) hS HZQ ?_
        refine wa_done (by kernel_rfl) ?_
        dsimp only [Exit.then, Act.put]
        simp only [List.setIfInBounds_toArray, List.set_cons_succ, List.set_cons_zero]
        refine ⟨by trivial, g7, g8, rfl, hS, G7.out, G8.out, H7.out, H8.out⟩
      ·
        refine ow_alloc 52 (by kernel_rfl) i0 _ HI.out.1 HI.out.2 (Lib.hid ?_)
        intro g8 wx hg8 hz hbx
        refine hK.out _ _ (hS.trans (hbx.mono hS.size)) (fun hS' => ?_)
        have G8 := Lib.hid (show w2.heap.size ≤ g8 by rw [hg8]; exact hS.size)
        try have HNE := Lib.hid (show g8 ≠ g7 by rw [hg8]; exact Nat.ne_of_gt H7.out.lt)
        try have H7 := Lib.hid (H7.out.below hbx H7.out.lt)
        have H8 := Lib.hid hz
        clear hK K hbx hg8 hz
        have hS := hS'
        clear hS'
        refine wa_r [10] ?_
        refine ar_a (some 56) (fun K hK => ?_) ar_nil
        refine ow_call 60 #[.agg #[.string (shAt m.live i).lo, .string (shAt m.live i).hi], .string e.key] (by kernel_rfl) (fun v w' => v = .tuple #[.agg #[.string (shAt m.live i).lo, .string e.key], .agg #[.string e.key, .string (shAt m.live i).hi], .int .i64 0] ∧ Below _ _ w') ((HCUT.out _).mono fun e' w' h => ⟨_, h.1, rfl, h.2⟩) (Lib.hid ?_)
        rintro v wx ⟨rfl, hbx⟩
        refine hK.out _ _ (hS.trans (hbx.mono hS.size)) (fun hS => ?_)
        try have H7 := Lib.hid (H7.out.below hbx H7.out.lt)
        try have H8 := Lib.hid (H8.out.below hbx H8.out.lt)
        clear hK K hbx
        refine wa_k 11 45 (.tuple #[.agg #[.string (shAt m.live i).lo, .string e.key], .agg #[.string e.key, .string (shAt m.live i).hi], .int .i64 0]) hS HZQ (wa_k 12 57 (.agg #[.string (shAt m.live i).lo, .string e.key]) hS HZQ (wa_k 13 58 (.agg #[.string e.key, .string (shAt m.live i).hi]) hS HZQ (wa_k 14 59 (.int .i64 0) hS HZQ ?_)))
        refine wa_r [17] ?_
        refine ar_a none (fun K hK => ?_) ar_nil
        refine ow_store_blk 52 (.tmp 8) (.tmp 57) (by kernel_rfl) g7 #[.string (shAt m.live i).lo, .string e.key] (by kernel_rfl) (by kernel_rfl) 52 #[.string ⟨#[]⟩, .string ⟨#[]⟩] H7.out rfl (by kernel_rfl) (by kernel_rfl) (Lib.hid ?_)
        intro wx hz hox
        refine hK.out _ _ (hS.trans (hox.to_below hS.size (fun q hq e => by have := G7.out; omega))) (fun hS => ?_)
        have H7 := Lib.hid hz
        have H8 := Lib.hid (H8.out.only hox HNE.out)
        clear hK K hz hox
        refine wa_r [18] ?_
        refine ar_a none (fun K hK => ?_) ar_nil
        refine ow_store_blk 52 (.tmp 9) (.tmp 58) (by kernel_rfl) g8 #[.string e.key, .string (shAt m.live i).hi] (by kernel_rfl) (by kernel_rfl) 52 #[.string ⟨#[]⟩, .string ⟨#[]⟩] H8.out rfl (by kernel_rfl) (by kernel_rfl) (Lib.hid ?_)
        intro wx hz hox
        refine hK.out _ _ (hS.trans (hox.to_below hS.size (fun q hq e => by have := G8.out; omega))) (fun hS => ?_)
        have H8 := Lib.hid hz
        have H7 := Lib.hid (H7.out.only hox (fun e => HNE.out e.symm))
        clear hK K hz hox
        refine wa_k 19 10 (.int .i64 0) hS HZQ ?_
        refine wa_done (by kernel_rfl) ?_
        dsimp only [Exit.then, Act.put]
        simp only [List.setIfInBounds_toArray, List.set_cons_succ, List.set_cons_zero]
        refine ⟨by trivial, g7, g8, rfl, hS, G7.out, G8.out, H7.out, H8.out⟩
    ·
      refine ow_alloc 52 (by kernel_rfl) i0 _ HI.out.1 HI.out.2 (Lib.hid ?_)
      intro g8 wx hg8 hz hbx
      refine hK.out _ _ (hS.trans (hbx.mono hS.size)) (fun hS' => ?_)
      have G8 := Lib.hid (show w2.heap.size ≤ g8 by rw [hg8]; exact hS.size)
      try have HNE := Lib.hid (show g8 ≠ g7 by rw [hg8]; exact Nat.ne_of_gt H7.out.lt)
      try have H7 := Lib.hid (H7.out.below hbx H7.out.lt)
      have H8 := Lib.hid hz
      clear hK K hbx hg8 hz
      have hS := hS'
      clear hS'
      refine wa_r [10, 15] ?_
      refine (ar_a (some 56) (fun K hK => ?_) (ar_a (some 8) (fun K hK => ?_) ar_nil))
      ·
        refine ow_call 60 #[.agg #[.string (shAt m.live i).lo, .string (shAt m.live i).hi], .string e.key] (by kernel_rfl) (fun v w' => v = .tuple #[.agg #[.string (shAt m.live i).lo, .string e.key], .agg #[.string e.key, .string (shAt m.live i).hi], .int .i64 0] ∧ Below _ _ w') ((HCUT.out _).mono fun e' w' h => ⟨_, h.1, rfl, h.2⟩) (Lib.hid ?_)
        rintro v wx ⟨rfl, hbx⟩
        refine hK.out _ _ (hS.trans (hbx.mono hS.size)) (fun hS => ?_)
        try have H7 := Lib.hid (H7.out.below hbx H7.out.lt)
        try have H8 := Lib.hid (H8.out.below hbx H8.out.lt)
        clear hK K hbx
        refine wa_k 11 45 (.tuple #[.agg #[.string (shAt m.live i).lo, .string e.key], .agg #[.string e.key, .string (shAt m.live i).hi], .int .i64 0]) hS HZQ (wa_k 12 57 (.agg #[.string (shAt m.live i).lo, .string e.key]) hS HZQ (wa_k 13 58 (.agg #[.string e.key, .string (shAt m.live i).hi]) hS HZQ (wa_k 14 59 (.int .i64 0) hS HZQ ?_)))
        refine wa_r [15] ?_
        refine ar_a (some 8) (fun K hK => ?_) ar_nil
        refine ow_alloc 52 (by kernel_rfl) i0 _ HI.out.1 HI.out.2 (Lib.hid ?_)
        intro g7 wx hg7 hz hbx
        refine hK.out _ _ (hS.trans (hbx.mono hS.size)) (fun hS' => ?_)
        have G7 := Lib.hid (show w2.heap.size ≤ g7 by rw [hg7]; exact hS.size)
        try have HNE := Lib.hid (show g8 ≠ g7 by rw [hg7]; exact Nat.ne_of_lt H8.out.lt)
        try have H8 := Lib.hid (H8.out.below hbx H8.out.lt)
        have H7 := Lib.hid hz
        clear hK K hbx hg7 hz
        have hS := hS'
        clear hS'
        refine wa_r [17] ?_
        refine ar_a none (fun K hK => ?_) ar_nil
        refine ow_store_blk 52 (.tmp 8) (.tmp 57) (by kernel_rfl) g7 #[.string (shAt m.live i).lo, .string e.key] (by kernel_rfl) (by kernel_rfl) 52 #[.string ⟨#[]⟩, .string ⟨#[]⟩] H7.out rfl (by kernel_rfl) (by kernel_rfl) (Lib.hid ?_)
        intro wx hz hox
        refine hK.out _ _ (hS.trans (hox.to_below hS.size (fun q hq e => by have := G7.out; omega))) (fun hS => ?_)
        have H7 := Lib.hid hz
        have H8 := Lib.hid (H8.out.only hox HNE.out)
        clear hK K hz hox
        refine wa_r [18] ?_
        refine ar_a none (fun K hK => ?_) ar_nil
        refine ow_store_blk 52 (.tmp 9) (.tmp 58) (by kernel_rfl) g8 #[.string e.key, .string (shAt m.live i).hi] (by kernel_rfl) (by kernel_rfl) 52 #[.string ⟨#[]⟩, .string ⟨#[]⟩] H8.out rfl (by kernel_rfl) (by kernel_rfl) (Lib.hid ?_)
        intro wx hz hox
        refine hK.out _ _ (hS.trans (hox.to_below hS.size (fun q hq e => by have := G8.out; omega))) (fun hS => ?_)
        have H8 := Lib.hid hz
        have H7 := Lib.hid (H7.out.only hox (fun e => HNE.out e.symm))
        clear hK K hz hox
        refine wa_k 19 10 (.int .i64 0) hS HZQ ?_
        refine wa_done (by kernel_rfl) ?_
        dsimp only [Exit.then, Act.put]
        simp only [List.setIfInBounds_toArray, List.set_cons_succ, List.set_cons_zero]
        refine ⟨by trivial, g7, g8, rfl, hS, G7.out, G8.out, H7.out, H8.out⟩
      ·
        refine ow_alloc 52 (by kernel_rfl) i0 _ HI.out.1 HI.out.2 (Lib.hid ?_)
        intro g7 wx hg7 hz hbx
        refine hK.out _ _ (hS.trans (hbx.mono hS.size)) (fun hS' => ?_)
        have G7 := Lib.hid (show w2.heap.size ≤ g7 by rw [hg7]; exact hS.size)
        try have HNE := Lib.hid (show g8 ≠ g7 by rw [hg7]; exact Nat.ne_of_lt H8.out.lt)
        try have H8 := Lib.hid (H8.out.below hbx H8.out.lt)
        have H7 := Lib.hid hz
        clear hK K hbx hg7 hz
        have hS := hS'
        clear hS'
        refine wa_r [10] ?_
        refine ar_a (some 56) (fun K hK => ?_) ar_nil
        refine ow_call 60 #[.agg #[.string (shAt m.live i).lo, .string (shAt m.live i).hi], .string e.key] (by kernel_rfl) (fun v w' => v = .tuple #[.agg #[.string (shAt m.live i).lo, .string e.key], .agg #[.string e.key, .string (shAt m.live i).hi], .int .i64 0] ∧ Below _ _ w') ((HCUT.out _).mono fun e' w' h => ⟨_, h.1, rfl, h.2⟩) (Lib.hid ?_)
        rintro v wx ⟨rfl, hbx⟩
        refine hK.out _ _ (hS.trans (hbx.mono hS.size)) (fun hS => ?_)
        try have H7 := Lib.hid (H7.out.below hbx H7.out.lt)
        try have H8 := Lib.hid (H8.out.below hbx H8.out.lt)
        clear hK K hbx
        refine wa_k 11 45 (.tuple #[.agg #[.string (shAt m.live i).lo, .string e.key], .agg #[.string e.key, .string (shAt m.live i).hi], .int .i64 0]) hS HZQ (wa_k 12 57 (.agg #[.string (shAt m.live i).lo, .string e.key]) hS HZQ (wa_k 13 58 (.agg #[.string e.key, .string (shAt m.live i).hi]) hS HZQ (wa_k 14 59 (.int .i64 0) hS HZQ ?_)))
        refine wa_r [17] ?_
        refine ar_a none (fun K hK => ?_) ar_nil
        refine ow_store_blk 52 (.tmp 8) (.tmp 57) (by kernel_rfl) g7 #[.string (shAt m.live i).lo, .string e.key] (by kernel_rfl) (by kernel_rfl) 52 #[.string ⟨#[]⟩, .string ⟨#[]⟩] H7.out rfl (by kernel_rfl) (by kernel_rfl) (Lib.hid ?_)
        intro wx hz hox
        refine hK.out _ _ (hS.trans (hox.to_below hS.size (fun q hq e => by have := G7.out; omega))) (fun hS => ?_)
        have H7 := Lib.hid hz
        have H8 := Lib.hid (H8.out.only hox HNE.out)
        clear hK K hz hox
        refine wa_r [18] ?_
        refine ar_a none (fun K hK => ?_) ar_nil
        refine ow_store_blk 52 (.tmp 9) (.tmp 58) (by kernel_rfl) g8 #[.string e.key, .string (shAt m.live i).hi] (by kernel_rfl) (by kernel_rfl) 52 #[.string ⟨#[]⟩, .string ⟨#[]⟩] H8.out rfl (by kernel_rfl) (by kernel_rfl) (Lib.hid ?_)
        intro wx hz hox
        refine hK.out _ _ (hS.trans (hox.to_below hS.size (fun q hq e => by have := G8.out; omega))) (fun hS => ?_)
        have H8 := Lib.hid hz
        have H7 := Lib.hid (H7.out.only hox (fun e => HNE.out e.symm))
        clear hK K hz hox
        refine wa_k 19 10 (.int .i64 0) hS HZQ ?_
        refine wa_done (by kernel_rfl) ?_
        dsimp only [Exit.then, Act.put]
        simp only [List.setIfInBounds_toArray, List.set_cons_succ, List.set_cons_zero]
        refine ⟨by trivial, g7, g8, rfl, hS, G7.out, G8.out, H7.out, H8.out⟩
  case h2 =>
    rintro g8 g9 w3 ⟨hb3, G8, G9, H8, H9⟩
    have S3 := Lib.hid (S2.out.next hb3)
    have HG8 := Lib.hid (show g8 ≠ g ∧ g9 ≠ g ∧ g9 ≠ b by
      have h1 := HGK.out.lt
      have h2 := S2.out.bel.size
      have h3 := HM.out.blk.lt
      omega)
    have H8 := Lib.hid H8
    have H9 := Lib.hid H9
    have hg := And.intro G8 G9
    clear hb3 G8 G9 hg S2 s0
    have HB2 := Lib.hid S3.out.map.blk
    have HR2 := Lib.hid (HGK.out.below S3.out.bel HGK.out.lt)
    have HBG := Lib.hid (show b ≠ g from fun e1 => by
      have h1 := HB2.out
      have h2 := HR2.out
      unfold Blk at h1 h2
      rw [e1, h2] at h1
      simp at h1)
    have HXB := Lib.hid (show w.heap.size ≠ b from Nat.ne_of_gt HM.out.blk.lt)
    have HXG := Lib.hid (show w.heap.size ≠ g from Nat.ne_of_gt HGK.out.lt)
    have HF1 : Hid (i * 5 + 3 + 2 ≤ cur.length) := Lib.hid (by have := HGL.out; have := HGC.out; omega)
    have HF2 : Hid (i * 5 + 2 + 1 ≤ (splice cur (i * 5 + 3) [.string (shAt m.live i).lo, .string e.key]).length) := Lib.hid (by rw [length_splice _ _ _ (by simpa using HF1.out)]; have := HF1.out; omega)
    go_wp2_with fail
    refine wp_region_wb ((Only (fun k => k = g) w3)) (by kernel_rfl) (((Only.refl (fun k => k = g) w3).drewN 1)) (fun _ _ _ _ _ h => h) ?_
    intro hS HZQ
    refine wa_k 0 60 (.pointer (some ⟨b, 0, none⟩)) hS HZQ (wa_k 1 61 (.pointer (some ⟨b, 0, none⟩)) hS HZQ (wa_k 2 62 (.pointer (some ⟨b, 0, none⟩)) hS HZQ (wa_v 3 63 (.slice (some ⟨g, 0, none⟩) m.live.length cap) hS HZQ (fun W hW => run_load1 73 (.tmp 62) (by kernel_rfl) ⟨b, 0, none⟩ (by kernel_rfl) (.slice (some ⟨g, 0, none⟩) m.live.length cap) ((HB2.out.only hW HBG.out).cell 0) _ Tryz.underlying73 rfl) (wa_k 4 64 (.int .i64 ((i : Nat) : Int)) hS HZQ (wa_k 5 65 (.pointer (some ⟨b, 0, none⟩)) hS HZQ (wa_k 6 66 (.pointer (some ⟨b, 0, none⟩)) hS HZQ (wa_k 7 67 (.pointer (some ⟨b, 0, none⟩)) hS HZQ ?_)))))))
    refine wa_v 8 68 (.slice (some ⟨g, 0, none⟩) m.live.length cap) hS HZQ (fun W hW => run_load1 73 (.tmp 67) (by kernel_rfl) ⟨b, 0, none⟩ (by kernel_rfl) (.slice (some ⟨g, 0, none⟩) m.live.length cap) ((HB2.out.only hW HBG.out).cell 0) _ Tryz.underlying73 rfl) (wa_k 9 69 (.int .i64 ((i : Nat) : Int)) hS HZQ (wa_v 10 70 (.agg #[.string (shAt m.live i).lo, .string e.key]) hS HZQ (fun W hW => run_eqv (run_loadN 52 (.tmp 8) (by kernel_rfl) g8 0 (by kernel_rfl) [.string (shAt m.live i).lo, .string e.key] ((H8.out.only hW HG8.out.1).range (fun j v hj => by simpa using hj)) _ Tryz.underlying52 rfl (by kernel_rfl)) rfl) (wa_k 11 71 (.int .i64 ((t : Nat) : Int)) hS HZQ (wa_v 12 72 (.int .i64 ((t + 1 : Nat) : Int)) hS HZQ (fun W hW => run_eqv (v := .int .i64 (IntKind.i64.wrap ((t : Int) + 1))) (by kernel_rfl) (wrap_nat _ _ (by omega) (by omega))) (wa_v 13 73 (.pointer (some ⟨g, i * 5, none⟩)) hS HZQ (fun W hW => run_eqv (run_idx 73 (.tmp 63) (.tmp 64) (by kernel_rfl) g 0 m.live.length cap i 75 5 (by kernel_rfl) (by kernel_rfl) (by omega) Tryz.underlying73 (by kernel_rfl)) (by rw [Nat.zero_add])) (wa_k 14 74 (.pointer (some ⟨g, i * 5 + 3, none⟩)) hS HZQ ?_))))))
    refine wa_r [15] ?_
    refine ar_a none (fun K hK => ?_) ar_nil
    refine ow_storeN 52 (.tmp 74) (.tmp 70) (by kernel_rfl) g (i * 5 + 3) (.agg #[.string (shAt m.live i).lo, .string e.key]) [.string (shAt m.live i).lo, .string e.key] (by kernel_rfl) (by kernel_rfl) rfl cur 75 (HR2.out.drewN 1) HF1.out (by kernel_rfl) (by intro u hu; simp at hu; rcases hu with rfl | rfl <;> rfl) (Lib.hid ?_)
    intro wx hz hox
    refine hK.out _ _ (hS.trans hox) (fun hS => ?_)
    have HR3 := Lib.hid hz
    clear hK K hz hox HR2
    refine wa_v 16 75 (.pointer (some ⟨g, i * 5, none⟩)) hS HZQ (fun W hW => run_eqv (run_idx 73 (.tmp 68) (.tmp 69) (by kernel_rfl) g 0 m.live.length cap i 75 5 (by kernel_rfl) (by kernel_rfl) (by omega) Tryz.underlying73 (by kernel_rfl)) (by rw [Nat.zero_add])) (wa_k 17 76 (.pointer (some ⟨g, i * 5 + 2, none⟩)) hS HZQ ?_)
    refine wa_r [18] ?_
    refine ar_a none (fun K hK => ?_) ar_nil
    refine ow_storeN 3 (.tmp 76) (.tmp 72) (by kernel_rfl) g (i * 5 + 2) (.int .i64 ((t + 1 : Nat) : Int)) [.int .i64 ((t + 1 : Nat) : Int)] (by kernel_rfl) (by kernel_rfl) rfl (splice cur (i * 5 + 3) [.string (shAt m.live i).lo, .string e.key]) 75 HR3.out HF2.out (by kernel_rfl) (by intro u hu; simp at hu; subst hu; rfl) (Lib.hid ?_)
    intro w4 hz hox
    refine hK.out _ _ (hS.trans hox) (fun hS => ?_)
    have HR4 := Lib.hid hz
    clear hK K hz hox HR3
    refine wa_done (by kernel_rfl) ?_
    dsimp only [Exit.then, Act.put]
    simp only [List.setIfInBounds_toArray, List.set_cons_succ, List.set_cons_zero]
    have O4 := Lib.hid hS
    have HROW := Lib.hid (own_blk (n := m.live.length) (cap := cap) (xs := shRow (m.live.set i ((shAt m.live i).turned (shAt m.live i).lo e.key ((t + 1 : Nat) : Int)))) (sz := 5) HR4.out hgB (by rw [shRow_len, List.length_set]) HGC.out HGM.out (by rw [length_splice _ _ _ (by simpa using HF2.out), length_splice _ _ _ (by simpa using HF1.out), HGL.out]) (row_turn cur m.live i (shAt m.live i).lo e.key ((t + 1 : Nat) : Int) hi HGT.out (by have := HGL.out; have := HGC.out; omega)))
    have H94 := Lib.hid (H9.out.only O4.out HG8.out.2.1)
    have hcap : 1 ≤ cap := by have := HGC.out; omega
    have HT := Lib.hid (S3.out.map.set_live (w' := w4) (v' := .slice (some ⟨g, 0, none⟩) m.live.length cap) (l := m.live.set i ((shAt m.live i).turned (shAt m.live i).lo e.key ((t + 1 : Nat) : Int))) (O4.out.mono (fun k hk => .inr (by rw [ownB_of hcap, hk]))) (HB2.out.only O4.out HBG.out) (by rw [List.length_set]; exact HROW.out) (by rw [List.length_set]; have := HLN.out; omega) (fun s hs => by
      rcases List.mem_or_eq_of_mem_set hs with h | h
      · exact HM.out.ok s h
      · rw [h]
        exact ⟨(rmap_ok HM.out hi).1, HK.out⟩))
    have HX4 := Lib.hid (S3.out.box.only O4.out HXG.out)
    have HLL : Hid ((m.live.set i ((shAt m.live i).turned (shAt m.live i).lo e.key ((t + 1 : Nat) : Int))).length = m.live.length) := Lib.hid (List.length_set ..)
    have HSZ : Hid (B ≤ w4.heap.size) := Lib.hid (by have h1 := S3.out.bel.size; have h2 := O4.out.size; omega)
    have HCH := Lib.hid ((Chg.of_below (T := RT) (B := B) S3.out.bel).trans HT.out.2)
    generalize hl1' : m.live.set i ((shAt m.live i).turned (shAt m.live i).lo e.key ((t + 1 : Nat) : Int)) = l1 at *
    have HL1 := Lib.hid hl1'
    clear hl1' hS HR4 HB2 hcap HROW
    clear H8 H9
    obtain ⟨hmv, hch⟩ := HT.out
    have HM4 := Lib.hid hmv
    have HBi := Lib.hid hmv.blk
    have HEL : Hid (l1.length ≤ 9000) := Lib.hid (by have := HLL.out; have := HLN.out; omega)
    have HEO : Hid (OwnE w4 B 75 5 (.slice (some ⟨g, 0, none⟩) m.live.length cap) l1.length (shRow l1)) := Lib.hid (.inr hmv.live)
    have HNB : Hid (ownB (.slice (some ⟨g, 0, none⟩) m.live.length cap) ≠ some b) := Lib.hid (HEO.out.ne_blk' HBi.out (by decide))
    have HNX : Hid (ownB (.slice (some ⟨g, 0, none⟩) m.live.length cap) ≠ some w.heap.size) := Lib.hid (HEO.out.ne_blk' HX4.out (by decide))
    have HN9 : Hid (ownB (.slice (some ⟨g, 0, none⟩) m.live.length cap) ≠ some g9) := Lib.hid (HEO.out.ne_blk' H94.out (by decide))
    clear hmv hch HT
    go_wp2_with fail
    apply merge3 (F := fun gn cn _ w' => Only (fun k => k = b ∨ ownB (.slice (some ⟨g, 0, none⟩) m.live.length cap) = some k) w4 w' ∧ Blk w' b 117 #[(.slice (some ⟨gn, 0, none⟩) (l1.length + 1) cn), vu, ve] ∧ w'.ownsRow B 75 5 (.slice (some ⟨gn, 0, none⟩) (l1.length + 1) cn) (l1.length + 1) (shRow l1 ++ [.int .i64 e.other, .int .i64 e.server, .int .i64 ((t + 1 : Nat) : Int), .string e.key, .string (shAt m.live i).hi]))
    case h1 =>
      obtain ⟨i0, hinf, hz0, hz1, hz2⟩ := info_parts Tryz.infoRS
      have HI := Lib.hid (And.intro hinf (And.intro hz0 (And.intro hz1 hz2)))
      clear hinf hz0 hz1 hz2
      refine wp_region_wb ((Only (fun k => k = b ∨ ownB (.slice (some ⟨g, 0, none⟩) m.live.length cap) = some k) w4)) (by kernel_rfl) (((Only.refl (fun k => k = b ∨ ownB (.slice (some ⟨g, 0, none⟩) m.live.length cap) = some k) w4).drewN 1)) (fun _ _ _ _ _ h => nomatch h.1) ?_
      intro hS HZQ
      refine wa_k 0 77 (.pointer (some ⟨b, 0, none⟩)) hS HZQ (wa_k 1 78 (.pointer (some ⟨b, 0, none⟩)) hS HZQ (wa_k 2 79 (.pointer (some ⟨b, 0, none⟩)) hS HZQ (wa_k 3 80 (.pointer (some ⟨b, 0, none⟩)) hS HZQ (wa_k 5 82 (.pointer (some ⟨w.heap.size, 2, none⟩)) hS HZQ (wa_v 6 83 (.int .i64 e.other) hS HZQ (fun W hW => run_load1 3 (.tmp 82) (by kernel_rfl) ⟨w.heap.size, 2, none⟩ (by kernel_rfl) (.int .i64 e.other) ((HX4.out.only hW (fun h => h.elim HXB.out HNX.out)).cell 2) _ Tryz.underlying3 rfl) (wa_k 7 84 (.pointer (some ⟨w.heap.size, 3, none⟩)) hS HZQ (wa_v 8 85 (.int .i64 e.server) hS HZQ (fun W hW => run_load1 3 (.tmp 84) (by kernel_rfl) ⟨w.heap.size, 3, none⟩ (by kernel_rfl) (.int .i64 e.server) ((HX4.out.only hW (fun h => h.elim HXB.out HNX.out)).cell 3) _ Tryz.underlying3 rfl) ?_)))))))
      refine wa_k 9 86 (.int .i64 ((t : Nat) : Int)) hS HZQ (wa_v 10 87 (.int .i64 ((t + 1 : Nat) : Int)) hS HZQ (fun W hW => run_eqv (v := .int .i64 (IntKind.i64.wrap ((t : Int) + 1))) (by kernel_rfl) (wrap_nat _ _ (by omega) (by omega))) (wa_v 11 88 (.agg #[.string e.key, .string (shAt m.live i).hi]) hS HZQ (fun W hW => run_eqv (run_loadN 52 (.tmp 9) (by kernel_rfl) g9 0 (by kernel_rfl) [.string e.key, .string (shAt m.live i).hi] ((H94.out.only hW (fun h => h.elim HG8.out.2.2 HN9.out)).range (fun j v hj => by simpa using hj)) _ Tryz.underlying52 rfl (by kernel_rfl)) rfl) (wa_k 12 89 (.agg #[.int .i64 e.other, .int .i64 e.server, .int .i64 ((t + 1 : Nat) : Int), .string e.key, .string (shAt m.live i).hi]) hS HZQ ?_)))
      refine wa_r [4, 13] ?_
      refine (ar_a (some 81) (fun K hK => ?_) (ar_a (some 90) (fun K hK => ?_) ar_nil))
      ·
        refine ow_val (.slice (some ⟨g, 0, none⟩) m.live.length cap) _ (run_load1 73 (.tmp 80) (by kernel_rfl) ⟨b, 0, none⟩ (by kernel_rfl) (.slice (some ⟨g, 0, none⟩) m.live.length cap) (by first | exact HBX.out.cell 0 | exact (HBi.out.drewN 1).cell 0) _ Tryz.underlying73 rfl) ?_
        refine hK.out _ _ hS (fun hS => ?_)
        clear hK K
        refine wa_r [13] ?_
        refine ar_a (some 90) (fun K hK => ?_) ar_nil
        refine ow_one 75 [.int .i64 e.other, .int .i64 e.server, .int .i64 ((t + 1 : Nat) : Int), .string e.key, .string (shAt m.live i).hi].toArray (by kernel_rfl) (Lib.hid ?_)
        intro hx wx hh hz hbx
        refine hK.out _ _ (hS.fresh hbx) (fun hS' => ?_)
        have HNE := Lib.hid hz
        have HBX := Lib.hid ((HBi.out.drewN 1).below hbx (HBi.out.drewN 1).lt)
        have HRX := Lib.hid (OwnE.below (show OwnE w4.drew B _ 5 _ _ _ from HEO.out) hbx)
        have HZX := Lib.hid (show B ≤ wx.heap.size from Nat.le_trans HSZ.out hS'.size)
        clear hK K hz hbx hh
        have hS := hS'
        clear hS'
        refine wa_r [14] ?_
        refine ar_a (some 91) (fun K hK => ?_) ar_nil
        refine ow_appX (.tmp 81) (.tmp 90) 73 (by kernel_rfl) 75 i0 _ 5 56 Tryz.underlying73 HI.out.1 HI.out.2.1 HI.out.2.2.1 HI.out.2.2.2 rfl (by decide) B (.slice (some ⟨g, 0, none⟩) m.live.length cap) l1.length (shRow l1) (by kernel_rfl) HRX.out HZX.out hx 0 1 1 [.int .i64 e.other, .int .i64 e.server, .int .i64 ((t + 1 : Nat) : Int), .string e.key, .string (shAt m.live i).hi] (by kernel_rfl) rfl (by decide) (blk_row HNE.out) (by intro u hu; first | exact evC_one _ u hu | (simp at hu; subst hu; rfl) | exact Sh.one ⟨_, _, _, _, _⟩ u hu) (by have := HEL.out; omega) (by decide) (Lib.hid ?_)
        intro vn wx h1 h2
        obtain ⟨gn, cn, rfl, -, -, -, -⟩ := own_some h1 (by omega)
        refine hK.out _ _ (hS.grown h2 (fun k e => .inl (.inr e))) (fun hS' => ?_)
        have HRN := Lib.hid h1
        have HBN := Lib.hid (HBX.out.only (Only.grown (S := fun k => ownB (.slice (some ⟨g, 0, none⟩) m.live.length cap) = some k) (Only.refl _ _) h2 (fun k e => .inl e)) HNB.out)
        clear hK K h1 h2 hS HBX HRX HNE
        have hS := hS'
        clear hS'
        refine wa_k 15 92 (.pointer (some ⟨b, 0, none⟩)) hS HZQ (wa_k 16 93 (.pointer (some ⟨b, 0, none⟩)) hS HZQ ?_)
        refine wa_r [17] ?_
        refine ar_a none (fun K hK => ?_) ar_nil
        refine ow_storeN 73 (.tmp 93) (.tmp 91) (by kernel_rfl) b 0 (.slice (some ⟨gn, 0, none⟩) (l1.length + 1) cn) [.slice (some ⟨gn, 0, none⟩) (l1.length + 1) cn] (by kernel_rfl) (by kernel_rfl) rfl [(.slice (some ⟨g, 0, none⟩) m.live.length cap), vu, ve] 117 HBN.out (by simp) (by kernel_rfl) (by intro u hu; simp at hu; subst hu; rfl) (Lib.hid ?_)
        intro w5 hz hox
        refine hK.out _ _ (hS.trans (hox.mono (fun k hk => .inl hk))) (fun hS' => ?_)
        have HB5 := Lib.hid hz
        have HR5 := Lib.hid (own_only HRN.out hox (fun q hq e => own_ne_blk HRN.out HBN.out (by decide) (by rw [hq, e])))
        clear hK K hz hox hS HBN HRN
        have hS := hS'
        clear hS'
        refine wa_done (by kernel_rfl) ?_
        dsimp only [Exit.then, Act.put]
        simp only [List.setIfInBounds_toArray, List.set_cons_succ, List.set_cons_zero]
        refine ⟨by trivial, gn, cn, hx, rfl, hS, HB5.out, HR5.out⟩
      ·
        refine ow_one 75 [.int .i64 e.other, .int .i64 e.server, .int .i64 ((t + 1 : Nat) : Int), .string e.key, .string (shAt m.live i).hi].toArray (by kernel_rfl) (Lib.hid ?_)
        intro hx wx hh hz hbx
        refine hK.out _ _ (hS.fresh hbx) (fun hS' => ?_)
        have HNE := Lib.hid hz
        have HBX := Lib.hid ((HBi.out.drewN 1).below hbx (HBi.out.drewN 1).lt)
        have HRX := Lib.hid (OwnE.below (show OwnE w4.drew B _ 5 _ _ _ from HEO.out) hbx)
        have HZX := Lib.hid (show B ≤ wx.heap.size from Nat.le_trans HSZ.out hS'.size)
        clear hK K hz hbx hh
        have hS := hS'
        clear hS'
        refine wa_r [4] ?_
        refine ar_a (some 81) (fun K hK => ?_) ar_nil
        refine ow_val (.slice (some ⟨g, 0, none⟩) m.live.length cap) _ (run_load1 73 (.tmp 80) (by kernel_rfl) ⟨b, 0, none⟩ (by kernel_rfl) (.slice (some ⟨g, 0, none⟩) m.live.length cap) (by first | exact HBX.out.cell 0 | exact (HBi.out.drewN 1).cell 0) _ Tryz.underlying73 rfl) ?_
        refine hK.out _ _ hS (fun hS => ?_)
        clear hK K
        refine wa_r [14] ?_
        refine ar_a (some 91) (fun K hK => ?_) ar_nil
        refine ow_appX (.tmp 81) (.tmp 90) 73 (by kernel_rfl) 75 i0 _ 5 56 Tryz.underlying73 HI.out.1 HI.out.2.1 HI.out.2.2.1 HI.out.2.2.2 rfl (by decide) B (.slice (some ⟨g, 0, none⟩) m.live.length cap) l1.length (shRow l1) (by kernel_rfl) HRX.out HZX.out hx 0 1 1 [.int .i64 e.other, .int .i64 e.server, .int .i64 ((t + 1 : Nat) : Int), .string e.key, .string (shAt m.live i).hi] (by kernel_rfl) rfl (by decide) (blk_row HNE.out) (by intro u hu; first | exact evC_one _ u hu | (simp at hu; subst hu; rfl) | exact Sh.one ⟨_, _, _, _, _⟩ u hu) (by have := HEL.out; omega) (by decide) (Lib.hid ?_)
        intro vn wx h1 h2
        obtain ⟨gn, cn, rfl, -, -, -, -⟩ := own_some h1 (by omega)
        refine hK.out _ _ (hS.grown h2 (fun k e => .inl (.inr e))) (fun hS' => ?_)
        have HRN := Lib.hid h1
        have HBN := Lib.hid (HBX.out.only (Only.grown (S := fun k => ownB (.slice (some ⟨g, 0, none⟩) m.live.length cap) = some k) (Only.refl _ _) h2 (fun k e => .inl e)) HNB.out)
        clear hK K h1 h2 hS HBX HRX HNE
        have hS := hS'
        clear hS'
        refine wa_k 15 92 (.pointer (some ⟨b, 0, none⟩)) hS HZQ (wa_k 16 93 (.pointer (some ⟨b, 0, none⟩)) hS HZQ ?_)
        refine wa_r [17] ?_
        refine ar_a none (fun K hK => ?_) ar_nil
        refine ow_storeN 73 (.tmp 93) (.tmp 91) (by kernel_rfl) b 0 (.slice (some ⟨gn, 0, none⟩) (l1.length + 1) cn) [.slice (some ⟨gn, 0, none⟩) (l1.length + 1) cn] (by kernel_rfl) (by kernel_rfl) rfl [(.slice (some ⟨g, 0, none⟩) m.live.length cap), vu, ve] 117 HBN.out (by simp) (by kernel_rfl) (by intro u hu; simp at hu; subst hu; rfl) (Lib.hid ?_)
        intro w5 hz hox
        refine hK.out _ _ (hS.trans (hox.mono (fun k hk => .inl hk))) (fun hS' => ?_)
        have HB5 := Lib.hid hz
        have HR5 := Lib.hid (own_only HRN.out hox (fun q hq e => own_ne_blk HRN.out HBN.out (by decide) (by rw [hq, e])))
        clear hK K hz hox hS HBN HRN
        have hS := hS'
        clear hS'
        refine wa_done (by kernel_rfl) ?_
        dsimp only [Exit.then, Act.put]
        simp only [List.setIfInBounds_toArray, List.set_cons_succ, List.set_cons_zero]
        refine ⟨by trivial, gn, cn, hx, rfl, hS, HB5.out, HR5.out⟩
    case h2 =>
      rintro gn cn hx w5 ⟨hO5, hB5, hR5⟩
      have hT := HM4.out.set_live (w' := w5) (v' := .slice (some ⟨gn, 0, none⟩) (l1.length + 1) cn) (l := l1 ++ [⟨e.other, e.server, ((t + 1 : Nat) : Int), e.key, (shAt m.live i).hi⟩]) hO5 hB5 (by rw [List.length_append, List.length_singleton]; unfold shRow; rw [List.flatMap_append, List.flatMap_singleton]; exact hR5) (by rw [List.length_append, List.length_singleton]; have := HEL.out; omega) (fun s hs => by
        rcases List.mem_append.1 hs with h | h
        · exact HM4.out.ok s h
        · rw [List.mem_singleton] at h
          rw [h]
          exact ⟨HK.out, (rmap_ok HM.out hi).2⟩)
      have HX5 := Lib.hid (HX4.out.chg hT.2 (.inr (by unfold RT; decide)))
      have HCH5 := Lib.hid (HCH.out.trans hT.2)
      have HSZ5 : Hid (B ≤ w5.heap.size) := Lib.hid (Nat.le_trans HSZ.out hO5.size)
      have HM5 := Lib.hid hT.1
      clear hO5 hB5 hR5 hT HX4 HCH HSZ HBi HEL HEO HNB HNX HN9 HM4 H94
      generalize hl2 : l1 ++ [(⟨e.other, e.server, ((t + 1 : Nat) : Int), e.key, (shAt m.live i).hi⟩ : Sh)] = l2 at *
      have HL2 := Lib.hid hl2
      generalize hv2 : Value.slice (some ⟨gn, 0, none⟩) (l1.length + 1) cn = vl2 at HM5
      clear hl2 hv2
      have HSZ := Lib.hid HSZ5.out
      have HBi := Lib.hid HM5.out.blk
      have HEL : Hid (m.used.length ≤ 9000) := Lib.hid HLU.out
      have HEO : Hid (OwnE w5 B 3 1 vu m.used.length (zRow m.used)) := Lib.hid (.inr HM5.out.used)
      have HNB : Hid (ownB vu ≠ some b) := Lib.hid (HEO.out.ne_blk' HBi.out (by decide))
      have HNX : Hid (ownB vu ≠ some w.heap.size) := Lib.hid (HEO.out.ne_blk' HX5.out (by decide))
      go_wp2_with fail
      apply merge3 (F := fun gn cn _ w' => Only (fun k => k = b ∨ ownB vu = some k) w5 w' ∧ Blk w' b 117 #[vl2, (.slice (some ⟨gn, 0, none⟩) (m.used.length + 1) cn), ve] ∧ w'.ownsRow B 3 1 (.slice (some ⟨gn, 0, none⟩) (m.used.length + 1) cn) (m.used.length + 1) (zRow m.used ++ [.int .i64 e.other]))
      case h1 =>
        obtain ⟨i0, hinf, hz0, hz1, hz2⟩ := info_parts Tryz.infoRI
        have HI := Lib.hid (And.intro hinf (And.intro hz0 (And.intro hz1 hz2)))
        clear hinf hz0 hz1 hz2
        refine wp_region_wb ((Only (fun k => k = b ∨ ownB vu = some k) w5)) (by kernel_rfl) (((Only.refl (fun k => k = b ∨ ownB vu = some k) w5).drewN 1)) (fun _ _ _ _ _ h => nomatch h.1) ?_
        intro hS HZQ
        refine wa_k 0 94 (.pointer (some ⟨b, 0, none⟩)) hS HZQ (wa_k 1 95 (.pointer (some ⟨b, 0, none⟩)) hS HZQ (wa_k 2 96 (.pointer (some ⟨b, 0, none⟩)) hS HZQ (wa_k 3 97 (.pointer (some ⟨b, 1, none⟩)) hS HZQ (wa_k 5 99 (.pointer (some ⟨w.heap.size, 2, none⟩)) hS HZQ (wa_v 6 100 (.int .i64 e.other) hS HZQ (fun W hW => run_load1 3 (.tmp 99) (by kernel_rfl) ⟨w.heap.size, 2, none⟩ (by kernel_rfl) (.int .i64 e.other) ((HX5.out.only hW (fun h => h.elim HXB.out HNX.out)).cell 2) _ Tryz.underlying3 rfl) ?_)))))
        refine wa_r [4, 7] ?_
        refine (ar_a (some 98) (fun K hK => ?_) (ar_a (some 101) (fun K hK => ?_) ar_nil))
        ·
          refine ow_val vu _ (run_load1 37 (.tmp 97) (by kernel_rfl) ⟨b, 1, none⟩ (by kernel_rfl) vu (by first | exact HBX.out.cell 1 | exact (HBi.out.drewN 1).cell 1) _ Tryz.underlying37 rfl) ?_
          refine hK.out _ _ hS (fun hS => ?_)
          clear hK K
          refine wa_r [7] ?_
          refine ar_a (some 101) (fun K hK => ?_) ar_nil
          refine ow_one 3 [.int .i64 e.other].toArray (by kernel_rfl) (Lib.hid ?_)
          intro hx wx hh hz hbx
          refine hK.out _ _ (hS.fresh hbx) (fun hS' => ?_)
          have HNE := Lib.hid hz
          have HBX := Lib.hid ((HBi.out.drewN 1).below hbx (HBi.out.drewN 1).lt)
          have HRX := Lib.hid (OwnE.below (show OwnE w5.drew B _ 1 _ _ _ from HEO.out) hbx)
          have HZX := Lib.hid (show B ≤ wx.heap.size from Nat.le_trans HSZ.out hS'.size)
          clear hK K hz hbx hh
          have hS := hS'
          clear hS'
          refine wa_r [8] ?_
          refine ar_a (some 102) (fun K hK => ?_) ar_nil
          refine ow_appX (.tmp 98) (.tmp 101) 37 (by kernel_rfl) 3 i0 _ 1 8 Tryz.underlying37 HI.out.1 HI.out.2.1 HI.out.2.2.1 HI.out.2.2.2 rfl (by decide) B vu m.used.length (zRow m.used) (by kernel_rfl) HRX.out HZX.out hx 0 1 1 [.int .i64 e.other] (by kernel_rfl) rfl (by decide) (blk_row HNE.out) (by intro u hu; first | exact evC_one _ u hu | (simp at hu; subst hu; rfl) | exact Sh.one ⟨_, _, _, _, _⟩ u hu) (by have := HEL.out; omega) (by decide) (Lib.hid ?_)
          intro vn wx h1 h2
          obtain ⟨gn, cn, rfl, -, -, -, -⟩ := own_some h1 (by omega)
          refine hK.out _ _ (hS.grown h2 (fun k e => .inl (.inr e))) (fun hS' => ?_)
          have HRN := Lib.hid h1
          have HBN := Lib.hid (HBX.out.only (Only.grown (S := fun k => ownB vu = some k) (Only.refl _ _) h2 (fun k e => .inl e)) HNB.out)
          clear hK K h1 h2 hS HBX HRX HNE
          have hS := hS'
          clear hS'
          refine wa_k 9 103 (.pointer (some ⟨b, 0, none⟩)) hS HZQ (wa_k 10 104 (.pointer (some ⟨b, 1, none⟩)) hS HZQ ?_)
          refine wa_r [11] ?_
          refine ar_a none (fun K hK => ?_) ar_nil
          refine ow_storeN 37 (.tmp 104) (.tmp 102) (by kernel_rfl) b 1 (.slice (some ⟨gn, 0, none⟩) (m.used.length + 1) cn) [.slice (some ⟨gn, 0, none⟩) (m.used.length + 1) cn] (by kernel_rfl) (by kernel_rfl) rfl [vl2, vu, ve] 117 HBN.out (by simp) (by kernel_rfl) (by intro u hu; simp at hu; subst hu; rfl) (Lib.hid ?_)
          intro w6 hz hox
          refine hK.out _ _ (hS.trans (hox.mono (fun k hk => .inl hk))) (fun hS' => ?_)
          have HB5 := Lib.hid hz
          have HR5 := Lib.hid (own_only HRN.out hox (fun q hq e => own_ne_blk HRN.out HBN.out (by decide) (by rw [hq, e])))
          clear hK K hz hox hS HBN HRN
          have hS := hS'
          clear hS'
          refine wa_done (by kernel_rfl) ?_
          dsimp only [Exit.then, Act.put]
          simp only [List.setIfInBounds_toArray, List.set_cons_succ, List.set_cons_zero]
          refine ⟨by trivial, gn, cn, hx, rfl, hS, HB5.out, HR5.out⟩
        ·
          refine ow_one 3 [.int .i64 e.other].toArray (by kernel_rfl) (Lib.hid ?_)
          intro hx wx hh hz hbx
          refine hK.out _ _ (hS.fresh hbx) (fun hS' => ?_)
          have HNE := Lib.hid hz
          have HBX := Lib.hid ((HBi.out.drewN 1).below hbx (HBi.out.drewN 1).lt)
          have HRX := Lib.hid (OwnE.below (show OwnE w5.drew B _ 1 _ _ _ from HEO.out) hbx)
          have HZX := Lib.hid (show B ≤ wx.heap.size from Nat.le_trans HSZ.out hS'.size)
          clear hK K hz hbx hh
          have hS := hS'
          clear hS'
          refine wa_r [4] ?_
          refine ar_a (some 98) (fun K hK => ?_) ar_nil
          refine ow_val vu _ (run_load1 37 (.tmp 97) (by kernel_rfl) ⟨b, 1, none⟩ (by kernel_rfl) vu (by first | exact HBX.out.cell 1 | exact (HBi.out.drewN 1).cell 1) _ Tryz.underlying37 rfl) ?_
          refine hK.out _ _ hS (fun hS => ?_)
          clear hK K
          refine wa_r [8] ?_
          refine ar_a (some 102) (fun K hK => ?_) ar_nil
          refine ow_appX (.tmp 98) (.tmp 101) 37 (by kernel_rfl) 3 i0 _ 1 8 Tryz.underlying37 HI.out.1 HI.out.2.1 HI.out.2.2.1 HI.out.2.2.2 rfl (by decide) B vu m.used.length (zRow m.used) (by kernel_rfl) HRX.out HZX.out hx 0 1 1 [.int .i64 e.other] (by kernel_rfl) rfl (by decide) (blk_row HNE.out) (by intro u hu; first | exact evC_one _ u hu | (simp at hu; subst hu; rfl) | exact Sh.one ⟨_, _, _, _, _⟩ u hu) (by have := HEL.out; omega) (by decide) (Lib.hid ?_)
          intro vn wx h1 h2
          obtain ⟨gn, cn, rfl, -, -, -, -⟩ := own_some h1 (by omega)
          refine hK.out _ _ (hS.grown h2 (fun k e => .inl (.inr e))) (fun hS' => ?_)
          have HRN := Lib.hid h1
          have HBN := Lib.hid (HBX.out.only (Only.grown (S := fun k => ownB vu = some k) (Only.refl _ _) h2 (fun k e => .inl e)) HNB.out)
          clear hK K h1 h2 hS HBX HRX HNE
          have hS := hS'
          clear hS'
          refine wa_k 9 103 (.pointer (some ⟨b, 0, none⟩)) hS HZQ (wa_k 10 104 (.pointer (some ⟨b, 1, none⟩)) hS HZQ ?_)
          refine wa_r [11] ?_
          refine ar_a none (fun K hK => ?_) ar_nil
          refine ow_storeN 37 (.tmp 104) (.tmp 102) (by kernel_rfl) b 1 (.slice (some ⟨gn, 0, none⟩) (m.used.length + 1) cn) [.slice (some ⟨gn, 0, none⟩) (m.used.length + 1) cn] (by kernel_rfl) (by kernel_rfl) rfl [vl2, vu, ve] 117 HBN.out (by simp) (by kernel_rfl) (by intro u hu; simp at hu; subst hu; rfl) (Lib.hid ?_)
          intro w6 hz hox
          refine hK.out _ _ (hS.trans (hox.mono (fun k hk => .inl hk))) (fun hS' => ?_)
          have HB5 := Lib.hid hz
          have HR5 := Lib.hid (own_only HRN.out hox (fun q hq e => own_ne_blk HRN.out HBN.out (by decide) (by rw [hq, e])))
          clear hK K hz hox hS HBN HRN
          have hS := hS'
          clear hS'
          refine wa_done (by kernel_rfl) ?_
          dsimp only [Exit.then, Act.put]
          simp only [List.setIfInBounds_toArray, List.set_cons_succ, List.set_cons_zero]
          refine ⟨by trivial, gn, cn, hx, rfl, hS, HB5.out, HR5.out⟩
      case h2 =>
        rintro gn cn hx w6 ⟨hO6, hB6, hR6⟩
        have hT := HM5.out.set_used (w' := w6) (v' := .slice (some ⟨gn, 0, none⟩) (m.used.length + 1) cn) (l := m.used ++ [e.other]) hO6 hB6 (by rw [List.length_append, List.length_singleton, zRow_app]; exact hR6) (by rw [List.length_append, List.length_singleton]; have := HEL.out; omega)
        have HX6 := Lib.hid (HX5.out.chg hT.2 (.inr (by unfold RT; decide)))
        have HCH6 := Lib.hid (HCH5.out.trans hT.2)
        have HSZ6 : Hid (B ≤ w6.heap.size) := Lib.hid (Nat.le_trans HSZ5.out hO6.size)
        have HM6 := Lib.hid hT.1
        clear hO6 hB6 hR6 hT HX5 HCH5 HSZ5 HBi HEL HEO HNB HNX HM5 HSZ
        generalize hv3 : Value.slice (some ⟨gn, 0, none⟩) (m.used.length + 1) cn = vu2 at HM6
        clear hv3
        have HSZ := Lib.hid HSZ6.out
        have HBi := Lib.hid HM6.out.blk
        have HEL : Hid (m.evs.length ≤ 9000) := Lib.hid HLE.out
        have HEO : Hid (OwnE w6 B 124 13 ve m.evs.length (evRow m.evs)) := Lib.hid HM6.out.ev
        have HNB : Hid (ownB ve ≠ some b) := Lib.hid (HEO.out.ne_blk' HBi.out (by decide))
        have HNX : Hid (ownB ve ≠ some w.heap.size) := Lib.hid (HEO.out.ne_blk' HX6.out (by decide))
        go_wp2_with fail
        apply merge3 (F := fun gn cn _ w' => Only (fun k => k = b ∨ ownB ve = some k) w6 w' ∧ Blk w' b 117 #[vl2, vu2, (.slice (some ⟨gn, 0, none⟩) (m.evs.length + 1) cn)] ∧ w'.ownsRow B 124 13 (.slice (some ⟨gn, 0, none⟩) (m.evs.length + 1) cn) (m.evs.length + 1) (evRow m.evs ++ evC ((t : Int), e)))
        case h1 =>
          obtain ⟨i0, hinf, hz0, hz1, hz2⟩ := info_parts Tryz.infoRE
          have HI := Lib.hid (And.intro hinf (And.intro hz0 (And.intro hz1 hz2)))
          clear hinf hz0 hz1 hz2
          refine wp_region_wb ((Only (fun k => k = b ∨ ownB ve = some k) w6)) (by kernel_rfl) (((Only.refl (fun k => k = b ∨ ownB ve = some k) w6).drewN 1)) (fun _ _ _ _ _ h => nomatch h.1) ?_
          intro hS HZQ
          refine wa_k 0 167 (.pointer (some ⟨b, 0, none⟩)) hS HZQ (wa_k 1 168 (.pointer (some ⟨b, 0, none⟩)) hS HZQ (wa_k 2 169 (.pointer (some ⟨b, 0, none⟩)) hS HZQ (wa_k 3 170 (.pointer (some ⟨b, 2, none⟩)) hS HZQ (wa_k 5 172 (.int .i64 ((t : Nat) : Int)) hS HZQ (wa_v 6 173 (.agg #[.int .i64 e.kind, .int .i64 e.shard, .int .i64 e.other, .int .i64 e.server, .int .i64 e.client, .int .i64 e.seq, .slice e.ao e.no e.co, .string e.key, .int .i64 e.upto, .int .i64 e.part, .int .i64 e.parts, .slice e.ad e.nd e.cd]) hS HZQ (fun W hW => run_eqv (run_loadN 44 (.tmp 4) (by kernel_rfl) w.heap.size 0 (by kernel_rfl) [.int .i64 e.kind, .int .i64 e.shard, .int .i64 e.other, .int .i64 e.server, .int .i64 e.client, .int .i64 e.seq, .slice e.ao e.no e.co, .string e.key, .int .i64 e.upto, .int .i64 e.part, .int .i64 e.parts, .slice e.ad e.nd e.cd] ((HX6.out.only hW (fun h => h.elim HXB.out HNX.out)).range (fun j v hj => by simpa [EN.cells] using hj)) _ Tryz.underlying44 rfl (by kernel_rfl)) rfl) (wa_k 7 174 (.agg #[.int .i64 ((t : Nat) : Int), .int .i64 e.kind, .int .i64 e.shard, .int .i64 e.other, .int .i64 e.server, .int .i64 e.client, .int .i64 e.seq, .slice e.ao e.no e.co, .string e.key, .int .i64 e.upto, .int .i64 e.part, .int .i64 e.parts, .slice e.ad e.nd e.cd]) hS HZQ ?_))))))
          refine wa_r [4, 8] ?_
          refine (ar_a (some 171) (fun K hK => ?_) (ar_a (some 175) (fun K hK => ?_) ar_nil))
          ·
            refine ow_val ve _ (run_load1 115 (.tmp 170) (by kernel_rfl) ⟨b, 2, none⟩ (by kernel_rfl) ve (by first | exact HBX.out.cell 2 | exact (HBi.out.drewN 1).cell 2) _ Tryz.underlying115 rfl) ?_
            refine hK.out _ _ hS (fun hS => ?_)
            clear hK K
            refine wa_r [8] ?_
            refine ar_a (some 175) (fun K hK => ?_) ar_nil
            refine ow_one 124 (evC ((t : Int), e)).toArray (by kernel_rfl) (Lib.hid ?_)
            intro hx wx hh hz hbx
            refine hK.out _ _ (hS.fresh hbx) (fun hS' => ?_)
            have HNE := Lib.hid hz
            have HBX := Lib.hid ((HBi.out.drewN 1).below hbx (HBi.out.drewN 1).lt)
            have HRX := Lib.hid (OwnE.below (show OwnE w6.drew B _ 13 _ _ _ from HEO.out) hbx)
            have HZX := Lib.hid (show B ≤ wx.heap.size from Nat.le_trans HSZ.out hS'.size)
            clear hK K hz hbx hh
            have hS := hS'
            clear hS'
            refine wa_r [9] ?_
            refine ar_a (some 176) (fun K hK => ?_) ar_nil
            refine ow_appX (.tmp 171) (.tmp 175) 115 (by kernel_rfl) 124 i0 _ 13 144 Tryz.underlying115 HI.out.1 HI.out.2.1 HI.out.2.2.1 HI.out.2.2.2 rfl (by decide) B ve m.evs.length (evRow m.evs) (by kernel_rfl) HRX.out HZX.out hx 0 1 1 (evC ((t : Int), e)) (by kernel_rfl) rfl (by decide) (blk_row HNE.out) (by intro u hu; first | exact evC_one _ u hu | (simp at hu; subst hu; rfl) | exact Sh.one ⟨_, _, _, _, _⟩ u hu) (by have := HEL.out; omega) (by decide) (Lib.hid ?_)
            intro vn wx h1 h2
            obtain ⟨gn, cn, rfl, -, -, -, -⟩ := own_some h1 (by omega)
            refine hK.out _ _ (hS.grown h2 (fun k e => .inl (.inr e))) (fun hS' => ?_)
            have HRN := Lib.hid h1
            have HBN := Lib.hid (HBX.out.only (Only.grown (S := fun k => ownB ve = some k) (Only.refl _ _) h2 (fun k e => .inl e)) HNB.out)
            clear hK K h1 h2 hS HBX HRX HNE
            have hS := hS'
            clear hS'
            refine wa_k 10 177 (.pointer (some ⟨b, 0, none⟩)) hS HZQ (wa_k 11 178 (.pointer (some ⟨b, 2, none⟩)) hS HZQ ?_)
            refine wa_r [12] ?_
            refine ar_a none (fun K hK => ?_) ar_nil
            refine ow_storeN 115 (.tmp 178) (.tmp 176) (by kernel_rfl) b 2 (.slice (some ⟨gn, 0, none⟩) (m.evs.length + 1) cn) [.slice (some ⟨gn, 0, none⟩) (m.evs.length + 1) cn] (by kernel_rfl) (by kernel_rfl) rfl [vl2, vu2, ve] 117 HBN.out (by simp) (by kernel_rfl) (by intro u hu; simp at hu; subst hu; rfl) (Lib.hid ?_)
            intro w7 hz hox
            refine hK.out _ _ (hS.trans (hox.mono (fun k hk => .inl hk))) (fun hS' => ?_)
            have HB5 := Lib.hid hz
            have HR5 := Lib.hid (own_only HRN.out hox (fun q hq e => own_ne_blk HRN.out HBN.out (by decide) (by rw [hq, e])))
            clear hK K hz hox hS HBN HRN
            have hS := hS'
            clear hS'
            refine wa_done (by kernel_rfl) ?_
            dsimp only [Exit.then, Act.put]
            simp only [List.setIfInBounds_toArray, List.set_cons_succ, List.set_cons_zero]
            refine ⟨by trivial, gn, cn, hx, rfl, hS, HB5.out, HR5.out⟩
          ·
            refine ow_one 124 (evC ((t : Int), e)).toArray (by kernel_rfl) (Lib.hid ?_)
            intro hx wx hh hz hbx
            refine hK.out _ _ (hS.fresh hbx) (fun hS' => ?_)
            have HNE := Lib.hid hz
            have HBX := Lib.hid ((HBi.out.drewN 1).below hbx (HBi.out.drewN 1).lt)
            have HRX := Lib.hid (OwnE.below (show OwnE w6.drew B _ 13 _ _ _ from HEO.out) hbx)
            have HZX := Lib.hid (show B ≤ wx.heap.size from Nat.le_trans HSZ.out hS'.size)
            clear hK K hz hbx hh
            have hS := hS'
            clear hS'
            refine wa_r [4] ?_
            refine ar_a (some 171) (fun K hK => ?_) ar_nil
            refine ow_val ve _ (run_load1 115 (.tmp 170) (by kernel_rfl) ⟨b, 2, none⟩ (by kernel_rfl) ve (by first | exact HBX.out.cell 2 | exact (HBi.out.drewN 1).cell 2) _ Tryz.underlying115 rfl) ?_
            refine hK.out _ _ hS (fun hS => ?_)
            clear hK K
            refine wa_r [9] ?_
            refine ar_a (some 176) (fun K hK => ?_) ar_nil
            refine ow_appX (.tmp 171) (.tmp 175) 115 (by kernel_rfl) 124 i0 _ 13 144 Tryz.underlying115 HI.out.1 HI.out.2.1 HI.out.2.2.1 HI.out.2.2.2 rfl (by decide) B ve m.evs.length (evRow m.evs) (by kernel_rfl) HRX.out HZX.out hx 0 1 1 (evC ((t : Int), e)) (by kernel_rfl) rfl (by decide) (blk_row HNE.out) (by intro u hu; first | exact evC_one _ u hu | (simp at hu; subst hu; rfl) | exact Sh.one ⟨_, _, _, _, _⟩ u hu) (by have := HEL.out; omega) (by decide) (Lib.hid ?_)
            intro vn wx h1 h2
            obtain ⟨gn, cn, rfl, -, -, -, -⟩ := own_some h1 (by omega)
            refine hK.out _ _ (hS.grown h2 (fun k e => .inl (.inr e))) (fun hS' => ?_)
            have HRN := Lib.hid h1
            have HBN := Lib.hid (HBX.out.only (Only.grown (S := fun k => ownB ve = some k) (Only.refl _ _) h2 (fun k e => .inl e)) HNB.out)
            clear hK K h1 h2 hS HBX HRX HNE
            have hS := hS'
            clear hS'
            refine wa_k 10 177 (.pointer (some ⟨b, 0, none⟩)) hS HZQ (wa_k 11 178 (.pointer (some ⟨b, 2, none⟩)) hS HZQ ?_)
            refine wa_r [12] ?_
            refine ar_a none (fun K hK => ?_) ar_nil
            refine ow_storeN 115 (.tmp 178) (.tmp 176) (by kernel_rfl) b 2 (.slice (some ⟨gn, 0, none⟩) (m.evs.length + 1) cn) [.slice (some ⟨gn, 0, none⟩) (m.evs.length + 1) cn] (by kernel_rfl) (by kernel_rfl) rfl [vl2, vu2, ve] 117 HBN.out (by simp) (by kernel_rfl) (by intro u hu; simp at hu; subst hu; rfl) (Lib.hid ?_)
            intro w7 hz hox
            refine hK.out _ _ (hS.trans (hox.mono (fun k hk => .inl hk))) (fun hS' => ?_)
            have HB5 := Lib.hid hz
            have HR5 := Lib.hid (own_only HRN.out hox (fun q hq e => own_ne_blk HRN.out HBN.out (by decide) (by rw [hq, e])))
            clear hK K hz hox hS HBN HRN
            have hS := hS'
            clear hS'
            refine wa_done (by kernel_rfl) ?_
            dsimp only [Exit.then, Act.put]
            simp only [List.setIfInBounds_toArray, List.set_cons_succ, List.set_cons_zero]
            refine ⟨by trivial, gn, cn, hx, rfl, hS, HB5.out, HR5.out⟩
        case h2 =>
          rintro gn cn hx w7 ⟨hO7, hB7, hR7⟩
          have hT := HM6.out.set_ev (w' := w7) (v' := .slice (some ⟨gn, 0, none⟩) (m.evs.length + 1) cn) (l := m.evs ++ [((t : Int), e)]) hO7 hB7 (by rw [List.length_append, List.length_singleton]; unfold evRow; rw [List.flatMap_append, List.flatMap_singleton]; exact hR7) (by rw [List.length_append, List.length_singleton]; have := HEL.out; omega)
          have HMF := Lib.hid hT.1
          have HCF := Lib.hid (HCH6.out.trans hT.2)
          clear hO7 hB7 hR7 hT
          go_wp2_with fail
          go_ret
          exact ⟨rfl, by rw [HSP.out]; exact ⟨_, _, _, HMF.out⟩, HCF.out⟩
end Go.Proofs.YthjmfcdhpdiehaaGreatDoor
