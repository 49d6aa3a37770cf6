/-
  tidewaterref20.Apply of an entry that counts: kind 4.
-/
import Derived.Test.YthjmfcdhpdiehaaGreatDoorM22
import Derived.Test.YthjmfcdhpdiehaaGreatDoorM24
namespace Go.Proofs.YthjmfcdhpdiehaaGreatDoor
open Go.RowKit Utf
set_option maxRecDepth 100000
set_option linter.unusedSimpArgs false
set_option linter.unusedVariables false

set_option maxHeartbeats 8000000 in
theorem rmerge_any (b B : Nat) (m : RM) (e : EN) (t : Nat) (w : World) (hm : RMAt w B b m) (ha : e.at w) (hc : rcountsP m e = true) (hk : e.kind = 4) (ht : t ≤ 4095) (hln : m.live.length ≤ 9000) (hlu : m.used.length ≤ 9000) (hle : m.evs.length ≤ 9000) (hB : B ≤ w.heap.size) :
    Calls Tryz.prog 30 #[.pointer (some ⟨b, 0, none⟩), .agg e.cells.toArray, .int .i64 (t : Nat)] w fun e' w' => e' = .returned (.bool true) ∧ RMAt w' B b (rmergeP m e t) ∧ Chg RT B w w' := by
  obtain ⟨vl, vu, ve, hm⟩ := hm
  obtain ⟨g, cap, cur, rfl, hgB, hgk, hgc, hgm, hgl, hgt, -⟩ := own_open hm.live hm.l1.1
  have H0 : Hid (RC w b B m e (.slice (some ⟨g, 0, none⟩) m.live.length cap) vu ve (w.alloc (.cells #[.int .i64 e.kind, .int .i64 e.shard, .int .i64 e.other, .int .i64 e.server, .int .i64 e.client, .int .i64 e.seq, .slice e.ao e.no e.co, .string e.key, .int .i64 e.upto, .int .i64 e.part, .int .i64 e.parts, .slice e.ad e.nd e.cd] 44))) := Lib.hid (RC.new hm ha)
  have HK := Lib.hid ha.key
  have HCA := Lib.hid (fun W hm ha => rcounts_any b B m e W hm ha)
  rw [hc] at HCA
  have HM := Lib.hid hm
  have HGK := Lib.hid hgk
  have HGL := Lib.hid hgl
  have HGT := Lib.hid hgt
  have HGM := Lib.hid hgm
  have HGC := Lib.hid hgc
  have HLN := Lib.hid hln
  have HLU := Lib.hid hlu
  have HLE := Lib.hid hle
  have hl1 := hm.l1.1
  cases hf : findN e.shard m.live with
  | none => rw [rcounts_none hf] at hc; cases hc
  | some i =>
  cases hf2 : findN e.other m.live with
  | none =>
    rw [rcounts_some hf, if_neg (by omega), if_neg (by omega), if_pos hk, hf2] at hc
    simp at hc
  | some k =>
  rw [rcounts_some hf, if_neg (by omega), if_neg (by omega), if_pos hk, hf2] at hc
  simp only [Bool.and_eq_true] at hc
  obtain ⟨hr, hjs⟩ := hc
  obtain ⟨sp, hj⟩ := Option.isSome_iff_exists.1 hjs
  clear hjs
  obtain ⟨hi, hii⟩ := findN_lt hf
  obtain ⟨hk', hkk⟩ := findN_lt hf2
  have hne : i ≠ k := by
    intro e1
    subst e1
    rw [hii] at hkk
    have hr' : rightE e = twoR e := by unfold rightE; rw [if_neg (by omega), if_neg (by omega), if_pos hk]
    rw [hr'] at hr
    exact twoR_ne hr hkk
  have HF := Lib.hid hf
  have HF2 := Lib.hid hf2
  have HSP := Lib.hid (show rmergeP m e t = _ by unfold rmergeP; rw [hf, hf2])
  simp only [hj] at HSP
  have HKI := Lib.hid hk
  have HJ := Lib.hid (fun W => rjoin_any (shAt m.live i).lo (shAt m.live i).hi (shAt m.live k).lo (shAt m.live k).hi W (rmap_ok HM.out hi).1 (rmap_ok HM.out hi).2 (rmap_ok HM.out hk').1 (rmap_ok HM.out hk').2)
  rw [hj] at HJ
  have HJC := Lib.hid (fun W => HJ.out W)
  have HOK := Lib.hid (joinB_ok hj (rmap_ok HM.out hi) (rmap_ok HM.out hk'))
  clear hm ha hr hj hk hf hf2 hgk hgl hgt hgm hgc hln hlu hle hii hkk HJ
  show Calls Tryz.prog 30 #[.pointer (some ⟨b, 0, none⟩), .agg #[.int .i64 e.kind, .int .i64 e.shard, .int .i64 e.other, .int .i64 e.server, .int .i64 e.client, .int .i64 e.seq, .slice e.ao e.no e.co, .string e.key, .int .i64 e.upto, .int .i64 e.part, .int .i64 e.parts, .slice e.ad e.nd e.cd], .int .i64 (t : Nat)] w _
  go_enter Tryz.func30, Tryz.ntmps30
  go_wp2_with (refine wpList_load_hid rfl 44 (.tmp 4) rfl w.heap.size rfl 44 e.cells.toArray H0.out.box _ Tryz.underlying44 rfl (by kernel_rfl) ?_)
  refine Lib.hid ?_
  go_wp2_with fail
  refine (HCA.out _ H0.out.mp H0.out.ent).mono ?_
  rintro e' w1 ⟨rfl, hb1⟩
  have S1 := Lib.hid (H0.out.next hb1)
  clear hb1
  have s1 := S1.out.c1
  have htn : ¬ (4095 : Int) < (t : Int) := by omega
  have htn0 : ¬ (t : Int) < 0 := by omega
  go_wp2_with fail
  refine (rfind_any b B m e.shard _ S1.out.mp).mono ?_
  rintro e' w2 ⟨rfl, hb2⟩
  have S2 := Lib.hid (S1.out.next hb2)
  clear hb2 s1
  rw [HF.out]
  dsimp only [idxI]
  have s0 := S2.out.c0
  have e2 : (e.kind == 2) = false := by rw [HKI.out]; decide
  have e3 : (e.kind == 3) = false := by rw [HKI.out]; decide
  have e4 : (e.kind == 4) = true := by rw [HKI.out]; decide
  have s2 := S2.out.c2
  go_wp2_with fail
  refine (rfind_any b B m e.other _ S2.out.mp).mono ?_
  rintro e' w2' ⟨rfl, hb2'⟩
  have S2' := Lib.hid (S2.out.next hb2')
  clear hb2' s2 s0
  rw [HF2.out]
  dsimp only [idxI]
  go_wp2_with fail
  apply merge1 (F := fun g8 w' => Below w2'.heap.size w2' w' ∧ w2'.heap.size ≤ g8 ∧ Blk w' g8 52 #[.string sp.1, .string sp.2])
  case h1 =>
    obtain ⟨i0, hinf, hz0, -, -⟩ := info_parts Tryz.infoSp
    have HI := Lib.hid (And.intro hinf hz0)
    clear hinf hz0
    refine wp_region_wb ((Below w2'.heap.size w2')) (by kernel_rfl) (tame_drewN (Below.refl _ w2') 1) (fun _ _ _ _ _ h => nomatch h.1) ?_
    intro hS HZQ
    refine wa_k 0 112 (.pointer (some ⟨b, 0, none⟩)) hS HZQ (wa_k 1 113 (.pointer (some ⟨b, 0, none⟩)) hS HZQ (wa_k 2 114 (.pointer (some ⟨b, 0, none⟩)) hS HZQ (wa_v 3 115 (.slice (some ⟨g, 0, none⟩) m.live.length cap) hS HZQ (fun W hW => run_load1 73 (.tmp 114) (by kernel_rfl) ⟨b, 0, none⟩ (by kernel_rfl) (.slice (some ⟨g, 0, none⟩) m.live.length cap) ((S2'.out.next hW).map.blk.cell 0) _ Tryz.underlying73 rfl) (wa_k 4 116 (.int .i64 ((i : Nat) : Int)) hS HZQ (wa_v 5 117 (.pointer (some ⟨g, i * 5, none⟩)) hS HZQ (fun W hW => run_eqv (run_idx 73 (.tmp 115) (.tmp 116) (by kernel_rfl) g 0 m.live.length cap i 75 5 (by kernel_rfl) (by kernel_rfl) (by omega) Tryz.underlying73 (by kernel_rfl)) (by rw [Nat.zero_add])) (wa_k 6 118 (.pointer (some ⟨g, i * 5 + 3, none⟩)) hS HZQ (wa_v 7 119 (.agg #[.string (shAt m.live i).lo, .string (shAt m.live i).hi]) hS HZQ (fun W hW => run_eqv (run_loadN 52 (.tmp 118) (by kernel_rfl) g (i * 5 + 3) (by kernel_rfl) [.string (shAt m.live i).lo, .string (shAt m.live i).hi] (row_span (own_row1 (S2'.out.next hW).map.live) hi) _ Tryz.underlying52 rfl (by kernel_rfl)) rfl) ?_)))))))
    refine wa_k 8 120 (.pointer (some ⟨b, 0, none⟩)) hS HZQ (wa_k 9 121 (.pointer (some ⟨b, 0, none⟩)) hS HZQ (wa_k 10 122 (.pointer (some ⟨b, 0, none⟩)) hS HZQ (wa_v 11 123 (.slice (some ⟨g, 0, none⟩) m.live.length cap) hS HZQ (fun W hW => run_load1 73 (.tmp 122) (by kernel_rfl) ⟨b, 0, none⟩ (by kernel_rfl) (.slice (some ⟨g, 0, none⟩) m.live.length cap) ((S2'.out.next hW).map.blk.cell 0) _ Tryz.underlying73 rfl) (wa_k 12 124 (.int .i64 ((k : Nat) : Int)) hS HZQ (wa_v 13 125 (.pointer (some ⟨g, k * 5, none⟩)) hS HZQ (fun W hW => run_eqv (run_idx 73 (.tmp 123) (.tmp 124) (by kernel_rfl) g 0 m.live.length cap k 75 5 (by kernel_rfl) (by kernel_rfl) (by omega) Tryz.underlying73 (by kernel_rfl)) (by rw [Nat.zero_add])) (wa_k 14 126 (.pointer (some ⟨g, k * 5 + 3, none⟩)) hS HZQ (wa_v 15 127 (.agg #[.string (shAt m.live k).lo, .string (shAt m.live k).hi]) hS HZQ (fun W hW => run_eqv (run_loadN 52 (.tmp 126) (by kernel_rfl) g (k * 5 + 3) (by kernel_rfl) [.string (shAt m.live k).lo, .string (shAt m.live k).hi] (row_span (own_row1 (S2'.out.next hW).map.live) hk') _ Tryz.underlying52 rfl (by kernel_rfl)) rfl) ?_)))))))
    refine wa_r [16, 20] ?_
    refine (ar_a (some 128) (fun K hK => ?_) (ar_a (some 12) (fun K hK => ?_) ar_nil))
    ·
      refine ow_call 61 #[.agg #[.string (shAt m.live i).lo, .string (shAt m.live i).hi], .agg #[.string (shAt m.live k).lo, .string (shAt m.live k).hi]] (by kernel_rfl) (fun v w' => v = .tuple #[.agg #[.string sp.1, .string sp.2], .int .i64 0] ∧ Below _ _ w') ((HJC.out _).mono fun e' w' h => ⟨_, h.1, rfl, h.2⟩) (Lib.hid ?_)
      rintro v wx ⟨rfl, hbx⟩
      refine hK.out _ _ (hS.trans (hbx.mono hS.size)) (fun hS => ?_)
      try have H8 := Lib.hid (H8.out.below hbx H8.out.lt)
      clear hK K hbx
      refine wa_k 17 111 (.tuple #[.agg #[.string sp.1, .string sp.2], .int .i64 0]) hS HZQ (wa_k 18 129 (.agg #[.string sp.1, .string sp.2]) hS HZQ (wa_k 19 130 (.int .i64 0) hS HZQ ?_))
      refine wa_r [20] ?_
      refine ar_a (some 12) (fun K hK => ?_) ar_nil
      refine ow_alloc 52 (by kernel_rfl) i0 _ HI.out.1 HI.out.2 (Lib.hid ?_)
      intro g8 wx hg8 hz hbx
      refine hK.out _ _ (hS.trans (hbx.mono hS.size)) (fun hS' => ?_)
      have G8 := Lib.hid (show w2'.heap.size ≤ g8 by rw [hg8]; exact hS.size)
      have H8 := Lib.hid hz
      clear hK K hbx hg8 hz
      have hS := hS'
      clear hS'
      refine wa_r [21] ?_
      refine ar_a none (fun K hK => ?_) ar_nil
      refine ow_store_blk 52 (.tmp 12) (.tmp 129) (by kernel_rfl) g8 #[.string sp.1, .string sp.2] (by kernel_rfl) (by kernel_rfl) 52 #[.string ⟨#[]⟩, .string ⟨#[]⟩] H8.out rfl (by kernel_rfl) (by kernel_rfl) (Lib.hid ?_)
      intro wx hz hox
      refine hK.out _ _ (hS.trans (hox.to_below hS.size (fun q hq e => by have := G8.out; omega))) (fun hS => ?_)
      have H8 := Lib.hid hz
      clear hK K hz hox
      refine wa_k 22 13 (.int .i64 0) hS HZQ ?_
      refine wa_done (by kernel_rfl) ?_
      dsimp only [Exit.then, Act.put]
      simp only [List.setIfInBounds_toArray, List.set_cons_succ, List.set_cons_zero]
      refine ⟨by trivial, g8, rfl, hS, G8.out, H8.out⟩
    ·
      refine ow_alloc 52 (by kernel_rfl) i0 _ HI.out.1 HI.out.2 (Lib.hid ?_)
      intro g8 wx hg8 hz hbx
      refine hK.out _ _ (hS.trans (hbx.mono hS.size)) (fun hS' => ?_)
      have G8 := Lib.hid (show w2'.heap.size ≤ g8 by rw [hg8]; exact hS.size)
      have H8 := Lib.hid hz
      clear hK K hbx hg8 hz
      have hS := hS'
      clear hS'
      refine wa_r [16] ?_
      refine ar_a (some 128) (fun K hK => ?_) ar_nil
      refine ow_call 61 #[.agg #[.string (shAt m.live i).lo, .string (shAt m.live i).hi], .agg #[.string (shAt m.live k).lo, .string (shAt m.live k).hi]] (by kernel_rfl) (fun v w' => v = .tuple #[.agg #[.string sp.1, .string sp.2], .int .i64 0] ∧ Below _ _ w') ((HJC.out _).mono fun e' w' h => ⟨_, h.1, rfl, h.2⟩) (Lib.hid ?_)
      rintro v wx ⟨rfl, hbx⟩
      refine hK.out _ _ (hS.trans (hbx.mono hS.size)) (fun hS => ?_)
      try have H8 := Lib.hid (H8.out.below hbx H8.out.lt)
      clear hK K hbx
      refine wa_k 17 111 (.tuple #[.agg #[.string sp.1, .string sp.2], .int .i64 0]) hS HZQ (wa_k 18 129 (.agg #[.string sp.1, .string sp.2]) hS HZQ (wa_k 19 130 (.int .i64 0) hS HZQ ?_))
      refine wa_r [21] ?_
      refine ar_a none (fun K hK => ?_) ar_nil
      refine ow_store_blk 52 (.tmp 12) (.tmp 129) (by kernel_rfl) g8 #[.string sp.1, .string sp.2] (by kernel_rfl) (by kernel_rfl) 52 #[.string ⟨#[]⟩, .string ⟨#[]⟩] H8.out rfl (by kernel_rfl) (by kernel_rfl) (Lib.hid ?_)
      intro wx hz hox
      refine hK.out _ _ (hS.trans (hox.to_below hS.size (fun q hq e => by have := G8.out; omega))) (fun hS => ?_)
      have H8 := Lib.hid hz
      clear hK K hz hox
      refine wa_k 22 13 (.int .i64 0) hS HZQ ?_
      refine wa_done (by kernel_rfl) ?_
      dsimp only [Exit.then, Act.put]
      simp only [List.setIfInBounds_toArray, List.set_cons_succ, List.set_cons_zero]
      refine ⟨by trivial, g8, rfl, hS, G8.out, H8.out⟩
  case h2 =>
    rintro g8 w3 ⟨hb3, G8, H8⟩
    have S3 := Lib.hid (S2'.out.next hb3)
    have HG8 := Lib.hid (show g8 ≠ g ∧ g8 ≠ b by
      have h1 := HGK.out.lt
      have h2 := S2'.out.bel.size
      have h3 := HM.out.blk.lt
      omega)
    have H8 := Lib.hid H8
    have hg := G8
    clear hb3 G8 hg S2 S2'
    have HB2 := Lib.hid S3.out.map.blk
    have HR2 := Lib.hid (HGK.out.below S3.out.bel HGK.out.lt)
    have HBG := Lib.hid (show b ≠ g from fun e1 => by
      have h1 := HB2.out
      have h2 := HR2.out
      unfold Blk at h1 h2
      rw [e1, h2] at h1
      simp at h1)
    have HXB := Lib.hid (show w.heap.size ≠ b from Nat.ne_of_gt HM.out.blk.lt)
    have HXG := Lib.hid (show w.heap.size ≠ g from Nat.ne_of_gt HGK.out.lt)
    have HF1 : Hid (i * 5 + 3 + 2 ≤ cur.length) := Lib.hid (by have := HGL.out; have := HGC.out; omega)
    have HF2 : Hid (i * 5 + 2 + 1 ≤ (splice cur (i * 5 + 3) [.string sp.1, .string sp.2]).length) := Lib.hid (by rw [length_splice _ _ _ (by simpa using HF1.out)]; have := HF1.out; omega)
    go_wp2_with fail
    refine wp_region_wb ((Only (fun k => k = g) w3)) (by kernel_rfl) (((Only.refl (fun k => k = g) w3).drewN 1)) (fun _ _ _ _ _ h => h) ?_
    intro hS HZQ
    refine wa_k 0 131 (.pointer (some ⟨b, 0, none⟩)) hS HZQ (wa_k 1 132 (.pointer (some ⟨b, 0, none⟩)) hS HZQ (wa_k 2 133 (.pointer (some ⟨b, 0, none⟩)) hS HZQ (wa_v 3 134 (.slice (some ⟨g, 0, none⟩) m.live.length cap) hS HZQ (fun W hW => run_load1 73 (.tmp 133) (by kernel_rfl) ⟨b, 0, none⟩ (by kernel_rfl) (.slice (some ⟨g, 0, none⟩) m.live.length cap) ((HB2.out.only hW HBG.out).cell 0) _ Tryz.underlying73 rfl) (wa_k 4 135 (.int .i64 ((i : Nat) : Int)) hS HZQ (wa_k 5 136 (.pointer (some ⟨b, 0, none⟩)) hS HZQ (wa_k 6 137 (.pointer (some ⟨b, 0, none⟩)) hS HZQ (wa_k 7 138 (.pointer (some ⟨b, 0, none⟩)) hS HZQ ?_)))))))
    refine wa_v 8 139 (.slice (some ⟨g, 0, none⟩) m.live.length cap) hS HZQ (fun W hW => run_load1 73 (.tmp 138) (by kernel_rfl) ⟨b, 0, none⟩ (by kernel_rfl) (.slice (some ⟨g, 0, none⟩) m.live.length cap) ((HB2.out.only hW HBG.out).cell 0) _ Tryz.underlying73 rfl) (wa_k 9 140 (.int .i64 ((i : Nat) : Int)) hS HZQ (wa_v 10 141 (.agg #[.string sp.1, .string sp.2]) hS HZQ (fun W hW => run_eqv (run_loadN 52 (.tmp 12) (by kernel_rfl) g8 0 (by kernel_rfl) [.string sp.1, .string sp.2] ((H8.out.only hW HG8.out.1).range (fun j v hj => by simpa using hj)) _ Tryz.underlying52 rfl (by kernel_rfl)) rfl) (wa_k 11 142 (.int .i64 ((t : Nat) : Int)) hS HZQ (wa_v 12 143 (.int .i64 ((t + 1 : Nat) : Int)) hS HZQ (fun W hW => run_eqv (v := .int .i64 (IntKind.i64.wrap ((t : Int) + 1))) (by kernel_rfl) (wrap_nat _ _ (by omega) (by omega))) (wa_v 13 144 (.pointer (some ⟨g, i * 5, none⟩)) hS HZQ (fun W hW => run_eqv (run_idx 73 (.tmp 134) (.tmp 135) (by kernel_rfl) g 0 m.live.length cap i 75 5 (by kernel_rfl) (by kernel_rfl) (by omega) Tryz.underlying73 (by kernel_rfl)) (by rw [Nat.zero_add])) (wa_k 14 145 (.pointer (some ⟨g, i * 5 + 3, none⟩)) hS HZQ ?_))))))
    refine wa_r [15] ?_
    refine ar_a none (fun K hK => ?_) ar_nil
    refine ow_storeN 52 (.tmp 145) (.tmp 141) (by kernel_rfl) g (i * 5 + 3) (.agg #[.string sp.1, .string sp.2]) [.string sp.1, .string sp.2] (by kernel_rfl) (by kernel_rfl) rfl cur 75 (HR2.out.drewN 1) HF1.out (by kernel_rfl) (by intro u hu; simp at hu; rcases hu with rfl | rfl <;> rfl) (Lib.hid ?_)
    intro wx hz hox
    refine hK.out _ _ (hS.trans hox) (fun hS => ?_)
    have HR3 := Lib.hid hz
    clear hK K hz hox HR2
    refine wa_v 16 146 (.pointer (some ⟨g, i * 5, none⟩)) hS HZQ (fun W hW => run_eqv (run_idx 73 (.tmp 139) (.tmp 140) (by kernel_rfl) g 0 m.live.length cap i 75 5 (by kernel_rfl) (by kernel_rfl) (by omega) Tryz.underlying73 (by kernel_rfl)) (by rw [Nat.zero_add])) (wa_k 17 147 (.pointer (some ⟨g, i * 5 + 2, none⟩)) hS HZQ ?_)
    refine wa_r [18] ?_
    refine ar_a none (fun K hK => ?_) ar_nil
    refine ow_storeN 3 (.tmp 147) (.tmp 143) (by kernel_rfl) g (i * 5 + 2) (.int .i64 ((t + 1 : Nat) : Int)) [.int .i64 ((t + 1 : Nat) : Int)] (by kernel_rfl) (by kernel_rfl) rfl (splice cur (i * 5 + 3) [.string sp.1, .string sp.2]) 75 HR3.out HF2.out (by kernel_rfl) (by intro u hu; simp at hu; subst hu; rfl) (Lib.hid ?_)
    intro w4 hz hox
    refine hK.out _ _ (hS.trans hox) (fun hS => ?_)
    have HR4 := Lib.hid hz
    clear hK K hz hox HR3
    refine wa_done (by kernel_rfl) ?_
    dsimp only [Exit.then, Act.put]
    simp only [List.setIfInBounds_toArray, List.set_cons_succ, List.set_cons_zero]
    have O4 := Lib.hid hS
    have HROW := Lib.hid (own_blk (n := m.live.length) (cap := cap) (xs := shRow (m.live.set i ((shAt m.live i).turned sp.1 sp.2 ((t + 1 : Nat) : Int)))) (sz := 5) HR4.out hgB (by rw [shRow_len, List.length_set]) HGC.out HGM.out (by rw [length_splice _ _ _ (by simpa using HF2.out), length_splice _ _ _ (by simpa using HF1.out), HGL.out]) (row_turn cur m.live i sp.1 sp.2 ((t + 1 : Nat) : Int) hi HGT.out (by have := HGL.out; have := HGC.out; omega)))
    have hcap : 1 ≤ cap := by have := HGC.out; omega
    have HT := Lib.hid (S3.out.map.set_live (w' := w4) (v' := .slice (some ⟨g, 0, none⟩) m.live.length cap) (l := m.live.set i ((shAt m.live i).turned sp.1 sp.2 ((t + 1 : Nat) : Int))) (O4.out.mono (fun k hk => .inr (by rw [ownB_of hcap, hk]))) (HB2.out.only O4.out HBG.out) (by rw [List.length_set]; exact HROW.out) (by rw [List.length_set]; have := HLN.out; omega) (fun s hs => by
      rcases List.mem_or_eq_of_mem_set hs with h | h
      · exact HM.out.ok s h
      · rw [h]
        exact HOK.out))
    have HX4 := Lib.hid (S3.out.box.only O4.out HXG.out)
    have HLL : Hid ((m.live.set i ((shAt m.live i).turned sp.1 sp.2 ((t + 1 : Nat) : Int))).length = m.live.length) := Lib.hid (List.length_set ..)
    have HSZ : Hid (B ≤ w4.heap.size) := Lib.hid (by have h1 := S3.out.bel.size; have h2 := O4.out.size; omega)
    have HCH := Lib.hid ((Chg.of_below (T := RT) (B := B) S3.out.bel).trans HT.out.2)
    generalize hl1' : m.live.set i ((shAt m.live i).turned sp.1 sp.2 ((t + 1 : Nat) : Int)) = l1 at *
    have HL1 := Lib.hid hl1'
    clear hl1' hS HR4 HB2 hcap HROW
    clear H8
    obtain ⟨hmv, hch⟩ := HT.out
    have HM4 := Lib.hid hmv
    have HBi := Lib.hid hmv.blk
    have HEL : Hid (l1.length ≤ 9000 ∧ l1.length = m.live.length) := Lib.hid (by have := HLL.out; have := HLN.out; omega)
    have HRW : Hid (RowAt w4 (some ⟨g, 0, none⟩) (shRow l1)) := Lib.hid (by have h1 := hmv.live; dsimp only at h1; rw [HLL.out] at h1; exact own_row1 h1)
    have HBG2 := Lib.hid (fun (ad : Addr) (e1 : some (⟨g, 0, none⟩ : Addr) = some ad) (h : ad.block = b) => show False from by cases e1; exact HBG.out h.symm)
    have hkl : k < m.live.length := hk'
    have hlm : m.live.length ≤ 9000 := HLN.out
    clear hmv hch HT
    go_wp2_with fail
    apply merge4 (F := fun hx vA gn cn w' => Only (fun q => q = b) w4 w' ∧ Blk w' b 117 #[.slice (some ⟨gn, 0, none⟩) (m.live.length - 1) cn, vu, ve] ∧ w'.ownsRow B 75 5 (.slice (some ⟨gn, 0, none⟩) (m.live.length - 1) cn) (m.live.length - 1) (shRow (l1.take k ++ l1.drop (k + 1))))
    case h1 =>
      obtain ⟨i0, hinf, hz0, hz1, hz2⟩ := info_parts Tryz.infoRS
      have HI := Lib.hid (And.intro hinf (And.intro hz0 (And.intro hz1 hz2)))
      clear hinf hz0 hz1 hz2
      have h2l : 2 ≤ m.live.length := by omega
      have hgc' : m.live.length ≤ cap := HGC.out
      have HW := Lib.hid (tame_drewN (Below.refl w4.heap.size w4) 1)
      refine wp_region_wb ((Only (fun q => q = b) w4)) (by kernel_rfl) (((Only.refl (fun q => q = b) w4).drewN 1)) (fun _ _ _ _ _ h => nomatch h.1) ?_
      intro hS HZQ
      refine wa_k 0 148 (.pointer (some ⟨b, 0, none⟩)) hS HZQ (wa_k 2 150 (.pointer (some ⟨b, 0, none⟩)) hS HZQ (wa_k 3 151 (.pointer (some ⟨b, 0, none⟩)) hS HZQ (wa_k 4 152 (.pointer (some ⟨b, 0, none⟩)) hS HZQ (wa_k 6 154 (.int .i64 ((k : Nat) : Int)) hS HZQ (wa_k 9 157 (.pointer (some ⟨b, 0, none⟩)) hS HZQ (wa_k 10 158 (.pointer (some ⟨b, 0, none⟩)) hS HZQ (wa_k 11 159 (.pointer (some ⟨b, 0, none⟩)) hS HZQ ?_)))))))
      refine wa_k 13 161 (.int .i64 ((k : Nat) : Int)) hS HZQ (wa_v 14 162 (.int .i64 ((k + 1 : Nat) : Int)) hS HZQ (fun W hW => run_eqv (v := .int .i64 (IntKind.i64.wrap (((k : Nat) : Int) + 1))) (by kernel_rfl) (wrap_nat _ (k + 1) (by omega) (by omega))) ?_)
      refine wa_r [1, 5, 12] ?_
      refine (ar_a (some 149) (fun K hK => ?_) (ar_a (some 153) (fun K hK => ?_) (ar_a (some 160) (fun K hK => ?_) ar_nil)))
      ·
        refine ow_zero 75 (by kernel_rfl) (Lib.hid ?_)
        intro hx wx hh hbx
        refine hK.out _ _ (hS.fresh hbx) (fun hS' => ?_)
        have HW := Lib.hid (HW.out.trans (hbx.mono HW.out.size))
        clear hK K hbx hh
        have hS := hS'
        clear hS'
        refine wa_r [5, 12] ?_
        refine (ar_a (some 153) (fun K hK => ?_) (ar_a (some 160) (fun K hK => ?_) ar_nil))
        ·
          refine ow_val (.slice (some ⟨g, 0, none⟩) m.live.length cap) _ (run_load1 73 (.tmp 152) (by kernel_rfl) ⟨b, 0, none⟩ (by kernel_rfl) (.slice (some ⟨g, 0, none⟩) m.live.length cap) ((HBi.out.below HW.out HBi.out.lt).cell 0) _ Tryz.underlying73 rfl) ?_
          refine hK.out _ _ hS (fun hS => ?_)
          clear hK K
          refine wa_v 7 155 (.slice (some ⟨g, 0, none⟩) k cap) hS HZQ (fun W hW => run_eqv (run_slcH 73 (.tmp 153) (.tmp 154) (by kernel_rfl) g 0 m.live.length cap k 75 5 (by kernel_rfl) (by kernel_rfl) (by omega) Tryz.underlying73 (by kernel_rfl)) rfl) ?_
          refine wa_r [8, 12] ?_
          refine (ar_a (some 156) (fun K hK => ?_) (ar_a (some 160) (fun K hK => ?_) ar_nil))
          ·
            refine ow_appE (.tmp 149) (.tmp 155) 73 (by kernel_rfl) 75 i0 _ 5 56 Tryz.underlying73 HI.out.1 HI.out.2.1 HI.out.2.2.1 HI.out.2.2.2 rfl (by decide) w4.heap.size (.slice (some ⟨hx, 0, none⟩) 0 0) 0 [] (by kernel_rfl) OwnE.new HW.out.size g 0 k cap (shRow (l1.take k)) (by kernel_rfl) (by rw [shRow_len, List.length_take]; have := HEL.out; omega) (by rw [shRow_take]; exact rowAt_take (HRW.out.below HW.out)) (shRow_one _) (by omega) (by decide) (Lib.hid ?_)
            intro vA wx hA hg
            rw [Nat.zero_add, List.nil_append] at hA
            refine hK.out _ _ (hS.grown hg (fun q e => by simp [ownB] at e)) (fun hS' => ?_)
            have HW := Lib.hid (HW.out.grown hg HW.out.size (fun q e => by simp [ownB] at e))
            have HA := Lib.hid hA
            clear hK K hA hg
            have hS := hS'
            clear hS'
            refine wa_r [12] ?_
            refine ar_a (some 160) (fun K hK => ?_) ar_nil
            refine ow_val (.slice (some ⟨g, 0, none⟩) m.live.length cap) _ (run_load1 73 (.tmp 159) (by kernel_rfl) ⟨b, 0, none⟩ (by kernel_rfl) (.slice (some ⟨g, 0, none⟩) m.live.length cap) ((HBi.out.below HW.out HBi.out.lt).cell 0) _ Tryz.underlying73 rfl) ?_
            refine hK.out _ _ hS (fun hS => ?_)
            clear hK K
            refine wa_v 15 163 (.slice (some ⟨g, offA cap (k + 1) 5, none⟩) (m.live.length - (k + 1)) (cap - (k + 1))) hS HZQ (fun W hW => run_slcA 73 (.tmp 160) (.tmp 162) (by kernel_rfl) g m.live.length cap (k + 1) 75 5 (by kernel_rfl) (by kernel_rfl) (by omega) (by omega) Tryz.underlying73 (by kernel_rfl)) ?_
            refine wa_r [16] ?_
            refine ar_a (some 164) (fun K hK => ?_) ar_nil
            refine ow_appE (.tmp 156) (.tmp 163) 73 (by kernel_rfl) 75 i0 _ 5 56 Tryz.underlying73 HI.out.1 HI.out.2.1 HI.out.2.2.1 HI.out.2.2.2 rfl (by decide) w4.heap.size vA k (shRow (l1.take k)) (by kernel_rfl) HA.out HW.out.size g (offA cap (k + 1) 5) (m.live.length - (k + 1)) (cap - (k + 1)) (shRow (l1.drop (k + 1))) (by kernel_rfl) (by rw [shRow_len, List.length_drop]; have := HEL.out; omega) (rowAt_offA (HRW.out.below HW.out) (by have := HEL.out; have := HGC.out; omega)) (shRow_one _) (by omega) (by decide) (Lib.hid ?_)
            intro vB wx hBo hg
            rw [show k + (m.live.length - (k + 1)) = m.live.length - 1 by omega] at hBo
            have hBo := ownE_pos hBo (by omega)
            obtain ⟨gn, cn, rfl, -, -, -, -⟩ := own_some hBo (by omega)
            refine hK.out _ _ (hS.grown hg (fun q e => .inr (ownE_ty HA.out e).1)) (fun hS' => ?_)
            have HW := Lib.hid (HW.out.grown hg HW.out.size (fun q e => (ownE_ty HA.out e).1))
            have HRN := Lib.hid hBo
            have HBN := Lib.hid (HBi.out.below HW.out HBi.out.lt)
            clear hK K hBo hg HA
            have hS := hS'
            clear hS'
            refine wa_k 17 165 (.pointer (some ⟨b, 0, none⟩)) hS HZQ (wa_k 18 166 (.pointer (some ⟨b, 0, none⟩)) hS HZQ ?_)
            refine wa_r [19] ?_
            refine ar_a none (fun K hK => ?_) ar_nil
            refine ow_storeN 73 (.tmp 166) (.tmp 164) (by kernel_rfl) b 0 (.slice (some ⟨gn, 0, none⟩) (m.live.length - 1) cn) [.slice (some ⟨gn, 0, none⟩) (m.live.length - 1) cn] (by kernel_rfl) (by kernel_rfl) rfl [.slice (some ⟨g, 0, none⟩) m.live.length cap, vu, ve] 117 HBN.out (by simp) (by kernel_rfl) (by intro u hu; simp at hu; subst hu; rfl) (Lib.hid ?_)
            intro w5 hz hox
            refine hK.out _ _ (hS.trans hox) (fun hS' => ?_)
            have HB5 := Lib.hid hz
            have HR5 := Lib.hid (own_base (own_only HRN.out hox (fun q hq e => own_ne_blk HRN.out HBN.out (by decide) (by rw [hq, e]))) HSZ.out)
            clear hK K hz hox hS HBN HRN
            have hS := hS'
            clear hS'
            refine wa_done (by kernel_rfl) ?_
            dsimp only [Exit.then, Act.put]
            simp only [List.setIfInBounds_toArray, List.set_cons_succ, List.set_cons_zero]
            refine ⟨by trivial, hx, vA, gn, cn, rfl, hS, HB5.out, by rw [show shRow (l1.take k ++ l1.drop (k + 1)) = shRow (l1.take k) ++ shRow (l1.drop (k + 1)) by unfold shRow; rw [List.flatMap_append]]; exact HR5.out⟩
          ·
            refine ow_val (.slice (some ⟨g, 0, none⟩) m.live.length cap) _ (run_load1 73 (.tmp 159) (by kernel_rfl) ⟨b, 0, none⟩ (by kernel_rfl) (.slice (some ⟨g, 0, none⟩) m.live.length cap) ((HBi.out.below HW.out HBi.out.lt).cell 0) _ Tryz.underlying73 rfl) ?_
            refine hK.out _ _ hS (fun hS => ?_)
            clear hK K
            refine wa_v 15 163 (.slice (some ⟨g, offA cap (k + 1) 5, none⟩) (m.live.length - (k + 1)) (cap - (k + 1))) hS HZQ (fun W hW => run_slcA 73 (.tmp 160) (.tmp 162) (by kernel_rfl) g m.live.length cap (k + 1) 75 5 (by kernel_rfl) (by kernel_rfl) (by omega) (by omega) Tryz.underlying73 (by kernel_rfl)) ?_
            refine wa_r [8] ?_
            refine ar_a (some 156) (fun K hK => ?_) ar_nil
            refine ow_appE (.tmp 149) (.tmp 155) 73 (by kernel_rfl) 75 i0 _ 5 56 Tryz.underlying73 HI.out.1 HI.out.2.1 HI.out.2.2.1 HI.out.2.2.2 rfl (by decide) w4.heap.size (.slice (some ⟨hx, 0, none⟩) 0 0) 0 [] (by kernel_rfl) OwnE.new HW.out.size g 0 k cap (shRow (l1.take k)) (by kernel_rfl) (by rw [shRow_len, List.length_take]; have := HEL.out; omega) (by rw [shRow_take]; exact rowAt_take (HRW.out.below HW.out)) (shRow_one _) (by omega) (by decide) (Lib.hid ?_)
            intro vA wx hA hg
            rw [Nat.zero_add, List.nil_append] at hA
            refine hK.out _ _ (hS.grown hg (fun q e => by simp [ownB] at e)) (fun hS' => ?_)
            have HW := Lib.hid (HW.out.grown hg HW.out.size (fun q e => by simp [ownB] at e))
            have HA := Lib.hid hA
            clear hK K hA hg
            have hS := hS'
            clear hS'
            refine wa_r [16] ?_
            refine ar_a (some 164) (fun K hK => ?_) ar_nil
            refine ow_appE (.tmp 156) (.tmp 163) 73 (by kernel_rfl) 75 i0 _ 5 56 Tryz.underlying73 HI.out.1 HI.out.2.1 HI.out.2.2.1 HI.out.2.2.2 rfl (by decide) w4.heap.size vA k (shRow (l1.take k)) (by kernel_rfl) HA.out HW.out.size g (offA cap (k + 1) 5) (m.live.length - (k + 1)) (cap - (k + 1)) (shRow (l1.drop (k + 1))) (by kernel_rfl) (by rw [shRow_len, List.length_drop]; have := HEL.out; omega) (rowAt_offA (HRW.out.below HW.out) (by have := HEL.out; have := HGC.out; omega)) (shRow_one _) (by omega) (by decide) (Lib.hid ?_)
            intro vB wx hBo hg
            rw [show k + (m.live.length - (k + 1)) = m.live.length - 1 by omega] at hBo
            have hBo := ownE_pos hBo (by omega)
            obtain ⟨gn, cn, rfl, -, -, -, -⟩ := own_some hBo (by omega)
            refine hK.out _ _ (hS.grown hg (fun q e => .inr (ownE_ty HA.out e).1)) (fun hS' => ?_)
            have HW := Lib.hid (HW.out.grown hg HW.out.size (fun q e => (ownE_ty HA.out e).1))
            have HRN := Lib.hid hBo
            have HBN := Lib.hid (HBi.out.below HW.out HBi.out.lt)
            clear hK K hBo hg HA
            have hS := hS'
            clear hS'
            refine wa_k 17 165 (.pointer (some ⟨b, 0, none⟩)) hS HZQ (wa_k 18 166 (.pointer (some ⟨b, 0, none⟩)) hS HZQ ?_)
            refine wa_r [19] ?_
            refine ar_a none (fun K hK => ?_) ar_nil
            refine ow_storeN 73 (.tmp 166) (.tmp 164) (by kernel_rfl) b 0 (.slice (some ⟨gn, 0, none⟩) (m.live.length - 1) cn) [.slice (some ⟨gn, 0, none⟩) (m.live.length - 1) cn] (by kernel_rfl) (by kernel_rfl) rfl [.slice (some ⟨g, 0, none⟩) m.live.length cap, vu, ve] 117 HBN.out (by simp) (by kernel_rfl) (by intro u hu; simp at hu; subst hu; rfl) (Lib.hid ?_)
            intro w5 hz hox
            refine hK.out _ _ (hS.trans hox) (fun hS' => ?_)
            have HB5 := Lib.hid hz
            have HR5 := Lib.hid (own_base (own_only HRN.out hox (fun q hq e => own_ne_blk HRN.out HBN.out (by decide) (by rw [hq, e]))) HSZ.out)
            clear hK K hz hox hS HBN HRN
            have hS := hS'
            clear hS'
            refine wa_done (by kernel_rfl) ?_
            dsimp only [Exit.then, Act.put]
            simp only [List.setIfInBounds_toArray, List.set_cons_succ, List.set_cons_zero]
            refine ⟨by trivial, hx, vA, gn, cn, rfl, hS, HB5.out, by rw [show shRow (l1.take k ++ l1.drop (k + 1)) = shRow (l1.take k) ++ shRow (l1.drop (k + 1)) by unfold shRow; rw [List.flatMap_append]]; exact HR5.out⟩
        ·
          refine ow_val (.slice (some ⟨g, 0, none⟩) m.live.length cap) _ (run_load1 73 (.tmp 159) (by kernel_rfl) ⟨b, 0, none⟩ (by kernel_rfl) (.slice (some ⟨g, 0, none⟩) m.live.length cap) ((HBi.out.below HW.out HBi.out.lt).cell 0) _ Tryz.underlying73 rfl) ?_
          refine hK.out _ _ hS (fun hS => ?_)
          clear hK K
          refine wa_v 15 163 (.slice (some ⟨g, offA cap (k + 1) 5, none⟩) (m.live.length - (k + 1)) (cap - (k + 1))) hS HZQ (fun W hW => run_slcA 73 (.tmp 160) (.tmp 162) (by kernel_rfl) g m.live.length cap (k + 1) 75 5 (by kernel_rfl) (by kernel_rfl) (by omega) (by omega) Tryz.underlying73 (by kernel_rfl)) ?_
          refine wa_r [5] ?_
          refine ar_a (some 153) (fun K hK => ?_) ar_nil
          refine ow_val (.slice (some ⟨g, 0, none⟩) m.live.length cap) _ (run_load1 73 (.tmp 152) (by kernel_rfl) ⟨b, 0, none⟩ (by kernel_rfl) (.slice (some ⟨g, 0, none⟩) m.live.length cap) ((HBi.out.below HW.out HBi.out.lt).cell 0) _ Tryz.underlying73 rfl) ?_
          refine hK.out _ _ hS (fun hS => ?_)
          clear hK K
          refine wa_v 7 155 (.slice (some ⟨g, 0, none⟩) k cap) hS HZQ (fun W hW => run_eqv (run_slcH 73 (.tmp 153) (.tmp 154) (by kernel_rfl) g 0 m.live.length cap k 75 5 (by kernel_rfl) (by kernel_rfl) (by omega) Tryz.underlying73 (by kernel_rfl)) rfl) ?_
          refine wa_r [8] ?_
          refine ar_a (some 156) (fun K hK => ?_) ar_nil
          refine ow_appE (.tmp 149) (.tmp 155) 73 (by kernel_rfl) 75 i0 _ 5 56 Tryz.underlying73 HI.out.1 HI.out.2.1 HI.out.2.2.1 HI.out.2.2.2 rfl (by decide) w4.heap.size (.slice (some ⟨hx, 0, none⟩) 0 0) 0 [] (by kernel_rfl) OwnE.new HW.out.size g 0 k cap (shRow (l1.take k)) (by kernel_rfl) (by rw [shRow_len, List.length_take]; have := HEL.out; omega) (by rw [shRow_take]; exact rowAt_take (HRW.out.below HW.out)) (shRow_one _) (by omega) (by decide) (Lib.hid ?_)
          intro vA wx hA hg
          rw [Nat.zero_add, List.nil_append] at hA
          refine hK.out _ _ (hS.grown hg (fun q e => by simp [ownB] at e)) (fun hS' => ?_)
          have HW := Lib.hid (HW.out.grown hg HW.out.size (fun q e => by simp [ownB] at e))
          have HA := Lib.hid hA
          clear hK K hA hg
          have hS := hS'
          clear hS'
          refine wa_r [16] ?_
          refine ar_a (some 164) (fun K hK => ?_) ar_nil
          refine ow_appE (.tmp 156) (.tmp 163) 73 (by kernel_rfl) 75 i0 _ 5 56 Tryz.underlying73 HI.out.1 HI.out.2.1 HI.out.2.2.1 HI.out.2.2.2 rfl (by decide) w4.heap.size vA k (shRow (l1.take k)) (by kernel_rfl) HA.out HW.out.size g (offA cap (k + 1) 5) (m.live.length - (k + 1)) (cap - (k + 1)) (shRow (l1.drop (k + 1))) (by kernel_rfl) (by rw [shRow_len, List.length_drop]; have := HEL.out; omega) (rowAt_offA (HRW.out.below HW.out) (by have := HEL.out; have := HGC.out; omega)) (shRow_one _) (by omega) (by decide) (Lib.hid ?_)
          intro vB wx hBo hg
          rw [show k + (m.live.length - (k + 1)) = m.live.length - 1 by omega] at hBo
          have hBo := ownE_pos hBo (by omega)
          obtain ⟨gn, cn, rfl, -, -, -, -⟩ := own_some hBo (by omega)
          refine hK.out _ _ (hS.grown hg (fun q e => .inr (ownE_ty HA.out e).1)) (fun hS' => ?_)
          have HW := Lib.hid (HW.out.grown hg HW.out.size (fun q e => (ownE_ty HA.out e).1))
          have HRN := Lib.hid hBo
          have HBN := Lib.hid (HBi.out.below HW.out HBi.out.lt)
          clear hK K hBo hg HA
          have hS := hS'
          clear hS'
          refine wa_k 17 165 (.pointer (some ⟨b, 0, none⟩)) hS HZQ (wa_k 18 166 (.pointer (some ⟨b, 0, none⟩)) hS HZQ ?_)
          refine wa_r [19] ?_
          refine ar_a none (fun K hK => ?_) ar_nil
          refine ow_storeN 73 (.tmp 166) (.tmp 164) (by kernel_rfl) b 0 (.slice (some ⟨gn, 0, none⟩) (m.live.length - 1) cn) [.slice (some ⟨gn, 0, none⟩) (m.live.length - 1) cn] (by kernel_rfl) (by kernel_rfl) rfl [.slice (some ⟨g, 0, none⟩) m.live.length cap, vu, ve] 117 HBN.out (by simp) (by kernel_rfl) (by intro u hu; simp at hu; subst hu; rfl) (Lib.hid ?_)
          intro w5 hz hox
          refine hK.out _ _ (hS.trans hox) (fun hS' => ?_)
          have HB5 := Lib.hid hz
          have HR5 := Lib.hid (own_base (own_only HRN.out hox (fun q hq e => own_ne_blk HRN.out HBN.out (by decide) (by rw [hq, e]))) HSZ.out)
          clear hK K hz hox hS HBN HRN
          have hS := hS'
          clear hS'
          refine wa_done (by kernel_rfl) ?_
          dsimp only [Exit.then, Act.put]
          simp only [List.setIfInBounds_toArray, List.set_cons_succ, List.set_cons_zero]
          refine ⟨by trivial, hx, vA, gn, cn, rfl, hS, HB5.out, by rw [show shRow (l1.take k ++ l1.drop (k + 1)) = shRow (l1.take k) ++ shRow (l1.drop (k + 1)) by unfold shRow; rw [List.flatMap_append]]; exact HR5.out⟩
      ·
        refine ow_val (.slice (some ⟨g, 0, none⟩) m.live.length cap) _ (run_load1 73 (.tmp 152) (by kernel_rfl) ⟨b, 0, none⟩ (by kernel_rfl) (.slice (some ⟨g, 0, none⟩) m.live.length cap) ((HBi.out.below HW.out HBi.out.lt).cell 0) _ Tryz.underlying73 rfl) ?_
        refine hK.out _ _ hS (fun hS => ?_)
        clear hK K
        refine wa_v 7 155 (.slice (some ⟨g, 0, none⟩) k cap) hS HZQ (fun W hW => run_eqv (run_slcH 73 (.tmp 153) (.tmp 154) (by kernel_rfl) g 0 m.live.length cap k 75 5 (by kernel_rfl) (by kernel_rfl) (by omega) Tryz.underlying73 (by kernel_rfl)) rfl) ?_
        refine wa_r [1, 12] ?_
        refine (ar_a (some 149) (fun K hK => ?_) (ar_a (some 160) (fun K hK => ?_) ar_nil))
        ·
          refine ow_zero 75 (by kernel_rfl) (Lib.hid ?_)
          intro hx wx hh hbx
          refine hK.out _ _ (hS.fresh hbx) (fun hS' => ?_)
          have HW := Lib.hid (HW.out.trans (hbx.mono HW.out.size))
          clear hK K hbx hh
          have hS := hS'
          clear hS'
          refine wa_r [8, 12] ?_
          refine (ar_a (some 156) (fun K hK => ?_) (ar_a (some 160) (fun K hK => ?_) ar_nil))
          ·
            refine ow_appE (.tmp 149) (.tmp 155) 73 (by kernel_rfl) 75 i0 _ 5 56 Tryz.underlying73 HI.out.1 HI.out.2.1 HI.out.2.2.1 HI.out.2.2.2 rfl (by decide) w4.heap.size (.slice (some ⟨hx, 0, none⟩) 0 0) 0 [] (by kernel_rfl) OwnE.new HW.out.size g 0 k cap (shRow (l1.take k)) (by kernel_rfl) (by rw [shRow_len, List.length_take]; have := HEL.out; omega) (by rw [shRow_take]; exact rowAt_take (HRW.out.below HW.out)) (shRow_one _) (by omega) (by decide) (Lib.hid ?_)
            intro vA wx hA hg
            rw [Nat.zero_add, List.nil_append] at hA
            refine hK.out _ _ (hS.grown hg (fun q e => by simp [ownB] at e)) (fun hS' => ?_)
            have HW := Lib.hid (HW.out.grown hg HW.out.size (fun q e => by simp [ownB] at e))
            have HA := Lib.hid hA
            clear hK K hA hg
            have hS := hS'
            clear hS'
            refine wa_r [12] ?_
            refine ar_a (some 160) (fun K hK => ?_) ar_nil
            refine ow_val (.slice (some ⟨g, 0, none⟩) m.live.length cap) _ (run_load1 73 (.tmp 159) (by kernel_rfl) ⟨b, 0, none⟩ (by kernel_rfl) (.slice (some ⟨g, 0, none⟩) m.live.length cap) ((HBi.out.below HW.out HBi.out.lt).cell 0) _ Tryz.underlying73 rfl) ?_
            refine hK.out _ _ hS (fun hS => ?_)
            clear hK K
            refine wa_v 15 163 (.slice (some ⟨g, offA cap (k + 1) 5, none⟩) (m.live.length - (k + 1)) (cap - (k + 1))) hS HZQ (fun W hW => run_slcA 73 (.tmp 160) (.tmp 162) (by kernel_rfl) g m.live.length cap (k + 1) 75 5 (by kernel_rfl) (by kernel_rfl) (by omega) (by omega) Tryz.underlying73 (by kernel_rfl)) ?_
            refine wa_r [16] ?_
            refine ar_a (some 164) (fun K hK => ?_) ar_nil
            refine ow_appE (.tmp 156) (.tmp 163) 73 (by kernel_rfl) 75 i0 _ 5 56 Tryz.underlying73 HI.out.1 HI.out.2.1 HI.out.2.2.1 HI.out.2.2.2 rfl (by decide) w4.heap.size vA k (shRow (l1.take k)) (by kernel_rfl) HA.out HW.out.size g (offA cap (k + 1) 5) (m.live.length - (k + 1)) (cap - (k + 1)) (shRow (l1.drop (k + 1))) (by kernel_rfl) (by rw [shRow_len, List.length_drop]; have := HEL.out; omega) (rowAt_offA (HRW.out.below HW.out) (by have := HEL.out; have := HGC.out; omega)) (shRow_one _) (by omega) (by decide) (Lib.hid ?_)
            intro vB wx hBo hg
            rw [show k + (m.live.length - (k + 1)) = m.live.length - 1 by omega] at hBo
            have hBo := ownE_pos hBo (by omega)
            obtain ⟨gn, cn, rfl, -, -, -, -⟩ := own_some hBo (by omega)
            refine hK.out _ _ (hS.grown hg (fun q e => .inr (ownE_ty HA.out e).1)) (fun hS' => ?_)
            have HW := Lib.hid (HW.out.grown hg HW.out.size (fun q e => (ownE_ty HA.out e).1))
            have HRN := Lib.hid hBo
            have HBN := Lib.hid (HBi.out.below HW.out HBi.out.lt)
            clear hK K hBo hg HA
            have hS := hS'
            clear hS'
            refine wa_k 17 165 (.pointer (some ⟨b, 0, none⟩)) hS HZQ (wa_k 18 166 (.pointer (some ⟨b, 0, none⟩)) hS HZQ ?_)
            refine wa_r [19] ?_
            refine ar_a none (fun K hK => ?_) ar_nil
            refine ow_storeN 73 (.tmp 166) (.tmp 164) (by kernel_rfl) b 0 (.slice (some ⟨gn, 0, none⟩) (m.live.length - 1) cn) [.slice (some ⟨gn, 0, none⟩) (m.live.length - 1) cn] (by kernel_rfl) (by kernel_rfl) rfl [.slice (some ⟨g, 0, none⟩) m.live.length cap, vu, ve] 117 HBN.out (by simp) (by kernel_rfl) (by intro u hu; simp at hu; subst hu; rfl) (Lib.hid ?_)
            intro w5 hz hox
            refine hK.out _ _ (hS.trans hox) (fun hS' => ?_)
            have HB5 := Lib.hid hz
            have HR5 := Lib.hid (own_base (own_only HRN.out hox (fun q hq e => own_ne_blk HRN.out HBN.out (by decide) (by rw [hq, e]))) HSZ.out)
            clear hK K hz hox hS HBN HRN
            have hS := hS'
            clear hS'
            refine wa_done (by kernel_rfl) ?_
            dsimp only [Exit.then, Act.put]
            simp only [List.setIfInBounds_toArray, List.set_cons_succ, List.set_cons_zero]
            refine ⟨by trivial, hx, vA, gn, cn, rfl, hS, HB5.out, by rw [show shRow (l1.take k ++ l1.drop (k + 1)) = shRow (l1.take k) ++ shRow (l1.drop (k + 1)) by unfold shRow; rw [List.flatMap_append]]; exact HR5.out⟩
          ·
            refine ow_val (.slice (some ⟨g, 0, none⟩) m.live.length cap) _ (run_load1 73 (.tmp 159) (by kernel_rfl) ⟨b, 0, none⟩ (by kernel_rfl) (.slice (some ⟨g, 0, none⟩) m.live.length cap) ((HBi.out.below HW.out HBi.out.lt).cell 0) _ Tryz.underlying73 rfl) ?_
            refine hK.out _ _ hS (fun hS => ?_)
            clear hK K
            refine wa_v 15 163 (.slice (some ⟨g, offA cap (k + 1) 5, none⟩) (m.live.length - (k + 1)) (cap - (k + 1))) hS HZQ (fun W hW => run_slcA 73 (.tmp 160) (.tmp 162) (by kernel_rfl) g m.live.length cap (k + 1) 75 5 (by kernel_rfl) (by kernel_rfl) (by omega) (by omega) Tryz.underlying73 (by kernel_rfl)) ?_
            refine wa_r [8] ?_
            refine ar_a (some 156) (fun K hK => ?_) ar_nil
            refine ow_appE (.tmp 149) (.tmp 155) 73 (by kernel_rfl) 75 i0 _ 5 56 Tryz.underlying73 HI.out.1 HI.out.2.1 HI.out.2.2.1 HI.out.2.2.2 rfl (by decide) w4.heap.size (.slice (some ⟨hx, 0, none⟩) 0 0) 0 [] (by kernel_rfl) OwnE.new HW.out.size g 0 k cap (shRow (l1.take k)) (by kernel_rfl) (by rw [shRow_len, List.length_take]; have := HEL.out; omega) (by rw [shRow_take]; exact rowAt_take (HRW.out.below HW.out)) (shRow_one _) (by omega) (by decide) (Lib.hid ?_)
            intro vA wx hA hg
            rw [Nat.zero_add, List.nil_append] at hA
            refine hK.out _ _ (hS.grown hg (fun q e => by simp [ownB] at e)) (fun hS' => ?_)
            have HW := Lib.hid (HW.out.grown hg HW.out.size (fun q e => by simp [ownB] at e))
            have HA := Lib.hid hA
            clear hK K hA hg
            have hS := hS'
            clear hS'
            refine wa_r [16] ?_
            refine ar_a (some 164) (fun K hK => ?_) ar_nil
            refine ow_appE (.tmp 156) (.tmp 163) 73 (by kernel_rfl) 75 i0 _ 5 56 Tryz.underlying73 HI.out.1 HI.out.2.1 HI.out.2.2.1 HI.out.2.2.2 rfl (by decide) w4.heap.size vA k (shRow (l1.take k)) (by kernel_rfl) HA.out HW.out.size g (offA cap (k + 1) 5) (m.live.length - (k + 1)) (cap - (k + 1)) (shRow (l1.drop (k + 1))) (by kernel_rfl) (by rw [shRow_len, List.length_drop]; have := HEL.out; omega) (rowAt_offA (HRW.out.below HW.out) (by have := HEL.out; have := HGC.out; omega)) (shRow_one _) (by omega) (by decide) (Lib.hid ?_)
            intro vB wx hBo hg
            rw [show k + (m.live.length - (k + 1)) = m.live.length - 1 by omega] at hBo
            have hBo := ownE_pos hBo (by omega)
            obtain ⟨gn, cn, rfl, -, -, -, -⟩ := own_some hBo (by omega)
            refine hK.out _ _ (hS.grown hg (fun q e => .inr (ownE_ty HA.out e).1)) (fun hS' => ?_)
            have HW := Lib.hid (HW.out.grown hg HW.out.size (fun q e => (ownE_ty HA.out e).1))
            have HRN := Lib.hid hBo
            have HBN := Lib.hid (HBi.out.below HW.out HBi.out.lt)
            clear hK K hBo hg HA
            have hS := hS'
            clear hS'
            refine wa_k 17 165 (.pointer (some ⟨b, 0, none⟩)) hS HZQ (wa_k 18 166 (.pointer (some ⟨b, 0, none⟩)) hS HZQ ?_)
            refine wa_r [19] ?_
            refine ar_a none (fun K hK => ?_) ar_nil
            refine ow_storeN 73 (.tmp 166) (.tmp 164) (by kernel_rfl) b 0 (.slice (some ⟨gn, 0, none⟩) (m.live.length - 1) cn) [.slice (some ⟨gn, 0, none⟩) (m.live.length - 1) cn] (by kernel_rfl) (by kernel_rfl) rfl [.slice (some ⟨g, 0, none⟩) m.live.length cap, vu, ve] 117 HBN.out (by simp) (by kernel_rfl) (by intro u hu; simp at hu; subst hu; rfl) (Lib.hid ?_)
            intro w5 hz hox
            refine hK.out _ _ (hS.trans hox) (fun hS' => ?_)
            have HB5 := Lib.hid hz
            have HR5 := Lib.hid (own_base (own_only HRN.out hox (fun q hq e => own_ne_blk HRN.out HBN.out (by decide) (by rw [hq, e]))) HSZ.out)
            clear hK K hz hox hS HBN HRN
            have hS := hS'
            clear hS'
            refine wa_done (by kernel_rfl) ?_
            dsimp only [Exit.then, Act.put]
            simp only [List.setIfInBounds_toArray, List.set_cons_succ, List.set_cons_zero]
            refine ⟨by trivial, hx, vA, gn, cn, rfl, hS, HB5.out, by rw [show shRow (l1.take k ++ l1.drop (k + 1)) = shRow (l1.take k) ++ shRow (l1.drop (k + 1)) by unfold shRow; rw [List.flatMap_append]]; exact HR5.out⟩
        ·
          refine ow_val (.slice (some ⟨g, 0, none⟩) m.live.length cap) _ (run_load1 73 (.tmp 159) (by kernel_rfl) ⟨b, 0, none⟩ (by kernel_rfl) (.slice (some ⟨g, 0, none⟩) m.live.length cap) ((HBi.out.below HW.out HBi.out.lt).cell 0) _ Tryz.underlying73 rfl) ?_
          refine hK.out _ _ hS (fun hS => ?_)
          clear hK K
          refine wa_v 15 163 (.slice (some ⟨g, offA cap (k + 1) 5, none⟩) (m.live.length - (k + 1)) (cap - (k + 1))) hS HZQ (fun W hW => run_slcA 73 (.tmp 160) (.tmp 162) (by kernel_rfl) g m.live.length cap (k + 1) 75 5 (by kernel_rfl) (by kernel_rfl) (by omega) (by omega) Tryz.underlying73 (by kernel_rfl)) ?_
          refine wa_r [1] ?_
          refine ar_a (some 149) (fun K hK => ?_) ar_nil
          refine ow_zero 75 (by kernel_rfl) (Lib.hid ?_)
          intro hx wx hh hbx
          refine hK.out _ _ (hS.fresh hbx) (fun hS' => ?_)
          have HW := Lib.hid (HW.out.trans (hbx.mono HW.out.size))
          clear hK K hbx hh
          have hS := hS'
          clear hS'
          refine wa_r [8] ?_
          refine ar_a (some 156) (fun K hK => ?_) ar_nil
          refine ow_appE (.tmp 149) (.tmp 155) 73 (by kernel_rfl) 75 i0 _ 5 56 Tryz.underlying73 HI.out.1 HI.out.2.1 HI.out.2.2.1 HI.out.2.2.2 rfl (by decide) w4.heap.size (.slice (some ⟨hx, 0, none⟩) 0 0) 0 [] (by kernel_rfl) OwnE.new HW.out.size g 0 k cap (shRow (l1.take k)) (by kernel_rfl) (by rw [shRow_len, List.length_take]; have := HEL.out; omega) (by rw [shRow_take]; exact rowAt_take (HRW.out.below HW.out)) (shRow_one _) (by omega) (by decide) (Lib.hid ?_)
          intro vA wx hA hg
          rw [Nat.zero_add, List.nil_append] at hA
          refine hK.out _ _ (hS.grown hg (fun q e => by simp [ownB] at e)) (fun hS' => ?_)
          have HW := Lib.hid (HW.out.grown hg HW.out.size (fun q e => by simp [ownB] at e))
          have HA := Lib.hid hA
          clear hK K hA hg
          have hS := hS'
          clear hS'
          refine wa_r [16] ?_
          refine ar_a (some 164) (fun K hK => ?_) ar_nil
          refine ow_appE (.tmp 156) (.tmp 163) 73 (by kernel_rfl) 75 i0 _ 5 56 Tryz.underlying73 HI.out.1 HI.out.2.1 HI.out.2.2.1 HI.out.2.2.2 rfl (by decide) w4.heap.size vA k (shRow (l1.take k)) (by kernel_rfl) HA.out HW.out.size g (offA cap (k + 1) 5) (m.live.length - (k + 1)) (cap - (k + 1)) (shRow (l1.drop (k + 1))) (by kernel_rfl) (by rw [shRow_len, List.length_drop]; have := HEL.out; omega) (rowAt_offA (HRW.out.below HW.out) (by have := HEL.out; have := HGC.out; omega)) (shRow_one _) (by omega) (by decide) (Lib.hid ?_)
          intro vB wx hBo hg
          rw [show k + (m.live.length - (k + 1)) = m.live.length - 1 by omega] at hBo
          have hBo := ownE_pos hBo (by omega)
          obtain ⟨gn, cn, rfl, -, -, -, -⟩ := own_some hBo (by omega)
          refine hK.out _ _ (hS.grown hg (fun q e => .inr (ownE_ty HA.out e).1)) (fun hS' => ?_)
          have HW := Lib.hid (HW.out.grown hg HW.out.size (fun q e => (ownE_ty HA.out e).1))
          have HRN := Lib.hid hBo
          have HBN := Lib.hid (HBi.out.below HW.out HBi.out.lt)
          clear hK K hBo hg HA
          have hS := hS'
          clear hS'
          refine wa_k 17 165 (.pointer (some ⟨b, 0, none⟩)) hS HZQ (wa_k 18 166 (.pointer (some ⟨b, 0, none⟩)) hS HZQ ?_)
          refine wa_r [19] ?_
          refine ar_a none (fun K hK => ?_) ar_nil
          refine ow_storeN 73 (.tmp 166) (.tmp 164) (by kernel_rfl) b 0 (.slice (some ⟨gn, 0, none⟩) (m.live.length - 1) cn) [.slice (some ⟨gn, 0, none⟩) (m.live.length - 1) cn] (by kernel_rfl) (by kernel_rfl) rfl [.slice (some ⟨g, 0, none⟩) m.live.length cap, vu, ve] 117 HBN.out (by simp) (by kernel_rfl) (by intro u hu; simp at hu; subst hu; rfl) (Lib.hid ?_)
          intro w5 hz hox
          refine hK.out _ _ (hS.trans hox) (fun hS' => ?_)
          have HB5 := Lib.hid hz
          have HR5 := Lib.hid (own_base (own_only HRN.out hox (fun q hq e => own_ne_blk HRN.out HBN.out (by decide) (by rw [hq, e]))) HSZ.out)
          clear hK K hz hox hS HBN HRN
          have hS := hS'
          clear hS'
          refine wa_done (by kernel_rfl) ?_
          dsimp only [Exit.then, Act.put]
          simp only [List.setIfInBounds_toArray, List.set_cons_succ, List.set_cons_zero]
          refine ⟨by trivial, hx, vA, gn, cn, rfl, hS, HB5.out, by rw [show shRow (l1.take k ++ l1.drop (k + 1)) = shRow (l1.take k) ++ shRow (l1.drop (k + 1)) by unfold shRow; rw [List.flatMap_append]]; exact HR5.out⟩
      ·
        refine ow_val (.slice (some ⟨g, 0, none⟩) m.live.length cap) _ (run_load1 73 (.tmp 159) (by kernel_rfl) ⟨b, 0, none⟩ (by kernel_rfl) (.slice (some ⟨g, 0, none⟩) m.live.length cap) ((HBi.out.below HW.out HBi.out.lt).cell 0) _ Tryz.underlying73 rfl) ?_
        refine hK.out _ _ hS (fun hS => ?_)
        clear hK K
        refine wa_v 15 163 (.slice (some ⟨g, offA cap (k + 1) 5, none⟩) (m.live.length - (k + 1)) (cap - (k + 1))) hS HZQ (fun W hW => run_slcA 73 (.tmp 160) (.tmp 162) (by kernel_rfl) g m.live.length cap (k + 1) 75 5 (by kernel_rfl) (by kernel_rfl) (by omega) (by omega) Tryz.underlying73 (by kernel_rfl)) ?_
        refine wa_r [1, 5] ?_
        refine (ar_a (some 149) (fun K hK => ?_) (ar_a (some 153) (fun K hK => ?_) ar_nil))
        ·
          refine ow_zero 75 (by kernel_rfl) (Lib.hid ?_)
          intro hx wx hh hbx
          refine hK.out _ _ (hS.fresh hbx) (fun hS' => ?_)
          have HW := Lib.hid (HW.out.trans (hbx.mono HW.out.size))
          clear hK K hbx hh
          have hS := hS'
          clear hS'
          refine wa_r [5] ?_
          refine ar_a (some 153) (fun K hK => ?_) ar_nil
          refine ow_val (.slice (some ⟨g, 0, none⟩) m.live.length cap) _ (run_load1 73 (.tmp 152) (by kernel_rfl) ⟨b, 0, none⟩ (by kernel_rfl) (.slice (some ⟨g, 0, none⟩) m.live.length cap) ((HBi.out.below HW.out HBi.out.lt).cell 0) _ Tryz.underlying73 rfl) ?_
          refine hK.out _ _ hS (fun hS => ?_)
          clear hK K
          refine wa_v 7 155 (.slice (some ⟨g, 0, none⟩) k cap) hS HZQ (fun W hW => run_eqv (run_slcH 73 (.tmp 153) (.tmp 154) (by kernel_rfl) g 0 m.live.length cap k 75 5 (by kernel_rfl) (by kernel_rfl) (by omega) Tryz.underlying73 (by kernel_rfl)) rfl) ?_
          refine wa_r [8] ?_
          refine ar_a (some 156) (fun K hK => ?_) ar_nil
          refine ow_appE (.tmp 149) (.tmp 155) 73 (by kernel_rfl) 75 i0 _ 5 56 Tryz.underlying73 HI.out.1 HI.out.2.1 HI.out.2.2.1 HI.out.2.2.2 rfl (by decide) w4.heap.size (.slice (some ⟨hx, 0, none⟩) 0 0) 0 [] (by kernel_rfl) OwnE.new HW.out.size g 0 k cap (shRow (l1.take k)) (by kernel_rfl) (by rw [shRow_len, List.length_take]; have := HEL.out; omega) (by rw [shRow_take]; exact rowAt_take (HRW.out.below HW.out)) (shRow_one _) (by omega) (by decide) (Lib.hid ?_)
          intro vA wx hA hg
          rw [Nat.zero_add, List.nil_append] at hA
          refine hK.out _ _ (hS.grown hg (fun q e => by simp [ownB] at e)) (fun hS' => ?_)
          have HW := Lib.hid (HW.out.grown hg HW.out.size (fun q e => by simp [ownB] at e))
          have HA := Lib.hid hA
          clear hK K hA hg
          have hS := hS'
          clear hS'
          refine wa_r [16] ?_
          refine ar_a (some 164) (fun K hK => ?_) ar_nil
          refine ow_appE (.tmp 156) (.tmp 163) 73 (by kernel_rfl) 75 i0 _ 5 56 Tryz.underlying73 HI.out.1 HI.out.2.1 HI.out.2.2.1 HI.out.2.2.2 rfl (by decide) w4.heap.size vA k (shRow (l1.take k)) (by kernel_rfl) HA.out HW.out.size g (offA cap (k + 1) 5) (m.live.length - (k + 1)) (cap - (k + 1)) (shRow (l1.drop (k + 1))) (by kernel_rfl) (by rw [shRow_len, List.length_drop]; have := HEL.out; omega) (rowAt_offA (HRW.out.below HW.out) (by have := HEL.out; have := HGC.out; omega)) (shRow_one _) (by omega) (by decide) (Lib.hid ?_)
          intro vB wx hBo hg
          rw [show k + (m.live.length - (k + 1)) = m.live.length - 1 by omega] at hBo
          have hBo := ownE_pos hBo (by omega)
          obtain ⟨gn, cn, rfl, -, -, -, -⟩ := own_some hBo (by omega)
          refine hK.out _ _ (hS.grown hg (fun q e => .inr (ownE_ty HA.out e).1)) (fun hS' => ?_)
          have HW := Lib.hid (HW.out.grown hg HW.out.size (fun q e => (ownE_ty HA.out e).1))
          have HRN := Lib.hid hBo
          have HBN := Lib.hid (HBi.out.below HW.out HBi.out.lt)
          clear hK K hBo hg HA
          have hS := hS'
          clear hS'
          refine wa_k 17 165 (.pointer (some ⟨b, 0, none⟩)) hS HZQ (wa_k 18 166 (.pointer (some ⟨b, 0, none⟩)) hS HZQ ?_)
          refine wa_r [19] ?_
          refine ar_a none (fun K hK => ?_) ar_nil
          refine ow_storeN 73 (.tmp 166) (.tmp 164) (by kernel_rfl) b 0 (.slice (some ⟨gn, 0, none⟩) (m.live.length - 1) cn) [.slice (some ⟨gn, 0, none⟩) (m.live.length - 1) cn] (by kernel_rfl) (by kernel_rfl) rfl [.slice (some ⟨g, 0, none⟩) m.live.length cap, vu, ve] 117 HBN.out (by simp) (by kernel_rfl) (by intro u hu; simp at hu; subst hu; rfl) (Lib.hid ?_)
          intro w5 hz hox
          refine hK.out _ _ (hS.trans hox) (fun hS' => ?_)
          have HB5 := Lib.hid hz
          have HR5 := Lib.hid (own_base (own_only HRN.out hox (fun q hq e => own_ne_blk HRN.out HBN.out (by decide) (by rw [hq, e]))) HSZ.out)
          clear hK K hz hox hS HBN HRN
          have hS := hS'
          clear hS'
          refine wa_done (by kernel_rfl) ?_
          dsimp only [Exit.then, Act.put]
          simp only [List.setIfInBounds_toArray, List.set_cons_succ, List.set_cons_zero]
          refine ⟨by trivial, hx, vA, gn, cn, rfl, hS, HB5.out, by rw [show shRow (l1.take k ++ l1.drop (k + 1)) = shRow (l1.take k) ++ shRow (l1.drop (k + 1)) by unfold shRow; rw [List.flatMap_append]]; exact HR5.out⟩
        ·
          refine ow_val (.slice (some ⟨g, 0, none⟩) m.live.length cap) _ (run_load1 73 (.tmp 152) (by kernel_rfl) ⟨b, 0, none⟩ (by kernel_rfl) (.slice (some ⟨g, 0, none⟩) m.live.length cap) ((HBi.out.below HW.out HBi.out.lt).cell 0) _ Tryz.underlying73 rfl) ?_
          refine hK.out _ _ hS (fun hS => ?_)
          clear hK K
          refine wa_v 7 155 (.slice (some ⟨g, 0, none⟩) k cap) hS HZQ (fun W hW => run_eqv (run_slcH 73 (.tmp 153) (.tmp 154) (by kernel_rfl) g 0 m.live.length cap k 75 5 (by kernel_rfl) (by kernel_rfl) (by omega) Tryz.underlying73 (by kernel_rfl)) rfl) ?_
          refine wa_r [1] ?_
          refine ar_a (some 149) (fun K hK => ?_) ar_nil
          refine ow_zero 75 (by kernel_rfl) (Lib.hid ?_)
          intro hx wx hh hbx
          refine hK.out _ _ (hS.fresh hbx) (fun hS' => ?_)
          have HW := Lib.hid (HW.out.trans (hbx.mono HW.out.size))
          clear hK K hbx hh
          have hS := hS'
          clear hS'
          refine wa_r [8] ?_
          refine ar_a (some 156) (fun K hK => ?_) ar_nil
          refine ow_appE (.tmp 149) (.tmp 155) 73 (by kernel_rfl) 75 i0 _ 5 56 Tryz.underlying73 HI.out.1 HI.out.2.1 HI.out.2.2.1 HI.out.2.2.2 rfl (by decide) w4.heap.size (.slice (some ⟨hx, 0, none⟩) 0 0) 0 [] (by kernel_rfl) OwnE.new HW.out.size g 0 k cap (shRow (l1.take k)) (by kernel_rfl) (by rw [shRow_len, List.length_take]; have := HEL.out; omega) (by rw [shRow_take]; exact rowAt_take (HRW.out.below HW.out)) (shRow_one _) (by omega) (by decide) (Lib.hid ?_)
          intro vA wx hA hg
          rw [Nat.zero_add, List.nil_append] at hA
          refine hK.out _ _ (hS.grown hg (fun q e => by simp [ownB] at e)) (fun hS' => ?_)
          have HW := Lib.hid (HW.out.grown hg HW.out.size (fun q e => by simp [ownB] at e))
          have HA := Lib.hid hA
          clear hK K hA hg
          have hS := hS'
          clear hS'
          refine wa_r [16] ?_
          refine ar_a (some 164) (fun K hK => ?_) ar_nil
          refine ow_appE (.tmp 156) (.tmp 163) 73 (by kernel_rfl) 75 i0 _ 5 56 Tryz.underlying73 HI.out.1 HI.out.2.1 HI.out.2.2.1 HI.out.2.2.2 rfl (by decide) w4.heap.size vA k (shRow (l1.take k)) (by kernel_rfl) HA.out HW.out.size g (offA cap (k + 1) 5) (m.live.length - (k + 1)) (cap - (k + 1)) (shRow (l1.drop (k + 1))) (by kernel_rfl) (by rw [shRow_len, List.length_drop]; have := HEL.out; omega) (rowAt_offA (HRW.out.below HW.out) (by have := HEL.out; have := HGC.out; omega)) (shRow_one _) (by omega) (by decide) (Lib.hid ?_)
          intro vB wx hBo hg
          rw [show k + (m.live.length - (k + 1)) = m.live.length - 1 by omega] at hBo
          have hBo := ownE_pos hBo (by omega)
          obtain ⟨gn, cn, rfl, -, -, -, -⟩ := own_some hBo (by omega)
          refine hK.out _ _ (hS.grown hg (fun q e => .inr (ownE_ty HA.out e).1)) (fun hS' => ?_)
          have HW := Lib.hid (HW.out.grown hg HW.out.size (fun q e => (ownE_ty HA.out e).1))
          have HRN := Lib.hid hBo
          have HBN := Lib.hid (HBi.out.below HW.out HBi.out.lt)
          clear hK K hBo hg HA
          have hS := hS'
          clear hS'
          refine wa_k 17 165 (.pointer (some ⟨b, 0, none⟩)) hS HZQ (wa_k 18 166 (.pointer (some ⟨b, 0, none⟩)) hS HZQ ?_)
          refine wa_r [19] ?_
          refine ar_a none (fun K hK => ?_) ar_nil
          refine ow_storeN 73 (.tmp 166) (.tmp 164) (by kernel_rfl) b 0 (.slice (some ⟨gn, 0, none⟩) (m.live.length - 1) cn) [.slice (some ⟨gn, 0, none⟩) (m.live.length - 1) cn] (by kernel_rfl) (by kernel_rfl) rfl [.slice (some ⟨g, 0, none⟩) m.live.length cap, vu, ve] 117 HBN.out (by simp) (by kernel_rfl) (by intro u hu; simp at hu; subst hu; rfl) (Lib.hid ?_)
          intro w5 hz hox
          refine hK.out _ _ (hS.trans hox) (fun hS' => ?_)
          have HB5 := Lib.hid hz
          have HR5 := Lib.hid (own_base (own_only HRN.out hox (fun q hq e => own_ne_blk HRN.out HBN.out (by decide) (by rw [hq, e]))) HSZ.out)
          clear hK K hz hox hS HBN HRN
          have hS := hS'
          clear hS'
          refine wa_done (by kernel_rfl) ?_
          dsimp only [Exit.then, Act.put]
          simp only [List.setIfInBounds_toArray, List.set_cons_succ, List.set_cons_zero]
          refine ⟨by trivial, hx, vA, gn, cn, rfl, hS, HB5.out, by rw [show shRow (l1.take k ++ l1.drop (k + 1)) = shRow (l1.take k) ++ shRow (l1.drop (k + 1)) by unfold shRow; rw [List.flatMap_append]]; exact HR5.out⟩
    case h2 =>
      rintro hx vA gn cn w5 ⟨hO5, hB5, hR5⟩
      have hlen : (l1.take k ++ l1.drop (k + 1)).length = m.live.length - 1 := by
        have := HEL.out
        simp only [List.length_append, List.length_take, List.length_drop]
        omega
      have hT := HM4.out.set_live (w' := w5) (v' := .slice (some ⟨gn, 0, none⟩) (m.live.length - 1) cn) (l := l1.take k ++ l1.drop (k + 1)) (hO5.mono (fun q hq => .inl hq)) hB5 (by rw [hlen]; exact hR5) (by rw [hlen]; omega) (fun s hs => by
        rcases List.mem_append.1 hs with h | h
        · exact HM4.out.ok s (List.mem_of_mem_take h)
        · exact HM4.out.ok s (List.mem_of_mem_drop h))
      have HX5 := Lib.hid (HX4.out.chg hT.2 (.inr (by unfold RT; decide)))
      have HCH5 := Lib.hid (HCH.out.trans hT.2)
      have HSZ5 : Hid (B ≤ w5.heap.size) := Lib.hid (Nat.le_trans HSZ.out hO5.size)
      have HM5 := Lib.hid hT.1
      clear hO5 hB5 hR5 hT HX4 HCH HSZ HBi HEL HM4 HRW HBG2
      generalize hl2 : l1.take k ++ l1.drop (k + 1) = l2 at *
      have HL2 := Lib.hid hl2
      generalize hv2 : Value.slice (some ⟨gn, 0, none⟩) (m.live.length - 1) cn = vl2 at HM5
      clear hl2 hv2 hlen
      have HSZ := Lib.hid HSZ5.out
      have HBi := Lib.hid HM5.out.blk
      have HEL : Hid (m.evs.length ≤ 9000) := Lib.hid HLE.out
      have HEO : Hid (OwnE w5 B 124 13 ve m.evs.length (evRow m.evs)) := Lib.hid HM5.out.ev
      have HNB : Hid (ownB ve ≠ some b) := Lib.hid (HEO.out.ne_blk' HBi.out (by decide))
      have HNX : Hid (ownB ve ≠ some w.heap.size) := Lib.hid (HEO.out.ne_blk' HX5.out (by decide))
      go_wp2_with fail
      apply merge3 (F := fun gn cn _ w' => Only (fun k => k = b ∨ ownB ve = some k) w5 w' ∧ Blk w' b 117 #[vl2, vu, (.slice (some ⟨gn, 0, none⟩) (m.evs.length + 1) cn)] ∧ w'.ownsRow B 124 13 (.slice (some ⟨gn, 0, none⟩) (m.evs.length + 1) cn) (m.evs.length + 1) (evRow m.evs ++ evC ((t : Int), e)))
      case h1 =>
        obtain ⟨i0, hinf, hz0, hz1, hz2⟩ := info_parts Tryz.infoRE
        have HI := Lib.hid (And.intro hinf (And.intro hz0 (And.intro hz1 hz2)))
        clear hinf hz0 hz1 hz2
        refine wp_region_wb ((Only (fun k => k = b ∨ ownB ve = some k) w5)) (by kernel_rfl) (((Only.refl (fun k => k = b ∨ ownB ve = some k) w5).drewN 1)) (fun _ _ _ _ _ h => nomatch h.1) ?_
        intro hS HZQ
        refine wa_k 0 167 (.pointer (some ⟨b, 0, none⟩)) hS HZQ (wa_k 1 168 (.pointer (some ⟨b, 0, none⟩)) hS HZQ (wa_k 2 169 (.pointer (some ⟨b, 0, none⟩)) hS HZQ (wa_k 3 170 (.pointer (some ⟨b, 2, none⟩)) hS HZQ (wa_k 5 172 (.int .i64 ((t : Nat) : Int)) hS HZQ (wa_v 6 173 (.agg #[.int .i64 e.kind, .int .i64 e.shard, .int .i64 e.other, .int .i64 e.server, .int .i64 e.client, .int .i64 e.seq, .slice e.ao e.no e.co, .string e.key, .int .i64 e.upto, .int .i64 e.part, .int .i64 e.parts, .slice e.ad e.nd e.cd]) hS HZQ (fun W hW => run_eqv (run_loadN 44 (.tmp 4) (by kernel_rfl) w.heap.size 0 (by kernel_rfl) [.int .i64 e.kind, .int .i64 e.shard, .int .i64 e.other, .int .i64 e.server, .int .i64 e.client, .int .i64 e.seq, .slice e.ao e.no e.co, .string e.key, .int .i64 e.upto, .int .i64 e.part, .int .i64 e.parts, .slice e.ad e.nd e.cd] ((HX5.out.only hW (fun h => h.elim HXB.out HNX.out)).range (fun j v hj => by simpa [EN.cells] using hj)) _ Tryz.underlying44 rfl (by kernel_rfl)) rfl) (wa_k 7 174 (.agg #[.int .i64 ((t : Nat) : Int), .int .i64 e.kind, .int .i64 e.shard, .int .i64 e.other, .int .i64 e.server, .int .i64 e.client, .int .i64 e.seq, .slice e.ao e.no e.co, .string e.key, .int .i64 e.upto, .int .i64 e.part, .int .i64 e.parts, .slice e.ad e.nd e.cd]) hS HZQ ?_))))))
        refine wa_r [4, 8] ?_
        refine (ar_a (some 171) (fun K hK => ?_) (ar_a (some 175) (fun K hK => ?_) ar_nil))
        ·
          refine ow_val ve _ (run_load1 115 (.tmp 170) (by kernel_rfl) ⟨b, 2, none⟩ (by kernel_rfl) ve (by first | exact HBX.out.cell 2 | exact (HBi.out.drewN 1).cell 2) _ Tryz.underlying115 rfl) ?_
          refine hK.out _ _ hS (fun hS => ?_)
          clear hK K
          refine wa_r [8] ?_
          refine ar_a (some 175) (fun K hK => ?_) ar_nil
          refine ow_one 124 (evC ((t : Int), e)).toArray (by kernel_rfl) (Lib.hid ?_)
          intro hx wx hh hz hbx
          refine hK.out _ _ (hS.fresh hbx) (fun hS' => ?_)
          have HNE := Lib.hid hz
          have HBX := Lib.hid ((HBi.out.drewN 1).below hbx (HBi.out.drewN 1).lt)
          have HRX := Lib.hid (OwnE.below (show OwnE w5.drew B _ 13 _ _ _ from HEO.out) hbx)
          have HZX := Lib.hid (show B ≤ wx.heap.size from Nat.le_trans HSZ.out hS'.size)
          clear hK K hz hbx hh
          have hS := hS'
          clear hS'
          refine wa_r [9] ?_
          refine ar_a (some 176) (fun K hK => ?_) ar_nil
          refine ow_appX (.tmp 171) (.tmp 175) 115 (by kernel_rfl) 124 i0 _ 13 144 Tryz.underlying115 HI.out.1 HI.out.2.1 HI.out.2.2.1 HI.out.2.2.2 rfl (by decide) B ve m.evs.length (evRow m.evs) (by kernel_rfl) HRX.out HZX.out hx 0 1 1 (evC ((t : Int), e)) (by kernel_rfl) rfl (by decide) (blk_row HNE.out) (by intro u hu; first | exact evC_one _ u hu | (simp at hu; subst hu; rfl) | exact Sh.one ⟨_, _, _, _, _⟩ u hu) (by have := HEL.out; omega) (by decide) (Lib.hid ?_)
          intro vn wx h1 h2
          obtain ⟨gn, cn, rfl, -, -, -, -⟩ := own_some h1 (by omega)
          refine hK.out _ _ (hS.grown h2 (fun k e => .inl (.inr e))) (fun hS' => ?_)
          have HRN := Lib.hid h1
          have HBN := Lib.hid (HBX.out.only (Only.grown (S := fun k => ownB ve = some k) (Only.refl _ _) h2 (fun k e => .inl e)) HNB.out)
          clear hK K h1 h2 hS HBX HRX HNE
          have hS := hS'
          clear hS'
          refine wa_k 10 177 (.pointer (some ⟨b, 0, none⟩)) hS HZQ (wa_k 11 178 (.pointer (some ⟨b, 2, none⟩)) hS HZQ ?_)
          refine wa_r [12] ?_
          refine ar_a none (fun K hK => ?_) ar_nil
          refine ow_storeN 115 (.tmp 178) (.tmp 176) (by kernel_rfl) b 2 (.slice (some ⟨gn, 0, none⟩) (m.evs.length + 1) cn) [.slice (some ⟨gn, 0, none⟩) (m.evs.length + 1) cn] (by kernel_rfl) (by kernel_rfl) rfl [vl2, vu, ve] 117 HBN.out (by simp) (by kernel_rfl) (by intro u hu; simp at hu; subst hu; rfl) (Lib.hid ?_)
          intro w7 hz hox
          refine hK.out _ _ (hS.trans (hox.mono (fun k hk => .inl hk))) (fun hS' => ?_)
          have HB5 := Lib.hid hz
          have HR5 := Lib.hid (own_only HRN.out hox (fun q hq e => own_ne_blk HRN.out HBN.out (by decide) (by rw [hq, e])))
          clear hK K hz hox hS HBN HRN
          have hS := hS'
          clear hS'
          refine wa_done (by kernel_rfl) ?_
          dsimp only [Exit.then, Act.put]
          simp only [List.setIfInBounds_toArray, List.set_cons_succ, List.set_cons_zero]
          refine ⟨by trivial, gn, cn, hx, rfl, hS, HB5.out, HR5.out⟩
        ·
          refine ow_one 124 (evC ((t : Int), e)).toArray (by kernel_rfl) (Lib.hid ?_)
          intro hx wx hh hz hbx
          refine hK.out _ _ (hS.fresh hbx) (fun hS' => ?_)
          have HNE := Lib.hid hz
          have HBX := Lib.hid ((HBi.out.drewN 1).below hbx (HBi.out.drewN 1).lt)
          have HRX := Lib.hid (OwnE.below (show OwnE w5.drew B _ 13 _ _ _ from HEO.out) hbx)
          have HZX := Lib.hid (show B ≤ wx.heap.size from Nat.le_trans HSZ.out hS'.size)
          clear hK K hz hbx hh
          have hS := hS'
          clear hS'
          refine wa_r [4] ?_
          refine ar_a (some 171) (fun K hK => ?_) ar_nil
          refine ow_val ve _ (run_load1 115 (.tmp 170) (by kernel_rfl) ⟨b, 2, none⟩ (by kernel_rfl) ve (by first | exact HBX.out.cell 2 | exact (HBi.out.drewN 1).cell 2) _ Tryz.underlying115 rfl) ?_
          refine hK.out _ _ hS (fun hS => ?_)
          clear hK K
          refine wa_r [9] ?_
          refine ar_a (some 176) (fun K hK => ?_) ar_nil
          refine ow_appX (.tmp 171) (.tmp 175) 115 (by kernel_rfl) 124 i0 _ 13 144 Tryz.underlying115 HI.out.1 HI.out.2.1 HI.out.2.2.1 HI.out.2.2.2 rfl (by decide) B ve m.evs.length (evRow m.evs) (by kernel_rfl) HRX.out HZX.out hx 0 1 1 (evC ((t : Int), e)) (by kernel_rfl) rfl (by decide) (blk_row HNE.out) (by intro u hu; first | exact evC_one _ u hu | (simp at hu; subst hu; rfl) | exact Sh.one ⟨_, _, _, _, _⟩ u hu) (by have := HEL.out; omega) (by decide) (Lib.hid ?_)
          intro vn wx h1 h2
          obtain ⟨gn, cn, rfl, -, -, -, -⟩ := own_some h1 (by omega)
          refine hK.out _ _ (hS.grown h2 (fun k e => .inl (.inr e))) (fun hS' => ?_)
          have HRN := Lib.hid h1
          have HBN := Lib.hid (HBX.out.only (Only.grown (S := fun k => ownB ve = some k) (Only.refl _ _) h2 (fun k e => .inl e)) HNB.out)
          clear hK K h1 h2 hS HBX HRX HNE
          have hS := hS'
          clear hS'
          refine wa_k 10 177 (.pointer (some ⟨b, 0, none⟩)) hS HZQ (wa_k 11 178 (.pointer (some ⟨b, 2, none⟩)) hS HZQ ?_)
          refine wa_r [12] ?_
          refine ar_a none (fun K hK => ?_) ar_nil
          refine ow_storeN 115 (.tmp 178) (.tmp 176) (by kernel_rfl) b 2 (.slice (some ⟨gn, 0, none⟩) (m.evs.length + 1) cn) [.slice (some ⟨gn, 0, none⟩) (m.evs.length + 1) cn] (by kernel_rfl) (by kernel_rfl) rfl [vl2, vu, ve] 117 HBN.out (by simp) (by kernel_rfl) (by intro u hu; simp at hu; subst hu; rfl) (Lib.hid ?_)
          intro w7 hz hox
          refine hK.out _ _ (hS.trans (hox.mono (fun k hk => .inl hk))) (fun hS' => ?_)
          have HB5 := Lib.hid hz
          have HR5 := Lib.hid (own_only HRN.out hox (fun q hq e => own_ne_blk HRN.out HBN.out (by decide) (by rw [hq, e])))
          clear hK K hz hox hS HBN HRN
          have hS := hS'
          clear hS'
          refine wa_done (by kernel_rfl) ?_
          dsimp only [Exit.then, Act.put]
          simp only [List.setIfInBounds_toArray, List.set_cons_succ, List.set_cons_zero]
          refine ⟨by trivial, gn, cn, hx, rfl, hS, HB5.out, HR5.out⟩
      case h2 =>
        rintro gn cn hx w7 ⟨hO7, hB7, hR7⟩
        have hT := HM5.out.set_ev (w' := w7) (v' := .slice (some ⟨gn, 0, none⟩) (m.evs.length + 1) cn) (l := m.evs ++ [((t : Int), e)]) hO7 hB7 (by rw [List.length_append, List.length_singleton]; unfold evRow; rw [List.flatMap_append, List.flatMap_singleton]; exact hR7) (by rw [List.length_append, List.length_singleton]; have := HEL.out; omega)
        have HMF := Lib.hid hT.1
        have HCF := Lib.hid (HCH5.out.trans hT.2)
        clear hO7 hB7 hR7 hT
        go_wp2_with fail
        go_ret
        exact ⟨rfl, by rw [HSP.out]; first | exact ⟨_, _, _, HMF.out⟩ | (dsimp only; rw [HL1.out, HL2.out]; exact ⟨_, _, _, HMF.out⟩), HCF.out⟩
end Go.Proofs.YthjmfcdhpdiehaaGreatDoor
