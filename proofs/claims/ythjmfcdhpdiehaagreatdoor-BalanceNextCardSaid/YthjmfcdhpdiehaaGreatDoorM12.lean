/-
  (*Map).merge.
-/
import Derived.Test.YthjmfcdhpdiehaaGreatDoorM11
namespace Go.Proofs.YthjmfcdhpdiehaaGreatDoor
open Go.RowKit Utf
set_option maxRecDepth 100000
set_option linter.unusedSimpArgs false
set_option linter.unusedVariables false

/-- What a merge makes of a map (without the event). -/
def mergeP (m : PM) (e : EN) (t : Nat) : PM := match findN e.shard m.live, findN e.other m.live with
  | some i, some k =>
    (match joinB (shAt m.live i).lo (shAt m.live i).hi (shAt m.live k).lo (shAt m.live k).hi with
    | none => m
    | some sp =>
      let l := m.live.set i ((shAt m.live i).turned sp.1 sp.2 ((t + 1 : Nat) : Int))
      ⟨l.take k ++ l.drop (k + 1), m.used, m.evs⟩)
  | _, _ => m
theorem joinB_ok {lo hi lo2 hi2 : ByteArray} {sp : ByteArray × ByteArray} (h : joinB lo hi lo2 hi2 = some sp) (h1 : lo.size ≤ 1000000 ∧ hi.size ≤ 1000000) (h2 : lo2.size ≤ 1000000 ∧ hi2.size ≤ 1000000) : sp.1.size ≤ 1000000 ∧ sp.2.size ≤ 1000000 := by
  unfold joinB at h
  split at h
  · cases h
  · split at h
    · cases h
      exact ⟨h1.1, h2.2⟩
    · split at h
      · cases h
        exact ⟨h2.1, h1.2⟩
      · cases h

set_option maxHeartbeats 4000000 in
theorem merge_anyO (ea : Nat → Addr) (b B : Nat) (m : PM) (e : EN) (t : Nat) (w : World) (hm : MapAt w B b m) (he : BErr w ea) (ha : e.at w) (hc : countsP m e = true) (hk : e.kind = 4) (ht : t ≤ 4095) (hB : B ≤ w.heap.size) :
    Calls Tryz.prog 50 #[.pointer (some ⟨b, 0, none⟩), .agg e.cells.toArray, .int .i64 (t : Nat)] w fun e' w' => e' = .returned (.tuple #[]) ∧ MapAt w' B b (mergeP m e t) ∧ Chg PT B w w' ∧ LiveOnly w b w' := by
  obtain ⟨vl, ve, hm⟩ := hm
  obtain ⟨g, cap, cur, rfl, hgB, hgk, hgc, hgm, hgl, hgt, -⟩ := own_open hm.live hm.l1
  have H0 : Hid (CS w ea b B m e (.slice (some ⟨g, 0, none⟩) m.live.length cap) ve (w.alloc (.cells #[.int .i64 e.kind, .int .i64 e.shard, .int .i64 e.other, .int .i64 e.server, .int .i64 e.client, .int .i64 e.seq, .slice e.ao e.no e.co, .string e.key, .int .i64 e.upto, .int .i64 e.part, .int .i64 e.parts, .slice e.ad e.nd e.cd] 44))) := Lib.hid (CS.new hm he ha)
  cases hf : findN e.shard m.live with
  | none => rw [counts_none hf] at hc; cases hc
  | some i =>
  cases hf2 : findN e.other m.live with
  | none =>
    rw [counts_some hf, if_neg (by omega), if_neg (by omega), if_pos hk, hf2] at hc
    simp at hc
  | some k =>
    rw [counts_some hf, if_neg (by omega), if_neg (by omega), if_pos hk, hf2] at hc
    simp only [Bool.and_eq_true] at hc
    obtain ⟨hr, hjs⟩ := hc
    obtain ⟨sp, hj⟩ := Option.isSome_iff_exists.1 hjs
    clear hjs
    obtain ⟨hi, hii⟩ := findN_lt hf
    obtain ⟨hk', hkk⟩ := findN_lt hf2
    have hne : i ≠ k := by
      intro e1
      subst e1
      rw [hii] at hkk
      have hr' : rightE e = twoR e := by unfold rightE; rw [if_neg (by omega), if_neg (by omega), if_pos hk]
      rw [hr'] at hr
      unfold twoR at hr
      simp only [Bool.and_eq_true, decide_eq_true_eq] at hr
      exact hr.2 hkk
    have HSP := Lib.hid (show mergeP m e t = _ by unfold mergeP; rw [hf, hf2])
    have HM := Lib.hid hm
    have HJ := Lib.hid (fun W h => join_any ea (shAt m.live i).lo (shAt m.live i).hi (shAt m.live k).lo (shAt m.live k).hi W (map_ok H0.out.mp hi).1 (map_ok H0.out.mp hi).2 (map_ok H0.out.mp hk').1 (map_ok H0.out.mp hk').2 h)
    rw [hj] at HJ
    have HJC := Lib.hid (fun W h => HJ.out W h)
    have HOK := Lib.hid (joinB_ok hj (map_ok H0.out.mp hi) (map_ok H0.out.mp hk'))
    have HGK := Lib.hid hgk
    have HGL := Lib.hid hgl
    have HGT := Lib.hid hgt
    have HGM := Lib.hid hgm
    have HF := Lib.hid hf
    have HF2 := Lib.hid hf2
    simp only [hj] at HSP
    clear hm he ha hr hj hf hf2 hgk hgl hgt hgm hk HJ hii hkk
    show Calls Tryz.prog 50 #[.pointer (some ⟨b, 0, none⟩), .agg #[.int .i64 e.kind, .int .i64 e.shard, .int .i64 e.other, .int .i64 e.server, .int .i64 e.client, .int .i64 e.seq, .slice e.ao e.no e.co, .string e.key, .int .i64 e.upto, .int .i64 e.part, .int .i64 e.parts, .slice e.ad e.nd e.cd], .int .i64 (t : Nat)] w fun e' w' => e' = .returned (.tuple #[]) ∧ MapAt w' B b (mergeP m e t) ∧ Chg PT B w w' ∧ LiveOnly w b w'
    go_enter Tryz.func50, Tryz.ntmps50
    go_wp2_with fail
    refine wp_region_class (CS w ea b B m e (.slice (some ⟨g, 0, none⟩) m.live.length cap) ve) (by kernel_rfl) (by kernel_rfl) (H0.out.next (tame_drewN (Below.refl _ _) 1)) ?_
    refine wq_k (.pointer (some ⟨b, 0, none⟩)) (wq_k (.pointer (some ⟨w.heap.size, 1, none⟩)) (wq_v (.int .i64 e.shard) (fun W hW => run_load1 3 (.tmp 11) (by kernel_rfl) ⟨w.heap.size, 1, none⟩ (by kernel_rfl) (.int .i64 e.shard) (hW.c1) _ Tryz.underlying3 rfl) (wq_c (.int .i64 ((i : Nat) : Int)) 45 #[.pointer (some ⟨b, 0, none⟩), .int .i64 e.shard] (fun W hW => (find_any b B m e.shard W hW.mp).mono fun e' w' h => ⟨by rw [h.1, HF.out]; rfl, hW.next h.2⟩) (wq_k (.pointer (some ⟨b, 0, none⟩)) (wq_k (.pointer (some ⟨w.heap.size, 2, none⟩)) (wq_v (.int .i64 e.other) (fun W hW => run_load1 3 (.tmp 15) (by kernel_rfl) ⟨w.heap.size, 2, none⟩ (by kernel_rfl) (.int .i64 e.other) (hW.c2) _ Tryz.underlying3 rfl) (wq_c (.int .i64 ((k : Nat) : Int)) 45 #[.pointer (some ⟨b, 0, none⟩), .int .i64 e.other] (fun W hW => (find_any b B m e.other W hW.mp).mono fun e' w' h => ⟨by rw [h.1, HF2.out]; rfl, hW.next h.2⟩) ?_)))))))
    refine wq_k (.int .i64 ((i : Nat) : Int)) (wq_k (.int .i64 ((k : Nat) : Int)) ?_)
    refine quiet_end rfl (Lib.hid ?_)
    refine Lib.hid ?_
    intro w1 hW
    have S1 := Lib.hid hW
    clear hW
    dsimp only [Exit.then, Act.put]
    simp only [List.setIfInBounds_toArray, List.set_cons_succ, List.set_cons_zero]
    go_wp2_with fail
    apply merge1 (F := fun g8 w' => Below w1.heap.size w1 w' ∧ w1.heap.size ≤ g8 ∧ Blk w' g8 52 #[.string sp.1, .string sp.2])
    case h1 =>
      obtain ⟨i0, hinf, hz0, -, -⟩ := info_parts Tryz.infoSp
      have HI := Lib.hid (And.intro hinf hz0)
      clear hinf hz0
      refine wp_region_wb ((Below w1.heap.size w1)) (by kernel_rfl) (tame_drewN (Below.refl _ w1) 1) (fun _ _ _ _ _ h => nomatch h.1) ?_
      intro hS HZQ
      refine wa_k 0 19 (.pointer (some ⟨b, 0, none⟩)) hS HZQ (wa_k 1 20 (.pointer (some ⟨b, 0, none⟩)) hS HZQ (wa_k 2 21 (.pointer (some ⟨b, 0, none⟩)) hS HZQ (wa_v 3 22 (.slice (some ⟨g, 0, none⟩) m.live.length cap) hS HZQ (fun W hW => run_load1 48 (.tmp 21) (by kernel_rfl) ⟨b, 0, none⟩ (by kernel_rfl) (.slice (some ⟨g, 0, none⟩) m.live.length cap) ((S1.out.next hW).map.blk.cell 0) _ Tryz.underlying48 rfl) (wa_k 4 23 (.int .i64 ((i : Nat) : Int)) hS HZQ (wa_v 5 24 (.pointer (some ⟨g, i * 5, none⟩)) hS HZQ (fun W hW => run_eqv (run_idx 48 (.tmp 22) (.tmp 23) (by kernel_rfl) g 0 m.live.length cap i 54 5 (by kernel_rfl) (by kernel_rfl) (by omega) Tryz.underlying48 (by kernel_rfl)) (by rw [Nat.zero_add])) (wa_k 6 25 (.pointer (some ⟨g, i * 5 + 3, none⟩)) hS HZQ (wa_v 7 26 (.agg #[.string (shAt m.live i).lo, .string (shAt m.live i).hi]) hS HZQ (fun W hW => run_eqv (run_loadN 52 (.tmp 25) (by kernel_rfl) g (i * 5 + 3) (by kernel_rfl) [.string (shAt m.live i).lo, .string (shAt m.live i).hi] (row_span (own_row1 (S1.out.next hW).map.live) hi) _ Tryz.underlying52 rfl (by kernel_rfl)) rfl) ?_)))))))
      refine wa_k 8 27 (.pointer (some ⟨b, 0, none⟩)) hS HZQ (wa_k 9 28 (.pointer (some ⟨b, 0, none⟩)) hS HZQ (wa_k 10 29 (.pointer (some ⟨b, 0, none⟩)) hS HZQ (wa_v 11 30 (.slice (some ⟨g, 0, none⟩) m.live.length cap) hS HZQ (fun W hW => run_load1 48 (.tmp 29) (by kernel_rfl) ⟨b, 0, none⟩ (by kernel_rfl) (.slice (some ⟨g, 0, none⟩) m.live.length cap) ((S1.out.next hW).map.blk.cell 0) _ Tryz.underlying48 rfl) (wa_k 12 31 (.int .i64 ((k : Nat) : Int)) hS HZQ (wa_v 13 32 (.pointer (some ⟨g, k * 5, none⟩)) hS HZQ (fun W hW => run_eqv (run_idx 48 (.tmp 30) (.tmp 31) (by kernel_rfl) g 0 m.live.length cap k 54 5 (by kernel_rfl) (by kernel_rfl) (by omega) Tryz.underlying48 (by kernel_rfl)) (by rw [Nat.zero_add])) (wa_k 14 33 (.pointer (some ⟨g, k * 5 + 3, none⟩)) hS HZQ (wa_v 15 34 (.agg #[.string (shAt m.live k).lo, .string (shAt m.live k).hi]) hS HZQ (fun W hW => run_eqv (run_loadN 52 (.tmp 33) (by kernel_rfl) g (k * 5 + 3) (by kernel_rfl) [.string (shAt m.live k).lo, .string (shAt m.live k).hi] (row_span (own_row1 (S1.out.next hW).map.live) hk') _ Tryz.underlying52 rfl (by kernel_rfl)) rfl) ?_)))))))
      refine wa_r [16, 20] ?_
      refine (ar_a (some 35) (fun K hK => ?_) (ar_a (some 8) (fun K hK => ?_) ar_nil))
      ·
        refine ow_call 48 #[.agg #[.string (shAt m.live i).lo, .string (shAt m.live i).hi], .agg #[.string (shAt m.live k).lo, .string (shAt m.live k).hi]] (by kernel_rfl) (fun v w' => v = .tuple #[.agg #[.string sp.1, .string sp.2], .nilIface] ∧ Below _ _ w') ((HJC.out _ (S1.out.next hS).err).mono fun e' w' h => ⟨_, h.1, rfl, h.2⟩) (Lib.hid ?_)
        rintro v wx ⟨rfl, hbx⟩
        refine hK.out _ _ (hS.trans (hbx.mono hS.size)) (fun hS => ?_)
        try have H8 := Lib.hid (H8.out.below hbx H8.out.lt)
        clear hK K hbx
        refine wa_k 17 18 (.tuple #[.agg #[.string sp.1, .string sp.2], .nilIface]) hS HZQ (wa_k 18 36 (.agg #[.string sp.1, .string sp.2]) hS HZQ (wa_k 19 37 (.nilIface) hS HZQ ?_))
        refine wa_r [20] ?_
        refine ar_a (some 8) (fun K hK => ?_) ar_nil
        refine ow_alloc 52 (by kernel_rfl) i0 _ HI.out.1 HI.out.2 (Lib.hid ?_)
        intro g8 wx hg8 hz hbx
        refine hK.out _ _ (hS.trans (hbx.mono hS.size)) (fun hS' => ?_)
        have G8 := Lib.hid (show w1.heap.size ≤ g8 by rw [hg8]; exact hS.size)
        have H8 := Lib.hid hz
        clear hK K hbx hg8 hz
        have hS := hS'
        clear hS'
        refine wa_r [21] ?_
        refine ar_a none (fun K hK => ?_) ar_nil
        refine ow_store_blk 52 (.tmp 8) (.tmp 36) (by kernel_rfl) g8 #[.string sp.1, .string sp.2] (by kernel_rfl) (by kernel_rfl) 52 #[.string ⟨#[]⟩, .string ⟨#[]⟩] H8.out rfl (by kernel_rfl) (by kernel_rfl) (Lib.hid ?_)
        intro wx hz hox
        refine hK.out _ _ (hS.trans (hox.to_below hS.size (fun q hq e => by have := G8.out; omega))) (fun hS => ?_)
        have H8 := Lib.hid hz
        clear hK K hz hox
        refine wa_k 22 9 (.nilIface) hS HZQ ?_
        refine wa_done (by kernel_rfl) ?_
        dsimp only [Exit.then, Act.put]
        simp only [List.setIfInBounds_toArray, List.set_cons_succ, List.set_cons_zero]
        refine ⟨by trivial, g8, rfl, hS, G8.out, H8.out⟩
      ·
        refine ow_alloc 52 (by kernel_rfl) i0 _ HI.out.1 HI.out.2 (Lib.hid ?_)
        intro g8 wx hg8 hz hbx
        refine hK.out _ _ (hS.trans (hbx.mono hS.size)) (fun hS' => ?_)
        have G8 := Lib.hid (show w1.heap.size ≤ g8 by rw [hg8]; exact hS.size)
        have H8 := Lib.hid hz
        clear hK K hbx hg8 hz
        have hS := hS'
        clear hS'
        refine wa_r [16] ?_
        refine ar_a (some 35) (fun K hK => ?_) ar_nil
        refine ow_call 48 #[.agg #[.string (shAt m.live i).lo, .string (shAt m.live i).hi], .agg #[.string (shAt m.live k).lo, .string (shAt m.live k).hi]] (by kernel_rfl) (fun v w' => v = .tuple #[.agg #[.string sp.1, .string sp.2], .nilIface] ∧ Below _ _ w') ((HJC.out _ (S1.out.next hS).err).mono fun e' w' h => ⟨_, h.1, rfl, h.2⟩) (Lib.hid ?_)
        rintro v wx ⟨rfl, hbx⟩
        refine hK.out _ _ (hS.trans (hbx.mono hS.size)) (fun hS => ?_)
        try have H8 := Lib.hid (H8.out.below hbx H8.out.lt)
        clear hK K hbx
        refine wa_k 17 18 (.tuple #[.agg #[.string sp.1, .string sp.2], .nilIface]) hS HZQ (wa_k 18 36 (.agg #[.string sp.1, .string sp.2]) hS HZQ (wa_k 19 37 (.nilIface) hS HZQ ?_))
        refine wa_r [21] ?_
        refine ar_a none (fun K hK => ?_) ar_nil
        refine ow_store_blk 52 (.tmp 8) (.tmp 36) (by kernel_rfl) g8 #[.string sp.1, .string sp.2] (by kernel_rfl) (by kernel_rfl) 52 #[.string ⟨#[]⟩, .string ⟨#[]⟩] H8.out rfl (by kernel_rfl) (by kernel_rfl) (Lib.hid ?_)
        intro wx hz hox
        refine hK.out _ _ (hS.trans (hox.to_below hS.size (fun q hq e => by have := G8.out; omega))) (fun hS => ?_)
        have H8 := Lib.hid hz
        clear hK K hz hox
        refine wa_k 22 9 (.nilIface) hS HZQ ?_
        refine wa_done (by kernel_rfl) ?_
        dsimp only [Exit.then, Act.put]
        simp only [List.setIfInBounds_toArray, List.set_cons_succ, List.set_cons_zero]
        refine ⟨by trivial, g8, rfl, hS, G8.out, H8.out⟩
    case h2 =>
      rintro g8 w2 ⟨hb2, G8, H8⟩
      have S2 := Lib.hid (S1.out.next hb2)
      have HB2 := Lib.hid (S2.out.map.blk)
      have HR2 := Lib.hid ((HGK.out.below (S2.out.bel) HGK.out.lt))
      have HBG := Lib.hid (show b ≠ g from fun e => by
        have h1 := HB2.out
        have h2 := HR2.out
        unfold Blk at h1 h2
        rw [e, h2] at h1
        simp at h1)
      have HG8 := Lib.hid (show g8 ≠ g ∧ g8 ≠ b by
        have h1 := HGK.out.lt
        have h2 := S1.out.bel.size
        have h3 := HM.out.blk.lt
        omega)
      have H8 := Lib.hid H8
      have hg := G8
      clear hb2 G8 hg
      have HF1 : Hid (i * 5 + 3 + 2 ≤ cur.length) := Lib.hid (by have := HGL.out; omega)
      have HF2 : Hid (i * 5 + 2 + 1 ≤ (splice cur (i * 5 + 3) [.string sp.1, .string sp.2]).length) := Lib.hid (by rw [length_splice _ _ _ (by simpa using HF1.out)]; have := HF1.out; omega)
      go_wp2_with fail
      refine wp_region_wb ((Only (fun k => k = g) w2)) (by kernel_rfl) (((Only.refl (fun k => k = g) w2).drewN 1)) (fun _ _ _ _ _ h => h) ?_
      intro hS HZQ
      refine wa_k 0 40 (.pointer (some ⟨b, 0, none⟩)) hS HZQ (wa_k 1 41 (.pointer (some ⟨b, 0, none⟩)) hS HZQ (wa_k 2 42 (.pointer (some ⟨b, 0, none⟩)) hS HZQ (wa_v 3 43 (.slice (some ⟨g, 0, none⟩) m.live.length cap) hS HZQ (fun W hW => run_load1 48 (.tmp 42) (by kernel_rfl) ⟨b, 0, none⟩ (by kernel_rfl) (.slice (some ⟨g, 0, none⟩) m.live.length cap) ((HB2.out.only hW HBG.out).cell 0) _ Tryz.underlying48 rfl) (wa_k 4 44 (.int .i64 ((i : Nat) : Int)) hS HZQ (wa_k 5 45 (.pointer (some ⟨b, 0, none⟩)) hS HZQ (wa_k 6 46 (.pointer (some ⟨b, 0, none⟩)) hS HZQ (wa_k 7 47 (.pointer (some ⟨b, 0, none⟩)) hS HZQ ?_)))))))
      refine wa_v 8 48 (.slice (some ⟨g, 0, none⟩) m.live.length cap) hS HZQ (fun W hW => run_load1 48 (.tmp 47) (by kernel_rfl) ⟨b, 0, none⟩ (by kernel_rfl) (.slice (some ⟨g, 0, none⟩) m.live.length cap) ((HB2.out.only hW HBG.out).cell 0) _ Tryz.underlying48 rfl) (wa_k 9 49 (.int .i64 ((i : Nat) : Int)) hS HZQ (wa_v 10 50 (.agg #[.string sp.1, .string sp.2]) hS HZQ (fun W hW => run_eqv (run_loadN 52 (.tmp 8) (by kernel_rfl) g8 0 (by kernel_rfl) [.string sp.1, .string sp.2] ((H8.out.only hW HG8.out.1).range (fun j v hj => by simpa using hj)) _ Tryz.underlying52 rfl (by kernel_rfl)) rfl) (wa_k 11 51 (.int .i64 ((t : Nat) : Int)) hS HZQ (wa_v 12 52 (.int .i64 ((t + 1 : Nat) : Int)) hS HZQ (fun W hW => run_eqv (v := .int .i64 (IntKind.i64.wrap ((t : Int) + 1))) (by kernel_rfl) (wrap_nat _ _ (by omega) (by omega))) (wa_v 13 53 (.pointer (some ⟨g, i * 5, none⟩)) hS HZQ (fun W hW => run_eqv (run_idx 48 (.tmp 43) (.tmp 44) (by kernel_rfl) g 0 m.live.length cap i 54 5 (by kernel_rfl) (by kernel_rfl) (by omega) Tryz.underlying48 (by kernel_rfl)) (by rw [Nat.zero_add])) (wa_k 14 54 (.pointer (some ⟨g, i * 5 + 3, none⟩)) hS HZQ ?_))))))
      refine wa_r [15] ?_
      refine ar_a none (fun K hK => ?_) ar_nil
      refine ow_storeN 52 (.tmp 54) (.tmp 50) (by kernel_rfl) g (i * 5 + 3) (.agg #[.string sp.1, .string sp.2]) [.string sp.1, .string sp.2] (by kernel_rfl) (by kernel_rfl) rfl cur 54 (HR2.out.drewN 1) HF1.out (by kernel_rfl) (by intro u hu; simp at hu; rcases hu with rfl | rfl <;> rfl) (Lib.hid ?_)
      intro wx hz hox
      refine hK.out _ _ (hS.trans hox) (fun hS => ?_)
      have HR3 := Lib.hid hz
      clear hK K hz hox HR2
      refine wa_v 16 55 (.pointer (some ⟨g, i * 5, none⟩)) hS HZQ (fun W hW => run_eqv (run_idx 48 (.tmp 48) (.tmp 49) (by kernel_rfl) g 0 m.live.length cap i 54 5 (by kernel_rfl) (by kernel_rfl) (by omega) Tryz.underlying48 (by kernel_rfl)) (by rw [Nat.zero_add])) (wa_k 17 56 (.pointer (some ⟨g, i * 5 + 2, none⟩)) hS HZQ ?_)
      refine wa_r [18] ?_
      refine ar_a none (fun K hK => ?_) ar_nil
      refine ow_storeN 3 (.tmp 56) (.tmp 52) (by kernel_rfl) g (i * 5 + 2) (.int .i64 ((t + 1 : Nat) : Int)) [.int .i64 ((t + 1 : Nat) : Int)] (by kernel_rfl) (by kernel_rfl) rfl (splice cur (i * 5 + 3) [.string sp.1, .string sp.2]) 54 HR3.out HF2.out (by kernel_rfl) (by intro u hu; simp at hu; subst hu; rfl) (Lib.hid ?_)
      intro w4 hz hox
      refine hK.out _ _ (hS.trans hox) (fun hS => ?_)
      have HR4 := Lib.hid hz
      clear hK K hz hox HR3
      refine wa_done (by kernel_rfl) ?_
      dsimp only [Exit.then, Act.put]
      simp only [List.setIfInBounds_toArray, List.set_cons_succ, List.set_cons_zero]
      have O4 := Lib.hid hS
      have HROW := Lib.hid (own_blk (n := m.live.length) (cap := cap) (xs := shRow (m.live.set i ((shAt m.live i).turned sp.1 sp.2 ((t + 1 : Nat) : Int)))) (sz := 5) HR4.out hgB (by rw [shRow_len, List.length_set]) hgc HGM.out (by rw [length_splice _ _ _ (by simpa using HF2.out), length_splice _ _ _ (by simpa using HF1.out), HGL.out]) (row_turn cur m.live i sp.1 sp.2 ((t + 1 : Nat) : Int) hi HGT.out (by have := HGL.out; omega)))
      have HB4 := Lib.hid (HB2.out.only O4.out HBG.out)
      have HLL : Hid ((m.live.set i ((shAt m.live i).turned sp.1 sp.2 ((t + 1 : Nat) : Int))).length = m.live.length) := Lib.hid (List.length_set ..)
      have HBS : Hid (B ≤ w4.heap.size) := Lib.hid (by have h1 := S2.out.bel.size; have h2 := O4.out.size; omega)
      generalize hl1 : m.live.set i ((shAt m.live i).turned sp.1 sp.2 ((t + 1 : Nat) : Int)) = l1 at *
      have HL1 := Lib.hid hl1
      clear hl1 hS HR4 HB2 H8
      rw [← HLL.out] at HROW
      obtain ⟨N, hN⟩ : ∃ N, m.live.length = N + 1 := ⟨m.live.length - 1, by omega⟩
      have HN := Lib.hid (show l1.length = N + 1 by rw [HLL.out, hN])
      have HDL := Lib.hid (delete_any l1 N k B (.slice (some ⟨g, 0, none⟩) m.live.length cap) w4 (by have := HROW.out; rwa [HLL.out] at this ⊢) HN.out (by omega) (by omega) (by have := HM.out.len; omega))
      have c0 : w4.cell? ⟨b, 0, none⟩ = some (.slice (some ⟨g, 0, none⟩) m.live.length cap) := HB4.out.cell 0
      have hk5 : k ≤ 10000 := by have := HM.out.len; omega
      clear hN
      go_wp2_with fail
      refine HDL.out.mono ?_
      rintro e' w5 ⟨v5, rfl, h1, h2⟩
      obtain ⟨gn, cn, rfl, -, -, -, -⟩ := own_some h1 (by have := HN.out; have := HLL.out; omega)
      have HR5 := Lib.hid h1
      have O5 := Lib.hid (h2.mono (T := fun k => k = g) (fun k hk => by simpa [Value.ownBlock, eq_comm] using hk))
      have HB5 := Lib.hid (HB4.out.only O5.out HBG.out)
      have c5 : w5.cell? ⟨b, 0, none⟩ = some (.slice (some ⟨g, 0, none⟩) m.live.length cap) := HB5.out.cell 0
      have f5 : w5.frozen? ⟨b, 0, none⟩ = false := HB5.out.frozen 0
      clear h1 h2 HDL c0 HB4
      go_wp2_with fail
      go_end0
      have hox : Only (fun k => k = b) w5 (w5.setCell ⟨b, 0, none⟩ (.slice (some ⟨gn, 0, none⟩) N cn)) := (Only.refl (fun k => k = b) w5).set (p := ⟨b, 0, none⟩) (.inl rfl) _
      refine ⟨rfl, ?_, ?_, ?_⟩
      · refine ⟨.slice (some ⟨gn, 0, none⟩) N cn, ve, ?_⟩
        rw [HSP.out]
        have hlen : (l1.take k ++ l1.drop (k + 1)).length = N := by
          have := HLL.out
          have := HN.out
          simp only [List.length_append, List.length_take, List.length_drop]
          omega
        have hev : EvOwn (w5.setCell ⟨b, 0, none⟩ (.slice (some ⟨gn, 0, none⟩) N cn)) B ve m.evs := HM.out.ev.imp id (fun k => by
          have n1 := own_ne_blk k.2 HGK.out (by decide)
          have n2 := own_ne_blk k.2 HM.out.blk (by decide)
          exact ⟨k.1, own_only (own_only (own_only (own_below k.2 S2.out.bel) O4.out (fun q hq (e : q = g) => n1 (by rw [hq, e]))) O5.out (fun q hq (e : q = g) => n1 (by rw [hq, e]))) hox (fun q hq (e : q = b) => n2 (by rw [hq, e]))⟩)
        have hbl : Blk (w5.setCell ⟨b, 0, none⟩ (.slice (some ⟨gn, 0, none⟩) N cn)) b 100 (pmC (.slice (some ⟨gn, 0, none⟩) N cn) m.used ve) := HB5.out.put 0 _
        have n5 := own_ne_blk HR5.out HB5.out (by decide)
        refine ⟨hbl, HM.out.ge, ?_, hev, by rw [hlen]; have := HN.out; have := HLL.out; omega, by rw [hlen]; exact ⟨by have := HN.out; have := HLL.out; have := HM.out.len; omega, HM.out.len.2⟩, ?_⟩
        · rw [hlen]
          exact own_only HR5.out hox (fun q hq (e : q = b) => n5 (by rw [hq, e]))
        · have okL : ∀ s ∈ l1, s.ok := by
            intro s hs
            rw [← HL1.out] at hs
            rcases List.mem_or_eq_of_mem_set hs with h | h
            · exact HM.out.ok s h
            · rw [h]
              exact HOK.out
          intro s hs
          rcases List.mem_append.1 hs with h | h
          · exact okL s (List.mem_of_mem_take h)
          · exact okL s (List.mem_of_mem_drop h)
      · have c2 : Chg PT B w w2 := Chg.of_below S2.out.bel
        have c4 : Chg PT B w2 w4 := O4.out.mono (fun k hk => ⟨hk ▸ hgB, _, _, _, hk ▸ HGK.out.below S2.out.bel HGK.out.lt, .inr (.inl rfl)⟩)
        obtain ⟨cu, hcu⟩ := own_kind HROW.out
        have c5' : Chg PT B w4 w5 := O5.out.mono (fun k hk => by
          subst hk
          exact ⟨hgB, _, _, _, hcu, .inr (.inl rfl)⟩)
        have c6 : Chg PT B w5 _ := hox.mono (fun k hk => ⟨hk ▸ HM.out.ge, _, _, _, hk ▸ HB5.out, .inl rfl⟩)
        exact ((c2.trans c4).trans c5').trans c6
      · have hs0 : ∀ k, k = g → (k = b ∨ ∃ v, w.cell? ⟨b, 0, none⟩ = some v ∧ ownB v = some k) := fun k hk => .inr ⟨.slice (some ⟨g, 0, none⟩) m.live.length cap, HM.out.blk.cell 0, by rw [hk]; exact ownB_some (by omega)⟩
        refine ⟨(((Only.below_all S2.out.bel).trans (O4.out.mono hs0)).trans (O5.out.mono hs0)).trans (hox.mono (fun k hk => .inl hk)), ?_⟩
        have h1 := HB5.out.put 0 (.slice (some ⟨gn, 0, none⟩) N cn)
        have h2 : (w5.setCell ⟨b, 0, none⟩ (.slice (some ⟨gn, 0, none⟩) N cn)).cell? ⟨b, 14, none⟩ = some ve := h1.cell 14
        have h3 : w.cell? ⟨b, 14, none⟩ = some ve := HM.out.blk.cell 14
        rw [h2, h3]
end Go.Proofs.YthjmfcdhpdiehaaGreatDoor
