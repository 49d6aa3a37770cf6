/-
  tidewaterref20.New, Counts.
-/
import Derived.Test.YthjmfcdhpdiehaaGreatDoorM19
import Derived.Test.YthjmfcdhpdiehaaGreatDoorM20
namespace Go.Proofs.YthjmfcdhpdiehaaGreatDoor
open Go.RowKit Utf
set_option maxRecDepth 100000
set_option linter.unusedSimpArgs false
set_option linter.unusedVariables false

def RM.new : RM := ⟨[⟨1, 1, 0, ⟨#[]⟩, ⟨#[]⟩⟩], [1], []⟩
set_option maxHeartbeats 1000000 in
theorem rnew_any (w : World) :
    Calls Tryz.prog 33 #[] w fun e w' => ∃ b, e = .returned (.pointer (some ⟨b, 0, none⟩)) ∧ RMAt w' w.heap.size b RM.new ∧ Below w.heap.size w w' := by
  go_enter Tryz.func33, Tryz.ntmps33
  go_wp2_with fail
  go_ret
  refine ⟨w.heap.size + 1 + 1, rfl, ⟨.slice (some ⟨w.heap.size, 0, none⟩) 1 1, .slice (some ⟨w.heap.size + 1, 0, none⟩) 1 1, .slice none 0 0, ?_⟩, ((below_alloc w _).alloc (by simp) _).alloc (by simp; omega) _⟩
  have h1 := Blk.new (w.alloc (.cells #[.int .i64 1, .int .i64 1, .int .i64 0, .string ⟨#[]⟩, .string ⟨#[]⟩] 75)) 3 #[.int .i64 1]
  rw [World.size_alloc] at h1
  have hb := Blk.new ((w.alloc (.cells #[.int .i64 1, .int .i64 1, .int .i64 0, .string ⟨#[]⟩, .string ⟨#[]⟩] 75)).alloc (.cells #[.int .i64 1] 3)) 117 #[.slice (some ⟨w.heap.size, 0, none⟩) 1 1, .slice (some ⟨w.heap.size + 1, 0, none⟩) 1 1, .slice none 0 0]
  rw [World.size_alloc, World.size_alloc] at hb
  refine ⟨hb, by omega, ?_, ?_, OwnE.nil, ⟨Nat.le_refl _, Nat.le_refl _⟩, ⟨by decide, by decide, by decide⟩, fun s hs => ?_⟩
  · exact ⟨rfl, .inr ⟨w.heap.size, 1, _, rfl, Nat.le_refl _, (((Blk.new w _ _).alloc _).alloc _), Nat.le_refl _, by unfold maxLen; omega, rfl, rfl⟩⟩
  · exact ⟨rfl, .inr ⟨w.heap.size + 1, 1, _, rfl, by omega, (h1.alloc _), Nat.le_refl _, by unfold maxLen; omega, rfl, rfl⟩⟩
  · simp only [RM.new, List.mem_singleton] at hs
    subst hs
    exact ⟨by decide, by decide⟩

/-- Does an entry count? -/
def rcountsP (m : RM) (e : EN) : Bool :=
  match findN e.shard m.live with
  | none => false
  | some i =>
    if e.kind = 2 then rightE e
    else if e.kind = 3 then rightE e && !inL m.used e.other && hasB (shAt m.live i).lo (shAt m.live i).hi e.key && decide (e.key ≠ (shAt m.live i).lo)
    else if e.kind = 4 then rightE e && (match findN e.other m.live with
      | none => false
      | some k => (joinB (shAt m.live i).lo (shAt m.live i).hi (shAt m.live k).lo (shAt m.live k).hi).isSome)
    else false
theorem rcounts_bad {m : RM} {e : EN} {b : Bool} (hb : e.kind = 2 ∨ e.kind = 3 ∨ e.kind = 4 → b = rightE e) (h : b = false) : rcountsP m e = false := by
  unfold rcountsP
  cases findN e.shard m.live with
  | none => rfl
  | some i =>
    dsimp only
    by_cases h2 : e.kind = 2
    · rw [if_pos h2, ← hb (.inl h2), h]
    rw [if_neg h2]
    by_cases h3 : e.kind = 3
    · rw [if_pos h3, ← hb (.inr (.inl h3)), h]; rfl
    rw [if_neg h3]
    by_cases h4 : e.kind = 4
    · rw [if_pos h4, ← hb (.inr (.inr h4)), h]; rfl
    rw [if_neg h4]
theorem rcounts_none {m : RM} {e : EN} (h : findN e.shard m.live = none) : rcountsP m e = false := by
  unfold rcountsP
  rw [h]
theorem rcounts_some {m : RM} {e : EN} {i : Nat} (h : findN e.shard m.live = some i) : rcountsP m e = if e.kind = 2 then rightE e
    else if e.kind = 3 then rightE e && !inL m.used e.other && hasB (shAt m.live i).lo (shAt m.live i).hi e.key && decide (e.key ≠ (shAt m.live i).lo)
    else if e.kind = 4 then rightE e && (match findN e.other m.live with
      | none => false
      | some k => (joinB (shAt m.live i).lo (shAt m.live i).hi (shAt m.live k).lo (shAt m.live k).hi).isSome)
    else false := by
  unfold rcountsP
  rw [h]
/-- How the walk of Counts stands: the map, the entry in its box. -/
structure RC (w : World) (b B : Nat) (m : RM) (e : EN) (vl vu ve : Value) (W : World) : Prop where
  bel : Below w.heap.size w W
  map : RMV W B b m vl vu ve
  box : Blk W w.heap.size 44 e.cells.toArray
  ent : e.at W
theorem RC.next {w W W' : World} {b B : Nat} {m : RM} {e : EN} {vl vu ve : Value} (h : RC w b B m e vl vu ve W) (hb : Below W.heap.size W W') : RC w b B m e vl vu ve W' :=
  ⟨h.bel.trans (hb.mono h.bel.size), h.map.below hb, h.box.below hb h.box.lt, h.ent.below hb⟩
theorem RC.new {w : World} {b B : Nat} {m : RM} {e : EN} {vl vu ve : Value} (hm : RMV w B b m vl vu ve) (ha : e.at w) : RC w b B m e vl vu ve (w.alloc (.cells e.cells.toArray 44)) :=
  ⟨below_alloc _ _, hm.below (below_alloc _ _), Blk.new _ _ _, ha.below (below_alloc _ _)⟩
section
variable {w W : World} {b B : Nat} {m : RM} {e : EN} {vl vu ve : Value} (h : RC w b B m e vl vu ve W)
include h
theorem RC.mp : RMAt W B b m := ⟨_, _, _, h.map⟩
theorem RC.c0 : W.cell? ⟨w.heap.size, 0, none⟩ = some (.int .i64 e.kind) := h.box.cell 0
theorem RC.c1 : W.cell? ⟨w.heap.size, 1, none⟩ = some (.int .i64 e.shard) := h.box.cell 1
theorem RC.c2 : W.cell? ⟨w.heap.size, 2, none⟩ = some (.int .i64 e.other) := h.box.cell 2
theorem RC.c3 : W.cell? ⟨w.heap.size, 3, none⟩ = some (.int .i64 e.server) := h.box.cell 3
theorem RC.c7 : W.cell? ⟨w.heap.size, 7, none⟩ = some (.string e.key) := h.box.cell 7
end
theorem rmap_ok {w : World} {B b : Nat} {m : RM} {vl vu ve : Value} (h : RMV w B b m vl vu ve) {i : Nat} (hi : i < m.live.length) : (shAt m.live i).lo.size ≤ 1000000 ∧ (shAt m.live i).hi.size ≤ 1000000 := h.ok _ (shAt_mem hi)
/-- .. and a span in a box. -/
structure RS (w : World) (b B : Nat) (m : RM) (e : EN) (vl vu ve : Value) (p : Nat) (lo hi : ByteArray) (W : World) : Prop extends RC w b B m e vl vu ve W where
  sp : Blk W p 52 #[.string lo, .string hi]
theorem RS.next {w W W' : World} {b B p : Nat} {m : RM} {e : EN} {vl vu ve : Value} {lo hi : ByteArray} (h : RS w b B m e vl vu ve p lo hi W) (hb : Below W.heap.size W W') : RS w b B m e vl vu ve p lo hi W' :=
  ⟨h.toRC.next hb, h.sp.below hb h.sp.lt⟩

set_option maxHeartbeats 4000000 in
theorem rcounts_any (b B : Nat) (m : RM) (e : EN) (w : World) (hm : RMAt w B b m) (ha : e.at w) :
    Calls Tryz.prog 58 #[.pointer (some ⟨b, 0, none⟩), .agg e.cells.toArray] w fun e' w' => e' = .returned (.bool (rcountsP m e)) ∧ Below w.heap.size w w' := by
  obtain ⟨vl, vu, ve, hm⟩ := hm
  obtain ⟨g, cap, rfl, -, -, -, -⟩ := own_some hm.live hm.l1.1
  obtain ⟨gu, cu, rfl, -, -, -, -⟩ := own_some hm.used hm.l1.2
  have H0 : Hid (RC w b B m e (.slice (some ⟨g, 0, none⟩) m.live.length cap) (.slice (some ⟨gu, 0, none⟩) m.used.length cu) ve (w.alloc (.cells #[.int .i64 e.kind, .int .i64 e.shard, .int .i64 e.other, .int .i64 e.server, .int .i64 e.client, .int .i64 e.seq, .slice e.ao e.no e.co, .string e.key, .int .i64 e.upto, .int .i64 e.part, .int .i64 e.parts, .slice e.ad e.nd e.cd] 44))) := Lib.hid (RC.new hm ha)
  have HK := Lib.hid ha.key
  have hul := hm.len.2.1
  clear hm ha
  show Calls Tryz.prog 58 #[.pointer (some ⟨b, 0, none⟩), .agg #[.int .i64 e.kind, .int .i64 e.shard, .int .i64 e.other, .int .i64 e.server, .int .i64 e.client, .int .i64 e.seq, .slice e.ao e.no e.co, .string e.key, .int .i64 e.upto, .int .i64 e.part, .int .i64 e.parts, .slice e.ad e.nd e.cd]] w fun e' w' => e' = .returned (.bool (rcountsP m e)) ∧ Below w.heap.size w w'
  go_enter Tryz.func58, Tryz.ntmps58
  go_wp2_with fail
  refine wp_region_class (RC w b B m e (.slice (some ⟨g, 0, none⟩) m.live.length cap) (.slice (some ⟨gu, 0, none⟩) m.used.length cu) ve) (by kernel_rfl) (by kernel_rfl) (H0.out.next (tame_drewN (Below.refl _ _) 1)) ?_
  refine wq_k (.pointer (some ⟨b, 0, none⟩)) (wq_k (.pointer (some ⟨w.heap.size, 1, none⟩)) (wq_v (.int .i64 e.shard) (fun W hW => run_load1 3 (.tmp 11) (by kernel_rfl) ⟨w.heap.size, 1, none⟩ (by kernel_rfl) (.int .i64 e.shard) (hW.c1) _ Tryz.underlying3 rfl) (wq_c (.int .i64 (idxI (findN e.shard m.live))) 59 #[.pointer (some ⟨b, 0, none⟩), .int .i64 e.shard] (fun W hW => (rfind_any b B m e.shard W hW.mp).mono fun e' w' h => ⟨h.1, hW.next h.2⟩) (wq_k (.pointer (some ⟨b, 0, none⟩)) (wq_k (.pointer (some ⟨w.heap.size, 2, none⟩)) (wq_v (.int .i64 e.other) (fun W hW => run_load1 3 (.tmp 15) (by kernel_rfl) ⟨w.heap.size, 2, none⟩ (by kernel_rfl) (.int .i64 e.other) (hW.c2) _ Tryz.underlying3 rfl) (wq_c (.int .i64 (idxI (findN e.other m.live))) 59 #[.pointer (some ⟨b, 0, none⟩), .int .i64 e.other] (fun W hW => (rfind_any b B m e.other W hW.mp).mono fun e' w' h => ⟨h.1, hW.next h.2⟩) ?_)))))))
  refine wq_k (.int .i64 (idxI (findN e.shard m.live))) (wq_k (.int .i64 (idxI (findN e.other m.live))) ?_)
  refine quiet_end rfl (Lib.hid ?_)
  refine Lib.hid ?_
  intro w1 hW
  have S1 := Lib.hid hW
  clear hW
  dsimp only [Exit.then, Act.put]
  simp only [List.setIfInBounds_toArray, List.set_cons_succ, List.set_cons_zero]
  generalize hko : idxI (findN e.other m.live) = ko
  have HKO := Lib.hid hko
  clear hko
  go_wp2_with (refine wpList_load_hid rfl 44 (.tmp 3) rfl w.heap.size rfl 44 e.cells.toArray S1.out.box _ Tryz.underlying44 rfl (by kernel_rfl) ?_)
  refine Lib.hid ?_
  go_wp2_with fail
  refine (rentry_any e _ S1.out.ent).mono ?_
  rintro e' w2 ⟨⟨r, rfl, hr⟩, hb2⟩
  have S2 := Lib.hid (S1.out.next hb2)
  have HR := Lib.hid hr
  clear hb2 hr
  cases hrb : r with
  | false =>
    have HF := Lib.hid (rcounts_bad (m := m) HR.out hrb)
    clear hrb HR
    go_wp2_with fail
    go_ret
    exact ⟨by rw [HF.out]; rfl, S2.out.bel⟩
  | true =>
    subst hrb
    cases hf : findN e.shard m.live with
    | none =>
      have HF := Lib.hid (rcounts_none hf)
      clear hf
      dsimp only [idxI]
      go_wp2_with fail
      go_ret
      exact ⟨by rw [HF.out]; rfl, S2.out.bel⟩
    | some i =>
      have HF := Lib.hid (rcounts_some hf)
      obtain ⟨hi, -⟩ := findN_lt hf
      clear hf
      dsimp only [idxI]
      have hneg : ¬ (i : Int) < 0 := by omega
      have s0 := S2.out.c0
      by_cases k2 : e.kind = 2
      · have e2 : (e.kind == 2) = true := by simp [k2]
        have HZ := Lib.hid (show rcountsP m e = true by rw [HF.out, if_pos k2, ← HR.out (.inl k2)])
        clear k2
        go_wp2_with fail
        go_ret
        exact ⟨by rw [HZ.out]; rfl, S2.out.bel⟩
      have e2 : (e.kind == 2) = false := by simp [k2]
      by_cases k3 : e.kind = 3
      · have e3 : (e.kind == 3) = true := by simp [k3]
        have HR3 := Lib.hid (HR.out (.inr (.inl k3))).symm
        have HZ := Lib.hid (show rcountsP m e = (!inL m.used e.other && hasB (shAt m.live i).lo (shAt m.live i).hi e.key && decide (e.key ≠ (shAt m.live i).lo)) by
          rw [HF.out, if_neg k2, if_pos k3, HR3.out, Bool.true_and])
        have HSP := Lib.hid (row_span (own_row1 S2.out.map.live) hi)
        have HSZ := Lib.hid (show (Tryz.prog.info? 52).map (·.size) = some [Value.string (shAt m.live i).lo, Value.string (shAt m.live i).hi].length by kernel_rfl)
        have m0 : w2.cell? ⟨b, 0, none⟩ = some (.slice (some ⟨g, 0, none⟩) m.live.length cap) := S2.out.map.blk.cell 0
        have HSM := Lib.hid (rmap_ok S2.out.map hi)
        have HZ1 := Lib.hid (Blk.new w2 52 #[.string ⟨#[]⟩, .string ⟨#[]⟩])
        clear k2 k3
        generalize hlo : (shAt m.live i).lo = lo at *
        generalize hhi : (shAt m.live i).hi = hi' at *
        clear hlo hhi
        go_wp2_with (first | (refine wpList_load_mid rfl 52 (.tmp 37) rfl g (i * 5 + 3) rfl _ _ HSP.out Tryz.underlying52 rfl HSZ.out ?_) | (refine wpList_store_blk rfl 52 (.tmp 7) (.tmp 38) rfl w2.heap.size #[.string lo, .string hi'] rfl rfl 52 _ HZ1.out rfl (by kernel_rfl) (by kernel_rfl) ?_))
        refine Lib.hid ?_
        intro w3 hz ho
        have S3 := Lib.hid (show RS w b B m e (.slice (some ⟨g, 0, none⟩) m.live.length cap) (.slice (some ⟨gu, 0, none⟩) m.used.length cu) ve w2.heap.size lo hi' w3 from ⟨S2.out.next ((below_alloc w2 _).trans (ho.to_below (B := w2.heap.size) (by simp) (fun q hq e => by omega))), hz⟩)
        clear hz ho HZ1 HSP HSZ m0 s0
        cases hu : inL m.used e.other with
        | true =>
          have HU := Lib.hid hu
          clear hu
          go_wp2_with fail
          refine wp_region_class (RS w b B m e (.slice (some ⟨g, 0, none⟩) m.live.length cap) (.slice (some ⟨gu, 0, none⟩) m.used.length cu) ve w2.heap.size lo hi') (by kernel_rfl) (by kernel_rfl) (S3.out.next (tame_drewN (Below.refl _ w3) 1)) ?_
          refine wq_k (.pointer (some ⟨b, 0, none⟩)) (wq_k (.pointer (some ⟨b, 0, none⟩)) (wq_k (.pointer (some ⟨b, 1, none⟩)) (wq_v (.slice (some ⟨gu, 0, none⟩) m.used.length cu) (fun W hW => run_load1 37 (.tmp 41) (by kernel_rfl) ⟨b, 1, none⟩ (by kernel_rfl) (.slice (some ⟨gu, 0, none⟩) m.used.length cu) (hW.map.blk.cell 1) _ Tryz.underlying37 rfl) (wq_k (.pointer (some ⟨w.heap.size, 2, none⟩)) (wq_v (.int .i64 e.other) (fun W hW => run_load1 3 (.tmp 43) (by kernel_rfl) ⟨w.heap.size, 2, none⟩ (by kernel_rfl) (.int .i64 e.other) (hW.c2) _ Tryz.underlying3 rfl) (wq_c (.bool true) 86 #[.slice (some ⟨gu, 0, none⟩) m.used.length cu, .int .i64 e.other] (fun W hW => (in_any m.used e.other gu 0 cu W (by omega) (own_row1 hW.map.used)).mono fun e' w' h => ⟨by rw [h.1, HU.out], hW.next h.2⟩) (wq_k (.bool false) ?_)))))))
          refine wq_k (.bool false) (wq_n (wq_n (wq_n (wq_n (wq_k (.bool false) (wq_k (.bool false) (wq_n ?_)))))))
          refine wq_n (wq_n (wq_n (wq_n (wq_k (.bool false) (wq_k (.bool false) ?_)))))
          refine quiet_end rfl (Lib.hid ?_)
          refine Lib.hid ?_
          intro w4 hW
          have S4 := Lib.hid hW
          clear hW
          dsimp only [Exit.then, Act.put]
          simp only [List.setIfInBounds_toArray, List.set_cons_succ, List.set_cons_zero]
          go_wp2_with fail
          go_ret
          exact ⟨by rw [HZ.out, HU.out]; rfl, S4.out.bel⟩
        | false =>
          have HU := Lib.hid hu
          clear hu
          cases hh : hasB lo hi' e.key with
          | false =>
            have HH := Lib.hid hh
            clear hh
            go_wp2_with fail
            refine wp_region_class (RS w b B m e (.slice (some ⟨g, 0, none⟩) m.live.length cap) (.slice (some ⟨gu, 0, none⟩) m.used.length cu) ve w2.heap.size lo hi') (by kernel_rfl) (by kernel_rfl) (S3.out.next (tame_drewN (Below.refl _ w3) 1)) ?_
            refine wq_k (.pointer (some ⟨b, 0, none⟩)) (wq_k (.pointer (some ⟨b, 0, none⟩)) (wq_k (.pointer (some ⟨b, 1, none⟩)) (wq_v (.slice (some ⟨gu, 0, none⟩) m.used.length cu) (fun W hW => run_load1 37 (.tmp 41) (by kernel_rfl) ⟨b, 1, none⟩ (by kernel_rfl) (.slice (some ⟨gu, 0, none⟩) m.used.length cu) (hW.map.blk.cell 1) _ Tryz.underlying37 rfl) (wq_k (.pointer (some ⟨w.heap.size, 2, none⟩)) (wq_v (.int .i64 e.other) (fun W hW => run_load1 3 (.tmp 43) (by kernel_rfl) ⟨w.heap.size, 2, none⟩ (by kernel_rfl) (.int .i64 e.other) (hW.c2) _ Tryz.underlying3 rfl) (wq_c (.bool false) 86 #[.slice (some ⟨gu, 0, none⟩) m.used.length cu, .int .i64 e.other] (fun W hW => (in_any m.used e.other gu 0 cu W (by omega) (own_row1 hW.map.used)).mono fun e' w' h => ⟨by rw [h.1, HU.out], hW.next h.2⟩) (wq_k (.bool true) ?_)))))))
            refine wq_k (.bool true) (wq_v (.agg #[.string lo, .string hi']) (fun W hW => run_eqv (run_loadN 52 (.tmp 7) (by kernel_rfl) w2.heap.size 0 (by kernel_rfl) [.string lo, .string hi'] (hW.sp.range (fun j v hj => by simpa using hj)) _ Tryz.underlying52 rfl (by kernel_rfl)) rfl) (wq_k (.pointer (some ⟨w.heap.size, 7, none⟩)) (wq_v (.string e.key) (fun W hW => run_load1 9 (.tmp 49) (by kernel_rfl) ⟨w.heap.size, 7, none⟩ (by kernel_rfl) (.string e.key) (hW.c7) _ Tryz.underlying9 rfl) (wq_c (.bool false) 85 #[.agg #[.string lo, .string hi'], .string e.key] (fun W hW => (rhas_any lo hi' e.key W HSM.out.1 HSM.out.2 HK.out).mono fun e' w' h => ⟨by rw [h.1, HH.out], hW.next h.2⟩) (wq_k (.bool false) (wq_k (.bool false) (wq_n ?_)))))))
            refine wq_n (wq_n (wq_n (wq_n (wq_k (.bool false) (wq_k (.bool false) ?_)))))
            refine quiet_end rfl (Lib.hid ?_)
            refine Lib.hid ?_
            intro w4 hW
            have S4 := Lib.hid hW
            clear hW
            dsimp only [Exit.then, Act.put]
            simp only [List.setIfInBounds_toArray, List.set_cons_succ, List.set_cons_zero]
            go_wp2_with fail
            go_ret
            exact ⟨by rw [HZ.out, HU.out, HH.out]; rfl, S4.out.bel⟩
          | true =>
            have HH := Lib.hid hh
            clear hh
            by_cases hq : e.key = lo
            · have HQ := Lib.hid (show decide (e.key = lo) = true from decide_eq_true hq)
              have HQ2 := Lib.hid (show decide (e.key ≠ lo) = false by simp [hq])
              clear hq
              go_wp2_with fail
              refine wp_region_class (RS w b B m e (.slice (some ⟨g, 0, none⟩) m.live.length cap) (.slice (some ⟨gu, 0, none⟩) m.used.length cu) ve w2.heap.size lo hi') (by kernel_rfl) (by kernel_rfl) (S3.out.next (tame_drewN (Below.refl _ w3) 1)) ?_
              refine wq_k (.pointer (some ⟨b, 0, none⟩)) (wq_k (.pointer (some ⟨b, 0, none⟩)) (wq_k (.pointer (some ⟨b, 1, none⟩)) (wq_v (.slice (some ⟨gu, 0, none⟩) m.used.length cu) (fun W hW => run_load1 37 (.tmp 41) (by kernel_rfl) ⟨b, 1, none⟩ (by kernel_rfl) (.slice (some ⟨gu, 0, none⟩) m.used.length cu) (hW.map.blk.cell 1) _ Tryz.underlying37 rfl) (wq_k (.pointer (some ⟨w.heap.size, 2, none⟩)) (wq_v (.int .i64 e.other) (fun W hW => run_load1 3 (.tmp 43) (by kernel_rfl) ⟨w.heap.size, 2, none⟩ (by kernel_rfl) (.int .i64 e.other) (hW.c2) _ Tryz.underlying3 rfl) (wq_c (.bool false) 86 #[.slice (some ⟨gu, 0, none⟩) m.used.length cu, .int .i64 e.other] (fun W hW => (in_any m.used e.other gu 0 cu W (by omega) (own_row1 hW.map.used)).mono fun e' w' h => ⟨by rw [h.1, HU.out], hW.next h.2⟩) (wq_k (.bool true) ?_)))))))
              refine wq_k (.bool true) (wq_v (.agg #[.string lo, .string hi']) (fun W hW => run_eqv (run_loadN 52 (.tmp 7) (by kernel_rfl) w2.heap.size 0 (by kernel_rfl) [.string lo, .string hi'] (hW.sp.range (fun j v hj => by simpa using hj)) _ Tryz.underlying52 rfl (by kernel_rfl)) rfl) (wq_k (.pointer (some ⟨w.heap.size, 7, none⟩)) (wq_v (.string e.key) (fun W hW => run_load1 9 (.tmp 49) (by kernel_rfl) ⟨w.heap.size, 7, none⟩ (by kernel_rfl) (.string e.key) (hW.c7) _ Tryz.underlying9 rfl) (wq_c (.bool true) 85 #[.agg #[.string lo, .string hi'], .string e.key] (fun W hW => (rhas_any lo hi' e.key W HSM.out.1 HSM.out.2 HK.out).mono fun e' w' h => ⟨by rw [h.1, HH.out], hW.next h.2⟩) (wq_k (.bool true) (wq_k (.bool true) (wq_k (.pointer (some ⟨w.heap.size, 7, none⟩)) ?_)))))))
              refine wq_v (.string e.key) (fun W hW => run_load1 9 (.tmp 54) (by kernel_rfl) ⟨w.heap.size, 7, none⟩ (by kernel_rfl) (.string e.key) (hW.c7) _ Tryz.underlying9 rfl) (wq_k (.pointer (some ⟨w2.heap.size, 0, none⟩)) (wq_v (.string lo) (fun W hW => run_load1 9 (.tmp 56) (by kernel_rfl) ⟨w2.heap.size, 0, none⟩ (by kernel_rfl) (.string lo) (hW.sp.cell 0) _ Tryz.underlying9 rfl) (wq_v (.bool false) (fun W hW => run_eqv (v := .bool (!((e.key).toList == (lo).toList))) (by kernel_rfl) ((by rw [str_beq, HQ.out]; rfl))) (wq_k (.bool false) (wq_k (.bool false) ?_)))))
              refine quiet_end rfl (Lib.hid ?_)
              refine Lib.hid ?_
              intro w4 hW
              have S4 := Lib.hid hW
              clear hW
              dsimp only [Exit.then, Act.put]
              simp only [List.setIfInBounds_toArray, List.set_cons_succ, List.set_cons_zero]
              go_wp2_with fail
              go_ret
              exact ⟨by rw [HZ.out, HU.out, HH.out, HQ2.out]; rfl, S4.out.bel⟩
            · have HQ := Lib.hid (show decide (e.key = lo) = false from decide_eq_false hq)
              have HQ2 := Lib.hid (show decide (e.key ≠ lo) = true by simp [hq])
              clear hq
              go_wp2_with fail
              refine wp_region_class (RS w b B m e (.slice (some ⟨g, 0, none⟩) m.live.length cap) (.slice (some ⟨gu, 0, none⟩) m.used.length cu) ve w2.heap.size lo hi') (by kernel_rfl) (by kernel_rfl) (S3.out.next (tame_drewN (Below.refl _ w3) 1)) ?_
              refine wq_k (.pointer (some ⟨b, 0, none⟩)) (wq_k (.pointer (some ⟨b, 0, none⟩)) (wq_k (.pointer (some ⟨b, 1, none⟩)) (wq_v (.slice (some ⟨gu, 0, none⟩) m.used.length cu) (fun W hW => run_load1 37 (.tmp 41) (by kernel_rfl) ⟨b, 1, none⟩ (by kernel_rfl) (.slice (some ⟨gu, 0, none⟩) m.used.length cu) (hW.map.blk.cell 1) _ Tryz.underlying37 rfl) (wq_k (.pointer (some ⟨w.heap.size, 2, none⟩)) (wq_v (.int .i64 e.other) (fun W hW => run_load1 3 (.tmp 43) (by kernel_rfl) ⟨w.heap.size, 2, none⟩ (by kernel_rfl) (.int .i64 e.other) (hW.c2) _ Tryz.underlying3 rfl) (wq_c (.bool false) 86 #[.slice (some ⟨gu, 0, none⟩) m.used.length cu, .int .i64 e.other] (fun W hW => (in_any m.used e.other gu 0 cu W (by omega) (own_row1 hW.map.used)).mono fun e' w' h => ⟨by rw [h.1, HU.out], hW.next h.2⟩) (wq_k (.bool true) ?_)))))))
              refine wq_k (.bool true) (wq_v (.agg #[.string lo, .string hi']) (fun W hW => run_eqv (run_loadN 52 (.tmp 7) (by kernel_rfl) w2.heap.size 0 (by kernel_rfl) [.string lo, .string hi'] (hW.sp.range (fun j v hj => by simpa using hj)) _ Tryz.underlying52 rfl (by kernel_rfl)) rfl) (wq_k (.pointer (some ⟨w.heap.size, 7, none⟩)) (wq_v (.string e.key) (fun W hW => run_load1 9 (.tmp 49) (by kernel_rfl) ⟨w.heap.size, 7, none⟩ (by kernel_rfl) (.string e.key) (hW.c7) _ Tryz.underlying9 rfl) (wq_c (.bool true) 85 #[.agg #[.string lo, .string hi'], .string e.key] (fun W hW => (rhas_any lo hi' e.key W HSM.out.1 HSM.out.2 HK.out).mono fun e' w' h => ⟨by rw [h.1, HH.out], hW.next h.2⟩) (wq_k (.bool true) (wq_k (.bool true) (wq_k (.pointer (some ⟨w.heap.size, 7, none⟩)) ?_)))))))
              refine wq_v (.string e.key) (fun W hW => run_load1 9 (.tmp 54) (by kernel_rfl) ⟨w.heap.size, 7, none⟩ (by kernel_rfl) (.string e.key) (hW.c7) _ Tryz.underlying9 rfl) (wq_k (.pointer (some ⟨w2.heap.size, 0, none⟩)) (wq_v (.string lo) (fun W hW => run_load1 9 (.tmp 56) (by kernel_rfl) ⟨w2.heap.size, 0, none⟩ (by kernel_rfl) (.string lo) (hW.sp.cell 0) _ Tryz.underlying9 rfl) (wq_v (.bool true) (fun W hW => run_eqv (v := .bool (!((e.key).toList == (lo).toList))) (by kernel_rfl) ((by rw [str_beq, HQ.out]; rfl))) (wq_k (.bool true) (wq_k (.bool true) ?_)))))
              refine quiet_end rfl (Lib.hid ?_)
              refine Lib.hid ?_
              intro w4 hW
              have S4 := Lib.hid hW
              clear hW
              dsimp only [Exit.then, Act.put]
              simp only [List.setIfInBounds_toArray, List.set_cons_succ, List.set_cons_zero]
              go_wp2_with fail
              go_ret
              exact ⟨by rw [HZ.out, HU.out, HH.out, HQ2.out]; rfl, S4.out.bel⟩
      have e3 : (e.kind == 3) = false := by simp [k3]
      by_cases k4 : e.kind = 4
      · have e4 : (e.kind == 4) = true := by simp [k4]
        have HR4 := Lib.hid (HR.out (.inr (.inr k4))).symm
        have HZ := Lib.hid (show rcountsP m e = (match findN e.other m.live with
          | none => false
          | some k => (joinB (shAt m.live i).lo (shAt m.live i).hi (shAt m.live k).lo (shAt m.live k).hi).isSome) by
          rw [HF.out, if_neg k2, if_neg k3, if_pos k4, HR4.out, Bool.true_and])
        clear k2 k3 k4
        cases hf2 : findN e.other m.live with
        | none =>
          have HZ2 := Lib.hid (show rcountsP m e = false by rw [HZ.out, hf2])
          clear HZ
          have hk1 := HKO.out
          rw [hf2] at hk1
          dsimp only [idxI] at hk1
          subst hk1
          clear hf2
          go_wp2_with fail
          go_ret
          exact ⟨by rw [HZ2.out]; rfl, S2.out.bel⟩
        | some k =>
          have HZ2 := Lib.hid (show rcountsP m e = (joinB (shAt m.live i).lo (shAt m.live i).hi (shAt m.live k).lo (shAt m.live k).hi).isSome by rw [HZ.out, hf2])
          obtain ⟨hk, -⟩ := findN_lt hf2
          have hk1 := HKO.out
          rw [hf2] at hk1
          dsimp only [idxI] at hk1
          subst hk1
          clear hf2 HZ
          have hneg2 : ¬ (k : Int) < 0 := by omega
          have HJ := Lib.hid (fun W => rjoin_any (shAt m.live i).lo (shAt m.live i).hi (shAt m.live k).lo (shAt m.live k).hi W (rmap_ok S2.out.map hi).1 (rmap_ok S2.out.map hi).2 (rmap_ok S2.out.map hk).1 (rmap_ok S2.out.map hk).2)
          cases hj : joinB (shAt m.live i).lo (shAt m.live i).hi (shAt m.live k).lo (shAt m.live k).hi with
          | some sp =>
            have HZ := Lib.hid (show rcountsP m e = true by rw [HZ2.out, hj]; rfl)
            rw [hj] at HJ
            have HJC := Lib.hid (fun W => HJ.out W)
            clear hj HZ2 HJ
            go_wp2_with fail
            refine wp_region_wb ((Below w2.heap.size w2)) (by kernel_rfl) (tame_drewN (Below.refl _ w2) 1) (fun _ _ _ _ _ h => h) ?_
            intro hS HZQ
            refine wa_k 0 65 (.pointer (some ⟨b, 0, none⟩)) hS HZQ (wa_k 1 66 (.pointer (some ⟨b, 0, none⟩)) hS HZQ (wa_k 2 67 (.pointer (some ⟨b, 0, none⟩)) hS HZQ (wa_v 3 68 (.slice (some ⟨g, 0, none⟩) m.live.length cap) hS HZQ (fun W hW => run_load1 73 (.tmp 67) (by kernel_rfl) ⟨b, 0, none⟩ (by kernel_rfl) (.slice (some ⟨g, 0, none⟩) m.live.length cap) ((S2.out.next hW).map.blk.cell 0) _ Tryz.underlying73 rfl) (wa_k 4 69 (.int .i64 ((i : Nat) : Int)) hS HZQ (wa_v 5 70 (.pointer (some ⟨g, i * 5, none⟩)) hS HZQ (fun W hW => run_eqv (run_idx 73 (.tmp 68) (.tmp 69) (by kernel_rfl) g 0 m.live.length cap i 75 5 (by kernel_rfl) (by kernel_rfl) (by omega) Tryz.underlying73 (by kernel_rfl)) (by rw [Nat.zero_add])) (wa_k 6 71 (.pointer (some ⟨g, i * 5 + 3, none⟩)) hS HZQ (wa_v 7 72 (.agg #[.string (shAt m.live i).lo, .string (shAt m.live i).hi]) hS HZQ (fun W hW => run_eqv (run_loadN 52 (.tmp 71) (by kernel_rfl) g (i * 5 + 3) (by kernel_rfl) [.string (shAt m.live i).lo, .string (shAt m.live i).hi] (row_span (own_row1 (S2.out.next hW).map.live) hi) _ Tryz.underlying52 rfl (by kernel_rfl)) rfl) ?_)))))))
            refine wa_k 8 73 (.pointer (some ⟨b, 0, none⟩)) hS HZQ (wa_k 9 74 (.pointer (some ⟨b, 0, none⟩)) hS HZQ (wa_k 10 75 (.pointer (some ⟨b, 0, none⟩)) hS HZQ (wa_v 11 76 (.slice (some ⟨g, 0, none⟩) m.live.length cap) hS HZQ (fun W hW => run_load1 73 (.tmp 75) (by kernel_rfl) ⟨b, 0, none⟩ (by kernel_rfl) (.slice (some ⟨g, 0, none⟩) m.live.length cap) ((S2.out.next hW).map.blk.cell 0) _ Tryz.underlying73 rfl) (wa_k 12 77 (.int .i64 ((k : Nat) : Int)) hS HZQ (wa_v 13 78 (.pointer (some ⟨g, k * 5, none⟩)) hS HZQ (fun W hW => run_eqv (run_idx 73 (.tmp 76) (.tmp 77) (by kernel_rfl) g 0 m.live.length cap k 75 5 (by kernel_rfl) (by kernel_rfl) (by omega) Tryz.underlying73 (by kernel_rfl)) (by rw [Nat.zero_add])) (wa_k 14 79 (.pointer (some ⟨g, k * 5 + 3, none⟩)) hS HZQ (wa_v 15 80 (.agg #[.string (shAt m.live k).lo, .string (shAt m.live k).hi]) hS HZQ (fun W hW => run_eqv (run_loadN 52 (.tmp 79) (by kernel_rfl) g (k * 5 + 3) (by kernel_rfl) [.string (shAt m.live k).lo, .string (shAt m.live k).hi] (row_span (own_row1 (S2.out.next hW).map.live) hk) _ Tryz.underlying52 rfl (by kernel_rfl)) rfl) ?_)))))))
            refine wa_r [16, 20] ?_
            refine (ar_a (some 81) (fun K hK => ?_) (ar_a (some 8) (fun K hK => ?_) ar_nil))
            ·
              refine ow_call 61 #[.agg #[.string (shAt m.live i).lo, .string (shAt m.live i).hi], .agg #[.string (shAt m.live k).lo, .string (shAt m.live k).hi]] (by kernel_rfl) (fun v w' => v = .tuple #[.agg #[.string sp.1, .string sp.2], .int .i64 0] ∧ Below _ _ w') ((HJC.out _).mono fun e' w' h => ⟨_, h.1, rfl, h.2⟩) (Lib.hid ?_)
              rintro v w4 ⟨rfl, hb4⟩
              refine hK.out _ _ (hS.trans (hb4.mono hS.size)) (fun hS1 => ?_)
              clear hK K hb4 hS
              refine wa_k 17 64 (.tuple #[.agg #[.string sp.1, .string sp.2], .int .i64 0]) hS1 HZQ (wa_k 18 82 (.agg #[.string sp.1, .string sp.2]) hS1 HZQ (wa_k 19 83 (.int .i64 0) hS1 HZQ ?_))
              refine wa_r [20] ?_
              refine ar_a (some 8) (fun K hK => ?_) ar_nil
              refine ow_val (.pointer (some ⟨w4.heap.size, 0, none⟩)) (w4.alloc (.cells #[.string ⟨#[]⟩, .string ⟨#[]⟩] 52)) (by kernel_rfl) ?_
              refine hK.out _ _ (hS1.alloc hS1.size _) (fun hS2 => ?_)
              have HZ5 := Lib.hid (Blk.new w4 52 #[.string ⟨#[]⟩, .string ⟨#[]⟩])
              have HGZ := Lib.hid (show w2.heap.size ≤ w4.heap.size from hS1.size)
              clear hK K hS1
              refine wa_r [21] ?_
              refine ar_a none (fun K hK => ?_) ar_nil
              refine ow_store_blk 52 (.tmp 8) (.tmp 82) (by kernel_rfl) w4.heap.size #[.string sp.1, .string sp.2] (by kernel_rfl) (by kernel_rfl) 52 #[.string ⟨#[]⟩, .string ⟨#[]⟩] HZ5.out rfl (by kernel_rfl) (by kernel_rfl) (Lib.hid ?_)
              intro w6 hz6 ho6
              refine hK.out _ _ (hS2.trans (ho6.to_below hS2.size (fun q hq e => by have := HGZ.out; omega))) (fun hS3 => ?_)
              clear hK K hz6 ho6 hS2 HZ5 HGZ
              refine wa_k 22 9 (.int .i64 0) hS3 HZQ ?_
              refine wa_done (by kernel_rfl) ?_
              dsimp only [Exit.then, Act.put]
              simp only [List.setIfInBounds_toArray, List.set_cons_succ, List.set_cons_zero]
              have S4 := Lib.hid (S2.out.next hS3)
              clear hS3
              go_wp2_with fail
              go_ret
              exact ⟨by rw [HZ.out]; rfl, S4.out.bel⟩
            ·
              refine ow_val (.pointer (some ⟨w2.heap.size, 0, none⟩)) (w2.drew.alloc (.cells #[.string ⟨#[]⟩, .string ⟨#[]⟩] 52)) (by kernel_rfl) ?_
              refine hK.out _ _ (hS.alloc hS.size _) (fun hS1 => ?_)
              clear hK K hS
              refine wa_r [16] ?_
              refine ar_a (some 81) (fun K hK => ?_) ar_nil
              refine ow_call 61 #[.agg #[.string (shAt m.live i).lo, .string (shAt m.live i).hi], .agg #[.string (shAt m.live k).lo, .string (shAt m.live k).hi]] (by kernel_rfl) (fun v w' => v = .tuple #[.agg #[.string sp.1, .string sp.2], .int .i64 0] ∧ Below _ _ w') ((HJC.out _).mono fun e' w' h => ⟨_, h.1, rfl, h.2⟩) (Lib.hid ?_)
              rintro v w5 ⟨rfl, hb4⟩
              refine hK.out _ _ (hS1.trans (hb4.mono hS1.size)) (fun hS2 => ?_)
              have HZ5 := Lib.hid ((Blk.new w2.drew 52 #[.string ⟨#[]⟩, .string ⟨#[]⟩]).below hb4 (Blk.new w2.drew _ _).lt)
              have HGZ := Lib.hid (show w2.heap.size ≤ w2.heap.size from Nat.le_refl _)
              clear hK K hb4 hS1
              refine wa_k 17 64 (.tuple #[.agg #[.string sp.1, .string sp.2], .int .i64 0]) hS2 HZQ (wa_k 18 82 (.agg #[.string sp.1, .string sp.2]) hS2 HZQ (wa_k 19 83 (.int .i64 0) hS2 HZQ ?_))
              refine wa_r [21] ?_
              refine ar_a none (fun K hK => ?_) ar_nil
              refine ow_store_blk 52 (.tmp 8) (.tmp 82) (by kernel_rfl) w2.heap.size #[.string sp.1, .string sp.2] (by kernel_rfl) (by kernel_rfl) 52 #[.string ⟨#[]⟩, .string ⟨#[]⟩] HZ5.out rfl (by kernel_rfl) (by kernel_rfl) (Lib.hid ?_)
              intro w6 hz6 ho6
              refine hK.out _ _ (hS2.trans (ho6.to_below hS2.size (fun q hq e => by have := HGZ.out; omega))) (fun hS3 => ?_)
              clear hK K hz6 ho6 hS2 HZ5 HGZ
              refine wa_k 22 9 (.int .i64 0) hS3 HZQ ?_
              refine wa_done (by kernel_rfl) ?_
              dsimp only [Exit.then, Act.put]
              simp only [List.setIfInBounds_toArray, List.set_cons_succ, List.set_cons_zero]
              have S4 := Lib.hid (S2.out.next hS3)
              clear hS3
              go_wp2_with fail
              go_ret
              exact ⟨by rw [HZ.out]; rfl, S4.out.bel⟩
          | none =>
            have HZ := Lib.hid (show rcountsP m e = false by rw [HZ2.out, hj]; rfl)
            rw [hj] at HJ
            have HJC := Lib.hid (fun W => HJ.out W)
            clear hj HZ2 HJ
            go_wp2_with fail
            refine wp_region_wb ((Below w2.heap.size w2)) (by kernel_rfl) (tame_drewN (Below.refl _ w2) 1) (fun _ _ _ _ _ h => h) ?_
            intro hS HZQ
            refine wa_k 0 65 (.pointer (some ⟨b, 0, none⟩)) hS HZQ (wa_k 1 66 (.pointer (some ⟨b, 0, none⟩)) hS HZQ (wa_k 2 67 (.pointer (some ⟨b, 0, none⟩)) hS HZQ (wa_v 3 68 (.slice (some ⟨g, 0, none⟩) m.live.length cap) hS HZQ (fun W hW => run_load1 73 (.tmp 67) (by kernel_rfl) ⟨b, 0, none⟩ (by kernel_rfl) (.slice (some ⟨g, 0, none⟩) m.live.length cap) ((S2.out.next hW).map.blk.cell 0) _ Tryz.underlying73 rfl) (wa_k 4 69 (.int .i64 ((i : Nat) : Int)) hS HZQ (wa_v 5 70 (.pointer (some ⟨g, i * 5, none⟩)) hS HZQ (fun W hW => run_eqv (run_idx 73 (.tmp 68) (.tmp 69) (by kernel_rfl) g 0 m.live.length cap i 75 5 (by kernel_rfl) (by kernel_rfl) (by omega) Tryz.underlying73 (by kernel_rfl)) (by rw [Nat.zero_add])) (wa_k 6 71 (.pointer (some ⟨g, i * 5 + 3, none⟩)) hS HZQ (wa_v 7 72 (.agg #[.string (shAt m.live i).lo, .string (shAt m.live i).hi]) hS HZQ (fun W hW => run_eqv (run_loadN 52 (.tmp 71) (by kernel_rfl) g (i * 5 + 3) (by kernel_rfl) [.string (shAt m.live i).lo, .string (shAt m.live i).hi] (row_span (own_row1 (S2.out.next hW).map.live) hi) _ Tryz.underlying52 rfl (by kernel_rfl)) rfl) ?_)))))))
            refine wa_k 8 73 (.pointer (some ⟨b, 0, none⟩)) hS HZQ (wa_k 9 74 (.pointer (some ⟨b, 0, none⟩)) hS HZQ (wa_k 10 75 (.pointer (some ⟨b, 0, none⟩)) hS HZQ (wa_v 11 76 (.slice (some ⟨g, 0, none⟩) m.live.length cap) hS HZQ (fun W hW => run_load1 73 (.tmp 75) (by kernel_rfl) ⟨b, 0, none⟩ (by kernel_rfl) (.slice (some ⟨g, 0, none⟩) m.live.length cap) ((S2.out.next hW).map.blk.cell 0) _ Tryz.underlying73 rfl) (wa_k 12 77 (.int .i64 ((k : Nat) : Int)) hS HZQ (wa_v 13 78 (.pointer (some ⟨g, k * 5, none⟩)) hS HZQ (fun W hW => run_eqv (run_idx 73 (.tmp 76) (.tmp 77) (by kernel_rfl) g 0 m.live.length cap k 75 5 (by kernel_rfl) (by kernel_rfl) (by omega) Tryz.underlying73 (by kernel_rfl)) (by rw [Nat.zero_add])) (wa_k 14 79 (.pointer (some ⟨g, k * 5 + 3, none⟩)) hS HZQ (wa_v 15 80 (.agg #[.string (shAt m.live k).lo, .string (shAt m.live k).hi]) hS HZQ (fun W hW => run_eqv (run_loadN 52 (.tmp 79) (by kernel_rfl) g (k * 5 + 3) (by kernel_rfl) [.string (shAt m.live k).lo, .string (shAt m.live k).hi] (row_span (own_row1 (S2.out.next hW).map.live) hk) _ Tryz.underlying52 rfl (by kernel_rfl)) rfl) ?_)))))))
            refine wa_r [16, 20] ?_
            refine (ar_a (some 81) (fun K hK => ?_) (ar_a (some 8) (fun K hK => ?_) ar_nil))
            ·
              refine ow_call 61 #[.agg #[.string (shAt m.live i).lo, .string (shAt m.live i).hi], .agg #[.string (shAt m.live k).lo, .string (shAt m.live k).hi]] (by kernel_rfl) (fun v w' => (∃ n : Int, (n == 0) = false ∧ v = .tuple #[.agg #[.string ⟨#[]⟩, .string ⟨#[]⟩], .int .i64 n]) ∧ Below _ _ w') ((HJC.out _).mono fun e' w' h => by obtain ⟨⟨n, h1, h3⟩, h2⟩ := h; exact ⟨_, h1, ⟨n, h3, rfl⟩, h2⟩) (Lib.hid ?_)
              rintro v w4 ⟨⟨n, hn0, rfl⟩, hb4⟩
              refine hK.out _ _ (hS.trans (hb4.mono hS.size)) (fun hS1 => ?_)
              clear hK K hb4 hS
              refine wa_k 17 64 (.tuple #[.agg #[.string ⟨#[]⟩, .string ⟨#[]⟩], .int .i64 n]) hS1 HZQ (wa_k 18 82 (.agg #[.string ⟨#[]⟩, .string ⟨#[]⟩]) hS1 HZQ (wa_k 19 83 (.int .i64 n) hS1 HZQ ?_))
              refine wa_r [20] ?_
              refine ar_a (some 8) (fun K hK => ?_) ar_nil
              refine ow_val (.pointer (some ⟨w4.heap.size, 0, none⟩)) (w4.alloc (.cells #[.string ⟨#[]⟩, .string ⟨#[]⟩] 52)) (by kernel_rfl) ?_
              refine hK.out _ _ (hS1.alloc hS1.size _) (fun hS2 => ?_)
              have HZ5 := Lib.hid (Blk.new w4 52 #[.string ⟨#[]⟩, .string ⟨#[]⟩])
              have HGZ := Lib.hid (show w2.heap.size ≤ w4.heap.size from hS1.size)
              clear hK K hS1
              refine wa_r [21] ?_
              refine ar_a none (fun K hK => ?_) ar_nil
              refine ow_store_blk 52 (.tmp 8) (.tmp 82) (by kernel_rfl) w4.heap.size #[.string ⟨#[]⟩, .string ⟨#[]⟩] (by kernel_rfl) (by kernel_rfl) 52 #[.string ⟨#[]⟩, .string ⟨#[]⟩] HZ5.out rfl (by kernel_rfl) (by kernel_rfl) (Lib.hid ?_)
              intro w6 hz6 ho6
              refine hK.out _ _ (hS2.trans (ho6.to_below hS2.size (fun q hq e => by have := HGZ.out; omega))) (fun hS3 => ?_)
              clear hK K hz6 ho6 hS2 HZ5 HGZ
              refine wa_k 22 9 (.int .i64 n) hS3 HZQ ?_
              refine wa_done (by kernel_rfl) ?_
              dsimp only [Exit.then, Act.put]
              simp only [List.setIfInBounds_toArray, List.set_cons_succ, List.set_cons_zero]
              have S4 := Lib.hid (S2.out.next hS3)
              clear hS3
              go_wp2_with fail
              go_ret
              exact ⟨by rw [HZ.out]; rfl, S4.out.bel⟩
            ·
              refine ow_val (.pointer (some ⟨w2.heap.size, 0, none⟩)) (w2.drew.alloc (.cells #[.string ⟨#[]⟩, .string ⟨#[]⟩] 52)) (by kernel_rfl) ?_
              refine hK.out _ _ (hS.alloc hS.size _) (fun hS1 => ?_)
              clear hK K hS
              refine wa_r [16] ?_
              refine ar_a (some 81) (fun K hK => ?_) ar_nil
              refine ow_call 61 #[.agg #[.string (shAt m.live i).lo, .string (shAt m.live i).hi], .agg #[.string (shAt m.live k).lo, .string (shAt m.live k).hi]] (by kernel_rfl) (fun v w' => (∃ n : Int, (n == 0) = false ∧ v = .tuple #[.agg #[.string ⟨#[]⟩, .string ⟨#[]⟩], .int .i64 n]) ∧ Below _ _ w') ((HJC.out _).mono fun e' w' h => by obtain ⟨⟨n, h1, h3⟩, h2⟩ := h; exact ⟨_, h1, ⟨n, h3, rfl⟩, h2⟩) (Lib.hid ?_)
              rintro v w5 ⟨⟨n, hn0, rfl⟩, hb4⟩
              refine hK.out _ _ (hS1.trans (hb4.mono hS1.size)) (fun hS2 => ?_)
              have HZ5 := Lib.hid ((Blk.new w2.drew 52 #[.string ⟨#[]⟩, .string ⟨#[]⟩]).below hb4 (Blk.new w2.drew _ _).lt)
              have HGZ := Lib.hid (show w2.heap.size ≤ w2.heap.size from Nat.le_refl _)
              clear hK K hb4 hS1
              refine wa_k 17 64 (.tuple #[.agg #[.string ⟨#[]⟩, .string ⟨#[]⟩], .int .i64 n]) hS2 HZQ (wa_k 18 82 (.agg #[.string ⟨#[]⟩, .string ⟨#[]⟩]) hS2 HZQ (wa_k 19 83 (.int .i64 n) hS2 HZQ ?_))
              refine wa_r [21] ?_
              refine ar_a none (fun K hK => ?_) ar_nil
              refine ow_store_blk 52 (.tmp 8) (.tmp 82) (by kernel_rfl) w2.heap.size #[.string ⟨#[]⟩, .string ⟨#[]⟩] (by kernel_rfl) (by kernel_rfl) 52 #[.string ⟨#[]⟩, .string ⟨#[]⟩] HZ5.out rfl (by kernel_rfl) (by kernel_rfl) (Lib.hid ?_)
              intro w6 hz6 ho6
              refine hK.out _ _ (hS2.trans (ho6.to_below hS2.size (fun q hq e => by have := HGZ.out; omega))) (fun hS3 => ?_)
              clear hK K hz6 ho6 hS2 HZ5 HGZ
              refine wa_k 22 9 (.int .i64 n) hS3 HZQ ?_
              refine wa_done (by kernel_rfl) ?_
              dsimp only [Exit.then, Act.put]
              simp only [List.setIfInBounds_toArray, List.set_cons_succ, List.set_cons_zero]
              have S4 := Lib.hid (S2.out.next hS3)
              clear hS3
              go_wp2_with fail
              go_ret
              exact ⟨by rw [HZ.out]; rfl, S4.out.bel⟩
      have e4 : (e.kind == 4) = false := by simp [k4]
      have HZ := Lib.hid (show rcountsP m e = false by rw [HF.out, if_neg k2, if_neg k3, if_neg k4])
      clear k2 k3 k4
      go_wp2_with fail
      go_ret
      exact ⟨by rw [HZ.out]; rfl, S2.out.bel⟩
end Go.Proofs.YthjmfcdhpdiehaaGreatDoor
