/-
  (*Map).Counts.
-/
import Derived.Test.YthjmfcdhpdiehaaGreatDoorM06
namespace Go.Proofs.YthjmfcdhpdiehaaGreatDoor
open Go.RowKit Utf
set_option maxRecDepth 100000
set_option linter.unusedSimpArgs false
set_option linter.unusedVariables false

def shAt (l : List Sh) (i : Nat) : Sh := l.getD i ⟨0, 0, 0, ⟨#[]⟩, ⟨#[]⟩⟩
/-- Does an entry count? -/
def countsP (m : PM) (e : EN) : Bool :=
  match findN e.shard m.live with
  | none => false
  | some i =>
    if e.kind = 2 then rightE e
    else if e.kind = 3 then rightE e && !m.used e.other.toNat && hasB (shAt m.live i).lo (shAt m.live i).hi e.key && decide (e.key ≠ (shAt m.live i).lo)
    else if e.kind = 4 then rightE e && (match findN e.other m.live with
      | none => false
      | some k => (joinB (shAt m.live i).lo (shAt m.live i).hi (shAt m.live k).lo (shAt m.live k).hi).isSome)
    else false

/-- How the walk of Counts stands: the map, the entry in its box. -/
structure CS (w : World) (ea : Nat → Addr) (b B : Nat) (m : PM) (e : EN) (vl ve : Value) (W : World) : Prop where
  bel : Below w.heap.size w W
  map : MapV W B b m vl ve
  box : Blk W w.heap.size 44 e.cells.toArray
  err : BErr W ea
  ent : e.at W
theorem CS.next {w W W' : World} {ea : Nat → Addr} {b B : Nat} {m : PM} {e : EN} {vl ve : Value} (h : CS w ea b B m e vl ve W) (hb : Below W.heap.size W W') : CS w ea b B m e vl ve W' :=
  ⟨h.bel.trans (hb.mono h.bel.size), h.map.below hb, h.box.below hb h.box.lt, h.err.below hb, h.ent.below hb⟩
theorem CS.new {w : World} {ea : Nat → Addr} {b B : Nat} {m : PM} {e : EN} {vl ve : Value} (hm : MapV w B b m vl ve) (he : BErr w ea) (ha : e.at w) : CS w ea b B m e vl ve (w.alloc (.cells e.cells.toArray 44)) :=
  ⟨below_alloc _ _, hm.below (below_alloc _ _), Blk.new _ _ _, he.below (below_alloc _ _), ha.below (below_alloc _ _)⟩
section
variable {w W : World} {ea : Nat → Addr} {b B : Nat} {m : PM} {e : EN} {vl ve : Value} (h : CS w ea b B m e vl ve W)
include h
theorem CS.mp : MapAt W B b m := ⟨_, _, h.map⟩
theorem CS.c0 : W.cell? ⟨w.heap.size, 0, none⟩ = some (.int .i64 e.kind) := h.box.cell 0
theorem CS.c1 : W.cell? ⟨w.heap.size, 1, none⟩ = some (.int .i64 e.shard) := h.box.cell 1
theorem CS.c2 : W.cell? ⟨w.heap.size, 2, none⟩ = some (.int .i64 e.other) := h.box.cell 2
theorem CS.c3 : W.cell? ⟨w.heap.size, 3, none⟩ = some (.int .i64 e.server) := h.box.cell 3
theorem CS.c7 : W.cell? ⟨w.heap.size, 7, none⟩ = some (.string e.key) := h.box.cell 7
end
theorem own_row1 {w : World} {B sz : Nat} {e : TypeId} {g n c : Nat} {xs : List Value} (h : w.ownsRow B e sz (.slice (some ⟨g, 0, none⟩) n c) n xs) : RowAt w (some ⟨g, 0, none⟩) xs := by
  obtain ⟨ao, cap, hv, hr⟩ := own_row_of h
  cases hv
  exact hr
theorem row_sh {w : World} {g : Nat} {l : List Sh} (h : RowAt w (some ⟨g, 0, none⟩) (shRow l)) {i : Nat} (hi : i < l.length) (j : Nat) (hj : j < 5) : w.cell? ⟨g, i * 5 + j, none⟩ = (shAt l i).cells[j]? := by
  obtain ⟨b', o', e', hc⟩ := row_flat Sh.cells 5 (by decide) Sh.cells_len h i hi
  cases e'
  have := hc j hj
  rw [Nat.zero_add] at this
  rw [this]
  unfold shAt
  rw [List.getD_eq_getElem?_getD, List.getElem?_eq_getElem hi]
  rfl
theorem row_span {w : World} {g : Nat} {l : List Sh} (h : RowAt w (some ⟨g, 0, none⟩) (shRow l)) {i : Nat} (hi : i < l.length) : w.rangeAt g (i * 5 + 3) [.string (shAt l i).lo, .string (shAt l i).hi] := fun j v hj => by
  rcases j with _ | _ | j
  · exact (row_sh h hi 3 (by decide)).trans hj
  · exact (row_sh h hi 4 (by decide)).trans hj
  · simp at hj
theorem map_used {w : World} {B b : Nat} {m : PM} (h : MapAt w B b m) (o : Nat) (ho : o ≤ 12) : w.cell? ⟨b, 1 + o * 1, none⟩ = some (.bool (m.used o)) := by
  obtain ⟨vl, ve, h⟩ := h
  rw [h.blk.cell]
  rcases (show o = 0 ∨ o = 1 ∨ o = 2 ∨ o = 3 ∨ o = 4 ∨ o = 5 ∨ o = 6 ∨ o = 7 ∨ o = 8 ∨ o = 9 ∨ o = 10 ∨ o = 11 ∨ o = 12 by omega) with rfl | rfl | rfl | rfl | rfl | rfl | rfl | rfl | rfl | rfl | rfl | rfl | rfl <;> rfl
theorem map_ok {w : World} {B b : Nat} {m : PM} (h : MapAt w B b m) {i : Nat} (hi : i < m.live.length) : (shAt m.live i).lo.size ≤ 1000000 ∧ (shAt m.live i).hi.size ≤ 1000000 := by
  obtain ⟨vl, ve, h⟩ := h
  have := h.ok (m.live[i]) (List.getElem_mem hi)
  unfold shAt
  rw [List.getD_eq_getElem?_getD, List.getElem?_eq_getElem hi]
  exact this
theorem rightE_other {e : EN} (h : rightE e = true) (hk : e.kind = 3 ∨ e.kind = 4) : ∃ o : Nat, e.other = (o : Int) ∧ 1 ≤ o ∧ o ≤ 12 := by
  have ht : twoR e = true := by
    unfold rightE at h
    rcases hk with hk | hk
    · rw [if_neg (by omega), if_pos hk] at h
      simp only [Bool.and_eq_true] at h
      exact h.1.1
    · rw [if_neg (by omega), if_neg (by omega), if_pos hk] at h
      exact h
  unfold twoR within at ht
  simp only [Bool.and_eq_true, decide_eq_true_eq] at ht
  exact ⟨e.other.toNat, by omega, by omega, by omega⟩

theorem counts_bad {m : PM} {e : EN} {b : Bool} (hb : e.kind = 2 ∨ e.kind = 3 ∨ e.kind = 4 → b = rightE e) (h : b = false) : countsP m e = false := by
  subst h
  unfold countsP
  cases findN e.shard m.live with
  | none => rfl
  | some i =>
    simp only
    by_cases k2 : e.kind = 2
    · rw [if_pos k2, ← hb (.inl k2)]
    · rw [if_neg k2]
      by_cases k3 : e.kind = 3
      · rw [if_pos k3, ← hb (.inr (.inl k3))]
        rfl
      · rw [if_neg k3]
        by_cases k4 : e.kind = 4
        · rw [if_pos k4, ← hb (.inr (.inr k4))]
          rfl
        · rw [if_neg k4]
theorem counts_none {m : PM} {e : EN} (h : findN e.shard m.live = none) : countsP m e = false := by
  unfold countsP
  rw [h]
theorem counts_some {m : PM} {e : EN} {i : Nat} (h : findN e.shard m.live = some i) : countsP m e = if e.kind = 2 then rightE e
    else if e.kind = 3 then rightE e && !m.used e.other.toNat && hasB (shAt m.live i).lo (shAt m.live i).hi e.key && decide (e.key ≠ (shAt m.live i).lo)
    else if e.kind = 4 then rightE e && (match findN e.other m.live with
      | none => false
      | some k => (joinB (shAt m.live i).lo (shAt m.live i).hi (shAt m.live k).lo (shAt m.live k).hi).isSome)
    else false := by
  unfold countsP
  rw [h]

set_option maxHeartbeats 1000000 in
theorem counts_any (ea : Nat → Addr) (b B : Nat) (m : PM) (e : EN) (w : World) (hm : MapAt w B b m) (he : BErr w ea) (ha : e.at w) :
    Calls Tryz.prog 19 #[.pointer (some ⟨b, 0, none⟩), .agg e.cells.toArray] w fun e' w' => e' = .returned (.bool (countsP m e)) ∧ Below w.heap.size w w' := by
  obtain ⟨vl, ve, hm⟩ := hm
  obtain ⟨g, cap, rfl, -, -, -, -⟩ := own_some hm.live hm.l1
  have H0 : Hid (CS w ea b B m e (.slice (some ⟨g, 0, none⟩) m.live.length cap) ve (w.alloc (.cells #[.int .i64 e.kind, .int .i64 e.shard, .int .i64 e.other, .int .i64 e.server, .int .i64 e.client, .int .i64 e.seq, .slice e.ao e.no e.co, .string e.key, .int .i64 e.upto, .int .i64 e.part, .int .i64 e.parts, .slice e.ad e.nd e.cd] 44))) := Lib.hid (CS.new hm he ha)
  have HK := Lib.hid ha.key
  clear hm he ha
  show Calls Tryz.prog 19 #[.pointer (some ⟨b, 0, none⟩), .agg #[.int .i64 e.kind, .int .i64 e.shard, .int .i64 e.other, .int .i64 e.server, .int .i64 e.client, .int .i64 e.seq, .slice e.ao e.no e.co, .string e.key, .int .i64 e.upto, .int .i64 e.part, .int .i64 e.parts, .slice e.ad e.nd e.cd]] w fun e' w' => e' = .returned (.bool (countsP m e)) ∧ Below w.heap.size w w'
  go_enter Tryz.func19, Tryz.ntmps19
  go_wp2_with fail
  refine (find_any b B m e.shard _ H0.out.mp).mono ?_
  rintro e' w1 ⟨rfl, hb1⟩
  have S1 := Lib.hid (H0.out.next hb1)
  clear hb1
  go_wp2_with (refine wpList_load_hid rfl 44 (.tmp 3) rfl w.heap.size rfl 44 e.cells.toArray S1.out.box _ Tryz.underlying44 rfl (by kernel_rfl) ?_)
  refine Lib.hid ?_
  go_wp2_with fail
  refine (entryRight_any ea e _ S1.out.ent S1.out.err).mono ?_
  rintro e' w2 ⟨⟨r, rfl, hr⟩, hb2⟩
  have S2 := Lib.hid (S1.out.next hb2)
  have HR := Lib.hid hr
  clear hb2 hr
  cases hrb : r with
  | false =>
    have HF := Lib.hid (counts_bad (m := m) HR.out hrb)
    clear hrb HR
    go_wp2_with fail
    go_ret
    exact ⟨by rw [HF.out]; rfl, S2.out.bel⟩
  | true =>
    subst hrb
    cases hf : findN e.shard m.live with
    | none =>
      have HF := Lib.hid (counts_none hf)
      clear hf
      dsimp only [idxI]
      go_wp2_with fail
      go_ret
      exact ⟨by rw [HF.out]; rfl, S2.out.bel⟩
    | some i =>
      have HF := Lib.hid (counts_some hf)
      obtain ⟨hi, -⟩ := findN_lt hf
      clear hf
      dsimp only [idxI]
      have hneg : ¬ (i : Int) < 0 := by omega
      have s0 := S2.out.c0
      by_cases k2 : e.kind = 2
      · have e2 : (e.kind == 2) = true := by simp [k2]
        have HZ := Lib.hid (show countsP m e = true by rw [HF.out, if_pos k2, ← HR.out (.inl k2)])
        clear k2
        go_wp2_with fail
        go_ret
        exact ⟨by rw [HZ.out]; rfl, S2.out.bel⟩
      have e2 : (e.kind == 2) = false := by simp [k2]
      by_cases k3 : e.kind = 3
      · have e3 : (e.kind == 3) = true := by simp [k3]
        have HR3 := Lib.hid (HR.out (.inr (.inl k3))).symm
        obtain ⟨o, ho, h1, h12⟩ := rightE_other HR3.out (.inl k3)
        have HZ := Lib.hid (show countsP m e = (!m.used o && hasB (shAt m.live i).lo (shAt m.live i).hi e.key && decide (e.key ≠ (shAt m.live i).lo)) by
          rw [HF.out, if_neg k2, if_pos k3, HR3.out, ho, Int.toNat_natCast, Bool.true_and])
        have HO := Lib.hid ho
        clear k2 k3 ho
        cases hu : m.used o with
        | true =>
          have HU := Lib.hid hu
          clear hu
          go_wp2_with fail
          refine wp_region_class (CS w ea b B m e (.slice (some ⟨g, 0, none⟩) m.live.length cap) ve) (by kernel_rfl) (by kernel_rfl) (S2.out.next (tame_drewN (Below.refl _ w2) 1)) ?_
          refine wq_k (.pointer (some ⟨b, 0, none⟩)) (wq_k (.pointer (some ⟨w.heap.size, 2, none⟩)) (wq_v (.int .i64 ((o : Nat) : Int)) (fun W hW => run_load1 3 (.tmp 27) (by kernel_rfl) ⟨w.heap.size, 2, none⟩ (by kernel_rfl) (.int .i64 ((o : Nat) : Int)) ((show W.cell? _ = some (.int .i64 (o : Int)) by rw [← HO.out]; exact hW.c2)) _ Tryz.underlying3 rfl) (wq_k (.pointer (some ⟨b, 0, none⟩)) (wq_k (.pointer (some ⟨b, 1, none⟩)) (wq_v (.pointer (some ⟨b, 1 + o * 1, none⟩)) (fun W hW => run_eqv (run_idxA 97 (.tmp 30) (.tmp 28) (by kernel_rfl) b 1 13 o 4 1 (by kernel_rfl) (by kernel_rfl) (by omega) Tryz.underlying97 (by kernel_rfl)) rfl) (wq_v (.bool true) (fun W hW => run_load1 4 (.tmp 31) (by kernel_rfl) ⟨b, 1 + o * 1, none⟩ (by kernel_rfl) (.bool true) ((by rw [← HU.out]; exact map_used hW.mp o h12)) _ Tryz.underlying4 rfl) (wq_k (.bool false) ?_)))))))
          refine wq_k (.bool false) (wq_n (wq_n (wq_n (wq_n (wq_n (wq_n (wq_n ?_)))))))
          refine wq_n (wq_n (wq_n (wq_n (wq_k (.bool false) (wq_k (.bool false) (wq_n (wq_n ?_)))))))
          refine wq_n (wq_n (wq_n (wq_n (wq_n (wq_n (wq_n (wq_n ?_)))))))
          refine wq_n (wq_n (wq_k (.bool false) (wq_k (.bool false) ?_)))
          refine quiet_end rfl (Lib.hid ?_)
          refine Lib.hid ?_
          intro w3 hW
          have S3 := Lib.hid hW
          clear hW
          dsimp only [Exit.then, Act.put]
          simp only [List.setIfInBounds_toArray, List.set_cons_succ, List.set_cons_zero]
          go_wp2_with fail
          go_ret
          exact ⟨by rw [HZ.out, HU.out]; rfl, S3.out.bel⟩
        | false =>
          have HU := Lib.hid hu
          clear hu
          cases hh : hasB (shAt m.live i).lo (shAt m.live i).hi e.key with
          | false =>
            have HH := Lib.hid hh
            clear hh
            go_wp2_with fail
            refine wp_region_class (CS w ea b B m e (.slice (some ⟨g, 0, none⟩) m.live.length cap) ve) (by kernel_rfl) (by kernel_rfl) (S2.out.next (tame_drewN (Below.refl _ w2) 1)) ?_
            refine wq_k (.pointer (some ⟨b, 0, none⟩)) (wq_k (.pointer (some ⟨w.heap.size, 2, none⟩)) (wq_v (.int .i64 ((o : Nat) : Int)) (fun W hW => run_load1 3 (.tmp 27) (by kernel_rfl) ⟨w.heap.size, 2, none⟩ (by kernel_rfl) (.int .i64 ((o : Nat) : Int)) ((show W.cell? _ = some (.int .i64 (o : Int)) by rw [← HO.out]; exact hW.c2)) _ Tryz.underlying3 rfl) (wq_k (.pointer (some ⟨b, 0, none⟩)) (wq_k (.pointer (some ⟨b, 1, none⟩)) (wq_v (.pointer (some ⟨b, 1 + o * 1, none⟩)) (fun W hW => run_eqv (run_idxA 97 (.tmp 30) (.tmp 28) (by kernel_rfl) b 1 13 o 4 1 (by kernel_rfl) (by kernel_rfl) (by omega) Tryz.underlying97 (by kernel_rfl)) rfl) (wq_v (.bool false) (fun W hW => run_load1 4 (.tmp 31) (by kernel_rfl) ⟨b, 1 + o * 1, none⟩ (by kernel_rfl) (.bool false) ((by rw [← HU.out]; exact map_used hW.mp o h12)) _ Tryz.underlying4 rfl) (wq_k (.bool true) ?_)))))))
            refine wq_k (.bool true) (wq_k (.pointer (some ⟨b, 0, none⟩)) (wq_k (.pointer (some ⟨b, 0, none⟩)) (wq_k (.pointer (some ⟨b, 0, none⟩)) (wq_v (.slice (some ⟨g, 0, none⟩) m.live.length cap) (fun W hW => run_load1 48 (.tmp 37) (by kernel_rfl) ⟨b, 0, none⟩ (by kernel_rfl) (.slice (some ⟨g, 0, none⟩) m.live.length cap) (hW.map.blk.cell 0) _ Tryz.underlying48 rfl) (wq_k (.int .i64 ((i : Nat) : Int)) (wq_v (.pointer (some ⟨g, i * 5, none⟩)) (fun W hW => run_eqv (run_idx 48 (.tmp 38) (.tmp 39) (by kernel_rfl) g 0 m.live.length cap i 54 5 (by kernel_rfl) (by kernel_rfl) (by omega) Tryz.underlying48 (by kernel_rfl)) (by rw [Nat.zero_add])) (wq_k (.pointer (some ⟨g, i * 5 + 3, none⟩)) ?_)))))))
            refine wq_v (.agg #[.string (shAt m.live i).lo, .string (shAt m.live i).hi]) (fun W hW => run_eqv (run_loadN 52 (.tmp 41) (by kernel_rfl) g (i * 5 + 3) (by kernel_rfl) [.string (shAt m.live i).lo, .string (shAt m.live i).hi] (row_span (own_row1 hW.map.live) hi) _ Tryz.underlying52 rfl (by kernel_rfl)) rfl) (wq_k (.pointer (some ⟨w.heap.size, 7, none⟩)) (wq_v (.string e.key) (fun W hW => run_load1 9 (.tmp 43) (by kernel_rfl) ⟨w.heap.size, 7, none⟩ (by kernel_rfl) (.string e.key) (hW.c7) _ Tryz.underlying9 rfl) (wq_c (.bool false) 47 #[.agg #[.string (shAt m.live i).lo, .string (shAt m.live i).hi], .string e.key] (fun W hW => (spanHas_any ea _ _ _ W (map_ok hW.mp hi).1 (map_ok hW.mp hi).2 HK.out hW.err).mono fun e' w' h => ⟨by rw [h.1, HH.out], hW.next h.2⟩) (wq_k (.bool false) (wq_k (.bool false) (wq_n (wq_n ?_)))))))
            refine wq_n (wq_n (wq_n (wq_n (wq_n (wq_n (wq_n (wq_n ?_)))))))
            refine wq_n (wq_n (wq_k (.bool false) (wq_k (.bool false) ?_)))
            refine quiet_end rfl (Lib.hid ?_)
            refine Lib.hid ?_
            intro w3 hW
            have S3 := Lib.hid hW
            clear hW
            dsimp only [Exit.then, Act.put]
            simp only [List.setIfInBounds_toArray, List.set_cons_succ, List.set_cons_zero]
            go_wp2_with fail
            go_ret
            exact ⟨by rw [HZ.out, HU.out, HH.out]; rfl, S3.out.bel⟩
          | true =>
            have HH := Lib.hid hh
            clear hh
            by_cases hq : e.key = (shAt m.live i).lo
            ·
              have HQ := Lib.hid (show decide (e.key = (shAt m.live i).lo) = true from decide_eq_true hq)
              have HQ2 := Lib.hid (show decide (e.key ≠ (shAt m.live i).lo) = false by simp [hq])
              clear hq
              go_wp2_with fail
              refine wp_region_class (CS w ea b B m e (.slice (some ⟨g, 0, none⟩) m.live.length cap) ve) (by kernel_rfl) (by kernel_rfl) (S2.out.next (tame_drewN (Below.refl _ w2) 1)) ?_
              refine wq_k (.pointer (some ⟨b, 0, none⟩)) (wq_k (.pointer (some ⟨w.heap.size, 2, none⟩)) (wq_v (.int .i64 ((o : Nat) : Int)) (fun W hW => run_load1 3 (.tmp 27) (by kernel_rfl) ⟨w.heap.size, 2, none⟩ (by kernel_rfl) (.int .i64 ((o : Nat) : Int)) ((show W.cell? _ = some (.int .i64 (o : Int)) by rw [← HO.out]; exact hW.c2)) _ Tryz.underlying3 rfl) (wq_k (.pointer (some ⟨b, 0, none⟩)) (wq_k (.pointer (some ⟨b, 1, none⟩)) (wq_v (.pointer (some ⟨b, 1 + o * 1, none⟩)) (fun W hW => run_eqv (run_idxA 97 (.tmp 30) (.tmp 28) (by kernel_rfl) b 1 13 o 4 1 (by kernel_rfl) (by kernel_rfl) (by omega) Tryz.underlying97 (by kernel_rfl)) rfl) (wq_v (.bool false) (fun W hW => run_load1 4 (.tmp 31) (by kernel_rfl) ⟨b, 1 + o * 1, none⟩ (by kernel_rfl) (.bool false) ((by rw [← HU.out]; exact map_used hW.mp o h12)) _ Tryz.underlying4 rfl) (wq_k (.bool true) ?_)))))))
              refine wq_k (.bool true) (wq_k (.pointer (some ⟨b, 0, none⟩)) (wq_k (.pointer (some ⟨b, 0, none⟩)) (wq_k (.pointer (some ⟨b, 0, none⟩)) (wq_v (.slice (some ⟨g, 0, none⟩) m.live.length cap) (fun W hW => run_load1 48 (.tmp 37) (by kernel_rfl) ⟨b, 0, none⟩ (by kernel_rfl) (.slice (some ⟨g, 0, none⟩) m.live.length cap) (hW.map.blk.cell 0) _ Tryz.underlying48 rfl) (wq_k (.int .i64 ((i : Nat) : Int)) (wq_v (.pointer (some ⟨g, i * 5, none⟩)) (fun W hW => run_eqv (run_idx 48 (.tmp 38) (.tmp 39) (by kernel_rfl) g 0 m.live.length cap i 54 5 (by kernel_rfl) (by kernel_rfl) (by omega) Tryz.underlying48 (by kernel_rfl)) (by rw [Nat.zero_add])) (wq_k (.pointer (some ⟨g, i * 5 + 3, none⟩)) ?_)))))))
              refine wq_v (.agg #[.string (shAt m.live i).lo, .string (shAt m.live i).hi]) (fun W hW => run_eqv (run_loadN 52 (.tmp 41) (by kernel_rfl) g (i * 5 + 3) (by kernel_rfl) [.string (shAt m.live i).lo, .string (shAt m.live i).hi] (row_span (own_row1 hW.map.live) hi) _ Tryz.underlying52 rfl (by kernel_rfl)) rfl) (wq_k (.pointer (some ⟨w.heap.size, 7, none⟩)) (wq_v (.string e.key) (fun W hW => run_load1 9 (.tmp 43) (by kernel_rfl) ⟨w.heap.size, 7, none⟩ (by kernel_rfl) (.string e.key) (hW.c7) _ Tryz.underlying9 rfl) (wq_c (.bool true) 47 #[.agg #[.string (shAt m.live i).lo, .string (shAt m.live i).hi], .string e.key] (fun W hW => (spanHas_any ea _ _ _ W (map_ok hW.mp hi).1 (map_ok hW.mp hi).2 HK.out hW.err).mono fun e' w' h => ⟨by rw [h.1, HH.out], hW.next h.2⟩) (wq_k (.bool true) (wq_k (.bool true) (wq_k (.pointer (some ⟨w.heap.size, 7, none⟩)) (wq_v (.string e.key) (fun W hW => run_load1 9 (.tmp 48) (by kernel_rfl) ⟨w.heap.size, 7, none⟩ (by kernel_rfl) (.string e.key) (hW.c7) _ Tryz.underlying9 rfl) ?_)))))))
              refine wq_k (.pointer (some ⟨b, 0, none⟩)) (wq_k (.pointer (some ⟨b, 0, none⟩)) (wq_k (.pointer (some ⟨b, 0, none⟩)) (wq_v (.slice (some ⟨g, 0, none⟩) m.live.length cap) (fun W hW => run_load1 48 (.tmp 52) (by kernel_rfl) ⟨b, 0, none⟩ (by kernel_rfl) (.slice (some ⟨g, 0, none⟩) m.live.length cap) (hW.map.blk.cell 0) _ Tryz.underlying48 rfl) (wq_k (.int .i64 ((i : Nat) : Int)) (wq_v (.pointer (some ⟨g, i * 5, none⟩)) (fun W hW => run_eqv (run_idx 48 (.tmp 53) (.tmp 54) (by kernel_rfl) g 0 m.live.length cap i 54 5 (by kernel_rfl) (by kernel_rfl) (by omega) Tryz.underlying48 (by kernel_rfl)) (by rw [Nat.zero_add])) (wq_k (.pointer (some ⟨g, i * 5 + 3, none⟩)) (wq_k (.pointer (some ⟨g, i * 5 + 3, none⟩)) ?_)))))))
              refine wq_v (.string (shAt m.live i).lo) (fun W hW => run_load1 9 (.tmp 57) (by kernel_rfl) ⟨g, i * 5 + 3, none⟩ (by kernel_rfl) (.string (shAt m.live i).lo) ((row_sh (own_row1 hW.map.live) hi 3 (by decide))) _ Tryz.underlying9 rfl) (wq_v (.bool false) (fun W hW => run_eqv (v := .bool (!((e.key).toList == ((shAt m.live i).lo).toList))) (by kernel_rfl) ((by rw [str_beq, HQ.out]; rfl))) (wq_k (.bool false) (wq_k (.bool false) ?_)))
              refine quiet_end rfl (Lib.hid ?_)
              refine Lib.hid ?_
              intro w3 hW
              have S3 := Lib.hid hW
              clear hW
              dsimp only [Exit.then, Act.put]
              simp only [List.setIfInBounds_toArray, List.set_cons_succ, List.set_cons_zero]
              go_wp2_with fail
              go_ret
              exact ⟨by rw [HZ.out, HU.out, HH.out, HQ2.out]; rfl, S3.out.bel⟩
            ·
              have HQ := Lib.hid (show decide (e.key = (shAt m.live i).lo) = false from decide_eq_false hq)
              have HQ2 := Lib.hid (show decide (e.key ≠ (shAt m.live i).lo) = true by simp [hq])
              clear hq
              go_wp2_with fail
              refine wp_region_class (CS w ea b B m e (.slice (some ⟨g, 0, none⟩) m.live.length cap) ve) (by kernel_rfl) (by kernel_rfl) (S2.out.next (tame_drewN (Below.refl _ w2) 1)) ?_
              refine wq_k (.pointer (some ⟨b, 0, none⟩)) (wq_k (.pointer (some ⟨w.heap.size, 2, none⟩)) (wq_v (.int .i64 ((o : Nat) : Int)) (fun W hW => run_load1 3 (.tmp 27) (by kernel_rfl) ⟨w.heap.size, 2, none⟩ (by kernel_rfl) (.int .i64 ((o : Nat) : Int)) ((show W.cell? _ = some (.int .i64 (o : Int)) by rw [← HO.out]; exact hW.c2)) _ Tryz.underlying3 rfl) (wq_k (.pointer (some ⟨b, 0, none⟩)) (wq_k (.pointer (some ⟨b, 1, none⟩)) (wq_v (.pointer (some ⟨b, 1 + o * 1, none⟩)) (fun W hW => run_eqv (run_idxA 97 (.tmp 30) (.tmp 28) (by kernel_rfl) b 1 13 o 4 1 (by kernel_rfl) (by kernel_rfl) (by omega) Tryz.underlying97 (by kernel_rfl)) rfl) (wq_v (.bool false) (fun W hW => run_load1 4 (.tmp 31) (by kernel_rfl) ⟨b, 1 + o * 1, none⟩ (by kernel_rfl) (.bool false) ((by rw [← HU.out]; exact map_used hW.mp o h12)) _ Tryz.underlying4 rfl) (wq_k (.bool true) ?_)))))))
              refine wq_k (.bool true) (wq_k (.pointer (some ⟨b, 0, none⟩)) (wq_k (.pointer (some ⟨b, 0, none⟩)) (wq_k (.pointer (some ⟨b, 0, none⟩)) (wq_v (.slice (some ⟨g, 0, none⟩) m.live.length cap) (fun W hW => run_load1 48 (.tmp 37) (by kernel_rfl) ⟨b, 0, none⟩ (by kernel_rfl) (.slice (some ⟨g, 0, none⟩) m.live.length cap) (hW.map.blk.cell 0) _ Tryz.underlying48 rfl) (wq_k (.int .i64 ((i : Nat) : Int)) (wq_v (.pointer (some ⟨g, i * 5, none⟩)) (fun W hW => run_eqv (run_idx 48 (.tmp 38) (.tmp 39) (by kernel_rfl) g 0 m.live.length cap i 54 5 (by kernel_rfl) (by kernel_rfl) (by omega) Tryz.underlying48 (by kernel_rfl)) (by rw [Nat.zero_add])) (wq_k (.pointer (some ⟨g, i * 5 + 3, none⟩)) ?_)))))))
              refine wq_v (.agg #[.string (shAt m.live i).lo, .string (shAt m.live i).hi]) (fun W hW => run_eqv (run_loadN 52 (.tmp 41) (by kernel_rfl) g (i * 5 + 3) (by kernel_rfl) [.string (shAt m.live i).lo, .string (shAt m.live i).hi] (row_span (own_row1 hW.map.live) hi) _ Tryz.underlying52 rfl (by kernel_rfl)) rfl) (wq_k (.pointer (some ⟨w.heap.size, 7, none⟩)) (wq_v (.string e.key) (fun W hW => run_load1 9 (.tmp 43) (by kernel_rfl) ⟨w.heap.size, 7, none⟩ (by kernel_rfl) (.string e.key) (hW.c7) _ Tryz.underlying9 rfl) (wq_c (.bool true) 47 #[.agg #[.string (shAt m.live i).lo, .string (shAt m.live i).hi], .string e.key] (fun W hW => (spanHas_any ea _ _ _ W (map_ok hW.mp hi).1 (map_ok hW.mp hi).2 HK.out hW.err).mono fun e' w' h => ⟨by rw [h.1, HH.out], hW.next h.2⟩) (wq_k (.bool true) (wq_k (.bool true) (wq_k (.pointer (some ⟨w.heap.size, 7, none⟩)) (wq_v (.string e.key) (fun W hW => run_load1 9 (.tmp 48) (by kernel_rfl) ⟨w.heap.size, 7, none⟩ (by kernel_rfl) (.string e.key) (hW.c7) _ Tryz.underlying9 rfl) ?_)))))))
              refine wq_k (.pointer (some ⟨b, 0, none⟩)) (wq_k (.pointer (some ⟨b, 0, none⟩)) (wq_k (.pointer (some ⟨b, 0, none⟩)) (wq_v (.slice (some ⟨g, 0, none⟩) m.live.length cap) (fun W hW => run_load1 48 (.tmp 52) (by kernel_rfl) ⟨b, 0, none⟩ (by kernel_rfl) (.slice (some ⟨g, 0, none⟩) m.live.length cap) (hW.map.blk.cell 0) _ Tryz.underlying48 rfl) (wq_k (.int .i64 ((i : Nat) : Int)) (wq_v (.pointer (some ⟨g, i * 5, none⟩)) (fun W hW => run_eqv (run_idx 48 (.tmp 53) (.tmp 54) (by kernel_rfl) g 0 m.live.length cap i 54 5 (by kernel_rfl) (by kernel_rfl) (by omega) Tryz.underlying48 (by kernel_rfl)) (by rw [Nat.zero_add])) (wq_k (.pointer (some ⟨g, i * 5 + 3, none⟩)) (wq_k (.pointer (some ⟨g, i * 5 + 3, none⟩)) ?_)))))))
              refine wq_v (.string (shAt m.live i).lo) (fun W hW => run_load1 9 (.tmp 57) (by kernel_rfl) ⟨g, i * 5 + 3, none⟩ (by kernel_rfl) (.string (shAt m.live i).lo) ((row_sh (own_row1 hW.map.live) hi 3 (by decide))) _ Tryz.underlying9 rfl) (wq_v (.bool true) (fun W hW => run_eqv (v := .bool (!((e.key).toList == ((shAt m.live i).lo).toList))) (by kernel_rfl) ((by rw [str_beq, HQ.out]; rfl))) (wq_k (.bool true) (wq_k (.bool true) ?_)))
              refine quiet_end rfl (Lib.hid ?_)
              refine Lib.hid ?_
              intro w3 hW
              have S3 := Lib.hid hW
              clear hW
              dsimp only [Exit.then, Act.put]
              simp only [List.setIfInBounds_toArray, List.set_cons_succ, List.set_cons_zero]
              go_wp2_with fail
              go_ret
              exact ⟨by rw [HZ.out, HU.out, HH.out, HQ2.out]; rfl, S3.out.bel⟩
      have e3 : (e.kind == 3) = false := by simp [k3]
      by_cases k4 : e.kind = 4
      · have e4 : (e.kind == 4) = true := by simp [k4]
        have HR4 := Lib.hid (HR.out (.inr (.inr k4))).symm
        have HZ := Lib.hid (show countsP m e = (match findN e.other m.live with
          | none => false
          | some k => (joinB (shAt m.live i).lo (shAt m.live i).hi (shAt m.live k).lo (shAt m.live k).hi).isSome) by
          rw [HF.out, if_neg k2, if_neg k3, if_pos k4, HR4.out, Bool.true_and])
        have s2 := S2.out.c2
        clear k2 k3 k4
        go_wp2_with fail
        refine (find_any b B m e.other _ S2.out.mp).mono ?_
        rintro e' w3 ⟨rfl, hb3⟩
        have S3 := Lib.hid (S2.out.next hb3)
        clear hb3 s2 s0
        cases hf2 : findN e.other m.live with
        | none =>
          have HZ2 := Lib.hid (show countsP m e = false by rw [HZ.out, hf2])
          clear hf2 HZ
          dsimp only [idxI]
          go_wp2_with fail
          go_ret
          exact ⟨by rw [HZ2.out]; rfl, S3.out.bel⟩
        | some k =>
          have HZ2 := Lib.hid (show countsP m e = (joinB (shAt m.live i).lo (shAt m.live i).hi (shAt m.live k).lo (shAt m.live k).hi).isSome by rw [HZ.out, hf2])
          obtain ⟨hk, -⟩ := findN_lt hf2
          clear hf2 HZ
          dsimp only [idxI]
          have hneg2 : ¬ (k : Int) < 0 := by omega
          have HJ := Lib.hid (fun W h => join_any ea (shAt m.live i).lo (shAt m.live i).hi (shAt m.live k).lo (shAt m.live k).hi W (map_ok S3.out.mp hi).1 (map_ok S3.out.mp hi).2 (map_ok S3.out.mp hk).1 (map_ok S3.out.mp hk).2 h)
          cases hj : joinB (shAt m.live i).lo (shAt m.live i).hi (shAt m.live k).lo (shAt m.live k).hi with
          | some sp =>
            have HZ := Lib.hid (show countsP m e = true by rw [HZ2.out, hj]; rfl)
            rw [hj] at HJ
            have HJC := Lib.hid (fun W h => HJ.out W h)
            clear hj HZ2 HJ
            go_wp2_with fail
            refine wp_region_wb ((Below w3.heap.size w3)) (by kernel_rfl) (tame_drewN (Below.refl _ w3) 1) (fun _ _ _ _ _ h => h) ?_
            intro hS HZQ
            refine wa_k 0 70 (.pointer (some ⟨b, 0, none⟩)) hS HZQ (wa_k 1 71 (.pointer (some ⟨b, 0, none⟩)) hS HZQ (wa_k 2 72 (.pointer (some ⟨b, 0, none⟩)) hS HZQ (wa_v 3 73 (.slice (some ⟨g, 0, none⟩) m.live.length cap) hS HZQ (fun W hW => run_load1 48 (.tmp 72) (by kernel_rfl) ⟨b, 0, none⟩ (by kernel_rfl) (.slice (some ⟨g, 0, none⟩) m.live.length cap) ((S3.out.next hW).map.blk.cell 0) _ Tryz.underlying48 rfl) (wa_k 4 74 (.int .i64 ((i : Nat) : Int)) hS HZQ (wa_v 5 75 (.pointer (some ⟨g, i * 5, none⟩)) hS HZQ (fun W hW => run_eqv (run_idx 48 (.tmp 73) (.tmp 74) (by kernel_rfl) g 0 m.live.length cap i 54 5 (by kernel_rfl) (by kernel_rfl) (by omega) Tryz.underlying48 (by kernel_rfl)) (by rw [Nat.zero_add])) (wa_k 6 76 (.pointer (some ⟨g, i * 5 + 3, none⟩)) hS HZQ (wa_v 7 77 (.agg #[.string (shAt m.live i).lo, .string (shAt m.live i).hi]) hS HZQ (fun W hW => run_eqv (run_loadN 52 (.tmp 76) (by kernel_rfl) g (i * 5 + 3) (by kernel_rfl) [.string (shAt m.live i).lo, .string (shAt m.live i).hi] (row_span (own_row1 (S3.out.next hW).map.live) hi) _ Tryz.underlying52 rfl (by kernel_rfl)) rfl) ?_)))))))
            refine wa_k 8 78 (.pointer (some ⟨b, 0, none⟩)) hS HZQ (wa_k 9 79 (.pointer (some ⟨b, 0, none⟩)) hS HZQ (wa_k 10 80 (.pointer (some ⟨b, 0, none⟩)) hS HZQ (wa_v 11 81 (.slice (some ⟨g, 0, none⟩) m.live.length cap) hS HZQ (fun W hW => run_load1 48 (.tmp 80) (by kernel_rfl) ⟨b, 0, none⟩ (by kernel_rfl) (.slice (some ⟨g, 0, none⟩) m.live.length cap) ((S3.out.next hW).map.blk.cell 0) _ Tryz.underlying48 rfl) (wa_k 12 82 (.int .i64 ((k : Nat) : Int)) hS HZQ (wa_v 13 83 (.pointer (some ⟨g, k * 5, none⟩)) hS HZQ (fun W hW => run_eqv (run_idx 48 (.tmp 81) (.tmp 82) (by kernel_rfl) g 0 m.live.length cap k 54 5 (by kernel_rfl) (by kernel_rfl) (by omega) Tryz.underlying48 (by kernel_rfl)) (by rw [Nat.zero_add])) (wa_k 14 84 (.pointer (some ⟨g, k * 5 + 3, none⟩)) hS HZQ (wa_v 15 85 (.agg #[.string (shAt m.live k).lo, .string (shAt m.live k).hi]) hS HZQ (fun W hW => run_eqv (run_loadN 52 (.tmp 84) (by kernel_rfl) g (k * 5 + 3) (by kernel_rfl) [.string (shAt m.live k).lo, .string (shAt m.live k).hi] (row_span (own_row1 (S3.out.next hW).map.live) hk) _ Tryz.underlying52 rfl (by kernel_rfl)) rfl) ?_)))))))
            refine wa_r [16, 20] ?_
            refine (ar_a (some 86) (fun K hK => ?_) (ar_a (some 7) (fun K hK => ?_) ar_nil))
            ·
              refine ow_call 48 #[.agg #[.string (shAt m.live i).lo, .string (shAt m.live i).hi], .agg #[.string (shAt m.live k).lo, .string (shAt m.live k).hi]] (by kernel_rfl) (fun v w' => v = .tuple #[.agg #[.string sp.1, .string sp.2], .nilIface] ∧ Below _ _ w') ((HJC.out _ (S3.out.next hS).err).mono fun e' w' h => ⟨_, h.1, rfl, h.2⟩) (Lib.hid ?_)
              rintro v w4 ⟨rfl, hb4⟩
              refine hK.out _ _ (hS.trans (hb4.mono hS.size)) (fun hS1 => ?_)
              clear hK K hb4 hS
              refine wa_k 17 69 (.tuple #[.agg #[.string sp.1, .string sp.2], .nilIface]) hS1 HZQ (wa_k 18 87 (.agg #[.string sp.1, .string sp.2]) hS1 HZQ (wa_k 19 88 (.nilIface) hS1 HZQ ?_))
              refine wa_r [20] ?_
              refine ar_a (some 7) (fun K hK => ?_) ar_nil
              refine ow_val (.pointer (some ⟨w4.heap.size, 0, none⟩)) (w4.alloc (.cells #[.string ⟨#[]⟩, .string ⟨#[]⟩] 52)) (by kernel_rfl) ?_
              refine hK.out _ _ (hS1.alloc hS1.size _) (fun hS2 => ?_)
              have HZ5 := Lib.hid (Blk.new w4 52 #[.string ⟨#[]⟩, .string ⟨#[]⟩])
              have HGZ := Lib.hid (show w3.heap.size ≤ w4.heap.size from hS1.size)
              clear hK K hS1
              refine wa_r [21] ?_
              refine ar_a none (fun K hK => ?_) ar_nil
              refine ow_store_blk 52 (.tmp 7) (.tmp 87) (by kernel_rfl) w4.heap.size #[.string sp.1, .string sp.2] (by kernel_rfl) (by kernel_rfl) 52 #[.string ⟨#[]⟩, .string ⟨#[]⟩] HZ5.out rfl (by kernel_rfl) (by kernel_rfl) (Lib.hid ?_)
              intro w6 hz6 ho6
              refine hK.out _ _ (hS2.trans (ho6.to_below hS2.size (fun q hq e => by have := HGZ.out; omega))) (fun hS3 => ?_)
              clear hK K hz6 ho6 hS2 HZ5 HGZ
              refine wa_k 22 8 (.nilIface) hS3 HZQ ?_
              refine wa_done (by kernel_rfl) ?_
              dsimp only [Exit.then, Act.put]
              simp only [List.setIfInBounds_toArray, List.set_cons_succ, List.set_cons_zero]
              have S4 := Lib.hid (S3.out.next hS3)
              clear hS3
              go_wp2_with fail
              go_ret
              exact ⟨by rw [HZ.out]; rfl, S4.out.bel⟩
            ·
              refine ow_val (.pointer (some ⟨w3.heap.size, 0, none⟩)) (w3.drew.alloc (.cells #[.string ⟨#[]⟩, .string ⟨#[]⟩] 52)) (by kernel_rfl) ?_
              refine hK.out _ _ (hS.alloc hS.size _) (fun hS1 => ?_)
              clear hK K hS
              refine wa_r [16] ?_
              refine ar_a (some 86) (fun K hK => ?_) ar_nil
              refine ow_call 48 #[.agg #[.string (shAt m.live i).lo, .string (shAt m.live i).hi], .agg #[.string (shAt m.live k).lo, .string (shAt m.live k).hi]] (by kernel_rfl) (fun v w' => v = .tuple #[.agg #[.string sp.1, .string sp.2], .nilIface] ∧ Below _ _ w') ((HJC.out _ (S3.out.next hS1).err).mono fun e' w' h => ⟨_, h.1, rfl, h.2⟩) (Lib.hid ?_)
              rintro v w5 ⟨rfl, hb4⟩
              refine hK.out _ _ (hS1.trans (hb4.mono hS1.size)) (fun hS2 => ?_)
              have HZ5 := Lib.hid ((Blk.new w3.drew 52 #[.string ⟨#[]⟩, .string ⟨#[]⟩]).below hb4 (Blk.new w3.drew _ _).lt)
              have HGZ := Lib.hid (show w3.heap.size ≤ w3.heap.size from Nat.le_refl _)
              clear hK K hb4 hS1
              refine wa_k 17 69 (.tuple #[.agg #[.string sp.1, .string sp.2], .nilIface]) hS2 HZQ (wa_k 18 87 (.agg #[.string sp.1, .string sp.2]) hS2 HZQ (wa_k 19 88 (.nilIface) hS2 HZQ ?_))
              refine wa_r [21] ?_
              refine ar_a none (fun K hK => ?_) ar_nil
              refine ow_store_blk 52 (.tmp 7) (.tmp 87) (by kernel_rfl) w3.heap.size #[.string sp.1, .string sp.2] (by kernel_rfl) (by kernel_rfl) 52 #[.string ⟨#[]⟩, .string ⟨#[]⟩] HZ5.out rfl (by kernel_rfl) (by kernel_rfl) (Lib.hid ?_)
              intro w6 hz6 ho6
              refine hK.out _ _ (hS2.trans (ho6.to_below hS2.size (fun q hq e => by have := HGZ.out; omega))) (fun hS3 => ?_)
              clear hK K hz6 ho6 hS2 HZ5 HGZ
              refine wa_k 22 8 (.nilIface) hS3 HZQ ?_
              refine wa_done (by kernel_rfl) ?_
              dsimp only [Exit.then, Act.put]
              simp only [List.setIfInBounds_toArray, List.set_cons_succ, List.set_cons_zero]
              have S4 := Lib.hid (S3.out.next hS3)
              clear hS3
              go_wp2_with fail
              go_ret
              exact ⟨by rw [HZ.out]; rfl, S4.out.bel⟩
          | none =>
            have HZ := Lib.hid (show countsP m e = false by rw [HZ2.out, hj]; rfl)
            rw [hj] at HJ
            have HJC := Lib.hid (fun W h => HJ.out W h)
            have hqe : ∀ (a : Addr) (w : World), (Op.equal 34 (.iface 184 (.pointer (some a))) .nilIface).run Tryz.prog w = .ok false w := fun a w => by kernel_rfl
            clear hj HZ2 HJ
            go_wp2_with fail
            refine wp_region_wb ((Below w3.heap.size w3)) (by kernel_rfl) (tame_drewN (Below.refl _ w3) 1) (fun _ _ _ _ _ h => h) ?_
            intro hS HZQ
            refine wa_k 0 70 (.pointer (some ⟨b, 0, none⟩)) hS HZQ (wa_k 1 71 (.pointer (some ⟨b, 0, none⟩)) hS HZQ (wa_k 2 72 (.pointer (some ⟨b, 0, none⟩)) hS HZQ (wa_v 3 73 (.slice (some ⟨g, 0, none⟩) m.live.length cap) hS HZQ (fun W hW => run_load1 48 (.tmp 72) (by kernel_rfl) ⟨b, 0, none⟩ (by kernel_rfl) (.slice (some ⟨g, 0, none⟩) m.live.length cap) ((S3.out.next hW).map.blk.cell 0) _ Tryz.underlying48 rfl) (wa_k 4 74 (.int .i64 ((i : Nat) : Int)) hS HZQ (wa_v 5 75 (.pointer (some ⟨g, i * 5, none⟩)) hS HZQ (fun W hW => run_eqv (run_idx 48 (.tmp 73) (.tmp 74) (by kernel_rfl) g 0 m.live.length cap i 54 5 (by kernel_rfl) (by kernel_rfl) (by omega) Tryz.underlying48 (by kernel_rfl)) (by rw [Nat.zero_add])) (wa_k 6 76 (.pointer (some ⟨g, i * 5 + 3, none⟩)) hS HZQ (wa_v 7 77 (.agg #[.string (shAt m.live i).lo, .string (shAt m.live i).hi]) hS HZQ (fun W hW => run_eqv (run_loadN 52 (.tmp 76) (by kernel_rfl) g (i * 5 + 3) (by kernel_rfl) [.string (shAt m.live i).lo, .string (shAt m.live i).hi] (row_span (own_row1 (S3.out.next hW).map.live) hi) _ Tryz.underlying52 rfl (by kernel_rfl)) rfl) ?_)))))))
            refine wa_k 8 78 (.pointer (some ⟨b, 0, none⟩)) hS HZQ (wa_k 9 79 (.pointer (some ⟨b, 0, none⟩)) hS HZQ (wa_k 10 80 (.pointer (some ⟨b, 0, none⟩)) hS HZQ (wa_v 11 81 (.slice (some ⟨g, 0, none⟩) m.live.length cap) hS HZQ (fun W hW => run_load1 48 (.tmp 80) (by kernel_rfl) ⟨b, 0, none⟩ (by kernel_rfl) (.slice (some ⟨g, 0, none⟩) m.live.length cap) ((S3.out.next hW).map.blk.cell 0) _ Tryz.underlying48 rfl) (wa_k 12 82 (.int .i64 ((k : Nat) : Int)) hS HZQ (wa_v 13 83 (.pointer (some ⟨g, k * 5, none⟩)) hS HZQ (fun W hW => run_eqv (run_idx 48 (.tmp 81) (.tmp 82) (by kernel_rfl) g 0 m.live.length cap k 54 5 (by kernel_rfl) (by kernel_rfl) (by omega) Tryz.underlying48 (by kernel_rfl)) (by rw [Nat.zero_add])) (wa_k 14 84 (.pointer (some ⟨g, k * 5 + 3, none⟩)) hS HZQ (wa_v 15 85 (.agg #[.string (shAt m.live k).lo, .string (shAt m.live k).hi]) hS HZQ (fun W hW => run_eqv (run_loadN 52 (.tmp 84) (by kernel_rfl) g (k * 5 + 3) (by kernel_rfl) [.string (shAt m.live k).lo, .string (shAt m.live k).hi] (row_span (own_row1 (S3.out.next hW).map.live) hk) _ Tryz.underlying52 rfl (by kernel_rfl)) rfl) ?_)))))))
            refine wa_r [16, 20] ?_
            refine (ar_a (some 86) (fun K hK => ?_) (ar_a (some 7) (fun K hK => ?_) ar_nil))
            ·
              refine ow_call 48 #[.agg #[.string (shAt m.live i).lo, .string (shAt m.live i).hi], .agg #[.string (shAt m.live k).lo, .string (shAt m.live k).hi]] (by kernel_rfl) (fun v w' => (∃ n, v = .tuple #[.agg #[.string ⟨#[]⟩, .string ⟨#[]⟩], .iface 184 (.pointer (some (ea n)))]) ∧ Below _ _ w') ((HJC.out _ (S3.out.next hS).err).mono fun e' w' h => by obtain ⟨⟨n, h1⟩, h2⟩ := h; exact ⟨_, h1, ⟨n, rfl⟩, h2⟩) (Lib.hid ?_)
              rintro v w4 ⟨⟨n, rfl⟩, hb4⟩
              refine hK.out _ _ (hS.trans (hb4.mono hS.size)) (fun hS1 => ?_)
              clear hK K hb4 hS
              refine wa_k 17 69 (.tuple #[.agg #[.string ⟨#[]⟩, .string ⟨#[]⟩], .iface 184 (.pointer (some (ea n)))]) hS1 HZQ (wa_k 18 87 (.agg #[.string ⟨#[]⟩, .string ⟨#[]⟩]) hS1 HZQ (wa_k 19 88 (.iface 184 (.pointer (some (ea n)))) hS1 HZQ ?_))
              refine wa_r [20] ?_
              refine ar_a (some 7) (fun K hK => ?_) ar_nil
              refine ow_val (.pointer (some ⟨w4.heap.size, 0, none⟩)) (w4.alloc (.cells #[.string ⟨#[]⟩, .string ⟨#[]⟩] 52)) (by kernel_rfl) ?_
              refine hK.out _ _ (hS1.alloc hS1.size _) (fun hS2 => ?_)
              have HZ5 := Lib.hid (Blk.new w4 52 #[.string ⟨#[]⟩, .string ⟨#[]⟩])
              have HGZ := Lib.hid (show w3.heap.size ≤ w4.heap.size from hS1.size)
              clear hK K hS1
              refine wa_r [21] ?_
              refine ar_a none (fun K hK => ?_) ar_nil
              refine ow_store_blk 52 (.tmp 7) (.tmp 87) (by kernel_rfl) w4.heap.size #[.string ⟨#[]⟩, .string ⟨#[]⟩] (by kernel_rfl) (by kernel_rfl) 52 #[.string ⟨#[]⟩, .string ⟨#[]⟩] HZ5.out rfl (by kernel_rfl) (by kernel_rfl) (Lib.hid ?_)
              intro w6 hz6 ho6
              refine hK.out _ _ (hS2.trans (ho6.to_below hS2.size (fun q hq e => by have := HGZ.out; omega))) (fun hS3 => ?_)
              clear hK K hz6 ho6 hS2 HZ5 HGZ
              refine wa_k 22 8 (.iface 184 (.pointer (some (ea n)))) hS3 HZQ ?_
              refine wa_done (by kernel_rfl) ?_
              dsimp only [Exit.then, Act.put]
              simp only [List.setIfInBounds_toArray, List.set_cons_succ, List.set_cons_zero]
              have S4 := Lib.hid (S3.out.next hS3)
              clear hS3
              go_wp2_with fail
              go_ret
              exact ⟨by rw [HZ.out]; rfl, S4.out.bel⟩
            ·
              refine ow_val (.pointer (some ⟨w3.heap.size, 0, none⟩)) (w3.drew.alloc (.cells #[.string ⟨#[]⟩, .string ⟨#[]⟩] 52)) (by kernel_rfl) ?_
              refine hK.out _ _ (hS.alloc hS.size _) (fun hS1 => ?_)
              clear hK K hS
              refine wa_r [16] ?_
              refine ar_a (some 86) (fun K hK => ?_) ar_nil
              refine ow_call 48 #[.agg #[.string (shAt m.live i).lo, .string (shAt m.live i).hi], .agg #[.string (shAt m.live k).lo, .string (shAt m.live k).hi]] (by kernel_rfl) (fun v w' => (∃ n, v = .tuple #[.agg #[.string ⟨#[]⟩, .string ⟨#[]⟩], .iface 184 (.pointer (some (ea n)))]) ∧ Below _ _ w') ((HJC.out _ (S3.out.next hS1).err).mono fun e' w' h => by obtain ⟨⟨n, h1⟩, h2⟩ := h; exact ⟨_, h1, ⟨n, rfl⟩, h2⟩) (Lib.hid ?_)
              rintro v w5 ⟨⟨n, rfl⟩, hb4⟩
              refine hK.out _ _ (hS1.trans (hb4.mono hS1.size)) (fun hS2 => ?_)
              have HZ5 := Lib.hid ((Blk.new w3.drew 52 #[.string ⟨#[]⟩, .string ⟨#[]⟩]).below hb4 (Blk.new w3.drew _ _).lt)
              have HGZ := Lib.hid (show w3.heap.size ≤ w3.heap.size from Nat.le_refl _)
              clear hK K hb4 hS1
              refine wa_k 17 69 (.tuple #[.agg #[.string ⟨#[]⟩, .string ⟨#[]⟩], .iface 184 (.pointer (some (ea n)))]) hS2 HZQ (wa_k 18 87 (.agg #[.string ⟨#[]⟩, .string ⟨#[]⟩]) hS2 HZQ (wa_k 19 88 (.iface 184 (.pointer (some (ea n)))) hS2 HZQ ?_))
              refine wa_r [21] ?_
              refine ar_a none (fun K hK => ?_) ar_nil
              refine ow_store_blk 52 (.tmp 7) (.tmp 87) (by kernel_rfl) w3.heap.size #[.string ⟨#[]⟩, .string ⟨#[]⟩] (by kernel_rfl) (by kernel_rfl) 52 #[.string ⟨#[]⟩, .string ⟨#[]⟩] HZ5.out rfl (by kernel_rfl) (by kernel_rfl) (Lib.hid ?_)
              intro w6 hz6 ho6
              refine hK.out _ _ (hS2.trans (ho6.to_below hS2.size (fun q hq e => by have := HGZ.out; omega))) (fun hS3 => ?_)
              clear hK K hz6 ho6 hS2 HZ5 HGZ
              refine wa_k 22 8 (.iface 184 (.pointer (some (ea n)))) hS3 HZQ ?_
              refine wa_done (by kernel_rfl) ?_
              dsimp only [Exit.then, Act.put]
              simp only [List.setIfInBounds_toArray, List.set_cons_succ, List.set_cons_zero]
              have S4 := Lib.hid (S3.out.next hS3)
              clear hS3
              go_wp2_with fail
              go_ret
              exact ⟨by rw [HZ.out]; rfl, S4.out.bel⟩
      have e4 : (e.kind == 4) = false := by simp [k4]
      have HZ := Lib.hid (show countsP m e = false by rw [HF.out, if_neg k2, if_neg k3, if_neg k4])
      clear k2 k3 k4
      go_wp2_with fail
      go_ret
      exact ⟨by rw [HZ.out]; rfl, S2.out.bel⟩
end Go.Proofs.YthjmfcdhpdiehaaGreatDoor
