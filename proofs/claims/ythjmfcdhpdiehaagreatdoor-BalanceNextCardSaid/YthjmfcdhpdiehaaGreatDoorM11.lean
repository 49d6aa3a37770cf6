/-
  (*Map).split.
-/
import Derived.Test.YthjmfcdhpdiehaaGreatDoorM07
import Derived.Test.YthjmfcdhpdiehaaGreatDoorM09
import Derived.Test.YthjmfcdhpdiehaaGreatDoorM10
namespace Go.Proofs.YthjmfcdhpdiehaaGreatDoor
open Go.RowKit Utf
set_option maxRecDepth 100000
set_option linter.unusedSimpArgs false
set_option linter.unusedVariables false

theorem Tryz.infoSp : (Tryz.prog.info? 52).map (fun i => (i.zero, i.size, i.bytes)) = some (some (.agg #[.string ⟨#[]⟩, .string ⟨#[]⟩]), 2, 32) := by kernel_rfl

/-- A shard whose span and Since turned. -/
def Sh.turned (s : Sh) (a b : ByteArray) (c : Int) : Sh := ⟨s.id, s.server, c, a, b⟩
theorem set_at (l : List Sh) (i : Nat) (x : Sh) (q : Nat) (hq : q < l.length) (hi : i < l.length) : (l.set i x)[q]'(by simpa using hq) = if q = i then x else l[q] := by
  rw [List.getElem_set]
  by_cases h : i = q
  · rw [if_pos h, if_pos h.symm]
  · rw [if_neg h, if_neg (fun e => h e.symm)]
theorem shAt_eq {l : List Sh} {i : Nat} (hi : i < l.length) : shAt l i = l[i] := by
  unfold shAt
  rw [List.getD_eq_getElem?_getD, List.getElem?_eq_getElem hi]
  rfl
/-- What the two stores make of a row. -/
theorem row_turn (cur : List Value) (l : List Sh) (i : Nat) (a b : ByteArray) (c : Int) (hi : i < l.length) (ht : cur.take (l.length * 5) = shRow l) (hl : l.length * 5 ≤ cur.length) :
    (splice (splice cur (i * 5 + 3) [.string a, .string b]) (i * 5 + 2) [.int .i64 c]).take (l.length * 5) = shRow (l.set i ((shAt l i).turned a b c)) := by
  have h1 : i * 5 + 3 + [Value.string a, Value.string b].length ≤ cur.length := by simp; omega
  have h2 : i * 5 + 2 + [Value.int .i64 c].length ≤ (splice cur (i * 5 + 3) [Value.string a, Value.string b]).length := by rw [length_splice _ _ _ h1]; simp; omega
  apply List.ext_getElem?
  intro j
  have hlen : (shRow (l.set i ((shAt l i).turned a b c))).length = l.length * 5 := by rw [shRow_len, List.length_set]
  by_cases hj : j < l.length * 5
  · obtain ⟨q, r, rfl, hr⟩ : ∃ q r, j = q * 5 + r ∧ r < 5 := ⟨j / 5, j % 5, by omega, by omega⟩
    have hq : q < l.length := by omega
    rw [List.getElem?_take, if_pos hj, splice_get h2, splice_get h1]
    have e1 : cur[q * 5 + r]? = (l[q]).cells[r]? := by
      have : (shRow l)[q * 5 + r]? = (l[q]).cells[r]? := flat_at Sh.cells 5 Sh.cells_len l q r hq hr
      rw [← this, ← ht, List.getElem?_take, if_pos hj]
    have e2 : (shRow (l.set i ((shAt l i).turned a b c)))[q * 5 + r]? = (if q = i then (shAt l i).turned a b c else l[q]).cells[r]? := by
      have : (shRow (l.set i ((shAt l i).turned a b c)))[q * 5 + r]? = ((l.set i ((shAt l i).turned a b c))[q]'(by simpa using hq)).cells[r]? := flat_at Sh.cells 5 Sh.cells_len _ q r (by simpa using hq) hr
      rw [this, set_at l i _ q hq hi]
    rw [e2, e1]
    by_cases hqi : q = i
    · subst hqi
      rw [if_pos rfl, shAt_eq hq]
      rcases (show r = 0 ∨ r = 1 ∨ r = 2 ∨ r = 3 ∨ r = 4 by omega) with rfl | rfl | rfl | rfl | rfl
      · rw [if_pos (by omega), if_pos (by omega)]
        rfl
      · rw [if_pos (by omega), if_pos (by omega)]
        rfl
      · rw [if_neg (by omega), if_pos (by simp)]
        simp [Sh.turned, Sh.cells]
      · rw [if_neg (by omega), if_neg (by simp), if_neg (by omega), if_pos (by simp)]
        simp [Sh.turned, Sh.cells]
      · rw [if_neg (by omega), if_neg (by simp), if_neg (by omega), if_pos (by simp)]
        rw [show q * 5 + 4 - (q * 5 + 3) = 1 by omega]
        rfl
    · rw [if_neg hqi]
      by_cases c1 : q * 5 + r < i * 5 + 2
      · rw [if_pos c1, if_pos (by omega)]
      · rw [if_neg c1, if_neg (by simp; omega), if_neg (by omega), if_neg (by simp; omega)]
  · rw [List.getElem?_eq_none (by rw [List.length_take]; omega), List.getElem?_eq_none (by omega)]

/-- What a split makes of a map (without the event). -/
def splitP (m : PM) (e : EN) (t : Nat) : PM := match findN e.shard m.live with
  | none => m
  | some i =>
    let l := m.live.set i ((shAt m.live i).turned (shAt m.live i).lo e.key ((t + 1 : Nat) : Int))
    ⟨l.take (i + 1) ++ (⟨e.other, e.server, ((t + 1 : Nat) : Int), e.key, (shAt m.live i).hi⟩ : Sh) :: l.drop (i + 1), fun k => m.used k || decide ((k : Int) = e.other), m.evs⟩

theorem pmC_set (v : Value) (u : Nat → Bool) (ve : Value) (o : Nat) (ho : o ≤ 12) : (pmC v u ve).toList.set (1 + o * 1) (.bool true) = (pmC v (fun k => u k || decide ((k : Int) = (o : Int))) ve).toList := by
  rcases (show o = 0 ∨ o = 1 ∨ o = 2 ∨ o = 3 ∨ o = 4 ∨ o = 5 ∨ o = 6 ∨ o = 7 ∨ o = 8 ∨ o = 9 ∨ o = 10 ∨ o = 11 ∨ o = 12 by omega) with rfl | rfl | rfl | rfl | rfl | rfl | rfl | rfl | rfl | rfl | rfl | rfl | rfl <;> simp [pmC]

theorem ownB_some {g n cap : Nat} (h : 1 ≤ cap) : ownB (.slice (some ⟨g, 0, none⟩) n cap) = some g := by
  unfold ownB
  simp
  omega
/-- The live shards' row and the map's own block alone have turned; the events stand. -/
def LiveOnly (w : World) (b : Nat) (w' : World) : Prop := Only (fun k => k = b ∨ ∃ v, w.cell? ⟨b, 0, none⟩ = some v ∧ ownB v = some k) w w' ∧ w'.cell? ⟨b, 14, none⟩ = w.cell? ⟨b, 14, none⟩

set_option maxHeartbeats 4000000 in
theorem split_anyO (ea : Nat → Addr) (b B : Nat) (m : PM) (e : EN) (t : Nat) (w : World) (hm : MapAt w B b m) (he : BErr w ea) (ha : e.at w) (hc : countsP m e = true) (hk : e.kind = 3) (ht : t ≤ 4095) (hln : m.live.length ≤ 9000) (hB : B ≤ w.heap.size) :
    Calls Tryz.prog 49 #[.pointer (some ⟨b, 0, none⟩), .agg e.cells.toArray, .int .i64 (t : Nat)] w fun e' w' => e' = .returned (.tuple #[]) ∧ MapAt w' B b (splitP m e t) ∧ Chg PT B w w' ∧ LiveOnly w b w' := by
  obtain ⟨vl, ve, hm⟩ := hm
  obtain ⟨g, cap, cur, rfl, hgB, hgk, hgc, hgm, hgl, hgt, -⟩ := own_open hm.live hm.l1
  have H0 : Hid (CS w ea b B m e (.slice (some ⟨g, 0, none⟩) m.live.length cap) ve (w.alloc (.cells #[.int .i64 e.kind, .int .i64 e.shard, .int .i64 e.other, .int .i64 e.server, .int .i64 e.client, .int .i64 e.seq, .slice e.ao e.no e.co, .string e.key, .int .i64 e.upto, .int .i64 e.part, .int .i64 e.parts, .slice e.ad e.nd e.cd] 44))) := Lib.hid (CS.new hm he ha)
  have HK := Lib.hid ha.key
  cases hf : findN e.shard m.live with
  | none => rw [counts_none hf] at hc; cases hc
  | some i =>
    rw [counts_some hf, if_neg (by omega), if_pos hk] at hc
    simp only [Bool.and_eq_true, decide_eq_true_eq, Bool.not_eq_true'] at hc
    obtain ⟨⟨⟨hr, hu⟩, hh⟩, hq⟩ := hc
    obtain ⟨o, ho, ho1, ho12⟩ := rightE_other hr (.inl hk)
    obtain ⟨hi, -⟩ := findN_lt hf
    have HSP := Lib.hid (show splitP m e t = _ by unfold splitP; rw [hf])
    have HM := Lib.hid hm
    have HO := Lib.hid ho
    have HQ := Lib.hid hq
    have HH := Lib.hid hh
    have HGK := Lib.hid hgk
    have HGL := Lib.hid hgl
    have HGT := Lib.hid hgt
    have HGM := Lib.hid hgm
    have HF := Lib.hid hf
    clear hm he ha hr hu hh hq ho hf hgk hgl hgt hgm hk
    show Calls Tryz.prog 49 #[.pointer (some ⟨b, 0, none⟩), .agg #[.int .i64 e.kind, .int .i64 e.shard, .int .i64 e.other, .int .i64 e.server, .int .i64 e.client, .int .i64 e.seq, .slice e.ao e.no e.co, .string e.key, .int .i64 e.upto, .int .i64 e.part, .int .i64 e.parts, .slice e.ad e.nd e.cd], .int .i64 (t : Nat)] w fun e' w' => e' = .returned (.tuple #[]) ∧ MapAt w' B b (splitP m e t) ∧ Chg PT B w w' ∧ LiveOnly w b w'
    go_enter Tryz.func49, Tryz.ntmps49
    go_wp2_with fail
    refine (find_any b B m e.shard _ H0.out.mp).mono ?_
    rintro e' w1 ⟨rfl, hb1⟩
    have S1 := Lib.hid (H0.out.next hb1)
    clear hb1
    rw [HF.out]
    dsimp only [idxI]
    go_wp2_with fail
    apply merge2 (F := fun g7 g8 w' => Below w1.heap.size w1 w' ∧ w1.heap.size ≤ g7 ∧ w1.heap.size ≤ g8 ∧ Blk w' g7 52 #[.string (shAt m.live i).lo, .string e.key] ∧ Blk w' g8 52 #[.string e.key, .string (shAt m.live i).hi])
    case h1 =>
      obtain ⟨i0, hinf, hz0, -, -⟩ := info_parts Tryz.infoSp
      have HI := Lib.hid (And.intro hinf hz0)
      clear hinf hz0
      refine wp_region_wb ((Below w1.heap.size w1)) (by kernel_rfl) (tame_drewN (Below.refl _ w1) 1) (fun _ _ _ _ _ h => nomatch h.1) ?_
      intro hS HZQ
      refine wa_k 0 15 (.pointer (some ⟨b, 0, none⟩)) hS HZQ (wa_k 1 16 (.pointer (some ⟨b, 0, none⟩)) hS HZQ (wa_k 2 17 (.pointer (some ⟨b, 0, none⟩)) hS HZQ (wa_v 3 18 (.slice (some ⟨g, 0, none⟩) m.live.length cap) hS HZQ (fun W hW => run_load1 48 (.tmp 17) (by kernel_rfl) ⟨b, 0, none⟩ (by kernel_rfl) (.slice (some ⟨g, 0, none⟩) m.live.length cap) ((S1.out.next hW).map.blk.cell 0) _ Tryz.underlying48 rfl) (wa_k 4 19 (.int .i64 ((i : Nat) : Int)) hS HZQ (wa_v 5 20 (.pointer (some ⟨g, i * 5, none⟩)) hS HZQ (fun W hW => run_eqv (run_idx 48 (.tmp 18) (.tmp 19) (by kernel_rfl) g 0 m.live.length cap i 54 5 (by kernel_rfl) (by kernel_rfl) (by omega) Tryz.underlying48 (by kernel_rfl)) (by rw [Nat.zero_add])) (wa_k 6 21 (.pointer (some ⟨g, i * 5 + 3, none⟩)) hS HZQ (wa_v 7 22 (.agg #[.string (shAt m.live i).lo, .string (shAt m.live i).hi]) hS HZQ (fun W hW => run_eqv (run_loadN 52 (.tmp 21) (by kernel_rfl) g (i * 5 + 3) (by kernel_rfl) [.string (shAt m.live i).lo, .string (shAt m.live i).hi] (row_span (own_row1 (S1.out.next hW).map.live) hi) _ Tryz.underlying52 rfl (by kernel_rfl)) rfl) ?_)))))))
      refine wa_k 8 23 (.pointer (some ⟨w.heap.size, 7, none⟩)) hS HZQ (wa_v 9 24 (.string e.key) hS HZQ (fun W hW => run_load1 9 (.tmp 23) (by kernel_rfl) ⟨w.heap.size, 7, none⟩ (by kernel_rfl) (.string e.key) ((S1.out.next hW).c7) _ Tryz.underlying9 rfl) ?_)
      refine wa_r [10, 15, 16] ?_
      refine (ar_a (some 25) (fun K hK => ?_) (ar_a (some 7) (fun K hK => ?_) (ar_a (some 8) (fun K hK => ?_) ar_nil)))
      ·
        refine ow_call 79 #[.agg #[.string (shAt m.live i).lo, .string (shAt m.live i).hi], .string e.key] (by kernel_rfl) (fun v w' => v = .tuple #[.agg #[.string (shAt m.live i).lo, .string e.key], .agg #[.string e.key, .string (shAt m.live i).hi], .nilIface] ∧ Below _ _ w') ((cut_ok ea (shAt m.live i).lo (shAt m.live i).hi e.key _ (map_ok S1.out.mp hi).1 (map_ok S1.out.mp hi).2 HK.out (S1.out.next hS).err HH.out HQ.out).mono fun e' w' h => ⟨_, h.1, rfl, h.2⟩) (Lib.hid ?_)
        rintro v wx ⟨rfl, hbx⟩
        refine hK.out _ _ (hS.trans (hbx.mono hS.size)) (fun hS => ?_)
        try have H7 := Lib.hid (H7.out.below hbx H7.out.lt)
        try have H8 := Lib.hid (H8.out.below hbx H8.out.lt)
        clear hK K hbx
        refine wa_k 11 14 (.tuple #[.agg #[.string (shAt m.live i).lo, .string e.key], .agg #[.string e.key, .string (shAt m.live i).hi], .nilIface]) hS HZQ (wa_k 12 26 (.agg #[.string (shAt m.live i).lo, .string e.key]) hS HZQ (wa_k 13 27 (.agg #[.string e.key, .string (shAt m.live i).hi]) hS HZQ (wa_k 14 28 (.nilIface) hS HZQ ?_)))
        refine wa_r [15, 16] ?_
        refine (ar_a (some 7) (fun K hK => ?_) (ar_a (some 8) (fun K hK => ?_) ar_nil))
        ·
          refine ow_alloc 52 (by kernel_rfl) i0 _ HI.out.1 HI.out.2 (Lib.hid ?_)
          intro g7 wx hg7 hz hbx
          refine hK.out _ _ (hS.trans (hbx.mono hS.size)) (fun hS' => ?_)
          have G7 := Lib.hid (show w1.heap.size ≤ g7 by rw [hg7]; exact hS.size)
          try have HNE := Lib.hid (show g8 ≠ g7 by rw [hg7]; exact Nat.ne_of_lt H8.out.lt)
          try have H8 := Lib.hid (H8.out.below hbx H8.out.lt)
          have H7 := Lib.hid hz
          clear hK K hbx hg7 hz
          have hS := hS'
          clear hS'
          refine wa_r [16] ?_
          refine ar_a (some 8) (fun K hK => ?_) ar_nil
          refine ow_alloc 52 (by kernel_rfl) i0 _ HI.out.1 HI.out.2 (Lib.hid ?_)
          intro g8 wx hg8 hz hbx
          refine hK.out _ _ (hS.trans (hbx.mono hS.size)) (fun hS' => ?_)
          have G8 := Lib.hid (show w1.heap.size ≤ g8 by rw [hg8]; exact hS.size)
          try have HNE := Lib.hid (show g8 ≠ g7 by rw [hg8]; exact Nat.ne_of_gt H7.out.lt)
          try have H7 := Lib.hid (H7.out.below hbx H7.out.lt)
          have H8 := Lib.hid hz
          clear hK K hbx hg8 hz
          have hS := hS'
          clear hS'
          refine wa_r [17] ?_
          refine ar_a none (fun K hK => ?_) ar_nil
          refine ow_store_blk 52 (.tmp 7) (.tmp 26) (by kernel_rfl) g7 #[.string (shAt m.live i).lo, .string e.key] (by kernel_rfl) (by kernel_rfl) 52 #[.string ⟨#[]⟩, .string ⟨#[]⟩] H7.out rfl (by kernel_rfl) (by kernel_rfl) (Lib.hid ?_)
          intro wx hz hox
          refine hK.out _ _ (hS.trans (hox.to_below hS.size (fun q hq e => by have := G7.out; omega))) (fun hS => ?_)
          have H7 := Lib.hid hz
          have H8 := Lib.hid (H8.out.only hox HNE.out)
          clear hK K hz hox
          refine wa_r [18] ?_
          refine ar_a none (fun K hK => ?_) ar_nil
          refine ow_store_blk 52 (.tmp 8) (.tmp 27) (by kernel_rfl) g8 #[.string e.key, .string (shAt m.live i).hi] (by kernel_rfl) (by kernel_rfl) 52 #[.string ⟨#[]⟩, .string ⟨#[]⟩] H8.out rfl (by kernel_rfl) (by kernel_rfl) (Lib.hid ?_)
          intro wx hz hox
          refine hK.out _ _ (hS.trans (hox.to_below hS.size (fun q hq e => by have := G8.out; omega))) (fun hS => ?_)
          have H8 := Lib.hid hz
          have H7 := Lib.hid (H7.out.only hox (fun e => HNE.out e.symm))
          clear hK K hz hox
          refine wa_k 19 9 (.nilIface) hS HZQ ?_
          refine wa_done (by kernel_rfl) ?_
          dsimp only [Exit.then, Act.put]
          simp only [List.setIfInBounds_toArray, List.set_cons_succ, List.set_cons_zero]
          refine ⟨by trivial, g7, g8, rfl, hS, G7.out, G8.out, H7.out, H8.out⟩
        ·
          refine ow_alloc 52 (by kernel_rfl) i0 _ HI.out.1 HI.out.2 (Lib.hid ?_)
          intro g8 wx hg8 hz hbx
          refine hK.out _ _ (hS.trans (hbx.mono hS.size)) (fun hS' => ?_)
          have G8 := Lib.hid (show w1.heap.size ≤ g8 by rw [hg8]; exact hS.size)
          try have HNE := Lib.hid (show g8 ≠ g7 by rw [hg8]; exact Nat.ne_of_gt H7.out.lt)
          try have H7 := Lib.hid (H7.out.below hbx H7.out.lt)
          have H8 := Lib.hid hz
          clear hK K hbx hg8 hz
          have hS := hS'
          clear hS'
          refine wa_r [15] ?_
          refine ar_a (some 7) (fun K hK => ?_) ar_nil
          refine ow_alloc 52 (by kernel_rfl) i0 _ HI.out.1 HI.out.2 (Lib.hid ?_)
          intro g7 wx hg7 hz hbx
          refine hK.out _ _ (hS.trans (hbx.mono hS.size)) (fun hS' => ?_)
          have G7 := Lib.hid (show w1.heap.size ≤ g7 by rw [hg7]; exact hS.size)
          try have HNE := Lib.hid (show g8 ≠ g7 by rw [hg7]; exact Nat.ne_of_lt H8.out.lt)
          try have H8 := Lib.hid (H8.out.below hbx H8.out.lt)
          have H7 := Lib.hid hz
          clear hK K hbx hg7 hz
          have hS := hS'
          clear hS'
          refine wa_r [17] ?_
          refine ar_a none (fun K hK => ?_) ar_nil
          refine ow_store_blk 52 (.tmp 7) (.tmp 26) (by kernel_rfl) g7 #[.string (shAt m.live i).lo, .string e.key] (by kernel_rfl) (by kernel_rfl) 52 #[.string ⟨#[]⟩, .string ⟨#[]⟩] H7.out rfl (by kernel_rfl) (by kernel_rfl) (Lib.hid ?_)
          intro wx hz hox
          refine hK.out _ _ (hS.trans (hox.to_below hS.size (fun q hq e => by have := G7.out; omega))) (fun hS => ?_)
          have H7 := Lib.hid hz
          have H8 := Lib.hid (H8.out.only hox HNE.out)
          clear hK K hz hox
          refine wa_r [18] ?_
          refine ar_a none (fun K hK => ?_) ar_nil
          refine ow_store_blk 52 (.tmp 8) (.tmp 27) (by kernel_rfl) g8 #[.string e.key, .string (shAt m.live i).hi] (by kernel_rfl) (by kernel_rfl) 52 #[.string ⟨#[]⟩, .string ⟨#[]⟩] H8.out rfl (by kernel_rfl) (by kernel_rfl) (Lib.hid ?_)
          intro wx hz hox
          refine hK.out _ _ (hS.trans (hox.to_below hS.size (fun q hq e => by have := G8.out; omega))) (fun hS => ?_)
          have H8 := Lib.hid hz
          have H7 := Lib.hid (H7.out.only hox (fun e => HNE.out e.symm))
          clear hK K hz hox
          refine wa_k 19 9 (.nilIface) hS HZQ ?_
          refine wa_done (by kernel_rfl) ?_
          dsimp only [Exit.then, Act.put]
          simp only [List.setIfInBounds_toArray, List.set_cons_succ, List.set_cons_zero]
          refine ⟨by trivial, g7, g8, rfl, hS, G7.out, G8.out, H7.out, H8.out⟩
      ·
        refine ow_alloc 52 (by kernel_rfl) i0 _ HI.out.1 HI.out.2 (Lib.hid ?_)
        intro g7 wx hg7 hz hbx
        refine hK.out _ _ (hS.trans (hbx.mono hS.size)) (fun hS' => ?_)
        have G7 := Lib.hid (show w1.heap.size ≤ g7 by rw [hg7]; exact hS.size)
        try have HNE := Lib.hid (show g8 ≠ g7 by rw [hg7]; exact Nat.ne_of_lt H8.out.lt)
        try have H8 := Lib.hid (H8.out.below hbx H8.out.lt)
        have H7 := Lib.hid hz
        clear hK K hbx hg7 hz
        have hS := hS'
        clear hS'
        refine wa_r [10, 16] ?_
        refine (ar_a (some 25) (fun K hK => ?_) (ar_a (some 8) (fun K hK => ?_) ar_nil))
        ·
          refine ow_call 79 #[.agg #[.string (shAt m.live i).lo, .string (shAt m.live i).hi], .string e.key] (by kernel_rfl) (fun v w' => v = .tuple #[.agg #[.string (shAt m.live i).lo, .string e.key], .agg #[.string e.key, .string (shAt m.live i).hi], .nilIface] ∧ Below _ _ w') ((cut_ok ea (shAt m.live i).lo (shAt m.live i).hi e.key _ (map_ok S1.out.mp hi).1 (map_ok S1.out.mp hi).2 HK.out (S1.out.next hS).err HH.out HQ.out).mono fun e' w' h => ⟨_, h.1, rfl, h.2⟩) (Lib.hid ?_)
          rintro v wx ⟨rfl, hbx⟩
          refine hK.out _ _ (hS.trans (hbx.mono hS.size)) (fun hS => ?_)
          try have H7 := Lib.hid (H7.out.below hbx H7.out.lt)
          try have H8 := Lib.hid (H8.out.below hbx H8.out.lt)
          clear hK K hbx
          refine wa_k 11 14 (.tuple #[.agg #[.string (shAt m.live i).lo, .string e.key], .agg #[.string e.key, .string (shAt m.live i).hi], .nilIface]) hS HZQ (wa_k 12 26 (.agg #[.string (shAt m.live i).lo, .string e.key]) hS HZQ (wa_k 13 27 (.agg #[.string e.key, .string (shAt m.live i).hi]) hS HZQ (wa_k 14 28 (.nilIface) hS HZQ ?_)))
          refine wa_r [16] ?_
          refine ar_a (some 8) (fun K hK => ?_) ar_nil
          refine ow_alloc 52 (by kernel_rfl) i0 _ HI.out.1 HI.out.2 (Lib.hid ?_)
          intro g8 wx hg8 hz hbx
          refine hK.out _ _ (hS.trans (hbx.mono hS.size)) (fun hS' => ?_)
          have G8 := Lib.hid (show w1.heap.size ≤ g8 by rw [hg8]; exact hS.size)
          try have HNE := Lib.hid (show g8 ≠ g7 by rw [hg8]; exact Nat.ne_of_gt H7.out.lt)
          try have H7 := Lib.hid (H7.out.below hbx H7.out.lt)
          have H8 := Lib.hid hz
          clear hK K hbx hg8 hz
          have hS := hS'
          clear hS'
          refine wa_r [17] ?_
          refine ar_a none (fun K hK => ?_) ar_nil
          refine ow_store_blk 52 (.tmp 7) (.tmp 26) (by kernel_rfl) g7 #[.string (shAt m.live i).lo, .string e.key] (by kernel_rfl) (by kernel_rfl) 52 #[.string ⟨#[]⟩, .string ⟨#[]⟩] H7.out rfl (by kernel_rfl) (by kernel_rfl) (Lib.hid ?_)
          intro wx hz hox
          refine hK.out _ _ (hS.trans (hox.to_below hS.size (fun q hq e => by have := G7.out; omega))) (fun hS => ?_)
          have H7 := Lib.hid hz
          have H8 := Lib.hid (H8.out.only hox HNE.out)
          clear hK K hz hox
          refine wa_r [18] ?_
          refine ar_a none (fun K hK => ?_) ar_nil
          refine ow_store_blk 52 (.tmp 8) (.tmp 27) (by kernel_rfl) g8 #[.string e.key, .string (shAt m.live i).hi] (by kernel_rfl) (by kernel_rfl) 52 #[.string ⟨#[]⟩, .string ⟨#[]⟩] H8.out rfl (by kernel_rfl) (by kernel_rfl) (Lib.hid ?_)
          intro wx hz hox
          refine hK.out _ _ (hS.trans (hox.to_below hS.size (fun q hq e => by have := G8.out; omega))) (fun hS => ?_)
          have H8 := Lib.hid hz
          have H7 := Lib.hid (H7.out.only hox (fun e => HNE.out e.symm))
          clear hK K hz hox
          refine wa_k 19 9 (.nilIface) hS HZQ ?_
          refine wa_done (by kernel_rfl) ?_
          dsimp only [Exit.then, Act.put]
          simp only [List.setIfInBounds_toArray, List.set_cons_succ, List.set_cons_zero]
          refine ⟨by trivial, g7, g8, rfl, hS, G7.out, G8.out, H7.out, H8.out⟩
        ·
          refine ow_alloc 52 (by kernel_rfl) i0 _ HI.out.1 HI.out.2 (Lib.hid ?_)
          intro g8 wx hg8 hz hbx
          refine hK.out _ _ (hS.trans (hbx.mono hS.size)) (fun hS' => ?_)
          have G8 := Lib.hid (show w1.heap.size ≤ g8 by rw [hg8]; exact hS.size)
          try have HNE := Lib.hid (show g8 ≠ g7 by rw [hg8]; exact Nat.ne_of_gt H7.out.lt)
          try have H7 := Lib.hid (H7.out.below hbx H7.out.lt)
          have H8 := Lib.hid hz
          clear hK K hbx hg8 hz
          have hS := hS'
          clear hS'
          refine wa_r [10] ?_
          refine ar_a (some 25) (fun K hK => ?_) ar_nil
          refine ow_call 79 #[.agg #[.string (shAt m.live i).lo, .string (shAt m.live i).hi], .string e.key] (by kernel_rfl) (fun v w' => v = .tuple #[.agg #[.string (shAt m.live i).lo, .string e.key], .agg #[.string e.key, .string (shAt m.live i).hi], .nilIface] ∧ Below _ _ w') ((cut_ok ea (shAt m.live i).lo (shAt m.live i).hi e.key _ (map_ok S1.out.mp hi).1 (map_ok S1.out.mp hi).2 HK.out (S1.out.next hS).err HH.out HQ.out).mono fun e' w' h => ⟨_, h.1, rfl, h.2⟩) (Lib.hid ?_)
          rintro v wx ⟨rfl, hbx⟩
          refine hK.out _ _ (hS.trans (hbx.mono hS.size)) (fun hS => ?_)
          try have H7 := Lib.hid (H7.out.below hbx H7.out.lt)
          try have H8 := Lib.hid (H8.out.below hbx H8.out.lt)
          clear hK K hbx
          refine wa_k 11 14 (.tuple #[.agg #[.string (shAt m.live i).lo, .string e.key], .agg #[.string e.key, .string (shAt m.live i).hi], .nilIface]) hS HZQ (wa_k 12 26 (.agg #[.string (shAt m.live i).lo, .string e.key]) hS HZQ (wa_k 13 27 (.agg #[.string e.key, .string (shAt m.live i).hi]) hS HZQ (wa_k 14 28 (.nilIface) hS HZQ ?_)))
          refine wa_r [17] ?_
          refine ar_a none (fun K hK => ?_) ar_nil
          refine ow_store_blk 52 (.tmp 7) (.tmp 26) (by kernel_rfl) g7 #[.string (shAt m.live i).lo, .string e.key] (by kernel_rfl) (by kernel_rfl) 52 #[.string ⟨#[]⟩, .string ⟨#[]⟩] H7.out rfl (by kernel_rfl) (by kernel_rfl) (Lib.hid ?_)
          intro wx hz hox
          refine hK.out _ _ (hS.trans (hox.to_below hS.size (fun q hq e => by have := G7.out; omega))) (fun hS => ?_)
          have H7 := Lib.hid hz
          have H8 := Lib.hid (H8.out.only hox HNE.out)
          clear hK K hz hox
          refine wa_r [18] ?_
          refine ar_a none (fun K hK => ?_) ar_nil
          refine ow_store_blk 52 (.tmp 8) (.tmp 27) (by kernel_rfl) g8 #[.string e.key, .string (shAt m.live i).hi] (by kernel_rfl) (by kernel_rfl) 52 #[.string ⟨#[]⟩, .string ⟨#[]⟩] H8.out rfl (by kernel_rfl) (by kernel_rfl) (Lib.hid ?_)
          intro wx hz hox
          refine hK.out _ _ (hS.trans (hox.to_below hS.size (fun q hq e => by have := G8.out; omega))) (fun hS => ?_)
          have H8 := Lib.hid hz
          have H7 := Lib.hid (H7.out.only hox (fun e => HNE.out e.symm))
          clear hK K hz hox
          refine wa_k 19 9 (.nilIface) hS HZQ ?_
          refine wa_done (by kernel_rfl) ?_
          dsimp only [Exit.then, Act.put]
          simp only [List.setIfInBounds_toArray, List.set_cons_succ, List.set_cons_zero]
          refine ⟨by trivial, g7, g8, rfl, hS, G7.out, G8.out, H7.out, H8.out⟩
      ·
        refine ow_alloc 52 (by kernel_rfl) i0 _ HI.out.1 HI.out.2 (Lib.hid ?_)
        intro g8 wx hg8 hz hbx
        refine hK.out _ _ (hS.trans (hbx.mono hS.size)) (fun hS' => ?_)
        have G8 := Lib.hid (show w1.heap.size ≤ g8 by rw [hg8]; exact hS.size)
        try have HNE := Lib.hid (show g8 ≠ g7 by rw [hg8]; exact Nat.ne_of_gt H7.out.lt)
        try have H7 := Lib.hid (H7.out.below hbx H7.out.lt)
        have H8 := Lib.hid hz
        clear hK K hbx hg8 hz
        have hS := hS'
        clear hS'
        refine wa_r [10, 15] ?_
        refine (ar_a (some 25) (fun K hK => ?_) (ar_a (some 7) (fun K hK => ?_) ar_nil))
        ·
          refine ow_call 79 #[.agg #[.string (shAt m.live i).lo, .string (shAt m.live i).hi], .string e.key] (by kernel_rfl) (fun v w' => v = .tuple #[.agg #[.string (shAt m.live i).lo, .string e.key], .agg #[.string e.key, .string (shAt m.live i).hi], .nilIface] ∧ Below _ _ w') ((cut_ok ea (shAt m.live i).lo (shAt m.live i).hi e.key _ (map_ok S1.out.mp hi).1 (map_ok S1.out.mp hi).2 HK.out (S1.out.next hS).err HH.out HQ.out).mono fun e' w' h => ⟨_, h.1, rfl, h.2⟩) (Lib.hid ?_)
          rintro v wx ⟨rfl, hbx⟩
          refine hK.out _ _ (hS.trans (hbx.mono hS.size)) (fun hS => ?_)
          try have H7 := Lib.hid (H7.out.below hbx H7.out.lt)
          try have H8 := Lib.hid (H8.out.below hbx H8.out.lt)
          clear hK K hbx
          refine wa_k 11 14 (.tuple #[.agg #[.string (shAt m.live i).lo, .string e.key], .agg #[.string e.key, .string (shAt m.live i).hi], .nilIface]) hS HZQ (wa_k 12 26 (.agg #[.string (shAt m.live i).lo, .string e.key]) hS HZQ (wa_k 13 27 (.agg #[.string e.key, .string (shAt m.live i).hi]) hS HZQ (wa_k 14 28 (.nilIface) hS HZQ ?_)))
          refine wa_r [15] ?_
          refine ar_a (some 7) (fun K hK => ?_) ar_nil
          refine ow_alloc 52 (by kernel_rfl) i0 _ HI.out.1 HI.out.2 (Lib.hid ?_)
          intro g7 wx hg7 hz hbx
          refine hK.out _ _ (hS.trans (hbx.mono hS.size)) (fun hS' => ?_)
          have G7 := Lib.hid (show w1.heap.size ≤ g7 by rw [hg7]; exact hS.size)
          try have HNE := Lib.hid (show g8 ≠ g7 by rw [hg7]; exact Nat.ne_of_lt H8.out.lt)
          try have H8 := Lib.hid (H8.out.below hbx H8.out.lt)
          have H7 := Lib.hid hz
          clear hK K hbx hg7 hz
          have hS := hS'
          clear hS'
          refine wa_r [17] ?_
          refine ar_a none (fun K hK => ?_) ar_nil
          refine ow_store_blk 52 (.tmp 7) (.tmp 26) (by kernel_rfl) g7 #[.string (shAt m.live i).lo, .string e.key] (by kernel_rfl) (by kernel_rfl) 52 #[.string ⟨#[]⟩, .string ⟨#[]⟩] H7.out rfl (by kernel_rfl) (by kernel_rfl) (Lib.hid ?_)
          intro wx hz hox
          refine hK.out _ _ (hS.trans (hox.to_below hS.size (fun q hq e => by have := G7.out; omega))) (fun hS => ?_)
          have H7 := Lib.hid hz
          have H8 := Lib.hid (H8.out.only hox HNE.out)
          clear hK K hz hox
          refine wa_r [18] ?_
          refine ar_a none (fun K hK => ?_) ar_nil
          refine ow_store_blk 52 (.tmp 8) (.tmp 27) (by kernel_rfl) g8 #[.string e.key, .string (shAt m.live i).hi] (by kernel_rfl) (by kernel_rfl) 52 #[.string ⟨#[]⟩, .string ⟨#[]⟩] H8.out rfl (by kernel_rfl) (by kernel_rfl) (Lib.hid ?_)
          intro wx hz hox
          refine hK.out _ _ (hS.trans (hox.to_below hS.size (fun q hq e => by have := G8.out; omega))) (fun hS => ?_)
          have H8 := Lib.hid hz
          have H7 := Lib.hid (H7.out.only hox (fun e => HNE.out e.symm))
          clear hK K hz hox
          refine wa_k 19 9 (.nilIface) hS HZQ ?_
          refine wa_done (by kernel_rfl) ?_
          dsimp only [Exit.then, Act.put]
          simp only [List.setIfInBounds_toArray, List.set_cons_succ, List.set_cons_zero]
          refine ⟨by trivial, g7, g8, rfl, hS, G7.out, G8.out, H7.out, H8.out⟩
        ·
          refine ow_alloc 52 (by kernel_rfl) i0 _ HI.out.1 HI.out.2 (Lib.hid ?_)
          intro g7 wx hg7 hz hbx
          refine hK.out _ _ (hS.trans (hbx.mono hS.size)) (fun hS' => ?_)
          have G7 := Lib.hid (show w1.heap.size ≤ g7 by rw [hg7]; exact hS.size)
          try have HNE := Lib.hid (show g8 ≠ g7 by rw [hg7]; exact Nat.ne_of_lt H8.out.lt)
          try have H8 := Lib.hid (H8.out.below hbx H8.out.lt)
          have H7 := Lib.hid hz
          clear hK K hbx hg7 hz
          have hS := hS'
          clear hS'
          refine wa_r [10] ?_
          refine ar_a (some 25) (fun K hK => ?_) ar_nil
          refine ow_call 79 #[.agg #[.string (shAt m.live i).lo, .string (shAt m.live i).hi], .string e.key] (by kernel_rfl) (fun v w' => v = .tuple #[.agg #[.string (shAt m.live i).lo, .string e.key], .agg #[.string e.key, .string (shAt m.live i).hi], .nilIface] ∧ Below _ _ w') ((cut_ok ea (shAt m.live i).lo (shAt m.live i).hi e.key _ (map_ok S1.out.mp hi).1 (map_ok S1.out.mp hi).2 HK.out (S1.out.next hS).err HH.out HQ.out).mono fun e' w' h => ⟨_, h.1, rfl, h.2⟩) (Lib.hid ?_)
          rintro v wx ⟨rfl, hbx⟩
          refine hK.out _ _ (hS.trans (hbx.mono hS.size)) (fun hS => ?_)
          try have H7 := Lib.hid (H7.out.below hbx H7.out.lt)
          try have H8 := Lib.hid (H8.out.below hbx H8.out.lt)
          clear hK K hbx
          refine wa_k 11 14 (.tuple #[.agg #[.string (shAt m.live i).lo, .string e.key], .agg #[.string e.key, .string (shAt m.live i).hi], .nilIface]) hS HZQ (wa_k 12 26 (.agg #[.string (shAt m.live i).lo, .string e.key]) hS HZQ (wa_k 13 27 (.agg #[.string e.key, .string (shAt m.live i).hi]) hS HZQ (wa_k 14 28 (.nilIface) hS HZQ ?_)))
          refine wa_r [17] ?_
          refine ar_a none (fun K hK => ?_) ar_nil
          refine ow_store_blk 52 (.tmp 7) (.tmp 26) (by kernel_rfl) g7 #[.string (shAt m.live i).lo, .string e.key] (by kernel_rfl) (by kernel_rfl) 52 #[.string ⟨#[]⟩, .string ⟨#[]⟩] H7.out rfl (by kernel_rfl) (by kernel_rfl) (Lib.hid ?_)
          intro wx hz hox
          refine hK.out _ _ (hS.trans (hox.to_below hS.size (fun q hq e => by have := G7.out; omega))) (fun hS => ?_)
          have H7 := Lib.hid hz
          have H8 := Lib.hid (H8.out.only hox HNE.out)
          clear hK K hz hox
          refine wa_r [18] ?_
          refine ar_a none (fun K hK => ?_) ar_nil
          refine ow_store_blk 52 (.tmp 8) (.tmp 27) (by kernel_rfl) g8 #[.string e.key, .string (shAt m.live i).hi] (by kernel_rfl) (by kernel_rfl) 52 #[.string ⟨#[]⟩, .string ⟨#[]⟩] H8.out rfl (by kernel_rfl) (by kernel_rfl) (Lib.hid ?_)
          intro wx hz hox
          refine hK.out _ _ (hS.trans (hox.to_below hS.size (fun q hq e => by have := G8.out; omega))) (fun hS => ?_)
          have H8 := Lib.hid hz
          have H7 := Lib.hid (H7.out.only hox (fun e => HNE.out e.symm))
          clear hK K hz hox
          refine wa_k 19 9 (.nilIface) hS HZQ ?_
          refine wa_done (by kernel_rfl) ?_
          dsimp only [Exit.then, Act.put]
          simp only [List.setIfInBounds_toArray, List.set_cons_succ, List.set_cons_zero]
          refine ⟨by trivial, g7, g8, rfl, hS, G7.out, G8.out, H7.out, H8.out⟩
    case h2 =>
      rintro g7 g8 w2 ⟨hb2, G7, G8, H7, H8⟩
      have S2 := Lib.hid (S1.out.next hb2)
      have HB2 := Lib.hid (S2.out.map.blk)
      have HBX2 := Lib.hid (S2.out.box)
      have HR2 := Lib.hid ((HGK.out.below (S2.out.bel) HGK.out.lt))
      have HBG := Lib.hid (show b ≠ g from fun e => by
        have h1 := HB2.out
        have h2 := HR2.out
        unfold Blk at h1 h2
        rw [e, h2] at h1
        simp at h1)
      have HXG := Lib.hid (show w.heap.size ≠ g from Nat.ne_of_gt HGK.out.lt)
      have HXB := Lib.hid (show w.heap.size ≠ b from Nat.ne_of_gt HM.out.blk.lt)
      have HG7 := Lib.hid (show g7 ≠ g ∧ g8 ≠ g ∧ g8 ≠ b by
        have h1 := HGK.out.lt
        have h2 := S1.out.bel.size
        have h3 := HM.out.blk.lt
        omega)
      have H7 := Lib.hid H7
      have H8 := Lib.hid H8
      have hg := And.intro G7 G8
      clear hb2 G7 G8 hg
      have HF1 : Hid (i * 5 + 3 + 2 ≤ cur.length) := Lib.hid (by have := HGL.out; omega)
      have HF2 : Hid (i * 5 + 2 + 1 ≤ (splice cur (i * 5 + 3) [.string (shAt m.live i).lo, .string e.key]).length) := Lib.hid (by rw [length_splice _ _ _ (by simpa using HF1.out)]; have := HF1.out; omega)
      go_wp2_with fail
      refine wp_region_wb ((Only (fun k => k = g) w2)) (by kernel_rfl) (((Only.refl (fun k => k = g) w2).drewN 1)) (fun _ _ _ _ _ h => h) ?_
      intro hS HZQ
      refine wa_k 0 31 (.pointer (some ⟨b, 0, none⟩)) hS HZQ (wa_k 1 32 (.pointer (some ⟨b, 0, none⟩)) hS HZQ (wa_k 2 33 (.pointer (some ⟨b, 0, none⟩)) hS HZQ (wa_v 3 34 (.slice (some ⟨g, 0, none⟩) m.live.length cap) hS HZQ (fun W hW => run_load1 48 (.tmp 33) (by kernel_rfl) ⟨b, 0, none⟩ (by kernel_rfl) (.slice (some ⟨g, 0, none⟩) m.live.length cap) ((HB2.out.only hW HBG.out).cell 0) _ Tryz.underlying48 rfl) (wa_k 4 35 (.int .i64 ((i : Nat) : Int)) hS HZQ (wa_k 5 36 (.pointer (some ⟨b, 0, none⟩)) hS HZQ (wa_k 6 37 (.pointer (some ⟨b, 0, none⟩)) hS HZQ (wa_k 7 38 (.pointer (some ⟨b, 0, none⟩)) hS HZQ ?_)))))))
      refine wa_v 8 39 (.slice (some ⟨g, 0, none⟩) m.live.length cap) hS HZQ (fun W hW => run_load1 48 (.tmp 38) (by kernel_rfl) ⟨b, 0, none⟩ (by kernel_rfl) (.slice (some ⟨g, 0, none⟩) m.live.length cap) ((HB2.out.only hW HBG.out).cell 0) _ Tryz.underlying48 rfl) (wa_k 9 40 (.int .i64 ((i : Nat) : Int)) hS HZQ (wa_v 10 41 (.agg #[.string (shAt m.live i).lo, .string e.key]) hS HZQ (fun W hW => run_eqv (run_loadN 52 (.tmp 7) (by kernel_rfl) g7 0 (by kernel_rfl) [.string (shAt m.live i).lo, .string e.key] ((H7.out.only hW HG7.out.1).range (fun j v hj => by simpa using hj)) _ Tryz.underlying52 rfl (by kernel_rfl)) rfl) (wa_k 11 42 (.int .i64 ((t : Nat) : Int)) hS HZQ (wa_v 12 43 (.int .i64 ((t + 1 : Nat) : Int)) hS HZQ (fun W hW => run_eqv (v := .int .i64 (IntKind.i64.wrap ((t : Int) + 1))) (by kernel_rfl) (wrap_nat _ _ (by omega) (by omega))) (wa_v 13 44 (.pointer (some ⟨g, i * 5, none⟩)) hS HZQ (fun W hW => run_eqv (run_idx 48 (.tmp 34) (.tmp 35) (by kernel_rfl) g 0 m.live.length cap i 54 5 (by kernel_rfl) (by kernel_rfl) (by omega) Tryz.underlying48 (by kernel_rfl)) (by rw [Nat.zero_add])) (wa_k 14 45 (.pointer (some ⟨g, i * 5 + 3, none⟩)) hS HZQ ?_))))))
      refine wa_r [15] ?_
      refine ar_a none (fun K hK => ?_) ar_nil
      refine ow_storeN 52 (.tmp 45) (.tmp 41) (by kernel_rfl) g (i * 5 + 3) (.agg #[.string (shAt m.live i).lo, .string e.key]) [.string (shAt m.live i).lo, .string e.key] (by kernel_rfl) (by kernel_rfl) rfl cur 54 (HR2.out.drewN 1) HF1.out (by kernel_rfl) (by intro u hu; simp at hu; rcases hu with rfl | rfl <;> rfl) (Lib.hid ?_)
      intro wx hz hox
      refine hK.out _ _ (hS.trans hox) (fun hS => ?_)
      have HR3 := Lib.hid hz
      clear hK K hz hox HR2
      refine wa_v 16 46 (.pointer (some ⟨g, i * 5, none⟩)) hS HZQ (fun W hW => run_eqv (run_idx 48 (.tmp 39) (.tmp 40) (by kernel_rfl) g 0 m.live.length cap i 54 5 (by kernel_rfl) (by kernel_rfl) (by omega) Tryz.underlying48 (by kernel_rfl)) (by rw [Nat.zero_add])) (wa_k 17 47 (.pointer (some ⟨g, i * 5 + 2, none⟩)) hS HZQ ?_)
      refine wa_r [18] ?_
      refine ar_a none (fun K hK => ?_) ar_nil
      refine ow_storeN 3 (.tmp 47) (.tmp 43) (by kernel_rfl) g (i * 5 + 2) (.int .i64 ((t + 1 : Nat) : Int)) [.int .i64 ((t + 1 : Nat) : Int)] (by kernel_rfl) (by kernel_rfl) rfl (splice cur (i * 5 + 3) [.string (shAt m.live i).lo, .string e.key]) 54 HR3.out HF2.out (by kernel_rfl) (by intro u hu; simp at hu; subst hu; rfl) (Lib.hid ?_)
      intro w4 hz hox
      refine hK.out _ _ (hS.trans hox) (fun hS => ?_)
      have HR4 := Lib.hid hz
      clear hK K hz hox HR3
      refine wa_done (by kernel_rfl) ?_
      dsimp only [Exit.then, Act.put]
      simp only [List.setIfInBounds_toArray, List.set_cons_succ, List.set_cons_zero]
      have O4 := Lib.hid hS
      have HROW := Lib.hid (own_blk (n := m.live.length) (cap := cap) (xs := shRow (m.live.set i ((shAt m.live i).turned (shAt m.live i).lo e.key ((t + 1 : Nat) : Int)))) (sz := 5) HR4.out hgB (by rw [shRow_len, List.length_set]) hgc HGM.out (by rw [length_splice _ _ _ (by simpa using HF2.out), length_splice _ _ _ (by simpa using HF1.out), HGL.out]) (row_turn cur m.live i (shAt m.live i).lo e.key ((t + 1 : Nat) : Int) hi HGT.out (by have := HGL.out; omega)))
      have HB4 := Lib.hid (HB2.out.only O4.out HBG.out)
      have HBX4 := Lib.hid (HBX2.out.only O4.out HXG.out)
      have H84 := Lib.hid (H8.out.only O4.out HG7.out.2.1)
      have HGS := Lib.hid (show g < w4.heap.size from HR4.out.lt)
      have HLL : Hid ((m.live.set i ((shAt m.live i).turned (shAt m.live i).lo e.key ((t + 1 : Nat) : Int))).length = m.live.length) := Lib.hid (List.length_set ..)
      have HBS : Hid (B ≤ w4.heap.size) := Lib.hid (by have h1 := S2.out.bel.size; have h2 := O4.out.size; omega)
      generalize hl1 : m.live.set i ((shAt m.live i).turned (shAt m.live i).lo e.key ((t + 1 : Nat) : Int)) = l1 at *
      have HL1 := Lib.hid hl1
      clear hl1 hS HR4 HB2 HBX2 H7 H8
      rw [← HLL.out] at HROW
      go_wp2_with fail
      apply merge3 (F := fun gn cn _ w' => Only (fun k => k = g ∨ k = b) w4 w' ∧ Blk w' b 100 (pmC (.slice (some ⟨gn, 0, none⟩) (l1.length + 1) cn) m.used ve) ∧ w'.ownsRow B 54 5 (.slice (some ⟨gn, 0, none⟩) (l1.length + 1) cn) (l1.length + 1) (shRow (l1.take (i + 1) ++ (⟨e.other, e.server, ((t + 1 : Nat) : Int), e.key, (shAt m.live i).hi⟩ : Sh) :: l1.drop (i + 1))))
      case h1 =>
        have HLN := Lib.hid hln
        refine wp_region_wb ((Only (fun k => k = g ∨ k = b) w4)) (by kernel_rfl) (((Only.refl (fun k => k = g ∨ k = b) w4).drewN 1)) (fun _ _ _ _ _ h => nomatch h.1) ?_
        intro hS HZQ
        refine wa_k 0 48 (.pointer (some ⟨b, 0, none⟩)) hS HZQ (wa_k 1 49 (.pointer (some ⟨b, 0, none⟩)) hS HZQ (wa_k 2 50 (.pointer (some ⟨b, 0, none⟩)) hS HZQ (wa_k 3 51 (.pointer (some ⟨b, 0, none⟩)) hS HZQ (wa_k 5 53 (.int .i64 ((i : Nat) : Int)) hS HZQ (wa_v 6 54 (.int .i64 ((i + 1 : Nat) : Int)) hS HZQ (fun W hW => run_eqv (v := .int .i64 (IntKind.i64.wrap ((i : Int) + 1))) (by kernel_rfl) (wrap_nat _ _ (by omega) (by omega))) (wa_k 7 55 (.pointer (some ⟨w.heap.size, 2, none⟩)) hS HZQ (wa_v 8 56 (.int .i64 e.other) hS HZQ (fun W hW => run_load1 3 (.tmp 55) (by kernel_rfl) ⟨w.heap.size, 2, none⟩ (by kernel_rfl) (.int .i64 e.other) ((HBX4.out.only hW (by have h1 := HXG.out; have h2 := HXB.out; omega)).cell 2) _ Tryz.underlying3 rfl) ?_)))))))
        refine wa_k 9 57 (.pointer (some ⟨w.heap.size, 3, none⟩)) hS HZQ (wa_v 10 58 (.int .i64 e.server) hS HZQ (fun W hW => run_load1 3 (.tmp 57) (by kernel_rfl) ⟨w.heap.size, 3, none⟩ (by kernel_rfl) (.int .i64 e.server) ((HBX4.out.only hW (by have h1 := HXG.out; have h2 := HXB.out; omega)).cell 3) _ Tryz.underlying3 rfl) (wa_k 11 59 (.int .i64 ((t : Nat) : Int)) hS HZQ (wa_v 12 60 (.int .i64 ((t + 1 : Nat) : Int)) hS HZQ (fun W hW => run_eqv (v := .int .i64 (IntKind.i64.wrap ((t : Int) + 1))) (by kernel_rfl) (wrap_nat _ _ (by omega) (by omega))) (wa_v 13 61 (.agg #[.string e.key, .string (shAt m.live i).hi]) hS HZQ (fun W hW => run_eqv (run_loadN 52 (.tmp 8) (by kernel_rfl) g8 0 (by kernel_rfl) [.string e.key, .string (shAt m.live i).hi] ((H84.out.only hW (by have := HG7.out; omega)).range (fun j v hj => by simpa using hj)) _ Tryz.underlying52 rfl (by kernel_rfl)) rfl) (wa_k 14 62 (.agg #[.int .i64 e.other, .int .i64 e.server, .int .i64 ((t + 1 : Nat) : Int), .string e.key, .string (shAt m.live i).hi]) hS HZQ ?_)))))
        refine wa_r [4, 15] ?_
        refine (ar_a (some 52) (fun K hK => ?_) (ar_a (some 63) (fun K hK => ?_) ar_nil))
        ·
          refine ow_val (.slice (some ⟨g, 0, none⟩) m.live.length cap) _ (run_load1 48 (.tmp 51) (by kernel_rfl) ⟨b, 0, none⟩ (by kernel_rfl) (.slice (some ⟨g, 0, none⟩) m.live.length cap) (by first | exact HBX.out.cell 0 | exact (HB4.out.drewN 1).cell 0) _ Tryz.underlying48 rfl) ?_
          refine hK.out _ _ hS (fun hS => ?_)
          clear hK K
          refine wa_r [15] ?_
          refine ar_a (some 63) (fun K hK => ?_) ar_nil
          refine ow_one 54 #[.int .i64 e.other, .int .i64 e.server, .int .i64 ((t + 1 : Nat) : Int), .string e.key, .string (shAt m.live i).hi] (by kernel_rfl) (Lib.hid ?_)
          intro hx wx hh hz hbx
          refine hK.out _ _ (hS.fresh hbx) (fun hS' => ?_)
          have HNX := Lib.hid hz
          have HBX := Lib.hid ((HB4.out.drewN 1).below hbx (HB4.out.drewN 1).lt)
          have HRX := Lib.hid (own_below (show World.ownsRow w4.drew B _ 5 _ _ _ from HROW.out) hbx)
          have HXL := Lib.hid (show w4.heap.size ≤ hx by rw [hh]; exact hS.size)
          clear hK K hz hbx hh
          have hS := hS'
          clear hS'
          refine wa_r [16] ?_
          refine ar_a (some 64) (fun K hK => ?_) ar_nil
          have HIN := Lib.hid (insert_any l1 ⟨e.other, e.server, ((t + 1 : Nat) : Int), e.key, (shAt m.live i).hi⟩ (i + 1) hx B (.slice (some ⟨g, 0, none⟩) m.live.length cap) _ (by have := HRX.out; rwa [HLL.out] at this ⊢) (by have := HLL.out; omega) (by have := HLL.out; omega) (by have := HLL.out; have := HLN.out; omega) HNX.out (by have h1 := HXL.out; have h2 := HGS.out; simp [Value.ownBlock]; omega) (Nat.le_trans HBS.out hS.size))
          refine ow_call 80 #[.slice (some ⟨g, 0, none⟩) m.live.length cap, .int .i64 ((i + 1 : Nat) : Int), .slice (some ⟨hx, 0, none⟩) 1 1] (by kernel_rfl) (fun v w' => w'.ownsRow B 54 5 v (l1.length + 1) (shRow (l1.take (i + 1) ++ (⟨e.other, e.server, ((t + 1 : Nat) : Int), e.key, (shAt m.live i).hi⟩ : Sh) :: l1.drop (i + 1))) ∧ Only (fun k => k = g) _ w') (HIN.out.mono fun e' w' h => by obtain ⟨v', h1, h2, h3⟩ := h; exact ⟨v', h1, h2, h3.mono (fun k hk => by simpa [Value.ownBlock, eq_comm] using hk)⟩) (Lib.hid ?_)
          rintro vn wx ⟨h1, h2⟩
          refine hK.out _ _ (hS.trans (h2.mono (fun k hk => .inl hk))) (fun hS' => ?_)
          obtain ⟨gn, cn, rfl, -, -, -, -⟩ := own_some h1 (by omega)
          have HRN := Lib.hid h1
          have HBN := Lib.hid (HBX.out.only h2 HBG.out)
          clear hK K h1 h2 hS HIN HBX HRX
          have hS := hS'
          clear hS'
          refine wa_k 17 65 (.pointer (some ⟨b, 0, none⟩)) hS HZQ (wa_k 18 66 (.pointer (some ⟨b, 0, none⟩)) hS HZQ ?_)
          refine wa_r [19] ?_
          refine ar_a none (fun K hK => ?_) ar_nil
          refine ow_storeN 48 (.tmp 66) (.tmp 64) (by kernel_rfl) b 0 (.slice (some ⟨gn, 0, none⟩) (l1.length + 1) cn) [.slice (some ⟨gn, 0, none⟩) (l1.length + 1) cn] (by kernel_rfl) (by kernel_rfl) rfl (pmC (.slice (some ⟨g, 0, none⟩) m.live.length cap) m.used ve).toList 100 HBN.out (by simp [pmC]) (by kernel_rfl) (by intro u hu; simp at hu; subst hu; rfl) (Lib.hid ?_)
          intro w5 hz hox
          refine hK.out _ _ (hS.trans (hox.mono (fun k hk => .inr hk))) (fun hS' => ?_)
          have HB5 := Lib.hid hz
          have HR5 := Lib.hid (own_only HRN.out hox (fun q hq e => own_ne_blk HRN.out HBN.out (by decide) (by rw [hq, e])))
          clear hK K hz hox hS HBN HRN
          have hS := hS'
          clear hS'
          refine wa_done (by kernel_rfl) ?_
          dsimp only [Exit.then, Act.put]
          simp only [List.setIfInBounds_toArray, List.set_cons_succ, List.set_cons_zero]
          refine ⟨by trivial, gn, cn, hx, rfl, hS, HB5.out, HR5.out⟩
        ·
          refine ow_one 54 #[.int .i64 e.other, .int .i64 e.server, .int .i64 ((t + 1 : Nat) : Int), .string e.key, .string (shAt m.live i).hi] (by kernel_rfl) (Lib.hid ?_)
          intro hx wx hh hz hbx
          refine hK.out _ _ (hS.fresh hbx) (fun hS' => ?_)
          have HNX := Lib.hid hz
          have HBX := Lib.hid ((HB4.out.drewN 1).below hbx (HB4.out.drewN 1).lt)
          have HRX := Lib.hid (own_below (show World.ownsRow w4.drew B _ 5 _ _ _ from HROW.out) hbx)
          have HXL := Lib.hid (show w4.heap.size ≤ hx by rw [hh]; exact hS.size)
          clear hK K hz hbx hh
          have hS := hS'
          clear hS'
          refine wa_r [4] ?_
          refine ar_a (some 52) (fun K hK => ?_) ar_nil
          refine ow_val (.slice (some ⟨g, 0, none⟩) m.live.length cap) _ (run_load1 48 (.tmp 51) (by kernel_rfl) ⟨b, 0, none⟩ (by kernel_rfl) (.slice (some ⟨g, 0, none⟩) m.live.length cap) (by first | exact HBX.out.cell 0 | exact (HB4.out.drewN 1).cell 0) _ Tryz.underlying48 rfl) ?_
          refine hK.out _ _ hS (fun hS => ?_)
          clear hK K
          refine wa_r [16] ?_
          refine ar_a (some 64) (fun K hK => ?_) ar_nil
          have HIN := Lib.hid (insert_any l1 ⟨e.other, e.server, ((t + 1 : Nat) : Int), e.key, (shAt m.live i).hi⟩ (i + 1) hx B (.slice (some ⟨g, 0, none⟩) m.live.length cap) _ (by have := HRX.out; rwa [HLL.out] at this ⊢) (by have := HLL.out; omega) (by have := HLL.out; omega) (by have := HLL.out; have := HLN.out; omega) HNX.out (by have h1 := HXL.out; have h2 := HGS.out; simp [Value.ownBlock]; omega) (Nat.le_trans HBS.out hS.size))
          refine ow_call 80 #[.slice (some ⟨g, 0, none⟩) m.live.length cap, .int .i64 ((i + 1 : Nat) : Int), .slice (some ⟨hx, 0, none⟩) 1 1] (by kernel_rfl) (fun v w' => w'.ownsRow B 54 5 v (l1.length + 1) (shRow (l1.take (i + 1) ++ (⟨e.other, e.server, ((t + 1 : Nat) : Int), e.key, (shAt m.live i).hi⟩ : Sh) :: l1.drop (i + 1))) ∧ Only (fun k => k = g) _ w') (HIN.out.mono fun e' w' h => by obtain ⟨v', h1, h2, h3⟩ := h; exact ⟨v', h1, h2, h3.mono (fun k hk => by simpa [Value.ownBlock, eq_comm] using hk)⟩) (Lib.hid ?_)
          rintro vn wx ⟨h1, h2⟩
          refine hK.out _ _ (hS.trans (h2.mono (fun k hk => .inl hk))) (fun hS' => ?_)
          obtain ⟨gn, cn, rfl, -, -, -, -⟩ := own_some h1 (by omega)
          have HRN := Lib.hid h1
          have HBN := Lib.hid (HBX.out.only h2 HBG.out)
          clear hK K h1 h2 hS HIN HBX HRX
          have hS := hS'
          clear hS'
          refine wa_k 17 65 (.pointer (some ⟨b, 0, none⟩)) hS HZQ (wa_k 18 66 (.pointer (some ⟨b, 0, none⟩)) hS HZQ ?_)
          refine wa_r [19] ?_
          refine ar_a none (fun K hK => ?_) ar_nil
          refine ow_storeN 48 (.tmp 66) (.tmp 64) (by kernel_rfl) b 0 (.slice (some ⟨gn, 0, none⟩) (l1.length + 1) cn) [.slice (some ⟨gn, 0, none⟩) (l1.length + 1) cn] (by kernel_rfl) (by kernel_rfl) rfl (pmC (.slice (some ⟨g, 0, none⟩) m.live.length cap) m.used ve).toList 100 HBN.out (by simp [pmC]) (by kernel_rfl) (by intro u hu; simp at hu; subst hu; rfl) (Lib.hid ?_)
          intro w5 hz hox
          refine hK.out _ _ (hS.trans (hox.mono (fun k hk => .inr hk))) (fun hS' => ?_)
          have HB5 := Lib.hid hz
          have HR5 := Lib.hid (own_only HRN.out hox (fun q hq e => own_ne_blk HRN.out HBN.out (by decide) (by rw [hq, e])))
          clear hK K hz hox hS HBN HRN
          have hS := hS'
          clear hS'
          refine wa_done (by kernel_rfl) ?_
          dsimp only [Exit.then, Act.put]
          simp only [List.setIfInBounds_toArray, List.set_cons_succ, List.set_cons_zero]
          refine ⟨by trivial, gn, cn, hx, rfl, hS, HB5.out, HR5.out⟩
      case h2 =>
        rintro gn cn hx w5 ⟨hO5, hB5, hR5⟩
        have O5 := Lib.hid hO5
        have HB5 := Lib.hid hB5
        have HR5 := Lib.hid hR5
        have HBX5 := Lib.hid (HBX4.out.only hO5 (by have h1 := HXG.out; have h2 := HXB.out; omega))
        have HF6 : Hid (1 + o * 1 + 1 ≤ (pmC (.slice (some ⟨gn, 0, none⟩) (l1.length + 1) cn) m.used ve).toList.length) := Lib.hid (by simp [pmC]; omega)
        clear hO5 hB5 hR5 HBX4
        go_wp2_with fail
        refine wp_region_wb ((Only (fun k => k = g ∨ k = b) w5)) (by kernel_rfl) (((Only.refl (fun k => k = g ∨ k = b) w5).drewN 1)) (fun _ _ _ _ _ h => h) ?_
        intro hS HZQ
        refine wa_k 0 67 (.pointer (some ⟨b, 0, none⟩)) hS HZQ (wa_k 1 68 (.pointer (some ⟨w.heap.size, 2, none⟩)) hS HZQ (wa_v 2 69 (.int .i64 ((o : Nat) : Int)) hS HZQ (fun W hW => run_load1 3 (.tmp 68) (by kernel_rfl) ⟨w.heap.size, 2, none⟩ (by kernel_rfl) (.int .i64 ((o : Nat) : Int)) ((HO.out ▸ (HBX5.out.only hW (by have h1 := HXG.out; have h2 := HXB.out; omega)).cell 2)) _ Tryz.underlying3 rfl) (wa_k 3 70 (.pointer (some ⟨b, 0, none⟩)) hS HZQ (wa_k 4 71 (.pointer (some ⟨b, 1, none⟩)) hS HZQ (wa_v 5 72 (.pointer (some ⟨b, 1 + o * 1, none⟩)) hS HZQ (fun W hW => run_eqv (run_idxA 97 (.tmp 71) (.tmp 69) (by kernel_rfl) b 1 13 o 4 1 (by kernel_rfl) (by kernel_rfl) (by omega) Tryz.underlying97 (by kernel_rfl)) rfl) ?_)))))
        refine wa_r [6] ?_
        refine ar_a none (fun K hK => ?_) ar_nil
        refine ow_storeN 4 (.tmp 72) (.const (.bool true)) rfl b (1 + o * 1) (.bool true) [.bool true] (by kernel_rfl) (by kernel_rfl) rfl (pmC (.slice (some ⟨gn, 0, none⟩) (l1.length + 1) cn) m.used ve).toList 100 (HB5.out.drewN 1) HF6.out (by kernel_rfl) (by intro u hu; simp at hu; subst hu; rfl) (Lib.hid ?_)
        intro w6 hz hox
        refine hK.out _ _ (hS.trans (hox.mono (fun k hk => .inr hk))) (fun hS => ?_)
        have HB6 := Lib.hid hz
        have O6x := Lib.hid hox
        clear hK K hz hox
        refine wa_done (by kernel_rfl) ?_
        dsimp only [Exit.then, Act.put]
        simp only [List.setIfInBounds_toArray, List.set_cons_succ, List.set_cons_zero]
        have O6 := Lib.hid hS
        clear hS
        go_wp2_with fail
        go_end0
        refine ⟨rfl, ?_, ?_, ?_⟩
        · refine ⟨.slice (some ⟨gn, 0, none⟩) (l1.length + 1) cn, ve, ?_⟩
          rw [HSP.out]
          have hlen : (l1.take (i + 1) ++ (⟨e.other, e.server, ((t + 1 : Nat) : Int), e.key, (shAt m.live i).hi⟩ : Sh) :: l1.drop (i + 1)).length = l1.length + 1 := by
            have := HLL.out
            simp only [List.length_append, List.length_take, List.length_cons, List.length_drop]
            omega
          have hev : EvOwn w6 B ve m.evs := HM.out.ev.imp id (fun k => by
            have n1 := own_ne_blk k.2 HGK.out (by decide)
            have n2 := own_ne_blk k.2 HM.out.blk (by decide)
            have s2 : ∀ q, ve.ownBlock = some q → ¬ (q = g ∨ q = b) := fun q hq e => by
              rcases e with e | e
              · exact n1 (by rw [hq, e])
              · exact n2 (by rw [hq, e])
            exact ⟨k.1, own_only (own_only (own_only (own_below k.2 S2.out.bel) O4.out (fun q hq e => s2 q hq (.inl e))) O5.out s2) O6.out s2⟩)
          have hbl : Blk w6 b 100 (pmC (.slice (some ⟨gn, 0, none⟩) (l1.length + 1) cn) (fun k => m.used k || decide ((k : Int) = e.other)) ve) := by
            have h1 := HB6.out
            rw [splice_one (Nat.lt_of_succ_le HF6.out), pmC_set _ _ _ o ho12, ← HO.out] at h1
            exact h1
          refine ⟨hbl, HM.out.ge, ?_, hev, by rw [hlen]; omega, by rw [hlen, HLL.out]; exact ⟨by omega, HM.out.len.2⟩, ?_⟩
          · rw [hlen]
            have n5 := own_ne_blk HR5.out HB5.out (by decide)
            exact own_only (show World.ownsRow w5.drew B _ 5 _ _ _ from HR5.out) O6x.out (fun q hq (e : q = b) => n5 (by rw [hq, e]))
          · have okL : ∀ s ∈ l1, s.ok := by
              intro s hs
              rw [← HL1.out] at hs
              rcases List.mem_or_eq_of_mem_set hs with h | h
              · exact HM.out.ok s h
              · rw [h]
                exact ⟨(map_ok S1.out.mp hi).1, HK.out⟩
            intro s hs
            rcases List.mem_append.1 hs with h | h
            · exact okL s (List.mem_of_mem_take h)
            · rcases List.mem_cons.1 h with h | h
              · rw [h]
                exact ⟨HK.out, (map_ok S1.out.mp hi).2⟩
              · exact okL s (List.mem_of_mem_drop h)
        · have c2 : Chg PT B w w2 := Chg.of_below S2.out.bel
          have c4 : Chg PT B w2 w4 := O4.out.mono (fun k hk => ⟨hk ▸ hgB, _, _, _, hk ▸ HGK.out.below S2.out.bel HGK.out.lt, .inr (.inl rfl)⟩)
          obtain ⟨cu, hcu⟩ := own_kind HROW.out
          have c5 : Chg PT B w4 w5 := O5.out.mono (fun k hk => by
            rcases hk with rfl | rfl
            · exact ⟨hgB, _, _, _, hcu, .inr (.inl rfl)⟩
            · exact ⟨HM.out.ge, _, _, _, HB4.out, .inl rfl⟩)
          have c6 : Chg PT B w5 w6 := ((Only.refl (fun k => k = b) w5).drewN 1 |>.trans O6x.out).mono (fun k hk => ⟨hk ▸ HM.out.ge, _, _, _, hk ▸ HB5.out, .inl rfl⟩)
          exact ((c2.trans c4).trans c5).trans c6
        · have hs0 : ∀ k, k = g → (k = b ∨ ∃ v, w.cell? ⟨b, 0, none⟩ = some v ∧ ownB v = some k) := fun k hk => .inr ⟨.slice (some ⟨g, 0, none⟩) m.live.length cap, HM.out.blk.cell 0, by rw [hk]; exact ownB_some (by omega)⟩
          refine ⟨(((Only.below_all S2.out.bel).trans (O4.out.mono hs0)).trans (O5.out.mono (fun k hk => hk.elim (hs0 k) .inl))).trans (O6.out.mono (fun k hk => hk.elim (hs0 k) .inl)), ?_⟩
          have h1 := HB6.out
          rw [splice_one (Nat.lt_of_succ_le HF6.out), pmC_set _ _ _ o ho12] at h1
          have h2 : w6.cell? ⟨b, 14, none⟩ = some ve := h1.cell 14
          have h3 : w.cell? ⟨b, 14, none⟩ = some ve := HM.out.blk.cell 14
          rw [h2, h3]
end Go.Proofs.YthjmfcdhpdiehaaGreatDoor
