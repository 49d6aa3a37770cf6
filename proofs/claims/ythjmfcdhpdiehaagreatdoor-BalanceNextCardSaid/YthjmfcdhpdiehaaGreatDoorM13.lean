/-
  (*Map).Apply. (Printed by wip/gen/apply.py.)
-/
import Derived.Test.YthjmfcdhpdiehaaGreatDoorM12
namespace Go.Proofs.YthjmfcdhpdiehaaGreatDoor
open Go.RowKit Utf
set_option maxRecDepth 100000
set_option linter.unusedSimpArgs false
set_option linter.unusedVariables false

/-- A shard at another server. -/
def Sh.moved (s : Sh) (v : Int) : Sh := ⟨s.id, v, s.since, s.lo, s.hi⟩
/-- What a move makes of a map. -/
def moveP (m : PM) (e : EN) : PM := match findN e.shard m.live with
  | none => m
  | some i => ⟨m.live.set i ((shAt m.live i).moved e.server), m.used, m.evs⟩
def PM.event (m : PM) (t : Int) (e : EN) : PM := ⟨m.live, m.used, m.evs ++ [(t, e)]⟩
/-- Apply: does it count, and what the map is then. -/
def applyP (m : PM) (e : EN) (t : Int) : Bool × PM :=
  if countsP m e && decide (0 ≤ t) && decide (t ≤ 4095) then
    (true, if e.kind = 2 then moveP m e else if e.kind = 3 then (splitP m e t.toNat).event t e else (mergeP m e t.toNat).event t e)
  else (false, m)
theorem counts_kind {m : PM} {e : EN} (h : countsP m e = true) : e.kind = 2 ∨ e.kind = 3 ∨ e.kind = 4 := by
  unfold countsP at h
  cases hf : findN e.shard m.live with
  | none => rw [hf] at h; cases h
  | some i =>
    rw [hf] at h
    simp only at h
    by_cases h2 : e.kind = 2
    · exact .inl h2
    by_cases h3 : e.kind = 3
    · exact .inr (.inl h3)
    by_cases h4 : e.kind = 4
    · exact .inr (.inr h4)
    rw [if_neg h2, if_neg h3, if_neg h4] at h
    cases h
theorem row_move (cur : List Value) (l : List Sh) (i : Nat) (v : Int) (hi : i < l.length) (ht : cur.take (l.length * 5) = shRow l) (hl : l.length * 5 ≤ cur.length) :
    (splice cur (i * 5 + 1) [.int .i64 v]).take (l.length * 5) = shRow (l.set i ((shAt l i).moved v)) := by
  have h1 : i * 5 + 1 + [Value.int .i64 v].length ≤ cur.length := by simp; omega
  apply List.ext_getElem?
  intro j
  have hlen : (shRow (l.set i ((shAt l i).moved v))).length = l.length * 5 := by rw [shRow_len, List.length_set]
  by_cases hj : j < l.length * 5
  · obtain ⟨q, r, rfl, hr⟩ : ∃ q r, j = q * 5 + r ∧ r < 5 := ⟨j / 5, j % 5, by omega, by omega⟩
    have hq : q < l.length := by omega
    rw [List.getElem?_take, if_pos hj, splice_get h1]
    have e1 : cur[q * 5 + r]? = (l[q]).cells[r]? := by
      have : (shRow l)[q * 5 + r]? = (l[q]).cells[r]? := flat_at Sh.cells 5 Sh.cells_len l q r hq hr
      rw [← this, ← ht, List.getElem?_take, if_pos hj]
    have e2 : (shRow (l.set i ((shAt l i).moved v)))[q * 5 + r]? = (if q = i then (shAt l i).moved v else l[q]).cells[r]? := by
      have : (shRow (l.set i ((shAt l i).moved v)))[q * 5 + r]? = ((l.set i ((shAt l i).moved v))[q]'(by simpa using hq)).cells[r]? := flat_at Sh.cells 5 Sh.cells_len _ q r (by simpa using hq) hr
      rw [this, set_at l i _ q hq hi]
    rw [e2, e1]
    by_cases hqi : q = i
    · subst hqi
      rw [if_pos rfl, shAt_eq hq]
      rcases (show r = 0 ∨ r = 1 ∨ r = 2 ∨ r = 3 ∨ r = 4 by omega) with rfl | rfl | rfl | rfl | rfl
      · rw [if_pos (by omega)]
        rfl
      · rw [if_neg (by omega), if_pos (by simp)]
        simp [Sh.moved, Sh.cells]
      · rw [if_neg (by omega), if_neg (by simp)]
        rfl
      · rw [if_neg (by omega), if_neg (by simp)]
        rfl
      · rw [if_neg (by omega), if_neg (by simp)]
        rfl
    · rw [if_neg hqi]
      by_cases c1 : q * 5 + r < i * 5 + 1
      · rw [if_pos c1]
      · rw [if_neg c1, if_neg (by simp; omega)]
  · rw [List.getElem?_eq_none (by rw [List.length_take]; omega), List.getElem?_eq_none (by omega)]
section
variable {P : Program} {o : Oper} {a : Act} {w : World} {Q : Exit → Act → World → Prop} {K : Act → World → Prop}
theorem ow_appX (s x : Operand) (t : TypeId) (ho : o.op = .call { callee := .builtin .append, args := #[s, x], argTypes := #[t, t] })
    (e : TypeId) (i : TypeInfo) (z : Value) (size bytes : Nat) (ht : P.underlying t = some (.slice e)) (hi : P.info? e = some i) (hz : i.zero = some z)
    (hsize : i.size = size) (hby : i.bytes = bytes) (hzs : z.cells.size = size) (hsz : 0 < size)
    (B : Nat) (v : Value) (n : Nat) (xs : List Value) (hs : a.eval s = v) (hown : OwnE w B e size v n xs) (hB : B ≤ w.heap.size)
    (b off m c : Nat) (us : List Value) (hx : a.eval x = .slice (some ⟨b, off, none⟩) m c) (hm : us.length = m * size) (hm1 : 1 ≤ m) (hr : RowAt w (some ⟨b, off, none⟩) us) (hu : ∀ u ∈ us, u.oneCell' = true) (hn : n + m ≤ 1000000000) (hby2 : bytes ≤ 1000)
    (h : Hid (∀ v' w', w'.ownsRow B e size v' (n + m) (xs ++ us) → w.grownBy w' (ownB v) → K (a.put o.dst v') w')) : OW P o a w K Q :=
  ⟨wp_appX s x t ho e i z size bytes ht hi hz hsize hby hzs hsz B v n xs hs hown hB b off m c us hx hm hm1 hr hu hn hby2 h⟩
end
theorem ownB_own {v : Value} {k : Nat} (h : ownB v = some k) : v.ownBlock = some k := by
  unfold ownB at h
  split at h
  · split at h
    · cases h
    · simpa [Value.ownBlock] using h
  · cases h
theorem blk_row {w : World} {g : Nat} {t : TypeId} {l : List Value} (h : Blk w g t l.toArray) : RowAt w (some ⟨g, 0, none⟩) l := RowAt.of rfl (fun j _ => by
  rw [h.cell, Nat.zero_add]
  simp)
theorem own_ne_own {w : World} {B : Nat} {v u : Value} {n : Nat} {xs : List Value} {l : List Ev} (h : w.ownsRow B 54 5 v n xs) (h2 : EvOwn w B u l) {q : Nat} (h3 : v.ownBlock = some q) (h4 : u.ownBlock = some q) : False := by
  rcases h2 with ⟨-, rfl⟩ | ⟨-, h2⟩
  · cases h4
  · rcases h2.2 with ⟨rfl, -⟩ | ⟨g, cap, cur, rfl, -, hg, -⟩
    · cases h4
    · obtain rfl : g = q := by simpa [Value.ownBlock] using h4
      exact own_ne_blk h (show Blk w g 103 cur from hg) (by decide) h3
theorem evOwn_kind {w : World} {B : Nat} {u : Value} {l : List Ev} (h2 : EvOwn w B u l) {q : Nat} (h4 : u.ownBlock = some q) : B ≤ q ∧ ∃ cur, w.heap[q]? = some (.cells cur 103 (0, 0)) := by
  rcases h2 with ⟨-, rfl⟩ | ⟨-, h2⟩
  · cases h4
  · rcases h2.2 with ⟨rfl, -⟩ | ⟨g, cap, cur, rfl, hB, hg, -⟩
    · cases h4
    · obtain rfl : g = q := by simpa [Value.ownBlock] using h4
      exact ⟨hB, cur, hg⟩
theorem splitP_evs (m : PM) (e : EN) (t : Nat) : (splitP m e t).evs = m.evs := by
  unfold splitP
  split <;> rfl
theorem mergeP_evs (m : PM) (e : EN) (t : Nat) : (mergeP m e t).evs = m.evs := by
  unfold mergeP
  split
  · split <;> rfl
  · rfl
theorem EvOwn.ownE {w : World} {B : Nat} {v : Value} {l : List Ev} (h : EvOwn w B v l) : OwnE w B 103 13 v l.length (evRow l) := by
  rcases h with ⟨rfl, rfl⟩ | ⟨-, h⟩
  · exact OwnE.nil
  · exact .inr h
theorem EvOwn.only {S : Nat → Prop} {w w' : World} {B : Nat} {v : Value} {l : List Ev} (h : EvOwn w B v l) (hb : Only S w w') (hs : ∀ g, v.ownBlock = some g → ¬ S g) : EvOwn w' B v l := h.imp id (fun k => ⟨k.1, own_only k.2 hb hs⟩)
theorem EvOwn.ne_blk {w : World} {B : Nat} {v : Value} {l : List Ev} (h : EvOwn w B v l) {c : Nat} {T : TypeId} {cs : Array Value} (hC : Blk w c T cs) (hne : 103 ≠ T) : v.ownBlock ≠ some c := by
  rcases h with ⟨-, rfl⟩ | ⟨-, h⟩
  · intro h
    cases h
  · exact own_ne_blk h hC hne

/-- The map's own blocks alone have turned. -/
def MapOnly (w : World) (b : Nat) (w' : World) : Prop := Only (fun k => k = b ∨ (∃ v, w.cell? ⟨b, 0, none⟩ = some v ∧ ownB v = some k) ∨ (∃ v, w.cell? ⟨b, 14, none⟩ = some v ∧ ownB v = some k)) w w'

set_option maxHeartbeats 4000000 in
theorem apply_anyO (ea : Nat → Addr) (b B : Nat) (m : PM) (e : EN) (t : Int) (w : World) (hm : MapAt w B b m) (he : BErr w ea) (ha : e.at w) (hea : ∀ n, (ea n).block < B) (hln : m.live.length ≤ 9000) (hln2 : m.evs.length ≤ 9000) (hB : B ≤ w.heap.size) :
    Calls Tryz.prog 20 #[.pointer (some ⟨b, 0, none⟩), .agg e.cells.toArray, .int .i64 t] w fun e' w' => e' = .returned (.bool (applyP m e t).1) ∧ MapAt w' B b (applyP m e t).2 ∧ Chg PT B w w' ∧ MapOnly w b w' := by
  obtain ⟨vl, ve, hm⟩ := hm
  obtain ⟨g, cap, cur, rfl, hgB, hgk, hgc, hgm, hgl, hgt, -⟩ := own_open hm.live hm.l1
  have H0 : Hid (CS w ea b B m e (.slice (some ⟨g, 0, none⟩) m.live.length cap) ve (w.alloc (.cells #[.int .i64 e.kind, .int .i64 e.shard, .int .i64 e.other, .int .i64 e.server, .int .i64 e.client, .int .i64 e.seq, .slice e.ao e.no e.co, .string e.key, .int .i64 e.upto, .int .i64 e.part, .int .i64 e.parts, .slice e.ad e.nd e.cd] 44))) := Lib.hid (CS.new hm he ha)
  have HM := Lib.hid hm
  have HLN := Lib.hid hln
  have HLN2 := Lib.hid hln2
  clear hm he ha hln hln2
  show Calls Tryz.prog 20 #[.pointer (some ⟨b, 0, none⟩), .agg #[.int .i64 e.kind, .int .i64 e.shard, .int .i64 e.other, .int .i64 e.server, .int .i64 e.client, .int .i64 e.seq, .slice e.ao e.no e.co, .string e.key, .int .i64 e.upto, .int .i64 e.part, .int .i64 e.parts, .slice e.ad e.nd e.cd], .int .i64 t] w fun e' w' => e' = .returned (.bool (applyP m e t).1) ∧ MapAt w' B b (applyP m e t).2 ∧ Chg PT B w w' ∧ MapOnly w b w'
  go_enter Tryz.func20, Tryz.ntmps20
  go_wp2_with (refine wpList_load_hid rfl 44 (.tmp 4) rfl w.heap.size rfl 44 e.cells.toArray H0.out.box _ Tryz.underlying44 rfl (by kernel_rfl) ?_)
  refine Lib.hid ?_
  go_wp2_with fail
  refine (counts_any ea b B m e _ H0.out.mp H0.out.err H0.out.ent).mono ?_
  rintro e' w1 ⟨rfl, hb1⟩
  have S1 := Lib.hid (H0.out.next hb1)
  clear hb1
  cases hc : countsP m e with
  | false =>
    have HZ := Lib.hid (show applyP m e t = (false, m) by unfold applyP; rw [hc]; rfl)
    clear hc
    go_wp2_with fail
    go_ret
    rw [HZ.out]
    exact ⟨rfl, ⟨_, _, S1.out.map⟩, Chg.of_below S1.out.bel, Only.below_all S1.out.bel⟩
  | true =>
  by_cases ht0 : t < 0
  · have HZ := Lib.hid (show applyP m e t = (false, m) by unfold applyP; rw [decide_eq_false (show ¬ 0 ≤ t by omega)]; simp)
    clear hc
    go_wp2_with fail
    go_ret
    rw [HZ.out]
    exact ⟨rfl, ⟨_, _, S1.out.map⟩, Chg.of_below S1.out.bel, Only.below_all S1.out.bel⟩
  by_cases ht1 : t ≥ 4096
  · have HZ := Lib.hid (show applyP m e t = (false, m) by unfold applyP; rw [decide_eq_false (show ¬ t ≤ 4095 by omega)]; simp)
    clear hc
    go_wp2_with fail
    go_ret
    rw [HZ.out]
    exact ⟨rfl, ⟨_, _, S1.out.map⟩, Chg.of_below S1.out.bel, Only.below_all S1.out.bel⟩
  have HA := Lib.hid (show applyP m e t = (true, if e.kind = 2 then moveP m e else if e.kind = 3 then (splitP m e t.toNat).event t e else (mergeP m e t.toNat).event t e) by
    unfold applyP
    rw [hc, decide_eq_true (show 0 ≤ t by omega), decide_eq_true (show t ≤ 4095 by omega)]
    rfl)
  have s0 := S1.out.c0
  rcases counts_kind hc with k2 | k3 | k4
  · have e2 : (e.kind == 2) = true := by simp [k2]
    have HZ := Lib.hid (show applyP m e t = (true, moveP m e) by rw [HA.out, if_pos k2])
    clear k2 HA
    cases hf : findN e.shard m.live with
    | none => rw [counts_none hf] at hc; cases hc
    | some i =>
    obtain ⟨hi, -⟩ := findN_lt hf
    have HF := Lib.hid hf
    have HMP := Lib.hid (show moveP m e = _ by unfold moveP; rw [hf])
    have HGL := Lib.hid hgl
    have HGT := Lib.hid hgt
    have HGM := Lib.hid hgm
    have HB1 := Lib.hid (S1.out.map.blk)
    have HBX1 := Lib.hid (S1.out.box)
    have HR1 := Lib.hid ((hgk.below (S1.out.bel) hgk.lt))
    have HGK := Lib.hid hgk
    have HBG := Lib.hid (show b ≠ g from fun e => by
      have h1 := HB1.out
      have h2 := HR1.out
      unfold Blk at h1 h2
      rw [e, h2] at h1
      simp at h1)
    have HXG := Lib.hid (show w.heap.size ≠ g from Nat.ne_of_gt hgk.lt)
    have HF1 : Hid (i * 5 + 1 + 1 ≤ cur.length) := Lib.hid (by omega)
    clear hc hf hgl hgt hgm hgk
    go_wp2_with fail
    refine wp_region_wb ((Only (fun k => k = g) w1)) (by kernel_rfl) (((Only.refl (fun k => k = g) w1).drewN 1)) (fun _ _ _ _ _ h => h) ?_
    intro hS HZQ
    refine wa_k 0 23 (.pointer (some ⟨b, 0, none⟩)) hS HZQ (wa_k 1 24 (.pointer (some ⟨b, 0, none⟩)) hS HZQ (wa_k 2 25 (.pointer (some ⟨b, 0, none⟩)) hS HZQ (wa_v 3 26 (.slice (some ⟨g, 0, none⟩) m.live.length cap) hS HZQ (fun W hW => run_load1 48 (.tmp 25) (by kernel_rfl) ⟨b, 0, none⟩ (by kernel_rfl) (.slice (some ⟨g, 0, none⟩) m.live.length cap) ((HB1.out.only hW HBG.out).cell 0) _ Tryz.underlying48 rfl) (wa_k 4 27 (.pointer (some ⟨b, 0, none⟩)) hS HZQ (wa_k 5 28 (.pointer (some ⟨w.heap.size, 1, none⟩)) hS HZQ (wa_v 6 29 (.int .i64 e.shard) hS HZQ (fun W hW => run_load1 3 (.tmp 28) (by kernel_rfl) ⟨w.heap.size, 1, none⟩ (by kernel_rfl) (.int .i64 e.shard) ((HBX1.out.only hW HXG.out).cell 1) _ Tryz.underlying3 rfl) (wa_k 8 31 (.pointer (some ⟨w.heap.size, 3, none⟩)) hS HZQ ?_)))))))
    refine wa_v 9 32 (.int .i64 e.server) hS HZQ (fun W hW => run_load1 3 (.tmp 31) (by kernel_rfl) ⟨w.heap.size, 3, none⟩ (by kernel_rfl) (.int .i64 e.server) ((HBX1.out.only hW HXG.out).cell 3) _ Tryz.underlying3 rfl) ?_
    refine wa_r [7] ?_
    refine ar_a (some 30) (fun K hK => ?_) ar_nil
    refine ow_call 45 #[.pointer (some ⟨b, 0, none⟩), .int .i64 e.shard] (by kernel_rfl) (fun v w' => v = .int .i64 ((i : Nat) : Int) ∧ Below _ _ w') ((find_any b B m e.shard _ (S1.out.next (tame_drewN (Below.refl _ w1) 1)).mp).mono fun e' w' h => ⟨_, h.1, by rw [HF.out]; rfl, h.2⟩) (Lib.hid ?_)
    rintro v wx ⟨rfl, hbx⟩
    refine hK.out _ _ (hS.trans (Only.below_all hbx)) (fun hS => ?_)
    have HRX := Lib.hid ((HR1.out.drewN 1).below hbx (HR1.out.drewN 1).lt)
    clear hK K hbx
    refine wa_v 10 33 (.pointer (some ⟨g, i * 5, none⟩)) hS HZQ (fun W hW => run_eqv (run_idx 48 (.tmp 26) (.tmp 30) (by kernel_rfl) g 0 m.live.length cap i 54 5 (by kernel_rfl) (by kernel_rfl) (by omega) Tryz.underlying48 (by kernel_rfl)) (by rw [Nat.zero_add])) (wa_k 11 34 (.pointer (some ⟨g, i * 5 + 1, none⟩)) hS HZQ ?_)
    refine wa_r [12] ?_
    refine ar_a none (fun K hK => ?_) ar_nil
    refine ow_storeN 3 (.tmp 34) (.tmp 32) (by kernel_rfl) g (i * 5 + 1) (.int .i64 e.server) [.int .i64 e.server] (by kernel_rfl) (by kernel_rfl) rfl cur 54 HRX.out HF1.out (by kernel_rfl) (by intro u hu; simp at hu; subst hu; rfl) (Lib.hid ?_)
    intro w4 hz hox
    refine hK.out _ _ (hS.trans hox) (fun hS => ?_)
    have HR4 := Lib.hid hz
    clear hK K hz hox
    refine wa_done (by kernel_rfl) ?_
    dsimp only [Exit.then, Act.put]
    simp only [List.setIfInBounds_toArray, List.set_cons_succ, List.set_cons_zero]
    have O4 := Lib.hid hS
    have HROW := Lib.hid (own_blk (n := m.live.length) (cap := cap) (xs := shRow (m.live.set i ((shAt m.live i).moved e.server))) (sz := 5) HR4.out hgB (by rw [shRow_len, List.length_set]) hgc HGM.out (by rw [length_splice _ _ _ (by simpa using HF1.out), HGL.out]) (row_move cur m.live i e.server hi HGT.out (by have := HGL.out; omega)))
    clear hS
    go_wp2_with fail
    go_ret
    rw [HZ.out, HMP.out]
    refine ⟨rfl, ⟨.slice (some ⟨g, 0, none⟩) m.live.length cap, ve, ?_⟩, ?_, ?_⟩
    · have n1 := EvOwn.ne_blk HM.out.ev HGK.out (by decide)
      refine ⟨HB1.out.only O4.out HBG.out, HM.out.ge, ?_, (EvOwn.below HM.out.ev S1.out.bel).only O4.out (fun q hq (e : q = g) => n1 (by rw [hq, e])), by rw [List.length_set]; exact HM.out.l1, by rw [List.length_set]; exact HM.out.len, ?_⟩
      · rw [List.length_set]
        exact HROW.out
      · intro s hs
        rcases List.mem_or_eq_of_mem_set hs with h | h
        · exact HM.out.ok s h
        · rw [h]
          exact map_ok S1.out.mp hi
    · exact (Chg.of_below S1.out.bel).trans (O4.out.mono (fun k hk => ⟨hk ▸ hgB, _, _, _, hk ▸ HR1.out, .inr (.inl rfl)⟩))
    · exact (Only.below_all S1.out.bel).trans (O4.out.mono (fun k hk => .inr (.inl ⟨.slice (some ⟨g, 0, none⟩) m.live.length cap, HM.out.blk.cell 0, by rw [hk]; exact ownB_some (by omega)⟩)))
  · have e2 : (e.kind == 2) = false := by simp [k3]
    have e3 : (e.kind == 3) = true := by simp [k3]
    obtain ⟨tn, rfl⟩ : ∃ tn : Nat, t = (tn : Int) := ⟨t.toNat, by omega⟩
    have htn : tn ≤ 4095 := by omega
    have HZ := Lib.hid (show applyP m e tn = (true, (splitP m e tn).event tn e) by rw [HA.out, if_neg (by omega), if_pos k3]; rfl)
    have HC := Lib.hid hc
    have Hk3 := Lib.hid k3
    have HEV := Lib.hid (show (splitP m e tn).evs = m.evs from splitP_evs m e tn)
    have hXB : w.heap.size ≠ b := Nat.ne_of_gt HM.out.blk.lt
    have HXB := Lib.hid hXB
    have n1 := hgk.lt
    clear hc k3 HA hgk hgl hgt hgm
    go_wp2_with (refine wpList_load_hid rfl 44 (.tmp 4) rfl w.heap.size rfl 44 e.cells.toArray S1.out.box _ Tryz.underlying44 rfl (by kernel_rfl) ?_)
    refine Lib.hid ?_
    go_wp2_with fail
    refine (split_anyO ea b B m e tn _ S1.out.mp S1.out.err S1.out.ent HC.out Hk3.out htn HLN.out (Nat.le_trans hB S1.out.bel.size)).mono ?_
    rintro e' w2 ⟨rfl, hm2, hc2, hlo⟩
    have HLO := Lib.hid hlo
    have HS1B := Lib.hid S1.out.bel
    clear hlo
    have HBX2 := Lib.hid (show Blk w2 w.heap.size 44 #[.int .i64 e.kind, .int .i64 e.shard, .int .i64 e.other, .int .i64 e.server, .int .i64 e.client, .int .i64 e.seq, .slice e.ao e.no e.co, .string e.key, .int .i64 e.upto, .int .i64 e.part, .int .i64 e.parts, .slice e.ad e.nd e.cd] from S1.out.box.chg hc2 (.inr (by unfold PT; decide)))
    have HC2 := Lib.hid (Chg.trans (Chg.of_below S1.out.bel) hc2)
    have HSZ := Lib.hid (show B ≤ w2.heap.size from Nat.le_trans hB HC2.out.size)
    clear hc2 n1 s0
    obtain ⟨vl2, ve2, hm2⟩ := hm2
    generalize splitP m e tn = m2 at *
    have HM2 := Lib.hid hm2
    have HB2 := Lib.hid hm2.blk
    have HEL : Hid (m2.evs.length ≤ 9000) := Lib.hid (by rw [HEV.out]; exact HLN2.out)
    have nb := EvOwn.ne_blk hm2.ev hm2.blk (by decide)
    have nx := EvOwn.ne_blk hm2.ev HBX2.out (by decide)
    have HNB : Hid (ownB ve2 ≠ some b) := Lib.hid (fun h => nb (ownB_own h))
    have HNX : Hid (ownB ve2 ≠ some w.heap.size) := Lib.hid (fun h => nx (ownB_own h))
    have HEO := Lib.hid (EvOwn.ownE hm2.ev)
    have HEVX := Lib.hid hm2.ev
    clear nb nx hm2
    go_wp2_with fail
    apply merge3 (F := fun gn cn _ w' => Only (fun k => k = b ∨ ownB ve2 = some k) w2 w' ∧ Blk w' b 100 (pmC vl2 m2.used (.slice (some ⟨gn, 0, none⟩) (m2.evs.length + 1) cn)) ∧ w'.ownsRow B 103 13 (.slice (some ⟨gn, 0, none⟩) (m2.evs.length + 1) cn) (m2.evs.length + 1) (evRow (m2.evs ++ [((tn : Int), e)])))
    case h1 =>
      obtain ⟨i0, hinf, hz0, hz1, hz2⟩ := info_parts Tryz.infoEv
      have HI := Lib.hid (And.intro hinf (And.intro hz0 (And.intro hz1 hz2)))
      clear hinf hz0 hz1 hz2
      refine wp_region_wb ((Only (fun k => k = b ∨ ownB ve2 = some k) w2)) (by kernel_rfl) (((Only.refl (fun k => k = b ∨ ownB ve2 = some k) w2).drewN 1)) (fun _ _ _ _ _ h => nomatch h.1) ?_
      intro hS HZQ
      refine wa_k 0 47 (.pointer (some ⟨b, 0, none⟩)) hS HZQ (wa_k 1 48 (.pointer (some ⟨b, 0, none⟩)) hS HZQ (wa_k 2 49 (.pointer (some ⟨b, 0, none⟩)) hS HZQ (wa_k 3 50 (.pointer (some ⟨b, 14, none⟩)) hS HZQ (wa_k 5 52 (.int .i64 ((tn : Nat) : Int)) hS HZQ (wa_v 6 53 (.agg #[.int .i64 e.kind, .int .i64 e.shard, .int .i64 e.other, .int .i64 e.server, .int .i64 e.client, .int .i64 e.seq, .slice e.ao e.no e.co, .string e.key, .int .i64 e.upto, .int .i64 e.part, .int .i64 e.parts, .slice e.ad e.nd e.cd]) hS HZQ (fun W hW => run_eqv (run_loadN 44 (.tmp 4) (by kernel_rfl) w.heap.size 0 (by kernel_rfl) [.int .i64 e.kind, .int .i64 e.shard, .int .i64 e.other, .int .i64 e.server, .int .i64 e.client, .int .i64 e.seq, .slice e.ao e.no e.co, .string e.key, .int .i64 e.upto, .int .i64 e.part, .int .i64 e.parts, .slice e.ad e.nd e.cd] ((HBX2.out.only hW (fun h => h.elim HXB.out HNX.out)).range (fun j v hj => by simpa using hj)) _ Tryz.underlying44 rfl (by kernel_rfl)) rfl) (wa_k 7 54 (.agg #[.int .i64 ((tn : Nat) : Int), .int .i64 e.kind, .int .i64 e.shard, .int .i64 e.other, .int .i64 e.server, .int .i64 e.client, .int .i64 e.seq, .slice e.ao e.no e.co, .string e.key, .int .i64 e.upto, .int .i64 e.part, .int .i64 e.parts, .slice e.ad e.nd e.cd]) hS HZQ ?_))))))
      refine wa_r [4, 8] ?_
      refine (ar_a (some 51) (fun K hK => ?_) (ar_a (some 55) (fun K hK => ?_) ar_nil))
      ·
        refine ow_val ve2 _ (run_load1 98 (.tmp 50) (by kernel_rfl) ⟨b, 14, none⟩ (by kernel_rfl) ve2 (by first | exact HBX.out.cell 14 | exact (HB2.out.drewN 1).cell 14) _ Tryz.underlying98 rfl) ?_
        refine hK.out _ _ hS (fun hS => ?_)
        clear hK K
        refine wa_r [8] ?_
        refine ar_a (some 55) (fun K hK => ?_) ar_nil
        refine ow_one 103 (evC ((tn : Int), e)).toArray (by kernel_rfl) (Lib.hid ?_)
        intro hx wx hh hz hbx
        refine hK.out _ _ (hS.fresh hbx) (fun hS' => ?_)
        have HNE := Lib.hid hz
        have HBX := Lib.hid ((HB2.out.drewN 1).below hbx (HB2.out.drewN 1).lt)
        have HRX := Lib.hid (OwnE.below (show OwnE w2.drew B _ 13 _ _ _ from HEO.out) hbx)
        have HZX := Lib.hid (show B ≤ wx.heap.size from Nat.le_trans HSZ.out hS'.size)
        clear hK K hz hbx hh
        have hS := hS'
        clear hS'
        refine wa_r [9] ?_
        refine ar_a (some 56) (fun K hK => ?_) ar_nil
        refine ow_appX (.tmp 51) (.tmp 55) 98 (by kernel_rfl) 103 i0 _ 13 144 Tryz.underlying98 HI.out.1 HI.out.2.1 HI.out.2.2.1 HI.out.2.2.2 rfl (by decide) B ve2 m2.evs.length (evRow m2.evs) (by kernel_rfl) HRX.out HZX.out hx 0 1 1 (evC ((tn : Int), e)) (by kernel_rfl) rfl (by decide) (blk_row HNE.out) (evC_one _) (by have := HEL.out; omega) (by decide) (Lib.hid ?_)
        intro vn wx h1 h2
        obtain ⟨gn, cn, rfl, -, -, -, -⟩ := own_some h1 (by omega)
        refine hK.out _ _ (hS.grown h2 (fun k e => .inl (.inr e))) (fun hS' => ?_)
        have HRN := Lib.hid h1
        have HBN := Lib.hid (HBX.out.only (Only.grown (S := fun k => ownB ve2 = some k) (Only.refl _ _) h2 (fun k e => .inl e)) HNB.out)
        clear hK K h1 h2 hS HBX HRX HNE
        have hS := hS'
        clear hS'
        refine wa_k 10 57 (.pointer (some ⟨b, 0, none⟩)) hS HZQ (wa_k 11 58 (.pointer (some ⟨b, 14, none⟩)) hS HZQ ?_)
        refine wa_r [12] ?_
        refine ar_a none (fun K hK => ?_) ar_nil
        refine ow_storeN 98 (.tmp 58) (.tmp 56) (by kernel_rfl) b 14 (.slice (some ⟨gn, 0, none⟩) (m2.evs.length + 1) cn) [.slice (some ⟨gn, 0, none⟩) (m2.evs.length + 1) cn] (by kernel_rfl) (by kernel_rfl) rfl (pmC vl2 m2.used ve2).toList 100 HBN.out (by simp [pmC]) (by kernel_rfl) (by intro u hu; simp at hu; subst hu; rfl) (Lib.hid ?_)
        intro w5 hz hox
        refine hK.out _ _ (hS.trans (hox.mono (fun k hk => .inl hk))) (fun hS' => ?_)
        have HB5 := Lib.hid hz
        have HR5 := Lib.hid (own_only HRN.out hox (fun q hq e => own_ne_blk HRN.out HBN.out (by decide) (by rw [hq, e])))
        clear hK K hz hox hS HBN HRN
        have hS := hS'
        clear hS'
        refine wa_done (by kernel_rfl) ?_
        dsimp only [Exit.then, Act.put]
        simp only [List.setIfInBounds_toArray, List.set_cons_succ, List.set_cons_zero]
        refine ⟨by trivial, gn, cn, hx, rfl, hS, HB5.out, by
          have := HR5.out
          unfold evRow at this ⊢
          rw [List.flatMap_append, List.flatMap_singleton]
          exact this⟩
      ·
        refine ow_one 103 (evC ((tn : Int), e)).toArray (by kernel_rfl) (Lib.hid ?_)
        intro hx wx hh hz hbx
        refine hK.out _ _ (hS.fresh hbx) (fun hS' => ?_)
        have HNE := Lib.hid hz
        have HBX := Lib.hid ((HB2.out.drewN 1).below hbx (HB2.out.drewN 1).lt)
        have HRX := Lib.hid (OwnE.below (show OwnE w2.drew B _ 13 _ _ _ from HEO.out) hbx)
        have HZX := Lib.hid (show B ≤ wx.heap.size from Nat.le_trans HSZ.out hS'.size)
        clear hK K hz hbx hh
        have hS := hS'
        clear hS'
        refine wa_r [4] ?_
        refine ar_a (some 51) (fun K hK => ?_) ar_nil
        refine ow_val ve2 _ (run_load1 98 (.tmp 50) (by kernel_rfl) ⟨b, 14, none⟩ (by kernel_rfl) ve2 (by first | exact HBX.out.cell 14 | exact (HB2.out.drewN 1).cell 14) _ Tryz.underlying98 rfl) ?_
        refine hK.out _ _ hS (fun hS => ?_)
        clear hK K
        refine wa_r [9] ?_
        refine ar_a (some 56) (fun K hK => ?_) ar_nil
        refine ow_appX (.tmp 51) (.tmp 55) 98 (by kernel_rfl) 103 i0 _ 13 144 Tryz.underlying98 HI.out.1 HI.out.2.1 HI.out.2.2.1 HI.out.2.2.2 rfl (by decide) B ve2 m2.evs.length (evRow m2.evs) (by kernel_rfl) HRX.out HZX.out hx 0 1 1 (evC ((tn : Int), e)) (by kernel_rfl) rfl (by decide) (blk_row HNE.out) (evC_one _) (by have := HEL.out; omega) (by decide) (Lib.hid ?_)
        intro vn wx h1 h2
        obtain ⟨gn, cn, rfl, -, -, -, -⟩ := own_some h1 (by omega)
        refine hK.out _ _ (hS.grown h2 (fun k e => .inl (.inr e))) (fun hS' => ?_)
        have HRN := Lib.hid h1
        have HBN := Lib.hid (HBX.out.only (Only.grown (S := fun k => ownB ve2 = some k) (Only.refl _ _) h2 (fun k e => .inl e)) HNB.out)
        clear hK K h1 h2 hS HBX HRX HNE
        have hS := hS'
        clear hS'
        refine wa_k 10 57 (.pointer (some ⟨b, 0, none⟩)) hS HZQ (wa_k 11 58 (.pointer (some ⟨b, 14, none⟩)) hS HZQ ?_)
        refine wa_r [12] ?_
        refine ar_a none (fun K hK => ?_) ar_nil
        refine ow_storeN 98 (.tmp 58) (.tmp 56) (by kernel_rfl) b 14 (.slice (some ⟨gn, 0, none⟩) (m2.evs.length + 1) cn) [.slice (some ⟨gn, 0, none⟩) (m2.evs.length + 1) cn] (by kernel_rfl) (by kernel_rfl) rfl (pmC vl2 m2.used ve2).toList 100 HBN.out (by simp [pmC]) (by kernel_rfl) (by intro u hu; simp at hu; subst hu; rfl) (Lib.hid ?_)
        intro w5 hz hox
        refine hK.out _ _ (hS.trans (hox.mono (fun k hk => .inl hk))) (fun hS' => ?_)
        have HB5 := Lib.hid hz
        have HR5 := Lib.hid (own_only HRN.out hox (fun q hq e => own_ne_blk HRN.out HBN.out (by decide) (by rw [hq, e])))
        clear hK K hz hox hS HBN HRN
        have hS := hS'
        clear hS'
        refine wa_done (by kernel_rfl) ?_
        dsimp only [Exit.then, Act.put]
        simp only [List.setIfInBounds_toArray, List.set_cons_succ, List.set_cons_zero]
        refine ⟨by trivial, gn, cn, hx, rfl, hS, HB5.out, by
          have := HR5.out
          unfold evRow at this ⊢
          rw [List.flatMap_append, List.flatMap_singleton]
          exact this⟩
    case h2 =>
      rintro gn cn hx w5 ⟨hO5, hB5, hR5⟩
      have O5 := Lib.hid hO5
      have HB5 := Lib.hid hB5
      have HR5 := Lib.hid hR5
      clear hO5 hB5 hR5
      go_wp2_with fail
      go_ret
      rw [HZ.out]
      refine ⟨rfl, ?_, ?_, ?_⟩
      · have n1 := own_ne_blk HM2.out.live HB2.out (by decide)
        have n2 : ∀ q, vl2.ownBlock = some q → ¬ (q = b ∨ ownB ve2 = some q) := fun q hq e => by
          rcases e with e | e
          · exact n1 (by rw [hq, e])
          · exact own_ne_own HM2.out.live HEVX.out hq (ownB_own e)
        refine ⟨vl2, .slice (some ⟨gn, 0, none⟩) (m2.evs.length + 1) cn, HB5.out, HM2.out.ge, own_only HM2.out.live O5.out n2, .inr ⟨by simp [PM.event], by simpa [PM.event] using HR5.out⟩, HM2.out.l1, ⟨HM2.out.len.1, by have := HEL.out; simp [PM.event]; omega⟩, HM2.out.ok⟩
      · refine HC2.out.trans (O5.out.mono (fun k hk => ?_))
        rcases hk with rfl | hk
        · exact ⟨HM2.out.ge, _, _, _, HB2.out, .inl rfl⟩
        · obtain ⟨h1, cu, h2⟩ := evOwn_kind HEVX.out (ownB_own hk)
          exact ⟨h1, _, _, _, h2, .inr (.inr rfl)⟩
      · have k0 : w1.cell? ⟨b, 0, none⟩ = w.cell? ⟨b, 0, none⟩ := HS1B.out.cell HM.out.blk.lt
        have k14 : w1.cell? ⟨b, 14, none⟩ = w.cell? ⟨b, 14, none⟩ := HS1B.out.cell HM.out.blk.lt
        have k2 : w2.cell? ⟨b, 14, none⟩ = some ve2 := HB2.out.cell 14
        refine ((Only.below_all HS1B.out).trans (HLO.out.1.mono (fun k hk => ?_))).trans (O5.out.mono (fun k hk => ?_))
        · rcases hk with hk | ⟨v, h1, h2⟩
          · exact .inl hk
          · exact .inr (.inl ⟨v, by rw [← k0]; exact h1, h2⟩)
        · rcases hk with hk | hk
          · exact .inl hk
          · exact .inr (.inr ⟨ve2, by rw [← k14, ← HLO.out.2]; exact k2, hk⟩)
  · have e2 : (e.kind == 2) = false := by simp [k4]
    have e3 : (e.kind == 3) = false := by simp [k4]
    have e4 : (e.kind == 4) = true := by simp [k4]
    obtain ⟨tn, rfl⟩ : ∃ tn : Nat, t = (tn : Int) := ⟨t.toNat, by omega⟩
    have htn : tn ≤ 4095 := by omega
    have HZ := Lib.hid (show applyP m e tn = (true, (mergeP m e tn).event tn e) by rw [HA.out, if_neg (by omega), if_neg (by omega)]; rfl)
    have HC := Lib.hid hc
    have Hk4 := Lib.hid k4
    have HEV := Lib.hid (show (mergeP m e tn).evs = m.evs from mergeP_evs m e tn)
    have hXB : w.heap.size ≠ b := Nat.ne_of_gt HM.out.blk.lt
    have HXB := Lib.hid hXB
    have n1 := hgk.lt
    clear hc k4 HA hgk hgl hgt hgm
    go_wp2_with (refine wpList_load_hid rfl 44 (.tmp 4) rfl w.heap.size rfl 44 e.cells.toArray S1.out.box _ Tryz.underlying44 rfl (by kernel_rfl) ?_)
    refine Lib.hid ?_
    go_wp2_with fail
    refine (merge_anyO ea b B m e tn _ S1.out.mp S1.out.err S1.out.ent HC.out Hk4.out htn (Nat.le_trans hB S1.out.bel.size)).mono ?_
    rintro e' w2 ⟨rfl, hm2, hc2, hlo⟩
    have HLO := Lib.hid hlo
    have HS1B := Lib.hid S1.out.bel
    clear hlo
    have HBX2 := Lib.hid (show Blk w2 w.heap.size 44 #[.int .i64 e.kind, .int .i64 e.shard, .int .i64 e.other, .int .i64 e.server, .int .i64 e.client, .int .i64 e.seq, .slice e.ao e.no e.co, .string e.key, .int .i64 e.upto, .int .i64 e.part, .int .i64 e.parts, .slice e.ad e.nd e.cd] from S1.out.box.chg hc2 (.inr (by unfold PT; decide)))
    have HC2 := Lib.hid (Chg.trans (Chg.of_below S1.out.bel) hc2)
    have HSZ := Lib.hid (show B ≤ w2.heap.size from Nat.le_trans hB HC2.out.size)
    clear hc2 n1 s0
    obtain ⟨vl2, ve2, hm2⟩ := hm2
    generalize mergeP m e tn = m2 at *
    have HM2 := Lib.hid hm2
    have HB2 := Lib.hid hm2.blk
    have HEL : Hid (m2.evs.length ≤ 9000) := Lib.hid (by rw [HEV.out]; exact HLN2.out)
    have nb := EvOwn.ne_blk hm2.ev hm2.blk (by decide)
    have nx := EvOwn.ne_blk hm2.ev HBX2.out (by decide)
    have HNB : Hid (ownB ve2 ≠ some b) := Lib.hid (fun h => nb (ownB_own h))
    have HNX : Hid (ownB ve2 ≠ some w.heap.size) := Lib.hid (fun h => nx (ownB_own h))
    have HEO := Lib.hid (EvOwn.ownE hm2.ev)
    have HEVX := Lib.hid hm2.ev
    clear nb nx hm2
    go_wp2_with fail
    apply merge3 (F := fun gn cn _ w' => Only (fun k => k = b ∨ ownB ve2 = some k) w2 w' ∧ Blk w' b 100 (pmC vl2 m2.used (.slice (some ⟨gn, 0, none⟩) (m2.evs.length + 1) cn)) ∧ w'.ownsRow B 103 13 (.slice (some ⟨gn, 0, none⟩) (m2.evs.length + 1) cn) (m2.evs.length + 1) (evRow (m2.evs ++ [((tn : Int), e)])))
    case h1 =>
      obtain ⟨i0, hinf, hz0, hz1, hz2⟩ := info_parts Tryz.infoEv
      have HI := Lib.hid (And.intro hinf (And.intro hz0 (And.intro hz1 hz2)))
      clear hinf hz0 hz1 hz2
      refine wp_region_wb ((Only (fun k => k = b ∨ ownB ve2 = some k) w2)) (by kernel_rfl) (((Only.refl (fun k => k = b ∨ ownB ve2 = some k) w2).drewN 1)) (fun _ _ _ _ _ h => nomatch h.1) ?_
      intro hS HZQ
      refine wa_k 0 47 (.pointer (some ⟨b, 0, none⟩)) hS HZQ (wa_k 1 48 (.pointer (some ⟨b, 0, none⟩)) hS HZQ (wa_k 2 49 (.pointer (some ⟨b, 0, none⟩)) hS HZQ (wa_k 3 50 (.pointer (some ⟨b, 14, none⟩)) hS HZQ (wa_k 5 52 (.int .i64 ((tn : Nat) : Int)) hS HZQ (wa_v 6 53 (.agg #[.int .i64 e.kind, .int .i64 e.shard, .int .i64 e.other, .int .i64 e.server, .int .i64 e.client, .int .i64 e.seq, .slice e.ao e.no e.co, .string e.key, .int .i64 e.upto, .int .i64 e.part, .int .i64 e.parts, .slice e.ad e.nd e.cd]) hS HZQ (fun W hW => run_eqv (run_loadN 44 (.tmp 4) (by kernel_rfl) w.heap.size 0 (by kernel_rfl) [.int .i64 e.kind, .int .i64 e.shard, .int .i64 e.other, .int .i64 e.server, .int .i64 e.client, .int .i64 e.seq, .slice e.ao e.no e.co, .string e.key, .int .i64 e.upto, .int .i64 e.part, .int .i64 e.parts, .slice e.ad e.nd e.cd] ((HBX2.out.only hW (fun h => h.elim HXB.out HNX.out)).range (fun j v hj => by simpa using hj)) _ Tryz.underlying44 rfl (by kernel_rfl)) rfl) (wa_k 7 54 (.agg #[.int .i64 ((tn : Nat) : Int), .int .i64 e.kind, .int .i64 e.shard, .int .i64 e.other, .int .i64 e.server, .int .i64 e.client, .int .i64 e.seq, .slice e.ao e.no e.co, .string e.key, .int .i64 e.upto, .int .i64 e.part, .int .i64 e.parts, .slice e.ad e.nd e.cd]) hS HZQ ?_))))))
      refine wa_r [4, 8] ?_
      refine (ar_a (some 51) (fun K hK => ?_) (ar_a (some 55) (fun K hK => ?_) ar_nil))
      ·
        refine ow_val ve2 _ (run_load1 98 (.tmp 50) (by kernel_rfl) ⟨b, 14, none⟩ (by kernel_rfl) ve2 (by first | exact HBX.out.cell 14 | exact (HB2.out.drewN 1).cell 14) _ Tryz.underlying98 rfl) ?_
        refine hK.out _ _ hS (fun hS => ?_)
        clear hK K
        refine wa_r [8] ?_
        refine ar_a (some 55) (fun K hK => ?_) ar_nil
        refine ow_one 103 (evC ((tn : Int), e)).toArray (by kernel_rfl) (Lib.hid ?_)
        intro hx wx hh hz hbx
        refine hK.out _ _ (hS.fresh hbx) (fun hS' => ?_)
        have HNE := Lib.hid hz
        have HBX := Lib.hid ((HB2.out.drewN 1).below hbx (HB2.out.drewN 1).lt)
        have HRX := Lib.hid (OwnE.below (show OwnE w2.drew B _ 13 _ _ _ from HEO.out) hbx)
        have HZX := Lib.hid (show B ≤ wx.heap.size from Nat.le_trans HSZ.out hS'.size)
        clear hK K hz hbx hh
        have hS := hS'
        clear hS'
        refine wa_r [9] ?_
        refine ar_a (some 56) (fun K hK => ?_) ar_nil
        refine ow_appX (.tmp 51) (.tmp 55) 98 (by kernel_rfl) 103 i0 _ 13 144 Tryz.underlying98 HI.out.1 HI.out.2.1 HI.out.2.2.1 HI.out.2.2.2 rfl (by decide) B ve2 m2.evs.length (evRow m2.evs) (by kernel_rfl) HRX.out HZX.out hx 0 1 1 (evC ((tn : Int), e)) (by kernel_rfl) rfl (by decide) (blk_row HNE.out) (evC_one _) (by have := HEL.out; omega) (by decide) (Lib.hid ?_)
        intro vn wx h1 h2
        obtain ⟨gn, cn, rfl, -, -, -, -⟩ := own_some h1 (by omega)
        refine hK.out _ _ (hS.grown h2 (fun k e => .inl (.inr e))) (fun hS' => ?_)
        have HRN := Lib.hid h1
        have HBN := Lib.hid (HBX.out.only (Only.grown (S := fun k => ownB ve2 = some k) (Only.refl _ _) h2 (fun k e => .inl e)) HNB.out)
        clear hK K h1 h2 hS HBX HRX HNE
        have hS := hS'
        clear hS'
        refine wa_k 10 57 (.pointer (some ⟨b, 0, none⟩)) hS HZQ (wa_k 11 58 (.pointer (some ⟨b, 14, none⟩)) hS HZQ ?_)
        refine wa_r [12] ?_
        refine ar_a none (fun K hK => ?_) ar_nil
        refine ow_storeN 98 (.tmp 58) (.tmp 56) (by kernel_rfl) b 14 (.slice (some ⟨gn, 0, none⟩) (m2.evs.length + 1) cn) [.slice (some ⟨gn, 0, none⟩) (m2.evs.length + 1) cn] (by kernel_rfl) (by kernel_rfl) rfl (pmC vl2 m2.used ve2).toList 100 HBN.out (by simp [pmC]) (by kernel_rfl) (by intro u hu; simp at hu; subst hu; rfl) (Lib.hid ?_)
        intro w5 hz hox
        refine hK.out _ _ (hS.trans (hox.mono (fun k hk => .inl hk))) (fun hS' => ?_)
        have HB5 := Lib.hid hz
        have HR5 := Lib.hid (own_only HRN.out hox (fun q hq e => own_ne_blk HRN.out HBN.out (by decide) (by rw [hq, e])))
        clear hK K hz hox hS HBN HRN
        have hS := hS'
        clear hS'
        refine wa_done (by kernel_rfl) ?_
        dsimp only [Exit.then, Act.put]
        simp only [List.setIfInBounds_toArray, List.set_cons_succ, List.set_cons_zero]
        refine ⟨by trivial, gn, cn, hx, rfl, hS, HB5.out, by
          have := HR5.out
          unfold evRow at this ⊢
          rw [List.flatMap_append, List.flatMap_singleton]
          exact this⟩
      ·
        refine ow_one 103 (evC ((tn : Int), e)).toArray (by kernel_rfl) (Lib.hid ?_)
        intro hx wx hh hz hbx
        refine hK.out _ _ (hS.fresh hbx) (fun hS' => ?_)
        have HNE := Lib.hid hz
        have HBX := Lib.hid ((HB2.out.drewN 1).below hbx (HB2.out.drewN 1).lt)
        have HRX := Lib.hid (OwnE.below (show OwnE w2.drew B _ 13 _ _ _ from HEO.out) hbx)
        have HZX := Lib.hid (show B ≤ wx.heap.size from Nat.le_trans HSZ.out hS'.size)
        clear hK K hz hbx hh
        have hS := hS'
        clear hS'
        refine wa_r [4] ?_
        refine ar_a (some 51) (fun K hK => ?_) ar_nil
        refine ow_val ve2 _ (run_load1 98 (.tmp 50) (by kernel_rfl) ⟨b, 14, none⟩ (by kernel_rfl) ve2 (by first | exact HBX.out.cell 14 | exact (HB2.out.drewN 1).cell 14) _ Tryz.underlying98 rfl) ?_
        refine hK.out _ _ hS (fun hS => ?_)
        clear hK K
        refine wa_r [9] ?_
        refine ar_a (some 56) (fun K hK => ?_) ar_nil
        refine ow_appX (.tmp 51) (.tmp 55) 98 (by kernel_rfl) 103 i0 _ 13 144 Tryz.underlying98 HI.out.1 HI.out.2.1 HI.out.2.2.1 HI.out.2.2.2 rfl (by decide) B ve2 m2.evs.length (evRow m2.evs) (by kernel_rfl) HRX.out HZX.out hx 0 1 1 (evC ((tn : Int), e)) (by kernel_rfl) rfl (by decide) (blk_row HNE.out) (evC_one _) (by have := HEL.out; omega) (by decide) (Lib.hid ?_)
        intro vn wx h1 h2
        obtain ⟨gn, cn, rfl, -, -, -, -⟩ := own_some h1 (by omega)
        refine hK.out _ _ (hS.grown h2 (fun k e => .inl (.inr e))) (fun hS' => ?_)
        have HRN := Lib.hid h1
        have HBN := Lib.hid (HBX.out.only (Only.grown (S := fun k => ownB ve2 = some k) (Only.refl _ _) h2 (fun k e => .inl e)) HNB.out)
        clear hK K h1 h2 hS HBX HRX HNE
        have hS := hS'
        clear hS'
        refine wa_k 10 57 (.pointer (some ⟨b, 0, none⟩)) hS HZQ (wa_k 11 58 (.pointer (some ⟨b, 14, none⟩)) hS HZQ ?_)
        refine wa_r [12] ?_
        refine ar_a none (fun K hK => ?_) ar_nil
        refine ow_storeN 98 (.tmp 58) (.tmp 56) (by kernel_rfl) b 14 (.slice (some ⟨gn, 0, none⟩) (m2.evs.length + 1) cn) [.slice (some ⟨gn, 0, none⟩) (m2.evs.length + 1) cn] (by kernel_rfl) (by kernel_rfl) rfl (pmC vl2 m2.used ve2).toList 100 HBN.out (by simp [pmC]) (by kernel_rfl) (by intro u hu; simp at hu; subst hu; rfl) (Lib.hid ?_)
        intro w5 hz hox
        refine hK.out _ _ (hS.trans (hox.mono (fun k hk => .inl hk))) (fun hS' => ?_)
        have HB5 := Lib.hid hz
        have HR5 := Lib.hid (own_only HRN.out hox (fun q hq e => own_ne_blk HRN.out HBN.out (by decide) (by rw [hq, e])))
        clear hK K hz hox hS HBN HRN
        have hS := hS'
        clear hS'
        refine wa_done (by kernel_rfl) ?_
        dsimp only [Exit.then, Act.put]
        simp only [List.setIfInBounds_toArray, List.set_cons_succ, List.set_cons_zero]
        refine ⟨by trivial, gn, cn, hx, rfl, hS, HB5.out, by
          have := HR5.out
          unfold evRow at this ⊢
          rw [List.flatMap_append, List.flatMap_singleton]
          exact this⟩
    case h2 =>
      rintro gn cn hx w5 ⟨hO5, hB5, hR5⟩
      have O5 := Lib.hid hO5
      have HB5 := Lib.hid hB5
      have HR5 := Lib.hid hR5
      clear hO5 hB5 hR5
      go_wp2_with fail
      go_ret
      rw [HZ.out]
      refine ⟨rfl, ?_, ?_, ?_⟩
      · have n1 := own_ne_blk HM2.out.live HB2.out (by decide)
        have n2 : ∀ q, vl2.ownBlock = some q → ¬ (q = b ∨ ownB ve2 = some q) := fun q hq e => by
          rcases e with e | e
          · exact n1 (by rw [hq, e])
          · exact own_ne_own HM2.out.live HEVX.out hq (ownB_own e)
        refine ⟨vl2, .slice (some ⟨gn, 0, none⟩) (m2.evs.length + 1) cn, HB5.out, HM2.out.ge, own_only HM2.out.live O5.out n2, .inr ⟨by simp [PM.event], by simpa [PM.event] using HR5.out⟩, HM2.out.l1, ⟨HM2.out.len.1, by have := HEL.out; simp [PM.event]; omega⟩, HM2.out.ok⟩
      · refine HC2.out.trans (O5.out.mono (fun k hk => ?_))
        rcases hk with rfl | hk
        · exact ⟨HM2.out.ge, _, _, _, HB2.out, .inl rfl⟩
        · obtain ⟨h1, cu, h2⟩ := evOwn_kind HEVX.out (ownB_own hk)
          exact ⟨h1, _, _, _, h2, .inr (.inr rfl)⟩
      · have k0 : w1.cell? ⟨b, 0, none⟩ = w.cell? ⟨b, 0, none⟩ := HS1B.out.cell HM.out.blk.lt
        have k14 : w1.cell? ⟨b, 14, none⟩ = w.cell? ⟨b, 14, none⟩ := HS1B.out.cell HM.out.blk.lt
        have k2 : w2.cell? ⟨b, 14, none⟩ = some ve2 := HB2.out.cell 14
        refine ((Only.below_all HS1B.out).trans (HLO.out.1.mono (fun k hk => ?_))).trans (O5.out.mono (fun k hk => ?_))
        · rcases hk with hk | ⟨v, h1, h2⟩
          · exact .inl hk
          · exact .inr (.inl ⟨v, by rw [← k0]; exact h1, h2⟩)
        · rcases hk with hk | hk
          · exact .inl hk
          · exact .inr (.inr ⟨ve2, by rw [← k14, ← HLO.out.2]; exact k2, hk⟩)
theorem apply_any (ea : Nat → Addr) (b B : Nat) (m : PM) (e : EN) (t : Int) (w : World) (hm : MapAt w B b m) (he : BErr w ea) (ha : e.at w) (hea : ∀ n, (ea n).block < B) (hln : m.live.length ≤ 9000) (hln2 : m.evs.length ≤ 9000) (hB : B ≤ w.heap.size) :
    Calls Tryz.prog 20 #[.pointer (some ⟨b, 0, none⟩), .agg e.cells.toArray, .int .i64 t] w fun e' w' => e' = .returned (.bool (applyP m e t).1) ∧ MapAt w' B b (applyP m e t).2 ∧ Chg PT B w w' :=
  (apply_anyO ea b B m e t w hm he ha hea hln hln2 hB).mono fun e' w' h => ⟨h.1, h.2.1, h.2.2.1⟩
end Go.Proofs.YthjmfcdhpdiehaaGreatDoor
