/-
  append of any number of elements, none too; ways of four that meet.
  What turns a reference's map; what Apply makes of it, in plain Lean.
  tidewaterref20.Apply of an entry that counts: kind 2.
-/
import Derived.Test.YthjmfcdhpdiehaaGreatDoorM13
import Derived.Test.YthjmfcdhpdiehaaGreatDoorM09
import Derived.Test.YthjmfcdhpdiehaaGreatDoorM21
namespace Go.Proofs.YthjmfcdhpdiehaaGreatDoor
open Go.RowKit Utf
set_option maxRecDepth 100000
set_option linter.unusedSimpArgs false
set_option linter.unusedVariables false

theorem run_append_none {P : Program} (w : World) (t ty e : TypeId) (i : TypeInfo) (ht : P.underlying t = some (.slice e)) (hi : P.info? e = some i) (base : Option Addr) (n cap : Nat) (hc : n ≤ cap) (a : Addr) (c : Nat) :
    (Builtin.append_ #[t, t] ty #[.slice base n cap, .slice (some a) 0 c]).run P w = .ok (.slice base n cap) w := by
  have hf := run_firstCells_some (P := P) w i.size 0 a 0 c [] (by simp) (by simp)
  cases base <;> simp [Builtin.append_, run_underlying ht, sizeOf, typeInfo, hi, Builtin.lenOf, hc, hf, storeCells]
section
variable {P : Program} {o : Oper} {a : Act} {w : World} {Q : Exit → Act → World → Prop} {K : Act → World → Prop}
theorem ow_appE (s x : Operand) (t : TypeId) (ho : o.op = .call { callee := .builtin .append, args := #[s, x], argTypes := #[t, t] })
    (e : TypeId) (i : TypeInfo) (z : Value) (size bytes : Nat) (ht : P.underlying t = some (.slice e)) (hi : P.info? e = some i) (hz : i.zero = some z)
    (hsize : i.size = size) (hby : i.bytes = bytes) (hzs : z.cells.size = size) (hsz : 0 < size)
    (B : Nat) (v : Value) (n : Nat) (xs : List Value) (hs : a.eval s = v) (hown : OwnE w B e size v n xs) (hB : B ≤ w.heap.size)
    (b off m c : Nat) (us : List Value) (hx : a.eval x = .slice (some ⟨b, off, none⟩) m c) (hm : us.length = m * size) (hr : RowAt w (some ⟨b, off, none⟩) us) (hu : ∀ u ∈ us, u.oneCell' = true) (hn : n + m ≤ 1000000000) (hby2 : bytes ≤ 1000)
    (h : Hid (∀ v' w', OwnE w' B e size v' (n + m) (xs ++ us) → w.grownBy w' (ownB v) → K (a.put o.dst v') w')) : OW P o a w K Q := by
  by_cases hm1 : 1 ≤ m
  · exact ow_appX s x t ho e i z size bytes ht hi hz hsize hby hzs hsz B v n xs hs hown hB b off m c us hx hm hm1 hr hu hn hby2 (Lib.hid fun v' w' h1 h2 => h.out v' w' (.inr h1) h2)
  · obtain rfl : m = 0 := by omega
    obtain rfl : us = [] := List.length_eq_zero_iff.1 (by simpa using hm)
    have hv : ∃ base cap, v = .slice base n cap ∧ n ≤ cap := by
      rcases hown with ⟨h1 | ⟨g, h1⟩, h2, -⟩ | h1
      · subst h2; exact ⟨none, 0, h1, Nat.le_refl _⟩
      · subst h2; exact ⟨_, 0, h1, Nat.le_refl _⟩
      · rcases h1.2 with ⟨h5, h6⟩ | ⟨g, cap, cur, h5, -, -, h6, -⟩
        · exact ⟨none, 0, by rw [h5, h6], by omega⟩
        · exact ⟨_, cap, h5, h6⟩
    obtain ⟨base, cap, rfl, hc⟩ := hv
    have hrun := run_append_none (P := P) w t o.type e i ht hi base n cap hc ⟨b, off, none⟩ c
    refine ow_val (.slice base n cap) w ?_ (h.out _ w (by simpa using hown) ⟨rfl, rfl, rfl, Nat.le_refl _, fun _ _ _ => rfl⟩)
    unfold execOp
    simp only [ho, resolve, invoke, builtin, Sem.run_bind, Sem.run_pure, Result.andThen_ok, List.map_toArray, List.map_cons, List.map_nil, hs, hx, hrun]
/-- A slice of no element, new. -/
theorem ow_zero (e : TypeId) (hrun : (execOp a.eval o).run P w = .ok (.value (.slice (some ⟨w.heap.size, 0, none⟩) 0 0)) (w.alloc (.cells #[] e)))
    (h : Hid (∀ g w', g = w.heap.size → Below w.heap.size w w' → K (a.put o.dst (.slice (some ⟨g, 0, none⟩) 0 0)) w')) : OW P o a w K Q :=
  ow_val _ _ hrun (h.out _ _ rfl ((Below.refl _ w).alloc (Nat.le_refl _) _))
end
/-- Where the rest of a slice begins. -/
def offA (c k sz : Nat) : Nat := if k < c then k * sz else 0
theorem run_slcA {P : Program} {o : Oper} {a : Act} {w : World} (T : TypeId) (x l : Operand) (ho : o.op = .slice T x (some l) none none) (b n c k e sz : Nat) (hx : a.eval x = .slice (some ⟨b, 0, none⟩) n c) (hl : a.eval l = .int .i64 (k : Int)) (hk : k ≤ n) (hc : n ≤ c)
    (hu : P.underlying T = some (.slice e)) (hs : (P.info? e).map (·.size) = some sz) : (execOp a.eval o).run P w = .ok (.value (.slice (some ⟨b, offA c k sz, none⟩) (n - k) (c - k))) w := by
  unfold offA
  by_cases h : k < c
  · rw [if_pos h]
    have := run_slcL (P := P) (w := w) T x l ho b 0 n c k e sz hx hl hk h hu hs
    rwa [Nat.zero_add] at this
  · rw [if_neg h]
    obtain rfl : c = k := by omega
    have := run_slcE (P := P) (w := w) T x l ho b 0 n c c e sz hx hl hk rfl hu hs
    rwa [Nat.sub_self]
theorem merge4 {P : Program} {c : Code} {Q : Exit → Act → World → Prop} {a0 : Act} {w0 : World} {FR : Nat → Value → Nat → Nat → Act} (F : Nat → Value → Nat → Nat → World → Prop)
    (h1 : c.wp P (fun e a w => e = Exit.normal ∧ ∃ x y z u, a = FR x y z u ∧ F x y z u w) a0 w0) (h2 : ∀ x y z u w, F x y z u w → Q .normal (FR x y z u) w) : c.wp P Q a0 w0 :=
  Code.wp_mono (fun e a w h => by
    obtain ⟨rfl, x, y, z, u, rfl, hF⟩ := h
    exact h2 x y z u w hF) h1
theorem shRow_take (l : List Sh) (k : Nat) : shRow (l.take k) = (shRow l).take (k * 5) := by
  induction k generalizing l with
  | zero => simp [shRow]
  | succ k ih =>
    cases l with
    | nil => simp [shRow]
    | cons x l =>
      have := ih l
      unfold shRow at this ⊢
      rw [List.take_succ_cons, List.flatMap_cons, List.flatMap_cons, this, Nat.succ_mul, Nat.add_comm (k * 5), List.take_append, Sh.cells_len]
      rw [List.take_of_length_le (show x.cells.length ≤ 5 + k * 5 by rw [Sh.cells_len]; omega), Nat.add_sub_cancel_left]
theorem shRow_drop (l : List Sh) (k : Nat) : shRow (l.drop k) = (shRow l).drop (k * 5) := by
  induction k generalizing l with
  | zero => simp
  | succ k ih =>
    cases l with
    | nil => simp [shRow]
    | cons x l =>
      have := ih l
      unfold shRow at this ⊢
      rw [List.drop_succ_cons, List.flatMap_cons, this, Nat.succ_mul, Nat.add_comm (k * 5), List.drop_append, Sh.cells_len]
      simp [List.drop_of_length_le, Sh.cells_len]
theorem rowAt_take {w : World} {b o n : Nat} {xs : List Value} (h : RowAt w (some ⟨b, o, none⟩) xs) : RowAt w (some ⟨b, o, none⟩) (xs.take n) := fun i hi => by
  rw [List.length_take] at hi
  obtain ⟨b', o', e, hc⟩ := h i (by omega)
  cases e
  exact ⟨b, o, rfl, by rw [hc, List.getElem_take]⟩
theorem rowAt_drop {w : World} {b o n : Nat} {xs : List Value} (h : RowAt w (some ⟨b, o, none⟩) xs) : RowAt w (some ⟨b, o + n, none⟩) (xs.drop n) := fun i hi => by
  rw [List.length_drop] at hi
  obtain ⟨b', o', e, hc⟩ := h (n + i) (by omega)
  cases e
  exact ⟨b, o + n, rfl, by rw [Nat.add_assoc, hc, List.getElem_drop]⟩
theorem rowAt_offA {w : World} {g cap k : Nat} {l : List Sh} (h : RowAt w (some ⟨g, 0, none⟩) (shRow l)) (hl : l.length ≤ cap) : RowAt w (some ⟨g, offA cap k 5, none⟩) (shRow (l.drop k)) := by
  unfold offA
  by_cases hc : k < cap
  · rw [if_pos hc, shRow_drop]
    have := rowAt_drop (n := k * 5) h
    rwa [Nat.zero_add] at this
  · rw [if_neg hc, List.drop_of_length_le (by omega)]
    intro i hi
    cases hi
end Go.Proofs.YthjmfcdhpdiehaaGreatDoor

namespace Go.Proofs.YthjmfcdhpdiehaaGreatDoor
open Go.RowKit Utf
set_option maxRecDepth 100000
set_option linter.unusedSimpArgs false
set_option linter.unusedVariables false

theorem ownE_pos {w : World} {B sz : Nat} {e : TypeId} {v : Value} {n : Nat} {xs : List Value} (h : OwnE w B e sz v n xs) (hn : 1 ≤ n) : w.ownsRow B e sz v n xs := by
  rcases h with ⟨-, h0, -⟩ | h
  · omega
  · exact h
theorem ownE_apart {w : World} {B B' sz sz' : Nat} {e e' : TypeId} {v v' : Value} {n n' : Nat} {xs xs' : List Value} (h : OwnE w B e sz v n xs) (h' : OwnE w B' e' sz' v' n' xs') (hne : e ≠ e') {q : Nat} (h1 : ownB v = some q) (h2 : ownB v' = some q) : False := by
  obtain ⟨-, c, t, fr, h3, h4⟩ := ownE_ty h h1
  obtain ⟨-, c', t', fr', h5, h6⟩ := ownE_ty h' h2
  rw [h3] at h5
  cases h5
  exact hne (h4.symm.trans h6)
theorem ownB_of {g n cap : Nat} (h : 1 ≤ cap) : ownB (.slice (some ⟨g, 0, none⟩) n cap) = some g := by
  unfold ownB
  simp
  omega
section
variable {w w' : World} {B b : Nat} {m : RM} {vl vu ve v' : Value}
theorem RMV.set_live (h : RMV w B b m vl vu ve) {l : List Sh} (ho : Only (fun k => k = b ∨ ownB vl = some k) w w') (hb : Blk w' b 117 #[v', vu, ve]) (hr : w'.ownsRow B 75 5 v' l.length (shRow l)) (h1 : 1 ≤ l.length ∧ l.length ≤ 10000) (hk : ∀ s ∈ l, s.ok) :
    RMV w' B b ⟨l, m.used, m.evs⟩ v' vu ve ∧ Chg RT B w w' := by
  have hl : OwnE w B 75 5 vl m.live.length (shRow m.live) := .inr h.live
  have hu : OwnE w B 3 1 vu m.used.length (zRow m.used) := .inr h.used
  refine ⟨⟨hb, h.ge, hr, ownE_pos (hu.only' ho (fun q hq e => ?_)) h.l1.2, h.ev.only' ho (fun q hq e => ?_), ⟨h1.1, h.l1.2⟩, ⟨h1.2, h.len.2⟩, hk⟩, ho.mono (fun k hk => ?_)⟩
  · rcases e with e | e
    · exact hu.ne_blk' h.blk (by decide) (e ▸ hq)
    · exact ownE_apart hu hl (by decide) hq e
  · rcases e with e | e
    · exact h.ev.ne_blk' h.blk (by decide) (e ▸ hq)
    · exact ownE_apart h.ev hl (by decide) hq e
  · rcases hk with rfl | hk
    · exact ⟨h.ge, _, _, _, h.blk, .inl rfl⟩
    · obtain ⟨h1, c, t, fr, h2, h3⟩ := ownE_ty hl hk
      exact ⟨h1, c, t, fr, h2, .inr (.inl h3)⟩
theorem RMV.set_used (h : RMV w B b m vl vu ve) {l : List Int} (ho : Only (fun k => k = b ∨ ownB vu = some k) w w') (hb : Blk w' b 117 #[vl, v', ve]) (hr : w'.ownsRow B 3 1 v' l.length (zRow l)) (h1 : 1 ≤ l.length ∧ l.length ≤ 10000) :
    RMV w' B b ⟨m.live, l, m.evs⟩ vl v' ve ∧ Chg RT B w w' := by
  have hl : OwnE w B 75 5 vl m.live.length (shRow m.live) := .inr h.live
  have hu : OwnE w B 3 1 vu m.used.length (zRow m.used) := .inr h.used
  refine ⟨⟨hb, h.ge, ownE_pos (hl.only' ho (fun q hq e => ?_)) h.l1.1, hr, h.ev.only' ho (fun q hq e => ?_), ⟨h.l1.1, h1.1⟩, ⟨h.len.1, h1.2, h.len.2.2⟩, h.ok⟩, ho.mono (fun k hk => ?_)⟩
  · rcases e with e | e
    · exact hl.ne_blk' h.blk (by decide) (e ▸ hq)
    · exact ownE_apart hl hu (by decide) hq e
  · rcases e with e | e
    · exact h.ev.ne_blk' h.blk (by decide) (e ▸ hq)
    · exact ownE_apart h.ev hu (by decide) hq e
  · rcases hk with rfl | hk
    · exact ⟨h.ge, _, _, _, h.blk, .inl rfl⟩
    · obtain ⟨h1, c, t, fr, h2, h3⟩ := ownE_ty hu hk
      exact ⟨h1, c, t, fr, h2, .inr (.inr (.inr h3))⟩
theorem RMV.set_ev (h : RMV w B b m vl vu ve) {l : List Ev} (ho : Only (fun k => k = b ∨ ownB ve = some k) w w') (hb : Blk w' b 117 #[vl, vu, v']) (hr : w'.ownsRow B 124 13 v' l.length (evRow l)) (h1 : l.length ≤ 10000) :
    RMV w' B b ⟨m.live, m.used, l⟩ vl vu v' ∧ Chg RT B w w' := by
  have hl : OwnE w B 75 5 vl m.live.length (shRow m.live) := .inr h.live
  have hu : OwnE w B 3 1 vu m.used.length (zRow m.used) := .inr h.used
  refine ⟨⟨hb, h.ge, ownE_pos (hl.only' ho (fun q hq e => ?_)) h.l1.1, ownE_pos (hu.only' ho (fun q hq e => ?_)) h.l1.2, .inr hr, h.l1, ⟨h.len.1, h.len.2.1, h1⟩, h.ok⟩, ho.mono (fun k hk => ?_)⟩
  · rcases e with e | e
    · exact hl.ne_blk' h.blk (by decide) (e ▸ hq)
    · exact ownE_apart hl h.ev (by decide) hq e
  · rcases e with e | e
    · exact hu.ne_blk' h.blk (by decide) (e ▸ hq)
    · exact ownE_apart hu h.ev (by decide) hq e
  · rcases hk with rfl | hk
    · exact ⟨h.ge, _, _, _, h.blk, .inl rfl⟩
    · obtain ⟨h1, c, t, fr, h2, h3⟩ := ownE_ty h.ev hk
      exact ⟨h1, c, t, fr, h2, .inr (.inr (.inl h3))⟩
end

/-- What entries that count make of the reference's map. -/
def rmoveP (m : RM) (e : EN) : RM := match findN e.shard m.live with
  | none => m
  | some i => ⟨m.live.set i ((shAt m.live i).moved e.server), m.used, m.evs⟩
def rsplitP (m : RM) (e : EN) (t : Nat) : RM := match findN e.shard m.live with
  | none => m
  | some i => ⟨m.live.set i ((shAt m.live i).turned (shAt m.live i).lo e.key ((t + 1 : Nat) : Int)) ++ [⟨e.other, e.server, ((t + 1 : Nat) : Int), e.key, (shAt m.live i).hi⟩], m.used ++ [e.other], m.evs ++ [((t : Int), e)]⟩
def rmergeP (m : RM) (e : EN) (t : Nat) : RM := match findN e.shard m.live, findN e.other m.live with
  | some i, some k =>
    (match joinB (shAt m.live i).lo (shAt m.live i).hi (shAt m.live k).lo (shAt m.live k).hi with
    | none => m
    | some sp =>
      let l := m.live.set i ((shAt m.live i).turned sp.1 sp.2 ((t + 1 : Nat) : Int))
      ⟨l.take k ++ l.drop (k + 1), m.used, m.evs ++ [((t : Int), e)]⟩)
  | _, _ => m
def rapplyP (m : RM) (e : EN) (t : Int) : Bool × RM :=
  if rcountsP m e && decide (0 ≤ t) && decide (t ≤ 4095) then
    (true, if e.kind = 2 then rmoveP m e else if e.kind = 3 then rsplitP m e t.toNat else rmergeP m e t.toNat)
  else (false, m)
theorem rcounts_kind {m : RM} {e : EN} (h : rcountsP m e = true) : e.kind = 2 ∨ e.kind = 3 ∨ e.kind = 4 := by
  unfold rcountsP at h
  cases hf : findN e.shard m.live with
  | none => rw [hf] at h; cases h
  | some i =>
    rw [hf] at h
    dsimp only at h
    by_cases h2 : e.kind = 2
    · exact .inl h2
    by_cases h3 : e.kind = 3
    · exact .inr (.inl h3)
    by_cases h4 : e.kind = 4
    · exact .inr (.inr h4)
    rw [if_neg h2, if_neg h3, if_neg h4] at h
    cases h
theorem Tryz.infoRS : (Tryz.prog.info? 75).map (fun i => (i.zero, i.size, i.bytes)) = some (some (.agg #[.int .i64 0, .int .i64 0, .int .i64 0, .string ⟨#[]⟩, .string ⟨#[]⟩]), 5, 56) := by kernel_rfl
theorem Tryz.infoRI : (Tryz.prog.info? 3).map (fun i => (i.zero, i.size, i.bytes)) = some (some (.int .i64 0), 1, 8) := by kernel_rfl
theorem Tryz.infoRE : (Tryz.prog.info? 124).map (fun i => (i.zero, i.size, i.bytes)) = some (some (.agg #[.int .i64 0, .int .i64 0, .int .i64 0, .int .i64 0, .int .i64 0, .int .i64 0, .int .i64 0, .slice none 0 0, .string ⟨#[]⟩, .int .i64 0, .int .i64 0, .int .i64 0, .slice none 0 0]), 13, 144) := by kernel_rfl
end Go.Proofs.YthjmfcdhpdiehaaGreatDoor

namespace Go.Proofs.YthjmfcdhpdiehaaGreatDoor
open Go.RowKit Utf
set_option maxRecDepth 100000
set_option linter.unusedSimpArgs false
set_option linter.unusedVariables false

set_option maxHeartbeats 8000000 in
theorem rmove_any (b B : Nat) (m : RM) (e : EN) (t : Nat) (w : World) (hm : RMAt w B b m) (ha : e.at w) (hc : rcountsP m e = true) (hk : e.kind = 2) (ht : t ≤ 4095) (hln : m.live.length ≤ 9000) (hlu : m.used.length ≤ 9000) (hle : m.evs.length ≤ 9000) (hB : B ≤ w.heap.size) :
    Calls Tryz.prog 30 #[.pointer (some ⟨b, 0, none⟩), .agg e.cells.toArray, .int .i64 (t : Nat)] w fun e' w' => e' = .returned (.bool true) ∧ RMAt w' B b (rmoveP m e) ∧ Chg RT B w w' := by
  obtain ⟨vl, vu, ve, hm⟩ := hm
  obtain ⟨g, cap, cur, rfl, hgB, hgk, hgc, hgm, hgl, hgt, -⟩ := own_open hm.live hm.l1.1
  have H0 : Hid (RC w b B m e (.slice (some ⟨g, 0, none⟩) m.live.length cap) vu ve (w.alloc (.cells #[.int .i64 e.kind, .int .i64 e.shard, .int .i64 e.other, .int .i64 e.server, .int .i64 e.client, .int .i64 e.seq, .slice e.ao e.no e.co, .string e.key, .int .i64 e.upto, .int .i64 e.part, .int .i64 e.parts, .slice e.ad e.nd e.cd] 44))) := Lib.hid (RC.new hm ha)
  have HK := Lib.hid ha.key
  have HCA := Lib.hid (fun W hm ha => rcounts_any b B m e W hm ha)
  rw [hc] at HCA
  have HM := Lib.hid hm
  have HGK := Lib.hid hgk
  have HGL := Lib.hid hgl
  have HGT := Lib.hid hgt
  have HGM := Lib.hid hgm
  have HGC := Lib.hid hgc
  have HLN := Lib.hid hln
  have HLU := Lib.hid hlu
  have HLE := Lib.hid hle
  have hl1 := hm.l1.1
  cases hf : findN e.shard m.live with
  | none => rw [rcounts_none hf] at hc; cases hc
  | some i =>
  have hi := (findN_lt hf).1
  have HF := Lib.hid hf
  have HSP := Lib.hid (show rmoveP m e = _ by unfold rmoveP; rw [hf])
  have HKI := Lib.hid hk
  clear hm ha hc hk hf hgk hgl hgt hgm hgc hln hlu hle
  show Calls Tryz.prog 30 #[.pointer (some ⟨b, 0, none⟩), .agg #[.int .i64 e.kind, .int .i64 e.shard, .int .i64 e.other, .int .i64 e.server, .int .i64 e.client, .int .i64 e.seq, .slice e.ao e.no e.co, .string e.key, .int .i64 e.upto, .int .i64 e.part, .int .i64 e.parts, .slice e.ad e.nd e.cd], .int .i64 (t : Nat)] w _
  go_enter Tryz.func30, Tryz.ntmps30
  go_wp2_with (refine wpList_load_hid rfl 44 (.tmp 4) rfl w.heap.size rfl 44 e.cells.toArray H0.out.box _ Tryz.underlying44 rfl (by kernel_rfl) ?_)
  refine Lib.hid ?_
  go_wp2_with fail
  refine (HCA.out _ H0.out.mp H0.out.ent).mono ?_
  rintro e' w1 ⟨rfl, hb1⟩
  have S1 := Lib.hid (H0.out.next hb1)
  clear hb1
  have s1 := S1.out.c1
  have htn : ¬ (4095 : Int) < (t : Int) := by omega
  have htn0 : ¬ (t : Int) < 0 := by omega
  go_wp2_with fail
  refine (rfind_any b B m e.shard _ S1.out.mp).mono ?_
  rintro e' w2 ⟨rfl, hb2⟩
  have S2 := Lib.hid (S1.out.next hb2)
  clear hb2 s1
  rw [HF.out]
  dsimp only [idxI]
  have s0 := S2.out.c0
  have e2 : (e.kind == 2) = true := by rw [HKI.out]; decide
  have HB2 := Lib.hid S2.out.map.blk
  have HBX2 := Lib.hid S2.out.box
  have HR2 := Lib.hid (HGK.out.below S2.out.bel HGK.out.lt)
  have HBG := Lib.hid (show b ≠ g from fun e1 => by
    have h1 := HB2.out
    have h2 := HR2.out
    unfold Blk at h1 h2
    rw [e1, h2] at h1
    simp at h1)
  have HXG := Lib.hid (show w.heap.size ≠ g from Nat.ne_of_gt HGK.out.lt)
  have HF1 : Hid (i * 5 + 1 + 1 ≤ cur.length) := Lib.hid (by have := HGL.out; have := HGC.out; omega)
  go_wp2_with fail
  refine wp_region_wb ((Only (fun k => k = g) w2)) (by kernel_rfl) (((Only.refl (fun k => k = g) w2).drewN 1)) (fun _ _ _ _ _ h => h) ?_
  intro hS HZQ
  refine wa_k 0 34 (.pointer (some ⟨b, 0, none⟩)) hS HZQ (wa_k 1 35 (.pointer (some ⟨b, 0, none⟩)) hS HZQ (wa_k 2 36 (.pointer (some ⟨b, 0, none⟩)) hS HZQ (wa_v 3 37 (.slice (some ⟨g, 0, none⟩) m.live.length cap) hS HZQ (fun W hW => run_load1 73 (.tmp 36) (by kernel_rfl) ⟨b, 0, none⟩ (by kernel_rfl) (.slice (some ⟨g, 0, none⟩) m.live.length cap) ((HB2.out.only hW HBG.out).cell 0) _ Tryz.underlying73 rfl) (wa_k 4 38 (.int .i64 ((i : Nat) : Int)) hS HZQ (wa_k 5 39 (.pointer (some ⟨w.heap.size, 3, none⟩)) hS HZQ (wa_v 6 40 (.int .i64 e.server) hS HZQ (fun W hW => run_load1 3 (.tmp 39) (by kernel_rfl) ⟨w.heap.size, 3, none⟩ (by kernel_rfl) (.int .i64 e.server) ((HBX2.out.only hW HXG.out).cell 3) _ Tryz.underlying3 rfl) (wa_v 7 41 (.pointer (some ⟨g, i * 5, none⟩)) hS HZQ (fun W hW => run_eqv (run_idx 73 (.tmp 37) (.tmp 38) (by kernel_rfl) g 0 m.live.length cap i 75 5 (by kernel_rfl) (by kernel_rfl) (by omega) Tryz.underlying73 (by kernel_rfl)) (by rw [Nat.zero_add])) ?_)))))))
  refine wa_k 8 42 (.pointer (some ⟨g, i * 5 + 1, none⟩)) hS HZQ ?_
  refine wa_r [9] ?_
  refine ar_a none (fun K hK => ?_) ar_nil
  refine ow_storeN 3 (.tmp 42) (.tmp 40) (by kernel_rfl) g (i * 5 + 1) (.int .i64 e.server) [.int .i64 e.server] (by kernel_rfl) (by kernel_rfl) rfl cur 75 (HR2.out.drewN 1) HF1.out (by kernel_rfl) (by intro u hu; simp at hu; subst hu; rfl) (Lib.hid ?_)
  intro w4 hz hox
  refine hK.out _ _ (hS.trans hox) (fun hS => ?_)
  have HR4 := Lib.hid hz
  clear hK K hz hox
  refine wa_done (by kernel_rfl) ?_
  dsimp only [Exit.then, Act.put]
  simp only [List.setIfInBounds_toArray, List.set_cons_succ, List.set_cons_zero]
  have O4 := Lib.hid hS
  have HROW := Lib.hid (own_blk (n := m.live.length) (cap := cap) (xs := shRow (m.live.set i ((shAt m.live i).moved e.server))) (sz := 5) HR4.out hgB (by rw [shRow_len, List.length_set]) HGC.out HGM.out (by rw [length_splice _ _ _ (by simpa using HF1.out), HGL.out]) (row_move cur m.live i e.server hi HGT.out (by have := HGL.out; have := HGC.out; omega)))
  clear hS s0
  go_wp2_with fail
  go_ret
  have hcap : 1 ≤ cap := by have := HGC.out; omega
  obtain ⟨hmv, hch⟩ := S2.out.map.set_live (w' := w4) (v' := .slice (some ⟨g, 0, none⟩) m.live.length cap) (l := m.live.set i ((shAt m.live i).moved e.server)) (O4.out.mono (fun k hk => .inr (by rw [ownB_of hcap, hk]))) (HB2.out.only O4.out HBG.out) (by rw [List.length_set]; exact HROW.out) (by rw [List.length_set]; have := HLN.out; omega) (fun s hs => by
    rcases List.mem_or_eq_of_mem_set hs with h | h
    · exact HM.out.ok s h
    · rw [h]
      exact rmap_ok HM.out hi)
  exact ⟨rfl, by rw [HSP.out]; exact ⟨_, _, _, hmv⟩, (Chg.of_below S2.out.bel).trans hch⟩
end Go.Proofs.YthjmfcdhpdiehaaGreatDoor
