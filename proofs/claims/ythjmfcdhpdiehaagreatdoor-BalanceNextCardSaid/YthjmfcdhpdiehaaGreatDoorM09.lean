/-
  copy, clear, append in place, append of zeros, at elements of several cells; slices of slices.
  Stores into the middle of a block, new variables, as steps of a region; regions whose ways meet again.
  slices.Insert of one shard.
  slices.Insert of one shard, in place, and into a new row.
  slices.Insert of one shard into a new row; all cases.
-/
import Derived.Test.YthjmfcdhpdiehaaGreatDoorM03
import Derived.Laws.CopyOwn
import Derived.Lib.Overlaps
import Derived.Lib.AppendZerosOnto
import Derived.Test.YthjmfcdhpdiehaaGreatDoorM06
import Derived.Stop.Asserts
namespace Go.Proofs.YthjmfcdhpdiehaaGreatDoor
open Go.RowKit Utf
set_option maxRecDepth 100000
set_option linter.unusedSimpArgs false
set_option linter.unusedVariables false

theorem splice_nil {α : Type} (L : List α) (o : Nat) : splice L o [] = L := by simp [splice]
theorem splice_set (L : List Value) (o : Nat) (v : Value) (r : List Value) (h : o + (r.length + 1) ≤ L.length) : splice (L.set o v) (o + 1) r = splice L o (v :: r) := by
  have := list_seg_step L o v r h
  unfold splice
  rw [List.append_assoc] at this
  rw [this, List.append_assoc]
  rfl
theorem Blk.splice {w : World} {g : Nat} {t : TypeId} : ∀ (vs : List Value) (o : Nat) (w : World) (cs : Array Value), Blk w g t cs → o + vs.length ≤ cs.size → Blk (w.setCells g o vs) g t (splice cs.toList o vs).toArray
  | [], o, w, cs, h, _ => by
    rw [splice_nil]
    exact h
  | v :: r, o, w, cs, h, hl => by
    have h1 := h.put o v
    have h2 := Blk.splice (w := w) r (o + 1) (w.setCell ⟨g, o, none⟩ v) (cs.setIfInBounds o v) h1 (by simp at hl ⊢; omega)
    rw [Array.toList_setIfInBounds, splice_set _ _ _ _ (by simp at hl; simpa using hl)] at h2
    exact h2
theorem Blk.range {w : World} {g : Nat} {t : TypeId} {cs : Array Value} (h : Blk w g t cs) {o : Nat} {l : List Value} (hl : ∀ j v, l[j]? = some v → cs[o + j]? = some v) : w.rangeAt g o l := fun j v hj => by
  rw [h.cell]
  exact hl j v hj
theorem own_blk {w : World} {B g : Nat} {e : TypeId} {sz n cap : Nat} {cur : List Value} {xs : List Value} (h : Blk w g e cur.toArray) (hB : B ≤ g) (hx : xs.length = n * sz) (hn : n ≤ cap) (hc : cap ≤ maxLen) (hs : cur.length = cap * sz) (ht : cur.take (n * sz) = xs) :
    w.ownsRow B e sz (.slice (some ⟨g, 0, none⟩) n cap) n xs :=
  ⟨hx, .inr ⟨g, cap, cur.toArray, rfl, hB, h, hn, hc, by simpa using hs, by simpa using ht⟩⟩

section
variable {P : Program} {ops : Array Oper} {rest : List Oper} {o : Oper} {a : Act} {w : World} {Q : Exit → Act → World → Prop} {K : Act → World → Prop}
theorem run_copyN (dT sT ty elem : TypeId) (g off dLen dCap : Nat) (ad : Addr) (sLen sCap sz : Nat) (cur : Array Value) (t : TypeId) (cs : List Value)
    (hu : P.underlying dT = some (.slice elem)) (hs : (P.info? elem).map (·.size) = some sz)
    (hg : Blk w g t cur) (hn : cs.length = Nat.min sLen dLen * sz)
    (hsrc : ∀ j v, cs[j]? = some v → w.cell? (ad.add j) = some v) (hfit : off + cs.length ≤ cur.size) (h1 : ∀ v ∈ cs, v.oneCell' = true) :
    (Builtin.copy_ #[dT, sT] ty #[.slice (some ⟨g, off, none⟩) dLen dCap, .slice (some ad) sLen sCap]).run P w = .ok (goInt (Nat.min sLen dLen)) (w.setCells g off cs) := by
  have hl := run_loadCells_list (P := P) w ad cs hsrc
  have hst := run_storeCells_cells (P := P) g off cs 0 w (fun j hj => by rw [hg.cell, Array.getElem?_eq_getElem (by omega)]; rfl) (fun j hj => hg.frozen _) h1
  simp only [Nat.add_zero] at hst
  cases hq : P.info? elem with
  | none => simp [hq] at hs
  | some i =>
    have hi : i.size = sz := by simpa [hq] using hs
    simp [Builtin.copy_, run_underlying hu, Builtin.lenOf, Builtin.firstCells, sizeOf, typeInfo, hq, hi, ← hn, hl, hst]
theorem wp_copyN (d s : Operand) (dT sT : TypeId) (ho : o.op = .call { callee := .builtin .copy, args := #[d, s], argTypes := #[dT, sT] })
    (elem : TypeId) (g off dLen dCap b so sLen sCap sz : Nat) (cur : List Value) (t : TypeId) (cs : List Value)
    (hu : P.underlying dT = some (.slice elem)) (hs : (P.info? elem).map (·.size) = some sz)
    (hd : a.eval d = .slice (some ⟨g, off, none⟩) dLen dCap) (hx : a.eval s = .slice (some ⟨b, so, none⟩) sLen sCap)
    (hg : Blk w g t cur.toArray) (hn : cs.length = Nat.min sLen dLen * sz) (hsrc : w.rangeAt b so cs) (hfit : off + cs.length ≤ cur.length) (h1 : ∀ v ∈ cs, v.oneCell' = true)
    (h : Hid (∀ w', Blk w' g t (splice cur off cs).toArray → Only (fun k => k = g) w w' → K (a.put o.dst (goInt (Nat.min sLen dLen))) w')) : o.wp P a w K Q := by
  have hrun := run_copyN (P := P) (w := w) dT sT o.type elem g off dLen dCap ⟨b, so, none⟩ sLen sCap sz cur.toArray t cs hu hs hg hn (fun j v hj => by rw [addr_add]; exact hsrc j v hj) (by simpa using hfit) h1
  unfold Oper.wp execOp
  simp only [ho, resolve, invoke, builtin, Sem.run_bind, Sem.run_pure, Result.andThen_ok, List.map_toArray, List.map_cons, List.map_nil, hd, hx, hrun]
  refine h.out _ ?_ (Only.putAll (S := fun k => k = g) rfl cs off w w (Only.refl _ w))
  have := Blk.splice (w := w) cs off w cur.toArray hg (by simpa using hfit)
  simpa using this
theorem ow_copyN (d s : Operand) (dT sT : TypeId) (ho : o.op = .call { callee := .builtin .copy, args := #[d, s], argTypes := #[dT, sT] })
    (elem : TypeId) (g off dLen dCap b so sLen sCap sz : Nat) (cur : List Value) (t : TypeId) (cs : List Value)
    (hu : P.underlying dT = some (.slice elem)) (hs : (P.info? elem).map (·.size) = some sz)
    (hd : a.eval d = .slice (some ⟨g, off, none⟩) dLen dCap) (hx : a.eval s = .slice (some ⟨b, so, none⟩) sLen sCap)
    (hg : Blk w g t cur.toArray) (hn : cs.length = Nat.min sLen dLen * sz) (hsrc : w.rangeAt b so cs) (hfit : off + cs.length ≤ cur.length) (h1 : ∀ v ∈ cs, v.oneCell' = true)
    (h : Hid (∀ w', Blk w' g t (splice cur off cs).toArray → Only (fun k => k = g) w w' → K (a.put o.dst (goInt (Nat.min sLen dLen))) w')) : OW P o a w K Q :=
  ⟨wp_copyN d s dT sT ho elem g off dLen dCap b so sLen sCap sz cur t cs hu hs hd hx hg hn hsrc hfit h1 h⟩
theorem wpList_copyN (hgd : o.guard = none) (d s : Operand) (dT sT : TypeId) (ho : o.op = .call { callee := .builtin .copy, args := #[d, s], argTypes := #[dT, sT] })
    (elem : TypeId) (g off dLen dCap b so sLen sCap sz : Nat) (cur : List Value) (t : TypeId) (cs : List Value)
    (hu : P.underlying dT = some (.slice elem)) (hs : (P.info? elem).map (·.size) = some sz)
    (hd : a.eval d = .slice (some ⟨g, off, none⟩) dLen dCap) (hx : a.eval s = .slice (some ⟨b, so, none⟩) sLen sCap)
    (hg : Blk w g t cur.toArray) (hn : cs.length = Nat.min sLen dLen * sz) (hsrc : w.rangeAt b so cs) (hfit : off + cs.length ≤ cur.length) (h1 : ∀ v ∈ cs, v.oneCell' = true)
    (h : Hid (∀ w', Blk w' g t (splice cur off cs).toArray → Only (fun k => k = g) w w' → wpList P ops Q rest (a.put o.dst (goInt (Nat.min sLen dLen))) w')) : wpList P ops Q (o :: rest) a w :=
  wpList_plain hgd fun K hK => wp_copyN d s dT sT ho elem g off dLen dCap b so sLen sCap sz cur t cs hu hs hd hx hg hn hsrc hfit h1 (Lib.hid (fun w' h1 h2 => hK _ _ (h.out w' h1 h2)))

/-- Elements of several cells are appended in place. -/
theorem wp_appIn (s x : Operand) (t : TypeId) (ho : o.op = .call { callee := .builtin .append, args := #[s, x], argTypes := #[t, t] })
    (e : TypeId) (i : TypeInfo) (sz : Nat) (ht : P.underlying t = some (.slice e)) (hi : P.info? e = some i) (hsz : i.size = sz)
    (g n cap b so m c N : Nat) (hN : n + m = N) (cur : List Value) (T : TypeId) (us : List Value) (hs : a.eval s = .slice (some ⟨g, 0, none⟩) n cap) (hx : a.eval x = .slice (some ⟨b, so, none⟩) m c)
    (hg : Blk w g T cur.toArray) (hl : us.length = m * sz) (hsrc : w.rangeAt b so us) (hfit : n * sz + us.length ≤ cur.length) (h1 : ∀ v ∈ us, v.oneCell' = true) (hr : N ≤ cap)
    (h : Hid (∀ w', Blk w' g T (splice cur (n * sz) us).toArray → Only (fun k => k = g) w w' → K (a.put o.dst (.slice (some ⟨g, 0, none⟩) N cap)) w')) : o.wp P a w K Q := by
  subst hN
  subst hsz
  have hrun := run_append_room_cells (P := P) w t o.type e i ht hi g 0 n cap ⟨b, so, none⟩ m c us hl (fun j u hj => by rw [addr_add]; exact hsrc j u hj) h1 hr (fun j hj => by rw [Nat.zero_add, hg.cell, Array.getElem?_eq_getElem (by simp; omega)]; rfl) (fun j hj => hg.frozen _)
  rw [Nat.zero_add] at hrun
  unfold Oper.wp execOp
  simp only [ho, resolve, invoke, builtin, Sem.run_bind, Sem.run_pure, Result.andThen_ok, List.map_toArray, List.map_cons, List.map_nil, hs, hx, hrun]
  refine h.out _ ?_ (Only.putAll (S := fun k => k = g) rfl us (n * i.size) w w (Only.refl _ w))
  have := Blk.splice (w := w) us (n * i.size) w cur.toArray hg (by simpa using hfit)
  simpa using this
theorem ow_appIn (s x : Operand) (t : TypeId) (ho : o.op = .call { callee := .builtin .append, args := #[s, x], argTypes := #[t, t] })
    (e : TypeId) (i : TypeInfo) (sz : Nat) (ht : P.underlying t = some (.slice e)) (hi : P.info? e = some i) (hsz : i.size = sz)
    (g n cap b so m c N : Nat) (hN : n + m = N) (cur : List Value) (T : TypeId) (us : List Value) (hs : a.eval s = .slice (some ⟨g, 0, none⟩) n cap) (hx : a.eval x = .slice (some ⟨b, so, none⟩) m c)
    (hg : Blk w g T cur.toArray) (hl : us.length = m * sz) (hsrc : w.rangeAt b so us) (hfit : n * sz + us.length ≤ cur.length) (h1 : ∀ v ∈ us, v.oneCell' = true) (hr : N ≤ cap)
    (h : Hid (∀ w', Blk w' g T (splice cur (n * sz) us).toArray → Only (fun k => k = g) w w' → K (a.put o.dst (.slice (some ⟨g, 0, none⟩) N cap)) w')) : OW P o a w K Q :=
  ⟨wp_appIn s x t ho e i sz ht hi hsz g n cap b so m c N hN cur T us hs hx hg hl hsrc hfit h1 hr h⟩
/-- Elements are set to zero. -/
theorem wpList_clearN (hgd : o.guard = none) (s : Operand) (t : TypeId) (ho : o.op = .call { callee := .builtin .clear, args := #[s], argTypes := #[t] })
    (e : TypeId) (i : TypeInfo) (z : Value) (sz : Nat) (ht : P.underlying t = some (.slice e)) (hi : P.info? e = some i) (hz : i.zero = some z) (hsz : z.cells.size = sz) (hz1 : ∀ u ∈ z.cells.toList, u.oneCell' = true)
    (g off n c : Nat) (cur : List Value) (T : TypeId) (hs : a.eval s = .slice (some ⟨g, off, none⟩) (n + 1) c) (hg : Blk w g T cur.toArray) (hfit : off + (n + 1) * sz ≤ cur.length)
    (h : Hid (∀ w' us, us.length = (n + 1) * sz → Blk w' g T (splice cur off us).toArray → Only (fun k => k = g) w w' → wpList P ops Q rest (a.put o.dst (.tuple #[])) w')) : wpList P ops Q (o :: rest) a w := by
  refine wpList_plain hgd fun K hK => ?_
  have hlen : (Builtin.zeroCells z.cells (n + 1)).toList.length = (n + 1) * sz := by rw [Array.length_toList, size_zeroCells, hsz]
  have h1 : ∀ v ∈ (Builtin.zeroCells z.cells (n + 1)).toList, v.oneCell' = true := by
    intro v hv
    unfold Builtin.zeroCells at hv
    simp only [Array.toList_map, List.mem_map] at hv
    obtain ⟨k, hk, rfl⟩ := hv
    by_cases h0 : z.cells.size = 0
    · have : z.cells[k % z.cells.size]! = default := by rw [getElem!_def, Array.getElem?_eq_none (by omega)]
      rw [this]
      rfl
    · have hlt : k % z.cells.size < z.cells.size := Nat.mod_lt _ (by omega)
      rw [getElem!_pos z.cells _ hlt]
      exact hz1 _ (by simp)
  have hst := run_storeCells_cells (P := P) g off (Builtin.zeroCells z.cells (n + 1)).toList 0 w (fun j hj => by rw [hlen] at hj; rw [hg.cell, Array.getElem?_eq_getElem (by simp; omega)]; rfl) (fun j hj => hg.frozen _) h1
  simp only [Nat.add_zero] at hst
  unfold Oper.wp execOp
  have hrun : (Builtin.clear_ #[t] o.type #[.slice (some ⟨g, off, none⟩) (n + 1) c]).run P w = .ok (.tuple #[]) (w.setCells g off (Builtin.zeroCells z.cells (n + 1)).toList) := by
    simp [Builtin.clear_, run_underlying ht, zeroValue, typeInfo, hi, hz, hst]
  simp only [ho, resolve, invoke, builtin, Sem.run_bind, Sem.run_pure, Result.andThen_ok, List.map_toArray, List.map_cons, List.map_nil, hs, hrun]
  refine hK _ _ (h.out _ _ hlen ?_ (Only.putAll (S := fun k => k = g) rfl _ off w w (Only.refl _ w)))
  have := Blk.splice (w := w) (Builtin.zeroCells z.cells (n + 1)).toList off w cur.toArray hg (by rw [hlen]; simpa using hfit)
  simpa using this
/-- A slice of a slice, from l on. -/
theorem run_slcL (T : TypeId) (x l : Operand) (ho : o.op = .slice T x (some l) none none) (b off n c k e sz : Nat) (hx : a.eval x = .slice (some ⟨b, off, none⟩) n c) (hl : a.eval l = .int .i64 (k : Int)) (hk : k ≤ n) (hc : k < c)
    (hu : P.underlying T = some (.slice e)) (hs : (P.info? e).map (·.size) = some sz) : (execOp a.eval o).run P w = .ok (.value (.slice (some ⟨b, off + k * sz, none⟩) (n - k) (c - k))) w := by
  obtain ⟨i0, hi1, hi2⟩ := Option.map_eq_some_iff.1 hs
  have hlt : (0 : Int) ≤ (k : Int) ∧ (k : Int) ≤ (n : Int) := ⟨by omega, by omega⟩
  unfold execOp
  simp only [ho, hx, hl, Option.map_some, Option.map_none]
  have hne : ¬ c = k := by omega
  simp [Instr.sliceAt, Instr.slice, Instr.sliceBounds, Instr.sliceBound, asIntOf, Sem.run_bind, run_underlying hu, sizeOf, typeInfo, hi1, hi2, hlt, hne, Addr.add_mid]
  intro hh
  omega
/-- A slice of a slice, from its end on. -/
theorem run_slcE (T : TypeId) (x l : Operand) (ho : o.op = .slice T x (some l) none none) (b off n c k e sz : Nat) (hx : a.eval x = .slice (some ⟨b, off, none⟩) n c) (hl : a.eval l = .int .i64 (k : Int)) (hk : k ≤ n) (hc : c = k)
    (hu : P.underlying T = some (.slice e)) (hs : (P.info? e).map (·.size) = some sz) : (execOp a.eval o).run P w = .ok (.value (.slice (some ⟨b, off, none⟩) (n - k) 0)) w := by
  obtain ⟨i0, hi1, hi2⟩ := Option.map_eq_some_iff.1 hs
  subst hc
  have hlt : (0 : Int) ≤ (c : Int) ∧ (c : Int) ≤ (n : Int) := ⟨by omega, by omega⟩
  unfold execOp
  simp only [ho, hx, hl, Option.map_some, Option.map_none]
  simp [Instr.sliceAt, Instr.slice, Instr.sliceBounds, Instr.sliceBound, asIntOf, Sem.run_bind, run_underlying hu, sizeOf, typeInfo, hi1, hi2, hlt, Addr.add_mid]
  intro hh
  omega
/-- A slice of a slice, up to h. -/
theorem run_slcH (T : TypeId) (x l : Operand) (ho : o.op = .slice T x none (some l) none) (b off n c k e sz : Nat) (hx : a.eval x = .slice (some ⟨b, off, none⟩) n c) (hl : a.eval l = .int .i64 (k : Int)) (hk : k ≤ c)
    (hu : P.underlying T = some (.slice e)) (hs : (P.info? e).map (·.size) = some sz) : (execOp a.eval o).run P w = .ok (.value (.slice (some ⟨b, off, none⟩) k c)) w := by
  obtain ⟨i0, hi1, hi2⟩ := Option.map_eq_some_iff.1 hs
  have hlt : (0 : Int) ≤ (k : Int) ∧ (k : Int) ≤ (c : Int) := ⟨by omega, by omega⟩
  unfold execOp
  simp only [ho, hx, hl, Option.map_some, Option.map_none]
  simp [Instr.sliceAt, Instr.slice, Instr.sliceBounds, Instr.sliceBound, asIntOf, Sem.run_bind, run_underlying hu, sizeOf, typeInfo, hi1, hi2, hlt, Addr.add_mid]
  intro hh
  omega
end
end Go.Proofs.YthjmfcdhpdiehaaGreatDoor

namespace Go.Proofs.YthjmfcdhpdiehaaGreatDoor
open Go.RowKit Utf
set_option maxRecDepth 100000
set_option linter.unusedSimpArgs false
set_option linter.unusedVariables false

section
variable {P : Program} {ops : Array Oper} {rest : List Oper} {o : Oper} {a : Act} {w : World} {Q : Exit → Act → World → Prop} {K : Act → World → Prop}
/-- A value's cells are stored into a block. -/
theorem ow_storeN (ty : TypeId) (x y : Operand) (ho : o.op = .store ty x y) (g off : Nat) (v : Value) (vs : List Value) (hx : a.eval x = .pointer (some ⟨g, off, none⟩)) (hy : a.eval y = v) (hv : v.cells = vs.toArray)
    (cur : List Value) (t : TypeId) (hB : Blk w g t cur.toArray) (hfit : off + vs.length ≤ cur.length) (hi : (P.info? ty).map (·.size) = some vs.length) (h1 : ∀ u ∈ vs, u.oneCell' = true)
    (h : Hid (∀ w', Blk w' g t (splice cur off vs).toArray → Only (fun k => k = g) w w' → K (a.put o.dst undef) w')) : OW P o a w K Q := by
  have hst := run_storeCells_cells (P := P) g off vs 0 w (fun j hj => by rw [hB.cell, Array.getElem?_eq_getElem (by simp; omega)]; rfl) (fun j hj => hB.frozen _) h1
  simp only [Nat.add_zero] at hst
  obtain ⟨i0, hi1, hi2⟩ := Option.map_eq_some_iff.1 hi
  have hs : (storeVar ty ⟨g, off, none⟩ v).run P w = .ok () (w.setCells g off vs) := by
    simp [storeVar, sizeOf, typeInfo, hi1, hi2, hv, hst]
  refine ⟨?_⟩
  unfold Oper.wp execOp
  simp only [ho, hx, hy, Instr.storeAt, Instr.sureAddr, Sem.run_bind, Sem.run_pure, Result.andThen_ok, hs]
  refine h.out _ ?_ (Only.putAll (S := fun k => k = g) rfl vs off w w (Only.refl _ w))
  have := Blk.splice (w := w) vs off w cur.toArray hB (by simpa using hfit)
  simpa using this
/-- A new variable. -/
theorem ow_alloc (ty : TypeId) (ho : o.op = .alloc ty) (i : TypeInfo) (z : Value) (hi : P.info? ty = some i) (hz : i.zero = some z)
    (h : Hid (∀ g w', g = w.heap.size → Blk w' g ty z.cells → Below w.heap.size w w' → K (a.put o.dst (.pointer (some ⟨g, 0, none⟩))) w')) : OW P o a w K Q := by
  have hrun : (execOp a.eval o).run P w = .ok (.value (.pointer (some ⟨w.heap.size, 0, none⟩))) (w.alloc (.cells z.cells ty)) := by
    unfold execOp
    simp [ho, Instr.alloc, zeroValue, typeInfo, hi, hz, newVar, newRow]
  exact ow_val _ _ hrun (h.out _ _ rfl (Blk.new w ty z.cells) ((Below.refl _ w).alloc (Nat.le_refl _) _))
/-- A slice of one element, new. -/
theorem ow_one (e : TypeId) (cs : Array Value) (hrun : (execOp a.eval o).run P w = .ok (.value (.slice (some ⟨w.heap.size, 0, none⟩) 1 1)) (w.alloc (.cells cs e)))
    (h : Hid (∀ g w', g = w.heap.size → Blk w' g e cs → Below w.heap.size w w' → K (a.put o.dst (.slice (some ⟨g, 0, none⟩) 1 1)) w')) : OW P o a w K Q :=
  ow_val _ _ hrun (h.out _ _ rfl (Blk.new w e cs) ((Below.refl _ w).alloc (Nat.le_refl _) _))
end

/-- Ways that meet again: what is known where they meet; the frame is found on the first way. -/
theorem merge2 {P : Program} {c : Code} {Q : Exit → Act → World → Prop} {a0 : Act} {w0 : World} {FR : Nat → Nat → Act} (F : Nat → Nat → World → Prop)
    (h1 : c.wp P (fun e a w => e = Exit.normal ∧ ∃ x y, a = FR x y ∧ F x y w) a0 w0) (h2 : ∀ x y w, F x y w → Q .normal (FR x y) w) : c.wp P Q a0 w0 :=
  Code.wp_mono (fun e a w h => by
    obtain ⟨rfl, x, y, rfl, hF⟩ := h
    exact h2 x y w hF) h1
theorem merge1 {P : Program} {c : Code} {Q : Exit → Act → World → Prop} {a0 : Act} {w0 : World} {FR : Nat → Act} (F : Nat → World → Prop)
    (h1 : c.wp P (fun e a w => e = Exit.normal ∧ ∃ x, a = FR x ∧ F x w) a0 w0) (h2 : ∀ x w, F x w → Q .normal (FR x) w) : c.wp P Q a0 w0 :=
  Code.wp_mono (fun e a w h => by
    obtain ⟨rfl, x, rfl, hF⟩ := h
    exact h2 x w hF) h1
theorem merge3 {P : Program} {c : Code} {Q : Exit → Act → World → Prop} {a0 : Act} {w0 : World} {FR : Nat → Nat → Nat → Act} (F : Nat → Nat → Nat → World → Prop)
    (h1 : c.wp P (fun e a w => e = Exit.normal ∧ ∃ x y z, a = FR x y z ∧ F x y z w) a0 w0) (h2 : ∀ x y z w, F x y z w → Q .normal (FR x y z) w) : c.wp P Q a0 w0 :=
  Code.wp_mono (fun e a w h => by
    obtain ⟨rfl, x, y, z, rfl, hF⟩ := h
    exact h2 x y z w hF) h1
theorem own_kind {w : World} {B g c n sz : Nat} {e : TypeId} {xs : List Value} (h : w.ownsRow B e sz (.slice (some ⟨g, 0, none⟩) n c) n xs) : ∃ cur, w.heap[g]? = some (.cells cur e (0, 0)) := by
  rcases h.2 with ⟨h1, -⟩ | ⟨g', cap, cur, hv, -, hg, -⟩
  · cases h1
  · cases hv
    exact ⟨cur, hg⟩
theorem splice_one {cur : List Value} {off : Nat} {v : Value} (h : off < cur.length) : splice cur off [v] = cur.set off v := by
  have := splice_set cur off v [] (by simp; omega)
  rw [splice_nil] at this
  exact this.symm
/-- A block's cells behind a store. -/
theorem splice_get {cur vs : List Value} {off : Nat} (h : off + vs.length ≤ cur.length) (j : Nat) : (splice cur off vs)[j]? = if j < off then cur[j]? else if j < off + vs.length then vs[j - off]? else cur[j]? := by
  unfold splice
  rw [List.getElem?_append, List.length_take, Nat.min_eq_left (by omega)]
  by_cases h1 : j < off
  · rw [if_pos h1, if_pos h1, List.getElem?_take, if_pos h1]
  · rw [if_neg h1, if_neg h1, List.getElem?_append]
    by_cases h2 : j < off + vs.length
    · rw [if_pos (by omega), if_pos h2]
    · rw [if_neg (by omega), if_neg h2, List.getElem?_drop]
      congr 1
      omega
theorem Only.blk {S : Nat → Prop} {w w' : World} {g : Nat} {t : TypeId} {cs : Array Value} (h : Only S w w') (hb : Blk w g t cs) (hs : ¬ S g) : Blk w' g t cs := hb.only h hs
theorem Only.one {S : Nat → Prop} {w w1 w2 : World} {g : Nat} (h : Only S w w1) (k : Only (fun k => k = g) w1 w2) (hs : S g) : Only S w w2 := h.trans (k.mono fun i e => by subst e; exact hs)
theorem Only.fresh {S : Nat → Prop} {w w1 w2 : World} (h : Only S w w1) (k : Below w1.heap.size w1 w2) : Only S w w2 := h.trans (Only.below_all k)
end Go.Proofs.YthjmfcdhpdiehaaGreatDoor

namespace Go.Proofs.YthjmfcdhpdiehaaGreatDoor
open Go.RowKit Utf
set_option maxRecDepth 100000
set_option linter.unusedSimpArgs false
set_option linter.unusedVariables false

/-- An own row, opened: its block, its cells. -/
theorem own_open {w : World} {B sz : Nat} {e : TypeId} {v : Value} {n : Nat} {xs : List Value} (h : w.ownsRow B e sz v n xs) (hn : 1 ≤ n) : ∃ g cap cur, v = .slice (some ⟨g, 0, none⟩) n cap ∧ B ≤ g ∧ Blk w g e (List.toArray cur) ∧ n ≤ cap ∧ cap ≤ maxLen ∧ cur.length = cap * sz ∧ cur.take (n * sz) = xs ∧ xs.length = n * sz := by
  rcases h.2 with ⟨h1, h2⟩ | ⟨g, cap, cur, hv, hB, hg, h1, h2, h3, h4⟩
  · omega
  · exact ⟨g, cap, cur.toList, hv, hB, by simpa [Blk] using hg, h1, h2, by simpa using h3, h4, h.1⟩

/-- slices.Insert at the end. -/
theorem insert_end (l : List Sh) (x : Sh) (g cap h B : Nat) (w : World) (hown : w.ownsRow B 54 5 (.slice (some ⟨g, 0, none⟩) l.length cap) l.length (shRow l)) (hl : 1 ≤ l.length) (hn : l.length ≤ 100000)
    (hx : Blk w h 54 x.cells.toArray) (hB : B ≤ w.heap.size) :
    Calls Tryz.prog 80 #[.slice (some ⟨g, 0, none⟩) l.length cap, .int .i64 (l.length : Nat), .slice (some ⟨h, 0, none⟩) 1 1] w fun e w' => ∃ v, e = .returned v ∧ w'.ownsRow B 54 5 v (l.length + 1) (shRow (l ++ [x])) ∧ w.grownBy w' (some g) := by
  obtain ⟨i0, hi, hz0, hz1, hz2⟩ := info_parts Tryz.infoSh
  have HI := Lib.hid (And.intro hi (And.intro hz0 (And.intro hz1 hz2)))
  have HO := Lib.hid hown
  have HR := Lib.hid (show RowAt w (some ⟨h, 0, none⟩) x.cells from fun i hi => ⟨h, 0, rfl, by rw [hx.cell]; simp [hi]⟩)
  have HL := Lib.hid (show shRow (l ++ [x]) = shRow l ++ x.cells by simp [shRow])
  have hcl := own_some hown hl
  have HCL := Lib.hid hcl
  clear hi hz0 hz1 hz2 hown hx hcl
  go_enter Tryz.func80, Tryz.ntmps80
  by_cases hcap : cap = l.length
  · subst hcap
    go_wp2_with (refine wpList_appX rfl (.tmp 23) (.tmp 24) 48 rfl 54 i0 _ 5 56 Tryz.underlying48 HI.out.1 HI.out.2.1 HI.out.2.2.1 HI.out.2.2.2 rfl (by decide) B _ l.length (shRow l) rfl (.inr HO.out) hB h 0 1 1 x.cells rfl rfl (Nat.le_refl _) HR.out x.one (by omega) (by decide) ?_)
    refine Lib.hid ?_
    intro v' w' h1 h2
    have H1 := Lib.hid h1
    have H2 := Lib.hid h2
    clear h1 h2
    go_wp2_with fail
    go_ret
    refine ⟨_, rfl, by rw [HL.out]; exact H1.out, ?_⟩
    have := H2.out
    simp only [ownB] at this
    rwa [if_neg (by omega)] at this
  · go_wp2_with (refine wpList_appX rfl (.tmp 23) (.tmp 24) 48 rfl 54 i0 _ 5 56 Tryz.underlying48 HI.out.1 HI.out.2.1 HI.out.2.2.1 HI.out.2.2.2 rfl (by decide) B _ l.length (shRow l) rfl (.inr HO.out) hB h 0 1 1 x.cells rfl rfl (Nat.le_refl _) HR.out x.one (by omega) (by decide) ?_)
    refine Lib.hid ?_
    intro v' w' h1 h2
    have H1 := Lib.hid h1
    have H2 := Lib.hid h2
    clear h1 h2
    go_wp2_with fail
    go_ret
    refine ⟨_, rfl, by rw [HL.out]; exact H1.out, ?_⟩
    have := H2.out
    obtain ⟨g', cap', e, -, -, h3, -⟩ := HCL.out
    cases e
    simp only [ownB] at this
    rwa [if_neg (by omega)] at this
end Go.Proofs.YthjmfcdhpdiehaaGreatDoor

namespace Go.Proofs.YthjmfcdhpdiehaaGreatDoor
open Go.RowKit Utf
set_option maxRecDepth 100000
set_option linter.unusedSimpArgs false
set_option linter.unusedVariables false

theorem flat_take (l : List Sh) (i : Nat) : shRow (l.take i) = (shRow l).take (i * 5) := by
  induction l generalizing i with
  | nil => simp [shRow]
  | cons s l ih =>
    cases i with
    | zero => simp [shRow]
    | succ i =>
      have e : shRow (s :: l) = s.cells ++ shRow l := by simp [shRow]
      have e2 : shRow ((s :: l).take (i + 1)) = s.cells ++ shRow (l.take i) := by simp [shRow]
      rw [e, e2, ih, List.take_append, List.take_of_length_le (l := s.cells) (by rw [Sh.cells_len]; omega), Sh.cells_len]
      congr 2
      omega
theorem flat_drop (l : List Sh) (i : Nat) : shRow (l.drop i) = (shRow l).drop (i * 5) := by
  have h1 : shRow (l.take i ++ l.drop i) = shRow (l.take i) ++ shRow (l.drop i) := by unfold shRow; exact List.flatMap_append
  rw [List.take_append_drop] at h1
  by_cases hi : i ≤ l.length
  · have h2 : (shRow (l.take i)).length = i * 5 := by rw [shRow_len]; simp [hi]
    rw [h1, List.drop_left' h2]
  · rw [List.drop_eq_nil_of_le (by omega), List.drop_eq_nil_of_le (by rw [shRow_len]; omega)]
    rfl
theorem row_ins (l : List Sh) (x : Sh) (i : Nat) : shRow (l.take i ++ x :: l.drop i) = (shRow l).take (i * 5) ++ (x.cells ++ (shRow l).drop (i * 5)) := by
  have : shRow (l.take i ++ x :: l.drop i) = shRow (l.take i) ++ (x.cells ++ shRow (l.drop i)) := by simp [shRow]
  rw [this, flat_take, flat_drop]
/-- What two copies make of a row. -/
theorem two_splices (cur R X : List Value) (n i : Nat) (hR : R.length = n * 5) (hi : i ≤ n) (ht : cur.take (n * 5) = R) (hl : (n + 1) * 5 ≤ cur.length) (hX : X.length = 5) :
    (splice (splice cur ((i + 1) * 5) (R.drop (i * 5))) (i * 5) X).take ((n + 1) * 5) = R.take (i * 5) ++ (X ++ R.drop (i * 5)) := by
  have hd : (R.drop (i * 5)).length = (n - i) * 5 := by rw [List.length_drop, hR]; omega
  have h1 : (splice cur ((i + 1) * 5) (R.drop (i * 5))).take (i * 5) = R.take (i * 5) := by
    unfold splice
    rw [List.take_append_of_le_length (by rw [List.length_take]; omega), List.take_take, ← ht, List.take_take]
    congr 1
    omega
  have h2 : (splice cur ((i + 1) * 5) (R.drop (i * 5))).drop (i * 5 + X.length) = R.drop (i * 5) ++ cur.drop ((i + 1) * 5 + (R.drop (i * 5)).length) := by
    unfold splice
    rw [hX, show i * 5 + 5 = (i + 1) * 5 by omega, List.drop_left' (by rw [List.length_take]; omega)]
  have h3 : splice (splice cur ((i + 1) * 5) (R.drop (i * 5))) (i * 5) X = (R.take (i * 5) ++ (X ++ R.drop (i * 5))) ++ cur.drop ((i + 1) * 5 + (R.drop (i * 5)).length) := by
    have h0 : ∀ (S : List Value) o, splice S o X = S.take o ++ (X ++ S.drop (o + X.length)) := fun _ _ => rfl
    rw [h0, h1, h2]
    simp only [List.append_assoc]
  rw [h3, List.take_left' ]
  simp only [List.length_append, List.length_take, hd, hX, hR]
  omega

set_option maxHeartbeats 1000000 in
/-- slices.Insert where there is room. -/
theorem insert_room (l : List Sh) (x : Sh) (i g cap h B : Nat) (cur : List Value) (w : World) (hi : i < l.length) (hn : l.length ≤ 100000) (hcap : l.length + 1 ≤ cap) (hcm : cap ≤ maxLen) (hg : Blk w g 54 cur.toArray) (hlen : cur.length = cap * 5) (ht : cur.take (l.length * 5) = shRow l)
    (hx : Blk w h 54 x.cells.toArray) (hgh : h ≠ g) (hB : B ≤ g) :
    Calls Tryz.prog 80 #[.slice (some ⟨g, 0, none⟩) l.length cap, .int .i64 (i : Nat), .slice (some ⟨h, 0, none⟩) 1 1] w fun e w' => ∃ v, e = .returned v ∧ w'.ownsRow B 54 5 v (l.length + 1) (shRow (l.take i ++ x :: l.drop i)) ∧ Only (fun k => k = g) w w' := by
  have ho := @run_callFunc_extern Tryz.prog 100 _ (Extern.SlicesOverlaps.overlaps #[48, 48] #[4]) Tryz.func100 (by kernel_rfl) (by kernel_rfl) (by kernel_rfl) (by kernel_rfl)
  have hsh : w.shape? h = some (54, 5) := by unfold Blk at hx; simp [World.shape?, hx]; rfl
  have hsg : w.shape? g = some (54, cur.length) := by unfold Blk at hg; simp [World.shape?, hg]
  have hov := Lib.run_overlaps_apart (P := Tryz.prog) w 48 4 54 Tryz.underlying48 5 (fun w => by kernel_rfl) ⟨h, 0, none⟩ ⟨g, (i + 1) * 5, none⟩ 1 1 (l.length - i) (cap - (i + 1)) hgh _ _ 5 cur.length hsh hsg (by omega) (hx.frozen 0) (hx.frozen 5)
  clear hsh hsg
  have HG := Lib.hid hg
  have HX := Lib.hid hx
  have HT := Lib.hid ht
  have HLN := Lib.hid hlen
  have HRW := Lib.hid (row_ins l x i)
  have HRL := Lib.hid (shRow_len l)
  have HRO := Lib.hid (shRow_one l)
  have HF1 : Hid ((i + 1) * 5 + ((shRow l).drop (i * 5)).length ≤ cur.length) := Lib.hid (by rw [List.length_drop, HRL.out, hlen]; omega)
  have HF2 : Hid (((shRow l).drop (i * 5)).length = Nat.min (l.length + 1 - i) (l.length + 1 - (i + 1)) * 5) := Lib.hid (by rw [List.length_drop, HRL.out, show Nat.min (l.length + 1 - i) (l.length + 1 - (i + 1)) = l.length + 1 - (i + 1) from Nat.min_eq_right (by omega)]; omega)
  have HSR : Hid (w.rangeAt g (i * 5) ((shRow l).drop (i * 5))) := Lib.hid (hg.range (fun j v hj => by
    rw [← ht, List.getElem?_drop] at hj
    have hlt := (List.getElem?_eq_some_iff.1 hj).1
    rw [List.getElem?_take, if_pos (by simp at hlt; omega)] at hj
    simpa using hj))
  have HOW := Lib.hid (fun (W : World) (hb : Blk W g 54 (splice (splice cur ((i + 1) * 5) ((shRow l).drop (i * 5))) (i * 5) x.cells).toArray) => show W.ownsRow B 54 5 (.slice (some ⟨g, 0, none⟩) (l.length + 1) cap) (l.length + 1) (shRow (l.take i ++ x :: l.drop i)) from
    own_blk hb hB (by rw [shRow_len]; simp; omega) hcap hcm (by
      rw [length_splice _ _ _ (by rw [length_splice _ _ _ HF1.out, Sh.cells_len]; omega), length_splice _ _ _ HF1.out, hlen]) (by rw [two_splices cur (shRow l) x.cells l.length i HRL.out (by omega) ht (by omega) (Sh.cells_len x), HRW.out]))
  clear hg hx ht hlen
  have HCM := Lib.hid hcm
  unfold maxLen at hcm
  have e1 : ((i : Int) == (l.length : Int)) = false := beq_eq_false_iff_ne.2 (by omega)
  have e2 : decide ((cap : Int) < (l.length : Int) + 1) = false := decide_eq_false (by omega)
  have e3 : ¬ cap = i := by omega
  have e4 : ¬ cap = i + 1 := by omega
  go_enter Tryz.func80, Tryz.ntmps80
  go_wp2_with fail
  clear hov ho
  refine wp_region_wb ((fun _ => True)) (by kernel_rfl) (trivial) (fun _ _ _ _ _ h => h) ?_
  intro hS HZQ
  refine wa_k 0 69 (.slice (some ⟨g, 0, none⟩) (l.length + 1) cap) hS HZQ (wa_k 1 70 (.int .i64 ((i : Nat) : Int)) hS HZQ (wa_k 2 71 (.int .i64 1) hS HZQ (wa_v 3 72 (.int .i64 ((i + 1 : Nat) : Int)) hS HZQ (fun W hW => run_eqv (v := .int .i64 (IntKind.i64.wrap ((i : Int) + 1))) (by kernel_rfl) (wrap_nat _ _ (by omega) (by omega))) (wa_v 4 73 (.slice (some ⟨g, (i + 1) * 5, none⟩) ((l.length + 1) - (i + 1)) (cap - (i + 1))) hS HZQ (fun W hW => run_eqv (run_slcL 48 (.tmp 69) (.tmp 72) (by kernel_rfl) g 0 (l.length + 1) cap (i + 1) 54 5 (by kernel_rfl) (by kernel_rfl) (by omega) (by omega) Tryz.underlying48 (by kernel_rfl)) (by rw [Nat.zero_add])) (wa_k 5 74 (.slice (some ⟨g, 0, none⟩) (l.length + 1) cap) hS HZQ (wa_k 6 75 (.int .i64 ((i : Nat) : Int)) hS HZQ (wa_v 7 76 (.slice (some ⟨g, i * 5, none⟩) ((l.length + 1) - i) (cap - i)) hS HZQ (fun W hW => run_eqv (run_slcL 48 (.tmp 74) (.tmp 75) (by kernel_rfl) g 0 (l.length + 1) cap i 54 5 (by kernel_rfl) (by kernel_rfl) (by omega) (by omega) Tryz.underlying48 (by kernel_rfl)) (by rw [Nat.zero_add])) ?_)))))))
  refine wa_r [8] ?_
  refine ar_a (some 77) (fun K hK => ?_) ar_nil
  refine ow_copyN (.tmp 73) (.tmp 76) 48 48 (by kernel_rfl) 54 g ((i + 1) * 5) (l.length + 1 - (i + 1)) (cap - (i + 1)) g (i * 5) (l.length + 1 - i) (cap - i) 5 cur 54 ((shRow l).drop (i * 5)) Tryz.underlying48 (by kernel_rfl) (by kernel_rfl) (by kernel_rfl) (HG.out.drewN 1) HF2.out HSR.out HF1.out (fun v hv => HRO.out v (List.mem_of_mem_drop hv)) (Lib.hid ?_)
  intro w1 hz1 ho1
  refine hK.out _ _ trivial (fun hS1 => ?_)
  have G1 := Lib.hid hz1
  have O1 := Lib.hid ((((Only.refl (fun k => k = g) w).drewN 1).trans ho1))
  have X1 := Lib.hid (HX.out.only O1.out hgh)
  clear hK K hz1 ho1 hS HG HX HSR HF2
  refine wa_done (by kernel_rfl) ?_
  dsimp only [Exit.then, Act.put]
  simp only [List.setIfInBounds_toArray, List.set_cons_succ, List.set_cons_zero]
  clear hS1
  have HF3 : Hid (x.cells.length = Nat.min 1 (l.length + 1 - i) * 5) := Lib.hid (by rw [show Nat.min 1 (l.length + 1 - i) = 1 from Nat.min_eq_left (by omega)]; rfl)
  have HF4 : Hid (i * 5 + x.cells.length ≤ (splice cur ((i + 1) * 5) ((shRow l).drop (i * 5))).length) := Lib.hid (by rw [length_splice _ _ _ HF1.out, Sh.cells_len, HLN.out]; omega)
  have HXR := Lib.hid (show w1.rangeAt h 0 x.cells from X1.out.range (fun j v hj => by simpa using hj))
  go_wp2_with (refine wpList_copyN rfl (.tmp 80) (.tmp 81) 48 48 rfl 54 g (i * 5) (l.length + 1 - i) (cap - i) h 0 1 1 5 (splice cur ((i + 1) * 5) ((shRow l).drop (i * 5))) 54 x.cells Tryz.underlying48 (by kernel_rfl) rfl rfl G1.out HF3.out HXR.out HF4.out x.one ?_)
  refine Lib.hid ?_
  intro w2 hz2 ho2
  have R2 := Lib.hid (HOW.out w2 hz2)
  have O2 := Lib.hid (O1.out.trans ho2)
  clear hz2 ho2 G1 X1 HXR
  go_wp2_with fail
  go_ret
  exact ⟨_, rfl, R2.out, O2.out⟩
end Go.Proofs.YthjmfcdhpdiehaaGreatDoor

namespace Go.Proofs.YthjmfcdhpdiehaaGreatDoor
open Go.RowKit Utf
set_option maxRecDepth 100000
set_option linter.unusedSimpArgs false
set_option linter.unusedVariables false

section
variable {P : Program} {ops : Array Oper} {rest : List Oper} {o : Oper} {a : Act} {w : World} {Q : Exit → Act → World → Prop} {K : Act → World → Prop}
/-- append(s, make(S, k)...) where there is no room. -/
theorem wpList_appZeros (hgd : o.guard = none) (s x : Operand) (t tn : TypeId) (ho : o.op = .call { callee := .builtin .append, args := #[s, x], argTypes := #[t, tn] })
    (e : TypeId) (i : TypeInfo) (z : Value) (sz bytes : Nat) (ht : P.underlying t = some (.slice e)) (htn : P.underlying tn = some (.int .i64)) (hi : P.info? e = some i) (hz : i.zero = some z) (hsz : i.size = sz) (hby : i.bytes = bytes) (hzs : z.cells.size = sz) (h0 : 0 < sz)
    (g n cap k N : Nat) (hN : n + k = N) (cur : List Value) (T : TypeId) (hs : a.eval s = .slice (some ⟨g, 0, none⟩) n cap) (hx : a.eval x = .int .i64 (k : Int)) (hg : Blk w g T cur.toArray) (hfit : n * sz ≤ cur.length)
    (hk : 0 < k) (hcap : cap < n + k) (hn : n + k ≤ 1000000) (hb : bytes ≤ 1000)
    (h : Hid (∀ w' cap' cur', Blk w' w.heap.size e (List.toArray cur') → N ≤ cap' → cap' ≤ maxLen → cur'.length = cap' * sz → cur'.take (n * sz) = cur.take (n * sz) → Below w.heap.size w w' → wpList P ops Q rest (a.put o.dst (.slice (some ⟨w.heap.size, 0, none⟩) N cap')) w')) : wpList P ops Q (o :: rest) a w := by
  subst hN
  subst hsz
  subst hby
  have hbytes : (n + k) * i.bytes ≤ 140737488355328 := by
    have : (n + k) * i.bytes ≤ 1000000 * 1000 := Nat.mul_le_mul hn hb
    omega
  have hkb : k * i.bytes ≤ 281474976710656 := by
    have : k * i.bytes ≤ (n + k) * i.bytes := Nat.mul_le_mul_right _ (by omega)
    omega
  have hlo : (cur.take (n * i.size)).length = n * i.size := by rw [List.length_take]; omega
  have hold : (Builtin.firstCells i.size n (.slice (some ⟨g, 0, none⟩) n cap)).run P w.drew = .ok (cur.take (n * i.size)).toArray w.drew := by
    have := run_loadCells_list (P := P) w.drew ⟨g, 0, none⟩ (cur.take (n * i.size)) (fun j v hj => by
      rw [addr_add, Nat.zero_add]
      have h1 : w.cell? ⟨g, j, none⟩ = some v := by
        rw [hg.cell]
        rw [List.getElem?_take] at hj
        split at hj
        · simpa using hj
        · cases hj
      exact h1)
    rw [hlo] at this
    simpa [Builtin.firstCells] using this
  have hrun := Lib.run_append_grow_zeros (P := P) w t tn o.type e i z .i64 .i64 ht htn hi hz (some ⟨g, 0, none⟩) n cap (cur.take (n * i.size)) hold k hk h0 hcap (by omega) hkb (growslice_fits hcap hbytes)
  refine wpList_plain hgd fun K hK => ?_
  unfold Oper.wp execOp
  simp only [ho, resolve, invoke, builtin, Sem.run_bind, Sem.run_pure, Result.andThen_ok, List.map_toArray, List.map_cons, List.map_nil, hs, hx, hrun]
  have hge := grownCap_ge w (n + k) cap e
  refine hK _ _ (h.out _ (grownCap w (n + k) cap e) (cur.take (n * i.size) ++ (Builtin.zeroCells z.cells k).toList ++ (Builtin.zeroCells z.cells (grownCap w (n + k) cap e - (n + k))).toList) ?_ hge (grownCap_le_maxLen w (n + k) cap e (by unfold maxLen; omega)) ?_ ?_ ⟨rfl, rfl, rfl, by simp, fun j hj => Below.heap_alloc w.drew _ j hj⟩)
  · have := heap_alloc_new w.drew (.cells ((cur.take (n * i.size)).toArray ++ Builtin.zeroCells z.cells k ++ Builtin.zeroCells z.cells (grownCap w (n + k) cap e - (n + k))) e)
    unfold Blk
    rw [show (w.drew).heap.size = w.heap.size from rfl] at this
    rw [this]
    simp
  · simp only [List.length_append, hlo, Array.length_toList, size_zeroCells, hzs, ← Nat.add_mul]
    congr 1
    omega
  · rw [List.append_assoc, List.take_left' hlo]
end

/-- What two copies make of a new row. -/
theorem two_news (cur' R X : List Value) (n i : Nat) (hR : R.length = n * 5) (hi : i ≤ n) (ht : cur'.take (i * 5) = R.take (i * 5)) (hl : (n + 1) * 5 ≤ cur'.length) (hX : X.length = 5) :
    (splice (splice cur' (i * 5) X) ((i + 1) * 5) (R.drop (i * 5))).take ((n + 1) * 5) = R.take (i * 5) ++ (X ++ R.drop (i * 5)) := by
  have hd : (R.drop (i * 5)).length = (n - i) * 5 := by rw [List.length_drop, hR]; omega
  have h0 : ∀ (S Y : List Value) o, splice S o Y = S.take o ++ (Y ++ S.drop (o + Y.length)) := fun _ _ _ => rfl
  have hti : (R.take (i * 5)).length = i * 5 := by rw [List.length_take]; omega
  have e1 : splice cur' (i * 5) X = R.take (i * 5) ++ (X ++ cur'.drop (i * 5 + 5)) := by rw [h0, ht, hX]
  have e2 : (splice cur' (i * 5) X).take ((i + 1) * 5) = R.take (i * 5) ++ X := by
    rw [e1, ← List.append_assoc, List.take_left' (by rw [List.length_append, hti, hX]; omega)]
  rw [h0, e2, ← List.append_assoc, List.take_left' (by simp only [List.length_append, hti, hX, hd]; omega), List.append_assoc]

set_option maxHeartbeats 1000000 in
/-- slices.Insert where there is no room. -/
theorem insert_grow (l : List Sh) (x : Sh) (i g cap h B : Nat) (cur : List Value) (w : World) (hi : i < l.length) (hn : l.length ≤ 100000) (hcap : cap < l.length + 1) (hlc : l.length ≤ cap) (hg : Blk w g 54 cur.toArray) (hlen : cur.length = cap * 5) (ht : cur.take (l.length * 5) = shRow l)
    (hx : Blk w h 54 x.cells.toArray) (hB : B ≤ w.heap.size) :
    Calls Tryz.prog 80 #[.slice (some ⟨g, 0, none⟩) l.length cap, .int .i64 (i : Nat), .slice (some ⟨h, 0, none⟩) 1 1] w fun e w' => ∃ v, e = .returned v ∧ w'.ownsRow B 54 5 v (l.length + 1) (shRow (l.take i ++ x :: l.drop i)) ∧ Below w.heap.size w w' := by
  obtain ⟨i0, hinf, hz0, hz1, hz2⟩ := info_parts Tryz.infoSh
  have HI := Lib.hid (And.intro hinf (And.intro hz0 (And.intro hz1 hz2)))
  have HG := Lib.hid hg
  have HX := Lib.hid hx
  have HRW := Lib.hid (row_ins l x i)
  have HRL := Lib.hid (shRow_len l)
  have HRO := Lib.hid (shRow_one l)
  have HFT : Hid (i * 5 ≤ cur.length) := Lib.hid (by rw [hlen]; omega)
  have HTI : Hid (cur.take (i * 5) = (shRow l).take (i * 5)) := Lib.hid (by rw [← ht, List.take_take]; congr 1; omega)
  have HSR : Hid (w.rangeAt g (i * 5) ((shRow l).drop (i * 5))) := Lib.hid (hg.range (fun j v hj => by
    rw [← ht, List.getElem?_drop] at hj
    have hlt := (List.getElem?_eq_some_iff.1 hj).1
    rw [List.getElem?_take, if_pos (by simp at hlt; omega)] at hj
    simpa using hj))
  have HGB := Lib.hid (show w.heap[g]? = some (.cells cur.toArray 54 (0, 0)) from hg)
  clear hg hx ht hlen hinf hz0 hz1 hz2
  have e1 : ((i : Int) == (l.length : Int)) = false := beq_eq_false_iff_ne.2 (by omega)
  have e2 : decide ((cap : Int) < (l.length : Int) + 1) = true := decide_eq_true (by omega)
  have e3 : ¬ cap = i := by omega
  go_enter Tryz.func80, Tryz.ntmps80
  go_wp2_with (refine wpList_appZeros rfl (.tmp 34) (.tmp 39) 48 3 rfl 54 i0 _ 5 56 Tryz.underlying48 Tryz.underlying3 HI.out.1 HI.out.2.1 HI.out.2.2.1 HI.out.2.2.2 rfl (by decide) g i cap (l.length + 1 - i) (l.length + 1) (by omega) cur 54 rfl (int_val (by omega)) HG.out HFT.out (by omega) (by omega) (by omega) (by decide) ?_)
  refine Lib.hid ?_
  intro w1 cap' cur' hz1 hc1 hc2 hc3 hc4 hb1
  have Z1 := Lib.hid hz1
  have C3 := Lib.hid hc3
  have C2 := Lib.hid hc2
  have C4 := Lib.hid (hc4.trans HTI.out)
  have B1 := Lib.hid hb1
  have G1 := Lib.hid (HG.out.below hb1 HG.out.lt)
  have X1 := Lib.hid (HX.out.below hb1 HX.out.lt)
  have HGL := Lib.hid HG.out.lt
  have HXL := Lib.hid HX.out.lt
  clear hz1 hc3 hc4 hb1 HI HG HX
  unfold maxLen at hc2
  have e5 : ¬ cap' = i := by omega
  have e6 : ¬ cap' = i + 1 := by omega
  have HF3 : Hid (x.cells.length = Nat.min 1 (l.length + 1 - i) * 5) := Lib.hid (by rw [show Nat.min 1 (l.length + 1 - i) = 1 from Nat.min_eq_left (by omega)]; rfl)
  have HF4 : Hid (i * 5 + x.cells.length ≤ cur'.length) := Lib.hid (by rw [Sh.cells_len, C3.out]; omega)
  have HXR := Lib.hid (show w1.rangeAt h 0 x.cells from X1.out.range (fun j v hj => by simpa using hj))
  go_wp2_with (refine wpList_copyN rfl (.tmp 43) (.tmp 44) 48 48 rfl 54 w.heap.size (i * 5) (l.length + 1 - i) (cap' - i) h 0 1 1 5 cur' 54 x.cells Tryz.underlying48 (by kernel_rfl) rfl rfl Z1.out HF3.out HXR.out HF4.out x.one ?_)
  refine Lib.hid ?_
  intro w2 hz2 ho2
  have Z2 := Lib.hid hz2
  have G2 := Lib.hid (G1.out.only ho2 (by have := HGL.out; omega))
  have B2 := Lib.hid (B1.out.trans (ho2.to_below B1.out.size (fun k hk e => by omega)))
  have HF5 : Hid ((i + 1) * 5 + ((shRow l).drop (i * 5)).length ≤ (splice cur' (i * 5) x.cells).length) := Lib.hid (by rw [length_splice _ _ _ HF4.out, C3.out, List.length_drop, HRL.out]; omega)
  have HF2 : Hid (((shRow l).drop (i * 5)).length = Nat.min (l.length - i) (l.length + 1 - (i + 1)) * 5) := Lib.hid (by rw [List.length_drop, HRL.out, show Nat.min (l.length - i) (l.length + 1 - (i + 1)) = l.length - i from by rw [show l.length + 1 - (i + 1) = l.length - i by omega]; exact Nat.min_self _]; omega)
  have HS2 : Hid (w2.rangeAt g (i * 5) ((shRow l).drop (i * 5))) := Lib.hid (fun j v hj => by
    have h1 := HSR.out j v hj
    exact (World.cell?_of_block (G2.out.trans (HGB.out).symm)).trans h1)
  clear hz2 ho2 X1 HXR Z1 G1 B1
  go_wp2_with fail
  refine wp_region_wb ((fun _ => True)) (by kernel_rfl) (trivial) (fun _ _ _ _ _ h => h) ?_
  intro hS HZQ
  refine wa_k 0 46 (.slice (some ⟨w.heap.size, 0, none⟩) (l.length + 1) cap') hS HZQ (wa_k 1 47 (.int .i64 ((i : Nat) : Int)) hS HZQ (wa_k 2 48 (.int .i64 1) hS HZQ (wa_v 3 49 (.int .i64 ((i + 1 : Nat) : Int)) hS HZQ (fun W hW => run_eqv (v := .int .i64 (IntKind.i64.wrap ((i : Int) + 1))) (by kernel_rfl) (wrap_nat _ _ (by omega) (by omega))) (wa_v 4 50 (.slice (some ⟨w.heap.size, (i + 1) * 5, none⟩) ((l.length + 1) - (i + 1)) (cap' - (i + 1))) hS HZQ (fun W hW => run_eqv (run_slcL 48 (.tmp 46) (.tmp 49) (by kernel_rfl) w.heap.size 0 (l.length + 1) cap' (i + 1) 54 5 (by kernel_rfl) (by kernel_rfl) (by omega) (by omega) Tryz.underlying48 (by kernel_rfl)) (by rw [Nat.zero_add])) (wa_k 5 51 (.slice (some ⟨g, 0, none⟩) l.length cap) hS HZQ (wa_k 6 52 (.int .i64 ((i : Nat) : Int)) hS HZQ (wa_v 7 53 (.slice (some ⟨g, i * 5, none⟩) (l.length - i) (cap - i)) hS HZQ (fun W hW => run_eqv (run_slcL 48 (.tmp 51) (.tmp 52) (by kernel_rfl) g 0 l.length cap i 54 5 (by kernel_rfl) (by kernel_rfl) (by omega) (by omega) Tryz.underlying48 (by kernel_rfl)) (by rw [Nat.zero_add])) ?_)))))))
  refine wa_r [8] ?_
  refine ar_a (some 54) (fun K hK => ?_) ar_nil
  refine ow_copyN (.tmp 50) (.tmp 53) 48 48 (by kernel_rfl) 54 w.heap.size ((i + 1) * 5) (l.length + 1 - (i + 1)) (cap' - (i + 1)) g (i * 5) (l.length - i) (cap - i) 5 (splice cur' (i * 5) x.cells) 54 ((shRow l).drop (i * 5)) Tryz.underlying48 (by kernel_rfl) (by kernel_rfl) (by kernel_rfl) (Z2.out.drewN 1) HF2.out HS2.out HF5.out (fun v hv => HRO.out v (List.mem_of_mem_drop hv)) (Lib.hid ?_)
  intro w3 hz3 ho3
  refine hK.out _ _ trivial (fun hS1 => ?_)
  have R3 := Lib.hid (own_blk (n := l.length + 1) (cap := cap') (xs := shRow (l.take i ++ x :: l.drop i)) (sz := 5) hz3 hB (by rw [shRow_len]; simp; omega) hc1 C2.out (by rw [length_splice _ _ _ HF5.out, length_splice _ _ _ HF4.out, C3.out]) (by
    rw [two_news cur' (shRow l) x.cells l.length i HRL.out (by omega) C4.out (by rw [C3.out]; omega) (Sh.cells_len x), HRW.out]))
  have B3 := Lib.hid (B2.out.trans ((tame_drewN (Below.refl _ w2) 1 |>.mono (B2.out.size)).trans (ho3.to_below (B2.out.size) (fun k hk e => by omega))))
  clear hK K hz3 ho3 hS Z2 G2 HS2 HF2
  refine wa_done (by kernel_rfl) ?_
  dsimp only [Exit.then, Act.put]
  simp only [List.setIfInBounds_toArray, List.set_cons_succ, List.set_cons_zero]
  clear hS1
  go_wp2_with fail
  go_ret
  exact ⟨_, rfl, R3.out, B3.out⟩

/-- slices.Insert of one shard. -/
theorem insert_any (l : List Sh) (x : Sh) (i h B : Nat) (v : Value) (w : World) (hown : w.ownsRow B 54 5 v l.length (shRow l)) (hl : 1 ≤ l.length) (hi : i ≤ l.length) (hn : l.length ≤ 100000)
    (hx : Blk w h 54 x.cells.toArray) (hh : v.ownBlock ≠ some h) (hB : B ≤ w.heap.size) :
    Calls Tryz.prog 80 #[v, .int .i64 (i : Nat), .slice (some ⟨h, 0, none⟩) 1 1] w fun e w' => ∃ v', e = .returned v' ∧ w'.ownsRow B 54 5 v' (l.length + 1) (shRow (l.take i ++ x :: l.drop i)) ∧ Only (fun k => v.ownBlock = some k) w w' := by
  obtain ⟨g, cap, cur, rfl, h1, h2, h3, h4, h5, h6, h7⟩ := own_open hown hl
  have hg : h ≠ g := fun e => hh (by rw [e]; rfl)
  rcases Nat.lt_or_ge i l.length with hlt | hge
  · by_cases hc : l.length + 1 ≤ cap
    · refine (insert_room l x i g cap h B cur w hlt hn hc h4 h2 h5 h6 hx hg h1).mono fun e w' ⟨v', e1, e2, e3⟩ => ⟨v', e1, e2, e3.mono (fun k hk => by subst hk; rfl)⟩
    · refine (insert_grow l x i g cap h B cur w hlt hn (by omega) h3 h2 h5 h6 hx hB).mono fun e w' ⟨v', e1, e2, e3⟩ => ⟨v', e1, e2, Only.below_all e3⟩
  · obtain rfl : i = l.length := by omega
    refine (insert_end l x g cap h B w hown hl hn hx hB).mono fun e w' ⟨v', e1, e2, e3⟩ => ⟨v', e1, ?_, ?_⟩
    · rw [List.take_length, List.drop_length]
      exact e2
    · exact (Only.refl _ w).grown e3 (fun k hk => .inl (by cases hk; rfl))
end Go.Proofs.YthjmfcdhpdiehaaGreatDoor
