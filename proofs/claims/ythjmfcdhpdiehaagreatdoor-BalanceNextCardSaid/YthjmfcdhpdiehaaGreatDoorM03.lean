/-
  Single operations, run: what a region's walk (in whatever order) is put together from.
  Blocks that are known whole, frames, whole stores and loads, operations taken one by one.
  Append of a slice's elements to a slice of the call's own; changes by the kind of block.
  Contracts: right_any.
  Contracts: count_none, count_some.
  Contracts: list_none, list_some.
-/
import Derived.Test.YthjmfcdhpdiehaaGreatDoorM02
import Derived.Deep.MidRow
import Derived.Deep.RegionHeld
import Derived.Maps.AppendAt
import Derived.ArgAppend
namespace Go.Proofs.YthjmfcdhpdiehaaGreatDoor
open Go.RowKit Utf
set_option maxRecDepth 100000
set_option linter.unusedSimpArgs false
set_option linter.unusedVariables false

/-- The walk of a region, in the order of the text, closed (so that nothing looks into what is still to come). -/
structure WQ (P : Program) (ops : Array Oper) (C : World → Prop) (Q : Act → Prop) (l : List Oper) (a : Act) : Prop where
  out : wpQuiet P ops C Q l a
section
variable {P : Program} {ops : Array Oper} {C : World → Prop} {Q : Act → Prop} {a : Act} {o : Oper} {rest : List Oper}
theorem wq_val (v : Value) (hw : Region.wanted o (yielded ops a.tmps) = true) (h : ∀ W, C W → (execOp a.eval o).run P W = .ok (.value v) W) (hn : WQ P ops C Q rest (a.put o.dst v)) : WQ P ops C Q (o :: rest) a := by
  refine ⟨?_⟩
  unfold wpQuiet
  rw [if_pos hw]
  refine ⟨v, fun W hW => ?_, hn.out⟩
  unfold Oper.quietAt
  rw [h W hW]
  exact ⟨rfl, rfl⟩
theorem wq_no (hw : Region.wanted o (yielded ops a.tmps) = false) (hn : WQ P ops C Q rest (a.put o.dst undef)) : WQ P ops C Q (o :: rest) a := by
  refine ⟨?_⟩
  unfold wpQuiet
  rw [if_neg (by rw [hw]; exact Bool.false_ne_true)]
  exact hn.out
theorem wq_call (v : Value) (f : FuncId) (args : Array Value) (hw : Region.wanted o (yielded ops a.tmps) = true) (hr : ∀ W, (execOp a.eval o).run P W = .ok (.enter f args) W)
    (hc : ∀ W, C W → Calls P f args W fun e w' => e = .returned v ∧ C w') (hn : WQ P ops C Q rest (a.put o.dst v)) : WQ P ops C Q (o :: rest) a := by
  refine ⟨?_⟩
  unfold wpQuiet
  rw [if_pos hw]
  refine ⟨v, fun W hW => ?_, hn.out⟩
  unfold Oper.quietAt
  rw [hr W]
  exact ⟨rfl, hc W hW⟩
end

theorem tame_drewN {B : Nat} {w w' : World} (h : Below B w w') (n : Nat) : Below B w (w'.drewN n) := ⟨h.os, h.tape, h.output, h.size, h.block⟩
/-- The same in a class of one's own. -/
theorem wp_region_class {P : Program} {id : Nat} {Q : Exit → Act → World → Prop} {a : Act} {w : World} {l : List Oper} (C : World → Prop) (hm : P.follows .mixedOrders = true) (hB : Region.lexB .any l.toArray = true) (hC : C (w.drewN 1))
    (h : WQ P l.toArray C (fun a' => ∀ w', C w' → Q .normal a' w') l a) : (Code.region id l.toArray true).wp P Q a w :=
  wp_region_quiet (C := C) hm hB hC (by simpa using h.out)
theorem quiet_end {P : Program} {ops : Array Oper} {C : World → Prop} {Q : Exit → Act → World → Prop} {a a' : Act} (ha : a = a') (h : Hid (∀ w', C w' → Q .normal a' w')) : WQ P ops C (fun a' => ∀ w', C w' → Q .normal a' w') [] a := by
  subst ha
  exact ⟨wpQuiet_nil h.out⟩
section
variable {P : Program} {a : Act} {o : Oper} {W : World}
theorem run_idx (T : TypeId) (x i : Operand) (ho : o.op = .indexAddr T x i) (b off n c k e sz : Nat) (hx : a.eval x = .slice (some ⟨b, off, none⟩) n c) (hi : a.eval i = .int .i64 (k : Int)) (hk : k < n)
    (hu : P.underlying T = some (.slice e)) (hs : (P.info? e).map (·.size) = some sz) : (execOp a.eval o).run P W = .ok (.value (.pointer (some ⟨b, off + k * sz, none⟩))) W := by
  obtain ⟨i0, hi1, hi2⟩ := Option.map_eq_some_iff.1 hs
  have hlt : (0 : Int) ≤ (k : Int) ∧ (k : Int) < (n : Int) := ⟨by omega, by omega⟩
  unfold execOp
  simp only [ho, hx, hi]
  simp [Instr.indexAt, asIntOf, Sem.run_bind, run_underlying hu, sizeOf, typeInfo, hi1, hi2, hlt, Addr.add_mid]
  intro hh
  omega
/-- An array's element. -/
theorem run_idxA (T : TypeId) (x i : Operand) (ho : o.op = .indexAddr T x i) (b off n k e sz : Nat) (hx : a.eval x = .pointer (some ⟨b, off, none⟩)) (hi : a.eval i = .int .i64 (k : Int)) (hk : k < n)
    (hu : P.underlying T = some (.array n e)) (hs : (P.info? e).map (·.size) = some sz) : (execOp a.eval o).run P W = .ok (.value (.pointer (some ⟨b, off + k * sz, none⟩))) W := by
  obtain ⟨i0, hi1, hi2⟩ := Option.map_eq_some_iff.1 hs
  have hlt : (0 : Int) ≤ (k : Int) ∧ (k : Int) < (n : Int) := ⟨by omega, by omega⟩
  unfold execOp
  simp only [ho, hx, hi]
  simp [Instr.indexAt, Instr.sureAddr, asIntOf, Sem.run_bind, run_underlying hu, sizeOf, typeInfo, hi1, hi2, hlt, Addr.add_mid]
  intro hh
  omega
theorem run_load1 (ty : TypeId) (x : Operand) (ho : o.op = .load ty x) (p : Addr) (hx : a.eval x = .pointer (some p)) (v : Value) (hc : W.cell? p = some v) (d : TypeDesc) (hu : P.underlying ty = some d) (hd : d.isRow = false) :
    (execOp a.eval o).run P W = .ok (.value v) W := by
  have hg : (isAgg ty).run P W = .ok false W := by
    unfold isAgg
    rw [Sem.run_bind, run_underlying hu W]
    cases d <;> simp_all
  unfold execOp
  simp only [ho, hx]
  simp [Instr.loadAt, Instr.sureAddr, loadVar, Sem.run_bind, hg, hc]
theorem run_loadN (ty : TypeId) (x : Operand) (ho : o.op = .load ty x) (b off : Nat) (hx : a.eval x = .pointer (some ⟨b, off, none⟩)) (cs : List Value) (hc : W.rangeAt b off cs) (d : TypeDesc) (hu : P.underlying ty = some d) (hd : d.isRow = true)
    (hi : (P.info? ty).map (·.size) = some cs.length) : (execOp a.eval o).run P W = .ok (.value (.agg cs.toArray)) W := by
  unfold execOp
  simp only [ho, hx, Instr.loadAt, Instr.sureAddr, Sem.run_bind, Sem.run_pure, Result.andThen_ok, run_loadVar_mid W b off ty cs d hc hu hd hi]
theorem run_eqv {v v' : Value} (h : (execOp a.eval o).run P W = .ok (.value v) W) (e : v = v') : (execOp a.eval o).run P W = .ok (.value v') W := e ▸ h
end

theorem wrap_nat (x : Int) (k : Nat) (h : x = (k : Int)) (hk : k ≤ 1000000000000) : Value.int .i64 (IntKind.i64.wrap x) = .int .i64 (k : Int) := by
  subst h
  rw [Go.IntWalk.i64_in _ (by omega)]
/-! ### A region in whatever order, closed (so that nothing looks into what is still to come) -/
structure WA (P : Program) (md : Region.Mode) (ops : Array Oper) (Q : Exit → Act → World → Prop) (S : World → Prop) (fuel : Nat) (listed : Array Bool) (a : Act) (w : World) : Prop where
  out : wpAnyH P md ops Q S fuel listed a w
structure AR (P : Program) (md : Region.Mode) (ops : Array Oper) (Q : Exit → Act → World → Prop) (S : World → Prop) (fuel : Nat) (listed : Array Bool) (a : Act) (w : World) (rs : List Nat) : Prop where
  out : AllReadyH P md ops Q S fuel listed a w rs
/-- One operation, closed. -/
structure OW (P : Program) (o : Oper) (a : Act) (w : World) (K : Act → World → Prop) (Q : Exit → Act → World → Prop) : Prop where
  out : o.wp P a w K Q
section
variable {P : Program} {md : Region.Mode} {ops : Array Oper} {Q : Exit → Act → World → Prop} {S : World → Prop} {fuel : Nat} {listed : Array Bool} {a : Act} {w : World}
theorem wa_take (i : Nat) (oi : Oper) (v : Value) (hi : ops[i]? = some oi) (hs : Region.noSelect ops = true) (hf : Region.free md ops listed i = true) (hr : (Region.ready md ops listed).contains i = true)
    (hQ : ∀ c a w, Q (.panic c) (a.put oi.dst v) w → Q (.panic c) a w) (hy : YieldsIf P ops S oi v a) (hS : S w) (h : WA P md ops Q S fuel (listed.setIfInBounds i true) (a.put oi.dst v) w) : WA P md ops Q S (fuel + 1) listed a w :=
  ⟨wpAnyH_take hi hs hf hr hQ hy hS h.out⟩
theorem wa_ready (rs : List Nat) (hr : Region.ready md ops listed = rs) (hne : rs ≠ []) (h : AR P md ops Q S fuel listed a w rs) : WA P md ops Q S (fuel + 1) listed a w :=
  ⟨wpAnyH_ready hr hne h.out⟩
theorem wa_done (hr : Region.ready md ops listed = []) (h : Q .normal a w) : WA P md ops Q S fuel listed a w := ⟨wpAnyH_done hr h fuel⟩
theorem ar_nil : AR P md ops Q S fuel listed a w [] := ⟨AllReadyH.nil⟩
theorem ar_cons {i : Nat} {rs : List Nat} (o : Oper) (ho : ops[i]? = some o) (hw : Region.wanted o (yielded ops a.tmps) = true)
    (h : ∀ K' : Act → World → Prop, Shut (∀ a w, S w → (S w → WA P md ops Q S fuel (listed.setIfInBounds i true) a w) → K' a w) → OW P o a w K' Q)
    (hs : AR P md ops Q S fuel listed a w rs) : AR P md ops Q S fuel listed a w (i :: rs) :=
  ⟨AllReadyH.cons ho (fun K' hK => by
    rw [if_pos hw]
    exact (h K' (fun a w h1 h2 => hK.out a w h1 (fun h3 => (h2 h3).out))).out) hs.out⟩
theorem wp_region_wa {id : Nat} {a : Act} {w : World} (S : World → Prop) (hm : P.follows .mixedOrders = true) (hS : S w.drew)
    (h : S w.drew → WA P .any ops Q S ops.size (Array.replicate ops.size false) a w.drew) : (Code.region id ops true).wp P Q a w :=
  wp_region_held_drew hm hS (fun h1 => (h h1).out)
variable {o : Oper} {K : Act → World → Prop}
theorem ow_call (f : FuncId) (args : Array Value) (hrun : (execOp a.eval o).run P w = .ok (.enter f args) w) (R : Value → World → Prop) (hc : Calls P f args w fun e w' => ∃ v, e = .returned v ∧ R v w')
    (h : Hid (∀ v w', R v w' → K (a.put o.dst v) w')) : OW P o a w K Q := by
  refine ⟨?_⟩
  unfold Oper.wp
  rw [hrun, Oper.upon_enter]
  refine hc.mono fun e w' he => ?_
  obtain ⟨v, rfl, hR⟩ := he
  exact h.out v w' hR
theorem ow_val (v : Value) (w' : World) (hrun : (execOp a.eval o).run P w = .ok (.value v) w') (h : K (a.put o.dst v) w') : OW P o a w K Q := by
  refine ⟨?_⟩
  unfold Oper.wp
  rw [hrun, Oper.upon_value]
  exact h
end
/-- What lay at one cell, in the class. -/
theorem tame_cell {w W : World} (hW : Below w.heap.size w W) {p : Addr} {v : Value} (h : w.cell? p = some v) : W.cell? p = some v := (hW.cell (World.block_lt_of_cell? w p h)).trans h
theorem tame_range {w W : World} (hW : Below w.heap.size w W) {b o : Nat} {cs : List Value} (h : w.rangeAt b o cs) : W.rangeAt b o cs := fun j v hj => tame_cell hW (h j v hj)
/-! ### In short: what tools/mini.py writes for these laws -/
/-- An operation of a region, by its place. -/
def opA (ops : Array Oper) (i : Nat) : Oper := (ops[i]?).getD ⟨none, .nilCheck (.tmp 0), 0, "", #[], none⟩
theorem opA_some {ops : Array Oper} {i : Nat} (h : (ops[i]?).isSome = true) : ops[i]? = some (opA ops i) := by
  unfold opA
  cases h2 : ops[i]? with
  | none => rw [h2] at h; cases h
  | some o => rfl
theorem opA_dst {ops : Array Oper} {i d : Nat} (h : (ops[i]?).map (·.dst) = some (some d)) : ops[i]? = some (opA ops i) ∧ (opA ops i).dst = some d := by
  have h1 : ops[i]? = some (opA ops i) := opA_some (by cases h2 : ops[i]? with
    | none => rw [h2] at h; cases h
    | some o => rfl)
  refine ⟨h1, ?_⟩
  rw [h1] at h
  simpa using h
section
variable {P : Program} {md : Region.Mode} {ops : Array Oper} {Q : Exit → Act → World → Prop} {S : World → Prop} {fuel : Nat} {listed : Array Bool} {a : Act} {w : World}
theorem wp_region_wb {id : Nat} {a : Act} {w : World} (S : World → Prop) (hm : P.follows .mixedOrders = true) (hS : S w.drew) (hq : ∀ c a w d v, Q (.panic c) (a.put (some d) v) w → Q (.panic c) a w)
    (h : S w.drew → Hid (∀ c a w d v, Q (.panic c) (a.put (some d) v) w → Q (.panic c) a w) → WA P .any ops Q S ops.size (Array.replicate ops.size false) a w.drew) : (Code.region id ops true).wp P Q a w :=
  wp_region_wa S hm hS (fun h1 => h h1 (Lib.hid hq))
theorem wa_v (i d : Nat) (v : Value) (hS : S w) (hq : Hid (∀ c a w d v, Q (.panic c) (a.put (some d) v) w → Q (.panic c) a w)) (h : ∀ W, S W → (execOp a.eval (opA ops i)).run P W = .ok (.value v) W) (hn : WA P md ops Q S fuel (listed.setIfInBounds i true) (a.put (some d) v) w)
    (hd : (ops[i]?).map (·.dst) = some (some d) := by kernel_rfl) (hs : Region.noSelect ops = true := by kernel_rfl) (hf : Region.free md ops listed i = true := by kernel_rfl) (hr : (Region.ready md ops listed).contains i = true := by kernel_rfl)
    (hw : Region.wanted (opA ops i) (yielded ops a.tmps) = true := by kernel_rfl) : WA P md ops Q S (fuel + 1) listed a w := by
  obtain ⟨h1, h2⟩ := opA_dst hd
  rw [← h2] at hn
  exact wa_take i (opA ops i) v h1 hs hf hr (fun c a w => by rw [h2]; exact hq.out c a w d v) (.inl ⟨hw, h⟩) hS hn
theorem wa_k (i d : Nat) (v : Value) (hS : S w) (hq : Hid (∀ c a w d v, Q (.panic c) (a.put (some d) v) w → Q (.panic c) a w)) (hn : WA P md ops Q S fuel (listed.setIfInBounds i true) (a.put (some d) v) w)
    (hd : (ops[i]?).map (·.dst) = some (some d) := by kernel_rfl) (hs : Region.noSelect ops = true := by kernel_rfl) (hf : Region.free md ops listed i = true := by kernel_rfl) (hr : (Region.ready md ops listed).contains i = true := by kernel_rfl)
    (hw : Region.wanted (opA ops i) (yielded ops a.tmps) = true := by kernel_rfl) (h : ∀ W, S W → (execOp a.eval (opA ops i)).run P W = .ok (.value v) W := by intro _ _; kernel_rfl) : WA P md ops Q S (fuel + 1) listed a w :=
  wa_v i d v hS hq h hn hd hs hf hr hw
theorem ar_a {i : Nat} {rs : List Nat} (d : Option Nat) (h : ∀ K' : Act → World → Prop, Shut (∀ a w, S w → (S w → WA P md ops Q S fuel (listed.setIfInBounds i true) a w) → K' a w) → OW P ⟨d, (opA ops i).op, (opA ops i).type, (opA ops i).pos, (opA ops i).after, (opA ops i).guard⟩ a w K' Q) (hs : AR P md ops Q S fuel listed a w rs)
    (hd : (ops[i]?).map (·.dst) = some d := by kernel_rfl) (hw : Region.wanted (opA ops i) (yielded ops a.tmps) = true := by kernel_rfl) : AR P md ops Q S fuel listed a w (i :: rs) := by
  have h1 : ops[i]? = some (opA ops i) := opA_some (by cases h2 : ops[i]? with
    | none => rw [h2] at hd; cases hd
    | some o => rfl)
  rw [h1] at hd
  have h2 : (opA ops i).dst = d := by simpa using hd
  subst h2
  exact ar_cons (opA ops i) h1 hw h hs
theorem wa_r (rs : List Nat) (h : AR P md ops Q S fuel listed a w rs) (hr : Region.ready md ops listed = rs := by kernel_rfl) (hne : rs ≠ [] := by simp) : WA P md ops Q S (fuel + 1) listed a w := wa_ready rs hr hne h
end
section
variable {P : Program} {ops : Array Oper} {C : World → Prop} {Q : Act → Prop} {a : Act} {o : Oper} {rest : List Oper}
theorem wq_v (v : Value) (h : ∀ W, C W → (execOp a.eval o).run P W = .ok (.value v) W) (hn : WQ P ops C Q rest (a.put o.dst v)) (hw : Region.wanted o (yielded ops a.tmps) = true := by kernel_rfl) : WQ P ops C Q (o :: rest) a := wq_val v hw h hn
theorem wq_k (v : Value) (hn : WQ P ops C Q rest (a.put o.dst v)) (hw : Region.wanted o (yielded ops a.tmps) = true := by kernel_rfl) (h : ∀ W, C W → (execOp a.eval o).run P W = .ok (.value v) W := by intro _ _; kernel_rfl) : WQ P ops C Q (o :: rest) a := wq_val v hw h hn
theorem wq_n (hn : WQ P ops C Q rest (a.put o.dst undef)) (hw : Region.wanted o (yielded ops a.tmps) = false := by kernel_rfl) : WQ P ops C Q (o :: rest) a := wq_no hw hn
theorem wq_c (v : Value) (f : FuncId) (args : Array Value) (hc : ∀ W, C W → Calls P f args W fun e w' => e = .returned v ∧ C w') (hn : WQ P ops C Q rest (a.put o.dst v)) (hw : Region.wanted o (yielded ops a.tmps) = true := by kernel_rfl) (hr : ∀ W, (execOp a.eval o).run P W = .ok (.enter f args) W := by intro _; kernel_rfl) : WQ P ops C Q (o :: rest) a := wq_call v f args hw hr hc hn
end
end Go.Proofs.YthjmfcdhpdiehaaGreatDoor

namespace Go.Proofs.YthjmfcdhpdiehaaGreatDoor
open Go.RowKit Utf
set_option maxRecDepth 100000
set_option linter.unusedSimpArgs false
set_option linter.unusedVariables false


/-- Block g holds just these cells, none frozen. -/
def Blk (w : World) (g : Nat) (t : TypeId) (cs : Array Value) : Prop := w.heap[g]? = some (.cells cs t (0, 0))

section
variable {w w' : World} {g : Nat} {t : TypeId} {cs : Array Value}
theorem Blk.lt (h : Blk w g t cs) : g < w.heap.size := (Array.getElem?_eq_some_iff.1 h).1
theorem Blk.cell (h : Blk w g t cs) (i : Nat) : w.cell? ⟨g, i, none⟩ = cs[i]? := cell_of_row w g i cs t (0, 0) h
theorem Blk.frozen (h : Blk w g t cs) (i : Nat) : w.frozen? ⟨g, i, none⟩ = false := by unfold Blk at h; simp [World.frozen?, h]
theorem Blk.new (w : World) (t : TypeId) (cs : Array Value) : Blk (w.alloc (.cells cs t)) w.heap.size t cs := heap_alloc_new w _
theorem Blk.drewN (h : Blk w g t cs) (n : Nat) : Blk (w.drewN n) g t cs := h
theorem Blk.alloc (h : Blk w g t cs) (o : Obj) : Blk (w.alloc o) g t cs := (Below.heap_alloc w o g h.lt).trans h
theorem Blk.put (h : Blk w g t cs) (i : Nat) (u : Value) : Blk (w.setCell ⟨g, i, none⟩ u) g t (cs.setIfInBounds i u) := by
  unfold Blk at h ⊢
  simp [World.setCell, Array.getElem?_modify, h]
theorem Blk.far (h : Blk w g t cs) {p : Addr} (hp : g ≠ p.block) (u : Value) : Blk (w.setCell p u) g t cs := (Below.heap_setCell w p u g hp).trans h
theorem Blk.below {B : Nat} (h : Blk w g t cs) (hb : Below B w w') (hg : g < B) : Blk w' g t cs := (hb.block g hg).trans h
end

/-- Of the blocks that lay, only those of S may have turned. -/
structure Only (S : Nat → Prop) (w w' : World) : Prop where
  os : w'.os = w.os
  tape : w'.tape = w.tape
  output : w'.output = w.output
  size : w.heap.size ≤ w'.heap.size
  block : ∀ k, k < w.heap.size → ¬ S k → w'.heap[k]? = w.heap[k]?

section
variable {S T : Nat → Prop} {a w w' : World}
theorem Only.refl (S : Nat → Prop) (w : World) : Only S w w := ⟨rfl, rfl, rfl, Nat.le_refl _, fun _ _ _ => rfl⟩
theorem Only.trans (h : Only S a w) (k : Only S w w') : Only S a w' :=
  ⟨k.os.trans h.os, k.tape.trans h.tape, k.output.trans h.output, Nat.le_trans h.size k.size, fun i hi hs => (k.block i (Nat.lt_of_lt_of_le hi h.size) hs).trans (h.block i hi hs)⟩
theorem Only.mono (h : Only S w w') (hs : ∀ k, S k → T k) : Only T w w' := ⟨h.os, h.tape, h.output, h.size, fun k hk ht => h.block k hk (fun s => ht (hs k s))⟩
theorem Only.drewN (h : Only S a w) (n : Nat) : Only S a (w.drewN n) := ⟨h.os, h.tape, h.output, h.size, h.block⟩
theorem Only.alloc (h : Only S a w) (o : Obj) : Only S a (w.alloc o) :=
  ⟨h.os, h.tape, h.output, Nat.le_trans h.size (by simp), fun k hk hs => (Below.heap_alloc w o k (Nat.lt_of_lt_of_le hk h.size)).trans (h.block k hk hs)⟩
theorem Only.set (h : Only S a w) {p : Addr} (hp : S p.block ∨ a.heap.size ≤ p.block) (u : Value) : Only S a (w.setCell p u) :=
  ⟨h.os, h.tape, h.output, by simpa [World.setCell] using h.size, fun k hk hs => (Below.heap_setCell w p u k (fun e => by
    subst e
    rcases hp with hp | hp
    · exact hs hp
    · omega)).trans (h.block k hk hs)⟩
theorem Only.of_below {B : Nat} (h : Below B w w') (hs : ∀ k, k < w.heap.size → B ≤ k → S k) : Only S w w' :=
  ⟨h.os, h.tape, h.output, h.size, fun k hk hn => h.block k (Nat.lt_of_not_le fun hb => hn (hs k hk hb))⟩
theorem Only.below_all (h : Below w.heap.size w w') : Only S w w' := Only.of_below h (fun k hk hb => by omega)
theorem Only.to_below (h : Only S w w') {B : Nat} (hB : B ≤ w.heap.size) (hs : ∀ k, k < B → ¬ S k) : Below B w w' :=
  ⟨h.os, h.tape, h.output, h.size, fun k hk => h.block k (by omega) (hs k hk)⟩
/-- A step that may turn blocks of its own, some of which are new to the first world. -/
theorem Only.step (h : Only S a w) (k : Only T w w') (hs : ∀ i, T i → S i ∨ a.heap.size ≤ i) : Only S a w' :=
  ⟨k.os.trans h.os, k.tape.trans h.tape, k.output.trans h.output, Nat.le_trans h.size k.size, fun i hi hn => (k.block i (Nat.lt_of_lt_of_le hi h.size) (fun t => (hs i t).elim hn (by omega))).trans (h.block i hi hn)⟩
theorem Only.cell (h : Only S w w') {p : Addr} {v : Value} (hc : w.cell? p = some v) (hs : ¬ S p.block) : w'.cell? p = some v :=
  (World.cell?_of_block (h.block p.block (World.block_lt_of_cell? w p hc) hs)).trans hc
theorem Blk.only {g : Nat} {t : TypeId} {cs : Array Value} (hb : Blk w g t cs) (h : Only S w w') (hs : ¬ S g) : Blk w' g t cs := (h.block g hb.lt hs).trans hb
end

/-- A row of the call's own, kept. -/
theorem own_only {S : Nat → Prop} {w w' : World} {B : Nat} {e : TypeId} {size : Nat} {v : Value} {n : Nat} {xs : List Value} (h : w.ownsRow B e size v n xs) (ho : Only S w w') (hs : ∀ g, v.ownBlock = some g → ¬ S g) : w'.ownsRow B e size v n xs := by
  refine ⟨h.1, ?_⟩
  rcases h.2 with h2 | ⟨g, cap, cur, hv, hB, hg, r⟩
  · exact .inl h2
  · refine .inr ⟨g, cap, cur, hv, hB, ?_, r⟩
    rw [ho.block g (Array.getElem?_eq_some_iff.1 hg).1 (hs g (by rw [hv]; rfl))]
    exact hg

/-- A row of elements of one type and a block of another. -/
theorem own_ne_blk {w : World} {B : Nat} {e : TypeId} {size : Nat} {v : Value} {n : Nat} {xs : List Value} (h : w.ownsRow B e size v n xs) {c : Nat} {T : TypeId} {cs : Array Value} (hC : Blk w c T cs) (hne : e ≠ T) : v.ownBlock ≠ some c := by
  rcases h.2 with ⟨rfl, _⟩ | ⟨g', cap, cur, rfl, _, hg, _⟩
  · simp [Value.ownBlock]
  · intro hh
    have : g' = c := by simpa [Value.ownBlock] using hh
    subst this
    unfold Blk at hC
    rw [hg] at hC
    simp at hC
    exact hne hC.2

theorem Only.grown {S : Nat → Prop} {a w w' : World} {row : Option Nat} (h : Only S a w) (hg : w.grownBy w' row) (hr : ∀ k, row = some k → S k ∨ a.heap.size ≤ k) : Only S a w' :=
  ⟨hg.os.trans h.os, hg.tape.trans h.tape, hg.output.trans h.output, Nat.le_trans h.size hg.size, fun k hk hs => (hg.block k (Nat.lt_of_lt_of_le hk h.size) (fun e => by
    rcases hr k e.symm with h1 | h1
    · exact hs h1
    · omega)).trans (h.block k hk hs)⟩

/-- A row of cells, kept. -/
theorem RowAt.only {S : Nat → Prop} {w w' : World} {ao : Option Addr} {xs : List Value} (h : RowAt w ao xs) (ho : Only S w w') (hs : ∀ ad, ao = some ad → ¬ S ad.block) : RowAt w' ao xs := by
  intro i hi
  obtain ⟨b, o, e, hc⟩ := h i hi
  exact ⟨b, o, e, ho.cell hc (hs ⟨b, o, none⟩ e)⟩



theorem Blk.putAll {w : World} {g : Nat} {t : TypeId} : ∀ (vs : List Value) (o : Nat) (w : World) (cs : Array Value), Blk w g t cs → o + vs.length = cs.size → Blk (w.setCells g o vs) g t (cs.toList.take o ++ vs).toArray
  | [], o, w, cs, h, hl => by
    have e : (cs.toList.take o ++ []).toArray = cs := by
      rw [List.append_nil, List.take_of_length_le (by simp at hl; simp; omega)]
    rw [e]
    exact h
  | v :: r, o, w, cs, h, hl => by
    have h1 := h.put o v
    have h2 := Blk.putAll (w := w) r (o + 1) (w.setCell ⟨g, o, none⟩ v) (cs.setIfInBounds o v) h1 (by simp at hl ⊢; omega)
    have ho : o < cs.size := by simp at hl; omega
    have e : (cs.setIfInBounds o v).toList.take (o + 1) = cs.toList.take o ++ [v] := by
      rw [Array.toList_setIfInBounds, List.take_add_one, List.take_set_of_le (Nat.le_refl _)]
      congr 1
      rw [List.getElem?_set_self (by simpa using ho)]
      rfl
    rw [e, List.append_assoc] at h2
    exact h2

theorem Only.putAll {S : Nat → Prop} {g : Nat} (hs : S g) : ∀ (vs : List Value) (o : Nat) (a w : World), Only S a w → Only S a (w.setCells g o vs)
  | [], _, _, _, h => h
  | v :: r, o, a, w, h => Only.putAll hs r (o + 1) a _ (h.set (p := ⟨g, o, none⟩) (.inl hs) v)

theorem Blk.there {w : World} {g : Nat} {t : TypeId} {cs : Array Value} (h : Blk w g t cs) (n : Nat) (hn : n ≤ cs.size) : w.there g 0 n := fun j hj => by
  rw [Nat.zero_add]
  refine ⟨?_, h.frozen j⟩
  rw [h.cell j, Array.getElem?_eq_getElem (by omega)]
  rfl

section
variable {P : Program} {ops : Array Oper} {rest : List Oper} {op : Oper} {a : Act} {w : World} {Q : Exit → Act → World → Prop}
theorem wp_store_blk {K : Act → World → Prop} (ty : TypeId) (x y : Operand) (ho : op.op = .store ty x y)
    (g : Nat) (vs : Array Value) (hx : a.eval x = .pointer (some ⟨g, 0, none⟩)) (hy : a.eval y = .agg vs)
    (t : TypeId) (cs : Array Value) (hB : Blk w g t cs) (hsz : vs.size = cs.size) (hi : (P.info? ty).map (·.size) = some vs.size) (h1 : vs.all (·.oneCell') = true)
    (h : ∀ w', Blk w' g t vs → Only (fun k => k = g) w w' → K (a.put op.dst undef) w') : op.wp P a w K Q := by
  refine wp_store_mid ty x y ho g 0 vs hx hy (hB.there _ (Nat.le_of_eq hsz)) hi h1 ?_
  have hb := Blk.putAll (w := w) vs.toList 0 w cs hB (by simp; exact hsz)
  simp only [List.take_zero, List.nil_append, Array.toArray_toList] at hb
  exact h _ hb (Only.putAll (S := fun k => k = g) rfl vs.toList 0 w w (Only.refl _ w))
theorem ow_store_blk {K : Act → World → Prop} (ty : TypeId) (x y : Operand) (ho : op.op = .store ty x y)
    (g : Nat) (vs : Array Value) (hx : a.eval x = .pointer (some ⟨g, 0, none⟩)) (hy : a.eval y = .agg vs)
    (t : TypeId) (cs : Array Value) (hB : Blk w g t cs) (hsz : vs.size = cs.size) (hi : (P.info? ty).map (·.size) = some vs.size) (h1 : vs.all (·.oneCell') = true)
    (h : Hid (∀ w', Blk w' g t vs → Only (fun k => k = g) w w' → K (a.put op.dst undef) w')) : OW P op a w K Q :=
  ⟨wp_store_blk ty x y ho g vs hx hy t cs hB hsz hi h1 h.out⟩
/-- A value of all of a block's cells is stored. -/
theorem wpList_store_blk (hgd : op.guard = none) (ty : TypeId) (x y : Operand) (ho : op.op = .store ty x y)
    (g : Nat) (vs : Array Value) (hx : a.eval x = .pointer (some ⟨g, 0, none⟩)) (hy : a.eval y = .agg vs)
    (t : TypeId) (cs : Array Value) (hB : Blk w g t cs) (hsz : vs.size = cs.size) (hi : (P.info? ty).map (·.size) = some vs.size) (h1 : vs.all (·.oneCell') = true)
    (h : Hid (∀ w', Blk w' g t vs → Only (fun k => k = g) w w' → wpList P ops Q rest (a.put op.dst undef) w')) : wpList P ops Q (op :: rest) a w := by
  refine wpList_store_mid hgd ty x y ho g 0 vs hx hy (hB.there _ (Nat.le_of_eq hsz)) hi h1 ?_
  have hb := Blk.putAll (w := w) vs.toList 0 w cs hB (by simp; exact hsz)
  simp only [List.take_zero, List.nil_append, Array.toArray_toList] at hb
  exact h.out _ hb (Only.putAll (S := fun k => k = g) rfl vs.toList 0 w w (Only.refl _ w))
end


section
variable {P : Program} {ops : Array Oper} {a : Act} {w : World} {Q : Exit → Act → World → Prop} {md : Region.Mode} {S : World → Prop}
variable {o : Oper} {K : Act → World → Prop}
end
theorem own_row_of {w : World} {B sz : Nat} {e : TypeId} {v : Value} {n : Nat} {xs : List Value} (h : w.ownsRow B e sz v n xs) : ∃ ao cap, v = .slice ao n cap ∧ RowAt w ao xs := by
  have hl := h.1
  rcases h.2 with ⟨rfl, rfl⟩ | ⟨g, cap, cur, rfl, _, hg, hnc, hcm, _, _⟩
  · refine ⟨none, 0, rfl, fun i hi => by simp at hl; subst hl; cases hi⟩
  · refine ⟨some ⟨g, 0, none⟩, cap, rfl, fun i hi => ⟨g, 0, rfl, ?_⟩⟩
    have := h.cells (g := g) rfl i xs[i] (List.getElem?_eq_getElem hi)
    rw [Nat.zero_add]
    rw [← this]
    cases i <;> simp [Addr.add]
theorem ownE_row {w : World} {B sz : Nat} {e : TypeId} {v : Value} {n : Nat} {xs : List Value} (h : OwnE w B e sz v n xs) : ∃ ao cap, v = .slice ao n cap ∧ RowAt w ao xs := by
  rcases h with ⟨h, rfl, rfl⟩ | h
  · rcases h with rfl | ⟨g, rfl⟩
    · exact ⟨none, 0, rfl, fun i hi => by cases hi⟩
    · exact ⟨some ⟨g, 0, none⟩, 0, rfl, fun i hi => by cases hi⟩
  · exact own_row_of h
theorem flat_at {α : Type} (f : α → List Value) (n : Nat) (hf : ∀ a, (f a).length = n) : ∀ (l : List α) (k j : Nat) (hk : k < l.length), j < n → (l.flatMap f)[k * n + j]? = (f l[k])[j]?
  | [], k, j, hk, _ => by cases hk
  | a :: l, 0, j, _, hj => by
    rw [List.flatMap_cons, Nat.zero_mul, Nat.zero_add, List.getElem?_append_left (by rw [hf]; exact hj)]
    rfl
  | a :: l, k + 1, j, hk, hj => by
    rw [List.flatMap_cons, List.getElem?_append_right (by rw [hf, Nat.succ_mul]; omega), hf, show (k + 1) * n + j - n = k * n + j by rw [Nat.succ_mul]; omega, flat_at f n hf l k j (by simpa using hk) hj]
    rfl
theorem flat_len {α : Type} (f : α → List Value) (n : Nat) (hf : ∀ a, (f a).length = n) : ∀ l : List α, (l.flatMap f).length = l.length * n
  | [] => by simp
  | a :: l => by rw [List.flatMap_cons, List.length_append, hf, flat_len f n hf l, List.length_cons, Nat.succ_mul, Nat.add_comm]
/-- A list's k-th op: its cells. -/
theorem row_flat {α : Type} (f : α → List Value) (n : Nat) (hn : 0 < n) (hf : ∀ a, (f a).length = n) {W : World} {ao : Option Addr} {l : List α} (h : RowAt W ao (l.flatMap f)) (k : Nat) (hk : k < l.length) :
    ∃ b o, ao = some ⟨b, o, none⟩ ∧ ∀ j, j < n → W.cell? ⟨b, o + k * n + j, none⟩ = (f l[k])[j]? := by
  have hlen := flat_len f n hf l
  have hlt : ∀ j, j < n → k * n + j < (l.flatMap f).length := fun j hj => by
    rw [hlen]
    have : (k + 1) * n ≤ l.length * n := Nat.mul_le_mul_right _ hk
    rw [Nat.succ_mul] at this
    omega
  obtain ⟨b, o, rfl, h0⟩ := h (k * n + 0) (hlt 0 hn)
  refine ⟨b, o, rfl, fun j hj => ?_⟩
  obtain ⟨b', o', e, hc⟩ := h (k * n + j) (hlt j hj)
  cases e
  rw [Nat.add_assoc, hc, ← flat_at f n hf l k j hk hj, List.getElem?_eq_getElem (hlt j hj)]


theorem RowAt.range {W : World} {b o : Nat} {cs : List Value} (h : RowAt W (some ⟨b, o, none⟩) cs) : W.rangeAt b o cs := fun j v hj => by
  obtain ⟨hj', rfl⟩ := List.getElem?_eq_some_iff.1 hj
  obtain ⟨b', o', e, hc⟩ := h j hj'
  cases e
  exact hc
theorem RowAt.of {W : World} {b o n : Nat} {cs : List Value} (hl : cs.length = n) (h : ∀ j, j < n → W.cell? ⟨b, o + j, none⟩ = cs[j]?) : RowAt W (some ⟨b, o, none⟩) cs := fun i hi =>
  ⟨b, o, rfl, (h i (by omega)).trans (List.getElem?_eq_getElem hi)⟩
section
variable {P : Program} {ops : Array Oper} {rest : List Oper} {o : Oper} {a : Act} {w : World} {Q : Exit → Act → World → Prop}
theorem wpList_load_hid (hgd : o.guard = none) (ty : TypeId) (x : Operand) (ho : o.op = .load ty x) (g : Nat) (hx : a.eval x = .pointer (some ⟨g, 0, none⟩)) (t : TypeId) (cs : Array Value) (hB : Blk w g t cs) (d : TypeDesc)
    (hu : P.underlying ty = some d) (hd : (match d with | .struct _ | .array _ _ => true | _ => false) = true) (hi : (P.info? ty).map (·.size) = some cs.size) (h : Hid (wpList P ops Q rest (a.put o.dst (.agg cs)) w)) : wpList P ops Q (o :: rest) a w :=
  wpList_load_row hgd ty x ho g hx t cs (0, 0) d hB hu hd hi h.out
end
theorem results_cell_tmp {P : Program} {fn : Func} {p q : Tmp} {ty : TypeId} (h : fn.results = #[.cell p ty, .tmp q]) (tmps : Array Value) (w : World) (g : Nat) (t : TypeId) (cs : Array Value) (fr : Nat × Nat) (d : TypeDesc)
    (hp : tmps.getD p undef = .pointer (some ⟨g, 0, none⟩)) (hg : w.heap[g]? = some (.cells cs t fr))
    (hu : P.underlying ty = some d) (hd : (match d with | .struct _ | .array _ _ => true | _ => false) = true) (hi : (P.info? ty).map (·.size) = some cs.size) :
    (results fn tmps).run P w = .ok (.tuple #[.agg cs, tmps.getD q undef]) w := by
  have hp' : tmps[p]?.getD undef = .pointer (some ⟨g, 0, none⟩) := by simpa using hp
  simp [results, h, hp', asAddr, run_loadVar_row w g t ty cs fr d hg hu hd hi]
end Go.Proofs.YthjmfcdhpdiehaaGreatDoor

namespace Go.Proofs.YthjmfcdhpdiehaaGreatDoor
open Go.RowKit Utf
set_option maxRecDepth 100000
set_option linter.unusedSimpArgs false
set_option linter.unusedVariables false

section
variable {P : Program} {ops : Array Oper} {rest : List Oper} {o : Oper} {a : Act} {w : World} {Q : Exit → Act → World → Prop} {K : Act → World → Prop}
theorem wp_appX (s x : Operand) (t : TypeId) (ho : o.op = .call { callee := .builtin .append, args := #[s, x], argTypes := #[t, t] })
    (e : TypeId) (i : TypeInfo) (z : Value) (size bytes : Nat) (ht : P.underlying t = some (.slice e)) (hi : P.info? e = some i) (hz : i.zero = some z)
    (hsize : i.size = size) (hby : i.bytes = bytes) (hzs : z.cells.size = size) (hsz : 0 < size)
    (B : Nat) (v : Value) (n : Nat) (xs : List Value) (hs : a.eval s = v) (hown : OwnE w B e size v n xs) (hB : B ≤ w.heap.size)
    (b off m c : Nat) (us : List Value) (hx : a.eval x = .slice (some ⟨b, off, none⟩) m c) (hm : us.length = m * size) (hm1 : 1 ≤ m) (hr : RowAt w (some ⟨b, off, none⟩) us) (hu : ∀ u ∈ us, u.oneCell' = true) (hn : n + m ≤ 1000000000) (hby2 : bytes ≤ 1000)
    (h : Hid (∀ v' w', w'.ownsRow B e size v' (n + m) (xs ++ us) → w.grownBy w' (ownB v) → K (a.put o.dst v') w')) : o.wp P a w K Q := by
  have hb2 : (n + m) * bytes ≤ 140737488355328 := by
    have : (n + m) * bytes ≤ 1000000000 * 1000 := Nat.mul_le_mul hn hby2
    omega
  have hml : n + m ≤ maxLen := by unfold maxLen; omega
  have hnews : ∀ j u, us[j]? = some u → w.cell? ((⟨b, off, none⟩ : Addr).add j) = some u := fun j u hj => by
    rw [addr_add]
    exact hr.range j u hj
  have fin : ∀ v' w', (Builtin.append_ #[t, t] o.type #[v, .slice (some ⟨b, off, none⟩) m c]).run P w = .ok v' w' → w'.ownsRow B e size v' (n + m) (xs ++ us) → w.grownBy w' (ownB v) → o.wp P a w K Q := by
    intro v' w' hrun k1 k2
    unfold Oper.wp execOp
    simp only [ho, resolve, invoke, builtin, Sem.run_bind, Sem.run_pure, Result.andThen_ok, List.map_toArray, List.map_cons, List.map_nil, hs, hx, hrun]
    exact h.out v' w' k1 k2
  have grow : ∀ g : Addr, v = .slice (some g) 0 0 → n = 0 → xs = [] → o.wp P a w K Q := by
    intro g hv hn0 hxs
    subst hn0; subst hxs
    obtain ⟨v', w', hrun, r1, r2⟩ := run_append_arg_grows (P := P) w t o.type e i z size bytes ht hi hz hsize hby hzs hsz g 0 0 [] (by simp) (fun j u hj => by simp at hj) ⟨b, off, none⟩ m c us hm hnews (by omega) hml hb2
    refine fin v' w' (by rw [hv]; exact hrun) (own_base r1 hB) ?_
    exact ⟨r2.os, r2.tape, r2.output, r2.size, fun k hk _ => r2.block k hk (by simp)⟩
  have own : w.ownsRow B e size v n xs → (ownB v = v.ownBlock) → o.wp P a w K Q := by
    intro hw hob
    obtain ⟨v', w', hrun, k1, k2, -, -⟩ := run_append_own_at (P := P) w B t o.type e i z size bytes ht hi hz hsize hby hzs hsz v n xs hw ⟨b, off, none⟩ m c us hm hnews hu hml hb2 hB
    exact fin v' w' hrun k1 (by rw [hob]; exact k2)
  rcases hown with ⟨hv, hn0, hxs⟩ | hw
  · rcases hv with hv | ⟨g, hv⟩
    · subst hn0; subst hxs
      exact own (by rw [hv]; exact World.ownsRow_nil w B e size) (by rw [hv]; rfl)
    · exact grow _ hv hn0 hxs
  · rcases hw.2 with ⟨hv, hn0⟩ | ⟨g, cap, cur, hv, hg⟩
    · exact own hw (by rw [hv]; rfl)
    · by_cases hc0 : cap = 0
      · have hn0 : n = 0 := by have := hg.2.2.1; omega
        exact grow ⟨g, 0, none⟩ (by rw [hv, hc0, hn0]) hn0 (List.length_eq_zero_iff.1 (by rw [hw.1, hn0, Nat.zero_mul]))
      · exact own hw (by rw [hv]; simp [ownB, Value.ownBlock, hc0])
theorem wpList_appX (hgd : o.guard = none) (s x : Operand) (t : TypeId) (ho : o.op = .call { callee := .builtin .append, args := #[s, x], argTypes := #[t, t] })
    (e : TypeId) (i : TypeInfo) (z : Value) (size bytes : Nat) (ht : P.underlying t = some (.slice e)) (hi : P.info? e = some i) (hz : i.zero = some z)
    (hsize : i.size = size) (hby : i.bytes = bytes) (hzs : z.cells.size = size) (hsz : 0 < size)
    (B : Nat) (v : Value) (n : Nat) (xs : List Value) (hs : a.eval s = v) (hown : OwnE w B e size v n xs) (hB : B ≤ w.heap.size)
    (b off m c : Nat) (us : List Value) (hx : a.eval x = .slice (some ⟨b, off, none⟩) m c) (hm : us.length = m * size) (hm1 : 1 ≤ m) (hr : RowAt w (some ⟨b, off, none⟩) us) (hu : ∀ u ∈ us, u.oneCell' = true) (hn : n + m ≤ 1000000000) (hby2 : bytes ≤ 1000)
    (h : Hid (∀ v' w', w'.ownsRow B e size v' (n + m) (xs ++ us) → w.grownBy w' (ownB v) → wpList P ops Q rest (a.put o.dst v') w')) : wpList P ops Q (o :: rest) a w :=
  wpList_plain hgd fun K hK => wp_appX s x t ho e i z size bytes ht hi hz hsize hby hzs hsz B v n xs hs hown hB b off m c us hx hm hm1 hr hu hn hby2 (Lib.hid (fun v' w' h1 h2 => hK _ _ (h.out v' w' h1 h2)))
end

/-! ### What may turn, by the kind of block -/
def TyS (T : TypeId → Prop) (B : Nat) (w : World) (k : Nat) : Prop := B ≤ k ∧ ∃ c t fr, w.heap[k]? = some (.cells c t fr) ∧ T t
/-- Only blocks from B on, and of the kinds T, may have turned. -/
def Chg (T : TypeId → Prop) (B : Nat) (w w' : World) : Prop := Only (TyS T B w) w w'
section
variable {T : TypeId → Prop} {B : Nat} {w w' w'' : World}
theorem Chg.refl (T : TypeId → Prop) (B : Nat) (w : World) : Chg T B w w := Only.refl _ _
theorem Chg.trans (h : Chg T B w w') (k : Chg T B w' w'') : Chg T B w w'' := by
  refine ⟨k.os.trans h.os, k.tape.trans h.tape, k.output.trans h.output, Nat.le_trans h.size k.size, fun i hi hs => ?_⟩
  have e := h.block i hi hs
  exact (k.block i (Nat.lt_of_lt_of_le hi h.size) (fun hs' => hs ⟨hs'.1, by obtain ⟨c, t, fr, h1, h2⟩ := hs'.2; exact ⟨c, t, fr, e ▸ h1, h2⟩⟩)).trans e
theorem Chg.of_below (h : Below w.heap.size w w') : Chg T B w w' := Only.below_all h
theorem Chg.step (h : Chg T B w w') (k : Below w'.heap.size w' w'') : Chg T B w w'' := h.trans (Chg.of_below k)
theorem Chg.mono {B' : Nat} (h : Chg T B w w') (hb : B' ≤ B) : Chg T B' w w' := Only.mono h fun k hk => ⟨Nat.le_trans hb hk.1, hk.2⟩
theorem Chg.below (h : Chg T B w w') (hB : B ≤ w.heap.size) : Below B w w' := Only.to_below h hB (fun k hk hs => by have := hs.1; omega)
/-- Blocks that are new to the first world may turn as they like. -/
theorem Chg.fresh (h : Below w.heap.size w w') (k : Chg T w.heap.size w' w'') : Below w.heap.size w w'' := h.trans (k.below h.size)
theorem Blk.chg {g : Nat} {t : TypeId} {cs : Array Value} (hb : Blk w g t cs) (h : Chg T B w w') (hs : g < B ∨ ¬ T t) : Blk w' g t cs := hb.only h (fun k => by
  rcases hs with hs | hs
  · have := k.1; omega
  · obtain ⟨c, t', fr, h1, h2⟩ := k.2
    have h3 := h1.symm.trans hb
    simp only [Option.some.injEq, Obj.cells.injEq] at h3
    exact hs (h3.2.1 ▸ h2))
theorem own_chg {B' : Nat} {e : TypeId} {size : Nat} {v : Value} {n : Nat} {xs : List Value} (ho : w.ownsRow B' e size v n xs) (h : Chg T B w w') (hs : ¬ T e) : w'.ownsRow B' e size v n xs := by
  refine ⟨ho.1, ?_⟩
  rcases ho.2 with h2 | ⟨g, cap, cur, hv, hB, hg, r⟩
  · exact .inl h2
  · refine .inr ⟨g, cap, cur, hv, hB, ?_, r⟩
    rw [h.block g (Array.getElem?_eq_some_iff.1 hg).1 (fun k => by
      obtain ⟨c, t', fr, h1, h2⟩ := k.2
      rw [hg] at h1
      simp only [Option.some.injEq, Obj.cells.injEq] at h1
      exact hs (h1.2.1 ▸ h2))]
    exact hg
theorem RowAt.chg {ao : Option Addr} {xs : List Value} (h : RowAt w ao xs) (ho : Chg T B w w') (hs : ∀ ad, ao = some ad → ad.block < B) : RowAt w' ao xs := h.only ho (fun ad e k => by have := hs ad e; have := k.1; omega)
theorem Chg.set (h : Chg T B w w') {g : Nat} {t : TypeId} {cs : Array Value} (hb : Blk w' g t cs) (hT : T t) (hg : B ≤ g) (i : Nat) (u : Value) : Chg T B w (w'.setCell ⟨g, i, none⟩ u) :=
  h.trans ((Only.refl (TyS T B w') w').set (p := ⟨g, i, none⟩) (.inl ⟨hg, _, _, _, hb, hT⟩) u)
theorem Chg.draw (h : Chg T B w w') (n : Nat) : Chg T B w (w'.drewN n) := h.trans ((Only.refl (TyS T B w') w').drewN n)
theorem Chg.grown {row : Option Nat} (h : Chg T B w w') (hg : w'.grownBy w'' row) (hr : ∀ k, row = some k → TyS T B w' k) : Chg T B w w'' :=
  h.trans ((Only.refl (TyS T B w') w').grown hg (fun k e => .inl (hr k e)))
end
end Go.Proofs.YthjmfcdhpdiehaaGreatDoor

namespace Go.Proofs.YthjmfcdhpdiehaaGreatDoor
open Go.RowKit Utf
set_option maxRecDepth 100000
set_option linter.unusedSimpArgs false
set_option linter.unusedVariables false

set_option maxHeartbeats 400000 in
theorem right_any (s : ByteArray) (w : World) (hs : s.size ≤ maxLen) :
    Calls Tryz.prog 93 #[.string s] w fun e w' => e = .returned (.bool (dec s.data.toList).isSome) ∧ Below w.heap.size w w' := by
  unfold maxLen at hs
  have key : Calls Tryz.prog 93 #[.string s] w fun e w' => e = .returned (.bool (dec s.data.toList).isSome) ∧ ∃ pos, w' = w.iter s pos := by
    go_enter Tryz.func93, Tryz.ntmps93
    go_wp2
    go_loopw [3] (fun n w' => ∃ (rs : List Nat), w' = w.iter s (encAll rs).length ∧ allOk rs ∧ s.data.toList = encAll rs ++ s.data.toList.drop (encAll rs).length) (fun _ w' => s.size - w'.iterPos w.heap.size)
    case atStart => exact ⟨[], rfl, allOk_nil, rfl⟩
    case round =>
      obtain ⟨rs, rfl, ho, hx⟩ := hrel
      by_cases hp : (encAll rs).length < s.size
      · have hdec := decode_dec1 s (encAll rs).length hp
        have hl := drop_len s (encAll rs).length
        have hb := ext_drop s (encAll rs).length 3
        cases hd : dec1 (s.data.toList.drop (encAll rs).length) with
        | none =>
          rw [hd] at hdec
          have hnx : ∀ ty, (Instr.next (.pointer (some ⟨w.heap.size, 0, none⟩)) true ty).run Tryz.prog (w.iter s (encAll rs).length) = .ok (.tuple #[.bool true, .int .i64 (encAll rs).length, .int .i32 (65533 : Int)]) (w.iter s ((encAll rs).length + 1)) := fun ty => by
            rw [run_next_any w s (encAll rs).length ty hp, hdec]; rfl
          have hno : dec s.data.toList = none := by
            rw [hx, dec_append ho]
            cases ht : dec (s.data.toList.drop (encAll rs).length) with
            | none => rfl
            | some ts =>
              obtain ⟨h1, h2⟩ := dec_some ht
              cases ts with
              | nil => rw [h2] at hl; simp [encAll_nil] at hl; omega
              | cons c ts => rw [h2, encAll_cons, dec1_enc c (allOk_cons.1 h1).1] at hd; cases hd
          by_cases h3 : (s.size : Int) - ((encAll rs).length : Int) < 3
          · clear hb hl hd hdec
            have H := Lib.hid hx
            clear hx
            have HN := Lib.hid hno
            clear hno
            go_wp2
            go_ret
            rw [HN.out]
            exact ⟨rfl, _, rfl⟩
          · have hne : (!(s.extract (encAll rs).length ((encAll rs).length + 3)).toList == [239, 191, 189]) = true := by
              rw [hb]
              cases he : (List.take 3 (s.data.toList.drop (encAll rs).length) == [239, 191, 189]) with
              | false => rfl
              | true =>
                exfalso
                rw [beq_iff_eq] at he
                have := dec1_enc 65533 (by decide +kernel) ((s.data.toList.drop (encAll rs).length).drop 3)
                rw [enc_mark, ← he, List.take_append_drop, hd] at this
                cases this
            clear hb hl hd hdec
            have H := Lib.hid hx
            clear hx
            have HN := Lib.hid hno
            clear hno
            go_wp2
            go_ret
            rw [HN.out]
            exact ⟨rfl, _, rfl⟩
        | some cn =>
          obtain ⟨c, n⟩ := cn
          rw [hd] at hdec
          have hnx : ∀ ty, (Instr.next (.pointer (some ⟨w.heap.size, 0, none⟩)) true ty).run Tryz.prog (w.iter s (encAll rs).length) = .ok (.tuple #[.bool true, .int .i64 (encAll rs).length, .int .i32 (c : Int)]) (w.iter s ((encAll rs).length + n)) := fun ty => by
            rw [run_next_any w s (encAll rs).length ty hp, hdec]; rfl
          obtain ⟨d1, d2, d3⟩ := dec1_some hd
          have hn := enc_length c
          have hst := dec_step ho hx hd
          have hq : c = 65533 → (3 : Int) ≤ (s.size : Int) - ((encAll rs).length : Int) ∧ (!(s.extract (encAll rs).length ((encAll rs).length + 3)).toList == [239, 191, 189]) = false := by
            rintro rfl
            rw [d3, List.length_append, enc_mark] at hl
            simp at hl
            refine ⟨by omega, ?_⟩
            rw [hb, d3, enc_mark]
            rfl
          clear hb hl hd hdec d3
          have H := Lib.hid hx
          clear hx
          have HS := Lib.hid hst
          clear hst
          rw [← d2] at hn
          clear d2
          by_cases hc : c = 65533
          · obtain ⟨h3, hne⟩ := hq hc
            have hc' : ((c : Int) == 65533) = true := by simp; omega
            clear hq
            have HC := Lib.hid hc
            clear hc
            go_wp2
            go_roundw
            case rel => exact ⟨rs ++ [c], by rw [HS.out.2.1], HS.out.1, HS.out.2.2⟩
            case measure => simp; omega
          · have hc' : ((c : Int) == 65533) = false := by simp; omega
            clear hq hc
            go_wp2
            go_roundw
            case rel => exact ⟨rs ++ [c], by rw [HS.out.2.1], HS.out.1, HS.out.2.2⟩
            case measure => simp; omega
      · have hnx : ∀ ty, (Instr.next (.pointer (some ⟨w.heap.size, 0, none⟩)) true ty).run Tryz.prog (w.iter s (encAll rs).length) = _ := fun ty => run_next_end w s (encAll rs).length ty hp
        have hd : dec s.data.toList = some rs := by
          have : s.data.toList.drop (encAll rs).length = [] := by
            rw [List.drop_eq_nil_iff]
            simp
            exact Nat.not_lt.1 hp
          rw [hx, this, List.append_nil]
          exact dec_encAll ho
        have H := Lib.hid hx
        clear hx
        have HD := Lib.hid hd
        clear hd
        go_wp2
        go_ret
        rw [HD.out]
        exact ⟨rfl, _, rfl⟩
  refine key.mono ?_
  rintro e w' ⟨rfl, pos, rfl⟩
  exact ⟨rfl, (Below.refl _ _).alloc (Nat.le_refl _) _⟩
end Go.Proofs.YthjmfcdhpdiehaaGreatDoor

namespace Go.Proofs.YthjmfcdhpdiehaaGreatDoor
open Go.RowKit Utf
set_option maxRecDepth 100000
set_option linter.unusedSimpArgs false
set_option linter.unusedVariables false

set_option maxHeartbeats 400000 in
theorem count_none (s : ByteArray) (w : World) (hs : s.size ≤ maxLen) (hd : dec s.data.toList = none) :
    Calls Tryz.prog 92 #[.string s] w fun e w' => e = .returned (.int .i64 (-1)) ∧ Below w.heap.size w w' := by
  have HD := Lib.hid hd
  clear hd
  go_enter Tryz.func92, Tryz.ntmps92
  go_wp2_with fail
  refine (right_any _ _ hs).mono ?_
  rintro e w1 ⟨rfl, hb1⟩
  rw [HD.out]
  go_wp2_with fail
  go_ret
  exact ⟨rfl, hb1⟩

set_option maxHeartbeats 400000 in
theorem count_some (s : ByteArray) (rs : List Nat) (w : World) (hs : s.size ≤ 1000000) (ho : allOk rs) (h : s.data.toList = encAll rs) :
    Calls Tryz.prog 92 #[.string s] w fun e w' => e = .returned (.int .i64 rs.length) ∧ Below w.heap.size w w' := by
  have hs' : s.size ≤ maxLen := by unfold maxLen; omega
  have hd := dec_encAll ho
  rw [← h] at hd
  have hl := len_le h
  have HN := Lib.hid (fun (w : World) k hk ty => next_off (P := Tryz.prog) ho h w k hk ty)
  have HE := Lib.hid (fun (w : World) ty => next_off_end (P := Tryz.prog) h w ty)
  have HLE := Lib.hid (fun k => off_le h k)
  have HLT := Lib.hid (fun k hk => off_lt h k hk)
  have HS := Lib.hid (off_succ rs)
  have HP := Lib.hid (fun c => enc_length c)
  have HD := Lib.hid hd
  clear hd h
  go_enter Tryz.func92, Tryz.ntmps92
  go_wp2_with fail
  refine (right_any _ _ hs').mono ?_
  rintro e w1 ⟨rfl, hb1⟩
  rw [HD.out]
  go_wp2_with fail
  go_loopw [3] (fun n w2 => ∃ k : Nat, k ≤ rs.length ∧ n = .int .i64 k ∧ w2 = w1.iter s (off rs k)) (fun _ w2 => s.size - w2.iterPos w1.heap.size)
  case atStart => exact ⟨0, Nat.zero_le _, rfl, rfl⟩
  case round =>
    obtain ⟨k, hk, rfl, rfl⟩ := hrel
    by_cases hlt : k < rs.length
    · have hnx := HN.out w1 k hlt
      go_wp2_with fail
      go_roundw
      case rel => exact ⟨k + 1, by omega, by go_num, rfl⟩
      case measure => have := HLT.out k hlt; have := HS.out k hlt; have := HP.out rs[k]; simp; omega
    · obtain rfl : k = rs.length := by omega
      have hnx := HE.out w1
      go_wp2_with fail
      go_ret
      exact ⟨rfl, hb1.alloc hb1.size _⟩
end Go.Proofs.YthjmfcdhpdiehaaGreatDoor

namespace Go.Proofs.YthjmfcdhpdiehaaGreatDoor
open Go.RowKit Utf
set_option maxRecDepth 100000
set_option linter.unusedSimpArgs false
set_option linter.unusedVariables false

set_option maxHeartbeats 400000 in
theorem list_none (s : ByteArray) (w : World) (hs : s.size ≤ maxLen) (hd : dec s.data.toList = none) :
    Calls Tryz.prog 95 #[.string s] w fun e w' => e = .returned (.slice none 0 0) ∧ Below w.heap.size w w' := by
  have HD := Lib.hid hd
  clear hd
  go_enter Tryz.func95, Tryz.ntmps95
  go_wp2_with (go_at_call 93; refine (right_any _ _ hs).mono ?_; rintro e w' ⟨rfl, hb⟩; rw [HD.out])
  go_ret
  exact ⟨rfl, by assumption⟩

set_option maxHeartbeats 400000 in
theorem list_some (s : ByteArray) (rs : List Nat) (w : World) (hs : s.size ≤ 1000000) (ho : allOk rs) (h : s.data.toList = encAll rs) :
    Calls Tryz.prog 95 #[.string s] w fun e w' => ∃ v, e = .returned v ∧ Below w.heap.size w w' ∧ w'.ownsRow w.heap.size 21 1 v rs.length (runeRow rs) := by
  have hs' : s.size ≤ maxLen := by unfold maxLen; omega
  have hd := dec_encAll ho
  rw [← h] at hd
  have hl := len_le h
  have hcv : ∀ W : World, (convert 9 155 (.string s)).run Tryz.prog W = _ := fun W => run_runes_of_string W 9 155 21 s Tryz.underlying9 Tryz.underlying155 Tryz.underlying21 (by rw [runesFrom_all ho h]; simp [runeRow]; omega)
  rw [runesFrom_all ho h] at hcv
  have hrl : (runeRow rs).toArray.size = rs.length := by simp [runeRow]
  rw [hrl] at hcv
  have HD := Lib.hid hd
  have HO := Lib.hid h
  have HL := Lib.hid hrl
  clear hd h hrl
  go_enter Tryz.func95, Tryz.ntmps95
  go_wp2_with fail
  refine (right_any _ _ hs').mono ?_
  rintro e w1 ⟨rfl, hb1⟩
  rw [HD.out]
  have HW1 := Lib.hid hb1.size
  go_wp2_with fail
  go_ret
  refine ⟨_, rfl, ?_, ?_⟩
  · exact hb1.drew.alloc HW1.out _
  · have hge := grownCap_ge w1 rs.length 0 21
    have hle := grownCap_le_maxLen w1 rs.length 0 21 (by unfold maxLen; omega)
    refine ⟨by simp [runeRow], .inr ⟨_, _, _, rfl, HW1.out, heap_alloc_new w1.drew _, hge, hle, ?_, ?_⟩⟩
    · rw [Array.size_append, HL.out]; simp; omega
    · simp [runeRow]
end Go.Proofs.YthjmfcdhpdiehaaGreatDoor
