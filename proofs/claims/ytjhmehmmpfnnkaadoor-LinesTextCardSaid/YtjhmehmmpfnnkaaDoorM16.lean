/-
  The contracts of Text's closure and of slices.IndexFunc over it.
  A whole block is stored, or read, in one operation.
  A region that draws its order, taken operation by operation: what is quiet first; then the one that is left.
  The contract of tidewaterref31.Number.
-/
import Derived.Test.YtjhmehmmpfnnkaaDoorM15
import Derived.Test.YtjhmehmmpfnnkaaDoorM09
import Derived.Deep.RegionHeld
import Derived.Test.YtjhmehmmpfnnkaaDoorM04
import Derived.Deep.Cut
namespace Go.Proofs.YtjhmehmmpfnnkaaDoor
open Go.RowKit Utf
set_option maxRecDepth 100000
set_option linter.unusedSimpArgs false
set_option linter.unusedVariables false

/-- Where an op's verb stands in the program's table. -/
def kindIdx (k e : Int) : Nat := verbs.findIdx (verbIs k e)
theorem find_idx {α : Type} (p : α → Bool) : ∀ l : List α, l.find? p = l[l.findIdx p]?
  | [] => rfl
  | x :: l => by
    rw [List.find?_cons, List.findIdx_cons]
    cases hx : p x with
    | true => simp
    | false => simp only [cond_false, List.getElem?_cons_succ]; exact find_idx p l
theorem verbT_idx (k e : Int) : verbT k e = verbs[kindIdx k e]? := find_idx _ _
theorem kindIdx_step {k e : Int} {i : Nat} (hi : i < verbs.length) (h : i ≤ kindIdx k e) (hne : verbIs k e verbs[i] = false) : i + 1 ≤ kindIdx k e := by
  rcases Nat.lt_or_ge i (kindIdx k e) with h1 | h1
  · exact h1
  · exfalso
    have e1 : verbs.findIdx (verbIs k e) = i := Nat.le_antisymm h1 h
    have := List.findIdx_getElem (p := verbIs k e) (xs := verbs) (w := by rw [e1]; exact hi)
    have h2 : verbs[verbs.findIdx (verbIs k e)]'(by rw [e1]; exact hi) = verbs[i] := getElem_congr_idx e1
    rw [h2, hne] at this
    cases this
theorem kindIdx_hit {k e : Int} {i : Nat} (hi : i < verbs.length) (h : i ≤ kindIdx k e) (he : verbIs k e verbs[i] = true) : kindIdx k e = i := by
  refine Nat.le_antisymm (Nat.le_of_not_lt fun h1 => ?_) h
  have := List.not_of_lt_findIdx (p := verbIs k e) (xs := verbs) (i := i) h1
  rw [he] at this
  cases this

set_option maxHeartbeats 1000000 in
theorem text1_any (v : Verb) (nm f : ByteArray) (r : Int) (ob : Nat) (kd ed : Int) (w : World) (h0 : w.cell? ⟨ob, 0, none⟩ = some (.int .i64 kd)) (h5 : w.cell? ⟨ob, 5, none⟩ = some (.int .i64 ed)) :
    Calls Tryd.prog 47 #[.agg #[.string nm, .int .i64 (v.kind : Int), .int .i64 (v.ekind : Int), .string f, .int .i32 r], .pointer (some ⟨ob, 0, none⟩)] w fun en w' => en = .returned (.bool (verbIs kd ed v)) ∧ Below w.heap.size w w' := by
  have l0 := World.block_lt_of_cell? w _ h0
  have hne : ob ≠ w.heap.size := by simp only at l0; omega
  have g0 := (World.cell?_alloc_lt w (.cells #[.string nm, .int .i64 (v.kind : Int), .int .i64 (v.ekind : Int), .string f, .int .i32 r] 79) ⟨ob, 0, none⟩ l0).trans h0
  have g5 := (World.cell?_alloc_lt w (.cells #[.string nm, .int .i64 (v.kind : Int), .int .i64 (v.ekind : Int), .string f, .int .i32 r] 79) ⟨ob, 5, none⟩ l0).trans h5
  clear h0 h5 l0
  unfold verbIs
  by_cases c1 : (v.kind : Int) = kd
  · have d1 : ((v.kind : Int) == kd) = true := by simp [c1]
    have e1 : decide ((v.kind : Int) = kd) = true := decide_eq_true c1
    rw [e1]
    by_cases c2 : (v.kind : Int) = 3
    · have d2 : ((v.kind : Int) != 3) = false := by simp [c2]
      have e2 : decide ((v.kind : Int) ≠ 3) = false := by simp [c2]
      rw [e2]
      have HEQ := Lib.hid (show (((v.ekind : Int) == ed)) = decide ((v.ekind : Int) = ed) by rw [Bool.eq_iff_iff]; simp)
      generalize (v.kind : Int) = kk at *
      clear c1 e1 c2 e2
      go_enter Tryd.func47, Tryd.ntmps47
      go_wp2_with fail
      go_ret
      refine ⟨?_, (Below.refl _ _).alloc (Nat.le_refl _) _⟩
      rw [← HEQ.out]
      simp
    · have d2 : ((v.kind : Int) != 3) = true := by simp [c2]
      have e2 : decide ((v.kind : Int) ≠ 3) = true := by simp [c2]
      rw [e2]
      generalize (v.kind : Int) = kk at *
      clear c1 e1 c2 e2
      go_enter Tryd.func47, Tryd.ntmps47
      go_wp2_with fail
      go_ret
      exact ⟨rfl, (Below.refl _ _).alloc (Nat.le_refl _) _⟩
  · have d1 : ((v.kind : Int) == kd) = false := by simp [c1]
    have e1 : decide ((v.kind : Int) = kd) = false := decide_eq_false c1
    rw [e1]
    generalize (v.kind : Int) = kk at *
    clear c1 e1
    go_enter Tryd.func47, Tryd.ntmps47
    go_wp2_with fail
    go_ret
    exact ⟨rfl, (Below.refl _ _).alloc (Nat.le_refl _) _⟩

set_option maxHeartbeats 1000000 in
theorem index_text (b ob : Nat) (kd ed : Int) (w : World) (h0 : w.cell? ⟨ob, 0, none⟩ = some (.int .i64 kd)) (h5 : w.cell? ⟨ob, 5, none⟩ = some (.int .i64 ed)) (hb : Blk w b 79 shapeCells) :
    Calls Tryd.prog 35 #[.slice (some ⟨b, 0, none⟩) 17 17, .func (.func 47) #[] #[.pointer (some ⟨ob, 0, none⟩)]] w fun e w' => e = .returned (.int .i64 (idxInt (kindIdx kd ed))) ∧ Below w.heap.size w w' := by
  have HB := Lib.hid hb
  have H0 := Lib.hid h0
  have H5 := Lib.hid h5
  have hlen : verbs.length = 17 := rfl
  have HLEN := Lib.hid hlen
  clear h0 h5 hb hlen
  go_enter Tryd.func35, Tryd.ntmps35
  go_wp2_with fail
  go_loopw [8] (fun i wr => ∃ k : Nat, k ≤ 17 ∧ i = .int .i64 k ∧ Below w.heap.size w wr ∧ Hid (k ≤ kindIdx kd ed)) (fun i _ => 17 - (intOf i).toNat)
  case atStart => exact ⟨0, by omega, rfl, Below.refl _ _, Nat.zero_le _⟩
  case round =>
    obtain ⟨k, hk, rfl, hbel, HK⟩ := hrel
    have HBE := Lib.hid hbel
    clear hbel
    by_cases hlt : k < 17
    · have hk2 : k < verbs.length := by rw [HLEN.out]; exact hlt
      have HBR := Lib.hid (HB.out.below HBE.out HB.out.lt)
      have hcell : ∀ j, j < 5 → wr.cell? ⟨b, k * 5 + j, none⟩ = (shapeOf verbs[k])[j]? := by
        intro j hj5
        rw [HBR.out.cell, Nat.mul_comm k 5, shape_at k hk2 j hj5]
      have s0 : wr.cell? ⟨b, k * 5, none⟩ = some (.string (mkS verbs[k].name)) := hcell 0 (by omega)
      have s1 : wr.cell? ⟨b, k * 5 + 1, none⟩ = some (.int .i64 (verbs[k].kind : Int)) := hcell 1 (by omega)
      have s2 : wr.cell? ⟨b, k * 5 + 2, none⟩ = some (.int .i64 (verbs[k].ekind : Int)) := hcell 2 (by omega)
      have s3 : wr.cell? ⟨b, k * 5 + 3, none⟩ = some (.string (mkS (encAll (verbs[k].flds.map letP)))) := hcell 3 (by omega)
      have s4 : wr.cell? ⟨b, k * 5 + 4, none⟩ = some (.int .i32 (verbs[k].rest : Int)) := hcell 4 (by omega)
      clear hcell
      have HST := Lib.hid (fun h => kindIdx_step hk2 HK.out h)
      have HHI := Lib.hid (fun h => kindIdx_hit hk2 HK.out h)
      have HP := Lib.hid (text1_any verbs[k] (mkS verbs[k].name) (mkS (encAll (verbs[k].flds.map letP))) verbs[k].rest ob kd ed wr ((HBE.out.cell (World.block_lt_of_cell? w _ H0.out)).trans H0.out) ((HBE.out.cell (World.block_lt_of_cell? w _ H5.out)).trans H5.out))
      generalize verbs[k] = v at *
      cases hq : verbIs kd ed v with
      | true =>
        have HQ := Lib.hid (HHI.out hq)
        rw [hq] at HP
        clear hq
        have HI := Lib.hid (show idxInt (kindIdx kd ed) = (k : Int) by unfold idxInt; rw [HQ.out, if_pos hlt])
        go_wp2_with fail
        refine HP.out.mono ?_
        rintro e w2 ⟨rfl, hb2⟩
        go_wp2_with fail
        go_ret
        rw [HI.out]
        exact ⟨rfl, HBE.out.trans (hb2.mono HBE.out.size)⟩
      | false =>
        have HQ := Lib.hid (HST.out hq)
        rw [hq] at HP
        clear hq
        go_wp2_with fail
        refine HP.out.mono ?_
        rintro e w2 ⟨rfl, hb2⟩
        go_wp2_with fail
        go_roundw
        case rel => exact ⟨k + 1, by omega, by go_num, HBE.out.trans (hb2.mono HBE.out.size), HQ.out⟩
        case measure => simp [intOf]; omega
    · obtain rfl : k = 17 := by omega
      have HI := Lib.hid (show idxInt (kindIdx kd ed) = -1 by unfold idxInt; rw [if_neg (Nat.not_lt.2 HK.out)])
      go_wp2_with fail
      go_ret
      rw [HI.out]
      exact ⟨rfl, HBE.out⟩
end Go.Proofs.YtjhmehmmpfnnkaaDoor

namespace Go.Proofs.YtjhmehmmpfnnkaaDoor
open Go.RowKit Utf
set_option maxRecDepth 100000
set_option linter.unusedSimpArgs false
set_option linter.unusedVariables false

theorem Blk.putAll {w : World} {g : Nat} {t : TypeId} : ∀ (vs : List Value) (o : Nat) (w : World) (cs : Array Value), Blk w g t cs → o + vs.length = cs.size → Blk (w.setCells g o vs) g t (cs.toList.take o ++ vs).toArray
  | [], o, w, cs, h, hl => by
    have e : (cs.toList.take o ++ []).toArray = cs := by
      rw [List.append_nil, List.take_of_length_le (by simp at hl; simp; omega)]
    rw [e]
    exact h
  | v :: r, o, w, cs, h, hl => by
    have h1 := h.put o v
    have h2 := Blk.putAll (w := w) r (o + 1) (w.setCell ⟨g, o, none⟩ v) (cs.setIfInBounds o v) h1 (by simp at hl ⊢; omega)
    have ho : o < cs.size := by simp at hl; omega
    have e : (cs.setIfInBounds o v).toList.take (o + 1) = cs.toList.take o ++ [v] := by
      rw [Array.toList_setIfInBounds, List.take_add_one, List.take_set_of_le (Nat.le_refl _)]
      congr 1
      rw [List.getElem?_set_self (by simpa using ho)]
      rfl
    rw [e, List.append_assoc] at h2
    exact h2

theorem Only.putAll {S : Nat → Prop} {g : Nat} (hs : S g) : ∀ (vs : List Value) (o : Nat) (a w : World), Only S a w → Only S a (w.setCells g o vs)
  | [], _, _, _, h => h
  | v :: r, o, a, w, h => Only.putAll hs r (o + 1) a _ (h.set (p := ⟨g, o, none⟩) (.inl hs) v)

theorem Blk.there {w : World} {g : Nat} {t : TypeId} {cs : Array Value} (h : Blk w g t cs) (n : Nat) (hn : n ≤ cs.size) : w.there g 0 n := fun j hj => by
  rw [Nat.zero_add]
  refine ⟨?_, h.frozen j⟩
  rw [h.cell j, Array.getElem?_eq_getElem (by omega)]
  rfl

section
variable {P : Program} {ops : Array Oper} {rest : List Oper} {op : Oper} {a : Act} {w : World} {Q : Exit → Act → World → Prop}
theorem wp_store_blk {K : Act → World → Prop} (ty : TypeId) (x y : Operand) (ho : op.op = .store ty x y)
    (g : Nat) (vs : Array Value) (hx : a.eval x = .pointer (some ⟨g, 0, none⟩)) (hy : a.eval y = .agg vs)
    (t : TypeId) (cs : Array Value) (hB : Blk w g t cs) (hsz : vs.size = cs.size) (hi : (P.info? ty).map (·.size) = some vs.size) (h1 : vs.all (·.oneCell') = true)
    (h : ∀ w', Blk w' g t vs → Only (fun k => k = g) w w' → K (a.put op.dst undef) w') : op.wp P a w K Q := by
  refine wp_store_mid ty x y ho g 0 vs hx hy (hB.there _ (Nat.le_of_eq hsz)) hi h1 ?_
  have hb := Blk.putAll (w := w) vs.toList 0 w cs hB (by simp; exact hsz)
  simp only [List.take_zero, List.nil_append, Array.toArray_toList] at hb
  exact h _ hb (Only.putAll (S := fun k => k = g) rfl vs.toList 0 w w (Only.refl _ w))
/-- A whole block is stored, as the one operation of a region that may come up. -/
theorem wpAnyH_store {md : Region.Mode} {S : World → Prop} {fuel : Nat} {listed : Array Bool} {i : Nat} {o : Oper} (hr : Region.ready md ops listed = [i]) (hoi : ops[i]? = some o) (hgd : o.guard = none) (ty : TypeId) (x y : Operand) (ho : o.op = .store ty x y)
    (g : Nat) (vs : Array Value) (hx : a.eval x = .pointer (some ⟨g, 0, none⟩)) (hy : a.eval y = .agg vs)
    (t : TypeId) (cs : Array Value) (hB : Blk w g t cs) (hsz : vs.size = cs.size) (hi : (P.info? ty).map (·.size) = some vs.size) (h1 : vs.all (·.oneCell') = true)
    (h : Hid (∀ w', Blk w' g t vs → Only (fun k => k = g) w w' → S w' ∧ wpAnyH P md ops Q S fuel (listed.setIfInBounds i true) (a.put o.dst undef) w')) : wpAnyH P md ops Q S (fuel + 1) listed a w := by
  refine wpAnyH_all hr (by simp) (fun j hj => ?_)
  obtain rfl : j = i := by simpa using hj
  unfold wpOp
  simp only [hoi]
  have hw : Region.wanted o (yielded ops a.tmps) = true := by simp [Region.wanted, hgd]
  rw [if_pos hw]
  exact .inl (wp_store_blk (K := fun a' w' => S w' ∧ wpAnyH P md ops Q S fuel (listed.setIfInBounds j true) a' w') ty x y ho g vs hx hy t cs hB hsz hi h1 h.out)
/-- A value of all of a block's cells is stored. -/
theorem wpList_store_blk (hgd : op.guard = none) (ty : TypeId) (x y : Operand) (ho : op.op = .store ty x y)
    (g : Nat) (vs : Array Value) (hx : a.eval x = .pointer (some ⟨g, 0, none⟩)) (hy : a.eval y = .agg vs)
    (t : TypeId) (cs : Array Value) (hB : Blk w g t cs) (hsz : vs.size = cs.size) (hi : (P.info? ty).map (·.size) = some vs.size) (h1 : vs.all (·.oneCell') = true)
    (h : Hid (∀ w', Blk w' g t vs → Only (fun k => k = g) w w' → wpList P ops Q rest (a.put op.dst undef) w')) : wpList P ops Q (op :: rest) a w := by
  refine wpList_store_mid hgd ty x y ho g 0 vs hx hy (hB.there _ (Nat.le_of_eq hsz)) hi h1 ?_
  have hb := Blk.putAll (w := w) vs.toList 0 w cs hB (by simp; exact hsz)
  simp only [List.take_zero, List.nil_append, Array.toArray_toList] at hb
  exact h.out _ hb (Only.putAll (S := fun k => k = g) rfl vs.toList 0 w w (Only.refl _ w))
end
end Go.Proofs.YtjhmehmmpfnnkaaDoor

namespace Go.Proofs.YtjhmehmmpfnnkaaDoor
open Go.RowKit Utf
set_option maxRecDepth 100000
set_option linter.unusedSimpArgs false
set_option linter.unusedVariables false

section
variable {P : Program} {ops : Array Oper} {a : Act} {w : World} {Q : Exit → Act → World → Prop} {md : Region.Mode} {S : World → Prop}
variable {o : Oper} {K : Act → World → Prop}
/-- A call of a Go function that returns. -/
theorem wp_call_of (f : FuncId) (args : Array Value) (hrun : (execOp a.eval o).run P w = .ok (.enter f args) w) (R : Value → World → Prop) (hc : Calls P f args w fun e w' => ∃ v, e = .returned v ∧ R v w')
    (h : Hid (∀ v w', R v w' → K (a.put o.dst v) w')) : o.wp P a w K Q := by
  unfold Oper.wp
  rw [hrun, Oper.upon_enter]
  refine hc.mono fun e w' he => ?_
  obtain ⟨v, rfl, hR⟩ := he
  exact h.out v w' hR
/-- An operation that yields a value. -/
theorem wp_val_of (v : Value) (w' : World) (hrun : (execOp a.eval o).run P w = .ok (.value v) w') (h : K (a.put o.dst v) w') : o.wp P a w K Q := by
  unfold Oper.wp
  rw [hrun, Oper.upon_value]
  exact h
theorem wp_skip_of (w' : World) (hrun : (execOp a.eval o).run P w = .ok .skip w') (h : K (a.put o.dst undef) w') : o.wp P a w K Q := by
  unfold Oper.wp
  rw [hrun, Oper.upon_skip]
  exact h
/-- One element is appended. -/
theorem wp_app_of (s x : Operand) (t : TypeId) (ho : o.op = Op.call { callee := Callee.builtin Builtin.append, args := #[s, x], argTypes := #[t, t] })
    (B : Nat) (e : TypeId) (i : TypeInfo) (z : Value) (size bytes : Nat) (ht : P.underlying t = some (.slice e)) (hi : P.info? e = some i) (hz : i.zero = some z)
    (hsize : i.size = size) (hby : i.bytes = bytes) (hzs : z.cells.size = size) (hsz : 0 < size)
    (v : Value) (n : Nat) (xs : List Value) (hs : a.eval s = v) (hown : w.ownsRow B e size v n xs)
    (g : Nat) (us : List Value) (hx : a.eval x = .slice (some ⟨g, 0, none⟩) 1 1) (hl : us.length = 1 * size) (hnews : ∀ j u, us[j]? = some u → w.cell? (Addr.add ⟨g, 0, none⟩ j) = some u) (h1 : ∀ u ∈ us, u.oneCell' = true)
    (hn : n ≤ 1000000000) (hby2 : bytes ≤ 1000) (hbase : B ≤ w.heap.size)
    (h : Hid (∀ v' w', w'.ownsRow B e size v' (n + 1) (xs ++ us) → w.grownBy w' v.ownBlock → (∃ g cap, v' = .slice (some ⟨g, 0, none⟩) (n + 1) cap) → K (a.put o.dst v') w')) : o.wp P a w K Q := by
  have hb2 : (n + 1) * bytes ≤ 140737488355328 := by
    have : (n + 1) * bytes ≤ 1000000001 * 1000 := Nat.mul_le_mul (by omega) hby2
    omega
  obtain ⟨v', w', hrun, k1, k2, -, -⟩ := run_append_own_at (P := P) w B t o.type e i z size bytes ht hi hz hsize hby hzs hsz v n xs hown ⟨g, 0, none⟩ 1 1 us hl hnews h1 (by unfold maxLen; omega) hb2 hbase
  unfold Oper.wp execOp
  simp only [ho, resolve, invoke, builtin, Sem.run_bind, Sem.run_pure, Result.andThen_ok, List.map_toArray, List.map_cons, List.map_nil, hs, hx, hrun]
  refine h.out v' w' k1 k2 ?_
  rcases k1.2 with ⟨_, hz0⟩ | ⟨g', cap', cur', hv', hr'⟩
  · omega
  · exact ⟨g', cap', hv'⟩
/-- A slice is stored into a cell. -/
theorem wp_slice_of (ty : TypeId) (x y : Operand) (ho : o.op = .store ty x y) (g off : Nat) (ao : Option Addr) (n c : Nat) (hx : a.eval x = .pointer (some ⟨g, off, none⟩)) (hy : a.eval y = .slice ao n c) (T : TypeId) (cs : Array Value) (hC : Blk w g T cs) (hoff : off < cs.size)
    (hi : (P.info? ty).map (·.size) = some 1) (h : K (a.put o.dst undef) (w.setCell ⟨g, off, none⟩ (.slice ao n c))) : o.wp P a w K Q := by
  obtain ⟨i, hi1, hi2⟩ := Option.map_eq_some_iff.1 hi
  have hc : w.cell? ⟨g, off, none⟩ = some (cs[off]'hoff) := by rw [hC.cell off, Array.getElem?_eq_getElem hoff]
  have hf := hC.frozen off
  have hrun : (storeVar ty ⟨g, off, none⟩ (.slice ao n c)).run P w = .ok () (w.setCell ⟨g, off, none⟩ (.slice ao n c)) := by
    simp [storeVar, storeCells, sizeOf, typeInfo, go_sem, hi1, hi2, hc, hf, Value.cells]
  unfold Oper.wp execOp
  simp only [ho, hx, hy, Instr.storeAt, Instr.sureAddr, Sem.run_bind, Sem.run_pure, Result.andThen_ok, hrun]
  exact h
end
end Go.Proofs.YtjhmehmmpfnnkaaDoor

namespace Go.Proofs.YtjhmehmmpfnnkaaDoor
open Go.RowKit Utf
set_option maxRecDepth 100000
set_option linter.unusedSimpArgs false
set_option linter.unusedVariables false

/-- A text's bytes, as numbers. -/
def byN (s : ByteArray) : List Nat := s.data.toList.map UInt8.toNat
theorem byN_len (s : ByteArray) : (byN s).length = s.size := by rw [byN, List.length_map, ← Lib.size_eq]
theorem byN_at (s : ByteArray) (k : Nat) (hk : k < (byN s).length) (hk2 : k < s.size) : (byN s)[k] = s[k].toNat := by
  simp [byN]; rfl
def numS (s : ByteArray) : Option Int := if (byN s).head? = some 45 then numN true (byN s).tail else numN false (byN s)

theorem encAll_dig : ∀ (r : List Nat), (∀ c ∈ r, c < 128) → (encAll r).map UInt8.toNat = r := by
  intro r
  induction r with
  | nil => intro _; rfl
  | cons c l ih =>
    intro h
    have hc := h c (List.mem_cons_self ..)
    rw [encAll_cons, List.map_append, ih (fun x hx => h x (List.mem_cons_of_mem _ hx)), enc_one hc]
    have h1 : c % 256 = c := by omega
    simp [h1]
theorem numN_bytes (m : Bool) (r : List Nat) (ho : allOk r) : numN m ((encAll r).map UInt8.toNat) = numN m r := by
  by_cases h : ∀ c ∈ r, c < 128
  · rw [encAll_dig r h]
  · have h2 : ∃ c, c ∈ r ∧ 128 ≤ c := by
      rcases Classical.em (∃ c, c ∈ r ∧ 128 ≤ c) with h3 | h3
      · exact h3
      · exact absurd (fun c hc => Nat.lt_of_not_le fun hge => h3 ⟨c, hc, hge⟩) h
    obtain ⟨c, hc, hge⟩ := h2
    obtain ⟨k, hk, rfl⟩ := List.getElem_of_mem hc
    rw [numN_dig hk (by omega)]
    obtain ⟨b, hb, hbig⟩ : ∃ b ∈ (encAll r).map UInt8.toNat, 128 ≤ b := by
      have e : encAll r = encAll (r.take k) ++ (enc r[k] ++ encAll (r.drop (k + 1))) := by
        rw [← encAll_cons, ← encAll_append, ← List.drop_eq_getElem_cons hk, List.take_append_drop]
      have hd : ∃ x ∈ enc r[k], 128 ≤ x.toNat := by
        have hok := ho _ hc
        have hok2 := hok
        rw [okR_def] at hok2
        by_cases h1 : r[k] < 2048
        · rw [enc_two hge h1]
          exact ⟨_, List.mem_cons_self .., by rw [u8_of _ (by omega)]; omega⟩
        · by_cases h2 : r[k] < 65536
          · rw [enc_three (by omega) h2 hok]
            exact ⟨_, List.mem_cons_self .., by rw [u8_of _ (by omega)]; omega⟩
          · rw [enc_four (by omega) hok]
            exact ⟨_, List.mem_cons_self .., by rw [u8_of _ (by omega)]; omega⟩
      obtain ⟨x, hx, hxb⟩ := hd
      exact ⟨x.toNat, List.mem_map.2 ⟨x, by rw [e]; simp [hx], rfl⟩, hxb⟩
    obtain ⟨j, hj, rfl⟩ := List.getElem_of_mem hb
    exact numN_dig hj (by omega)
/-- A right text's number, by its bytes and by its runes. -/
theorem numS_runes {s : ByteArray} {rs : List Nat} (ho : allOk rs) (h : s.data.toList = encAll rs) : numS s = numN (signed rs) (unsign rs) := by
  unfold numS
  have e : byN s = (encAll rs).map UInt8.toNat := by rw [byN, h]
  cases rs with
  | nil => rw [e]; rfl
  | cons c l =>
    have hoc := allOk_cons.1 ho
    have hh := enc_head hoc.1 (encAll l)
    rw [← encAll_cons] at hh
    have h1 : ((encAll (c :: l)).map UInt8.toNat).head? = some 45 ↔ c = 45 := by
      rw [show (c = 45) = (decide (c = 45) = true) by simp, ← hh]
      cases he : encAll (c :: l) with
      | nil => simp
      | cons a r =>
        simp
        constructor
        · intro h; exact u8_ext h
        · intro h; subst h; rfl
    by_cases hc : c = 45
    · subst hc
      have e2 : (encAll (45 :: l)).map UInt8.toNat = 45 :: (encAll l).map UInt8.toNat := by rw [encAll_cons, enc_one (by omega)]; rfl
      rw [e, e2]
      simp only [List.head?_cons, if_true, List.tail_cons, signed, unsign, decide_true]
      exact numN_bytes true l hoc.2
    · rw [e, if_neg (fun h => hc (h1.1 h)), numN_bytes false _ ho]
      have h3 : ¬ (some c = some 45) := fun h => hc (Option.some.inj h)
      simp [signed, unsign, hc]

section
variable {t : ByteArray} {m : Bool}
theorem nB_nil (h : t.size < 1) : numN m (byN t) = none := by
  have : byN t = [] := List.length_eq_zero_iff.1 (by rw [byN_len]; omega)
  rw [this]; rfl
theorem nB_long (h : 9 < t.size) : numN m (byN t) = none := numN_long (by rw [byN_len]; exact h)
theorem nB_zero (h : 0 < t.size) (h0 : t[0].toNat = 48) (h2 : 1 < t.size ∨ m = true) : numN m (byN t) = none := by
  unfold numN
  rw [if_pos]
  refine .inr (.inr (.inr ⟨?_, by rw [byN_len]; exact h2⟩))
  have hl : 0 < (byN t).length := by rw [byN_len]; exact h
  rw [List.head?_eq_getElem?, List.getElem?_eq_getElem hl, byN_at t 0 hl h, h0]
theorem nB_dig {k : Nat} (hk : k < t.size) (hc : ¬ (48 ≤ t[k].toNat ∧ t[k].toNat ≤ 57)) : numN m (byN t) = none := by
  refine numN_dig (k := k) (by rw [byN_len]; exact hk) ?_
  rw [byN_at t k _ hk]; exact hc
/-- Not a number that begins with a nought that should not be there. -/
def NoZ (t : ByteArray) (m : Bool) : Prop := ∀ h : 0 < t.size, t[0].toNat = 48 → ¬ (1 < t.size ∨ m = true)
theorem nB_step {k : Nat} (hz : NoZ t m) (h9 : t.size ≤ 9) (h : NumAt (byN t) k) (hk : k < t.size) (hc : 48 ≤ t[k].toNat ∧ t[k].toNat ≤ 57) :
    NumAt (byN t) (k + 1) ∧ valOf ((byN t).take (k + 1)) = 10 * valOf ((byN t).take k) + (t[k].toNat - 48) := by
  have hk' : k < (byN t).length := by rw [byN_len]; exact hk
  have := h.step hk' (by rw [byN_at t k hk' hk]; exact hc) (by omega) (fun ⟨h1, h0⟩ => by
    have h2 := h.zero_head h1 (by omega) h0
    rw [List.head?_eq_getElem?, List.getElem?_eq_getElem (by omega), byN_at t 0 (by omega) (by omega)] at h2
    exact hz (by omega) (Option.some.inj h2) (.inl (by omega)))
  rw [byN_at t k hk' hk] at this
  exact this
theorem nB_done (hz : NoZ t m) (h1 : 1 ≤ t.size) (h : NumAt (byN t) t.size) : numN m (byN t) = some (if m then -(valOf ((byN t).take t.size) : Int) else valOf ((byN t).take t.size)) := by
  have hl := byN_len t
  have hne : byN t ≠ [] := fun e => by rw [e] at hl; simp at hl; omega
  rw [← hl] at h
  have := numN_done (m := m) h hne (fun hm h0 => by
    have h2 := h.zero_head (by omega) (Nat.le_refl _) (by rwa [List.take_length])
    rw [List.head?_eq_getElem?, List.getElem?_eq_getElem (by omega), byN_at t 0 (by omega) (by omega)] at h2
    exact hz (by omega) (Option.some.inj h2) (.inr hm))
  rw [← hl, List.take_length]
  exact this
end

/-- What tidewaterref31.Number answers. -/
def RefNumPost (o : Option Int) (w : World) (e : Ending) (w' : World) : Prop := e = .returned (.tuple #[.int .i64 (o.getD 0), .bool o.isSome]) ∧ w = w'

set_option maxHeartbeats 4000000 in
theorem refNumber_any (s : ByteArray) (w : World) (hs : s.size ≤ 1000000) :
    Calls Tryd.prog 62 #[.string s] w (RefNumPost (numS s) w) := by
  by_cases he : s.size = 0
  · have hed : decide ((0 : Int) < (s.size : Int)) = false := decide_eq_false (by omega)
    have HN := Lib.hid (show numS s = none by
      have : byN s = [] := List.length_eq_zero_iff.1 (by rw [byN_len]; exact he)
      unfold numS; rw [this]; rfl)
    have he2 : (s.size : Int) < 1 := by omega
    go_enter Tryd.func62, Tryd.ntmps62
    go_wp2_with fail
    go_ret2
    unfold RefNumPost
    rw [HN.out]
    exact ⟨rfl, rfl⟩
  · have hep : 0 < s.size := by omega
    have hed : decide ((0 : Int) < (s.size : Int)) = true := decide_eq_true (by omega)
    have hbl := byN_len s
    have hhd : (byN s).head? = some s[0].toNat := by rw [List.head?_eq_getElem?, List.getElem?_eq_getElem (by omega), byN_at s 0 (by omega) hep]
    have h256 := s[0].toNat_lt
    by_cases h45 : s[0].toNat = 45
    · have e45 : ((s[0].toNat : Int) == 45) = true := by simp [h45]
      have HR0 := Lib.hid (show numS s = numN true (byN (s.extract 1 s.size)) by
        unfold numS
        rw [hhd, h45, if_pos rfl]
        congr 1
        unfold byN
        rw [← List.map_tail, ← List.drop_one]
        congr 1
        rw [Lib.extract_data, List.take_of_length_le (by simp)])
      have hx0 : (s.extract 1 s.size).size ≤ 1000000 := by simp; omega
      have hx1 : (s.extract 1 s.size).size = s.size - 1 := by simp
      have HX1 := Lib.hid hx1
      clear hbl hhd h45 h256 hx1
      go_enter Tryd.func62, Tryd.ntmps62
      go_upto_region 4 with (fail)
      generalize s.extract 1 s.size = t at *
      have HR := HR0
      clear HR0 HX1
      by_cases g0 : t.size < 1
      · have g0d : decide ((t.size : Int) < 1) = true := decide_eq_true (by omega)
        have HN := Lib.hid (HR.out.trans (nB_nil (m := true) g0))
        clear g0
        go_wp2_with fail
        go_ret2
        unfold RefNumPost
        rw [HN.out]
        exact ⟨rfl, rfl⟩
      · have g0d : decide ((t.size : Int) < 1) = false := decide_eq_false (by omega)
        by_cases g9 : 9 < t.size
        · have g9d : decide ((9 : Int) < (t.size : Int)) = true := decide_eq_true (by omega)
          have HN := Lib.hid (HR.out.trans (nB_long (m := true) g9))
          clear g9
          go_wp2_with fail
          go_ret2
          unfold RefNumPost
          rw [HN.out]
          exact ⟨rfl, rfl⟩
        · have g9d : decide ((9 : Int) < (t.size : Int)) = false := decide_eq_false (by omega)
          have gp : 0 < t.size := by omega
          have HZ0 := Lib.hid (fun h0 h2 => HR.out.trans (nB_zero (m := true) gp h0 h2))
          have HNZ := Lib.hid (fun (h : ¬ (t[0].toNat = 48 ∧ (1 < t.size ∨ true = true))) => show NoZ t true from fun _ h1 h2 => h ⟨h1, h2⟩)
          have h256 := t[0].toNat_lt
          by_cases gz : t[0].toNat = 48 ∧ (1 < t.size ∨ true = true)
          · obtain ⟨gz0, gz2⟩ := gz
            have HN := Lib.hid (HZ0.out gz0 gz2)
            have gz1 : ((t[0].toNat : Int) == 48) = true := by simp [gz0]
            clear gz0
            by_cases g1 : 1 < t.size
            · have g1d : decide ((1 : Int) < (t.size : Int)) = true := decide_eq_true (by omega)
              go_wp2_with fail
              go_ret2
              unfold RefNumPost
              rw [HN.out]
              exact ⟨rfl, rfl⟩
            have g1d : decide ((1 : Int) < (t.size : Int)) = false := decide_eq_false (by omega)
            all_goals
              go_wp2_with fail
              go_ret2
              unfold RefNumPost
              rw [HN.out]
              exact ⟨rfl, rfl⟩
          · have HNO := Lib.hid (HNZ.out gz)
            have gor : (((t[0].toNat : Int) == 48) = false) ∨ (((t[0].toNat : Int) == 48) = true ∧ t.size = 1 ∧ true = false) := by
              by_cases hz : t[0].toNat = 48
              · refine .inr ⟨by simp [hz], ?_, ?_⟩
                · have : ¬ 1 < t.size := fun h => gz ⟨hz, .inl h⟩
                  omega
                · cases hm : true with
                  | false => rfl
                  | true => exact absurd ⟨hz, .inr hm⟩ gz
              · exact .inl (by simp; omega)
            clear gz
            rcases gor with gz1 | ⟨gz1, gs1, gm⟩
            rotate_left
            · have gs1d : decide ((1 : Int) < (t.size : Int)) = false := decide_eq_false (by omega)
              clear gs1
              cases gm
            · go_wp2_with fail
              go_loop [5, 41] (fun vn vi => ∃ k : Nat, vi = .int .i64 k ∧ k ≤ t.size ∧ Hid (NumAt (byN t) k) ∧ vn = .int .i64 (valOf ((byN t).take k) : Nat)) (fun _ vi => t.size - (intOf vi).toNat)
              case atStart => exact ⟨0, rfl, Nat.zero_le _, NumAt.zero _, rfl⟩
              case round =>
                obtain ⟨k, rfl, hk, HC, rfl⟩ := hrel
                by_cases hlt : k < t.size
                · have hltd : decide (k < t.size) = true := decide_eq_true hlt
                  have HDG := Lib.hid (fun hc => HR.out.trans (nB_dig (m := true) hlt hc))
                  have HST := Lib.hid (fun hc => nB_step HNO.out (by omega) HC.out hlt hc)
                  have hv := HC.out.bound8 (by omega)
                  have hk256 := t[k].toNat_lt
                  generalize hvv : valOf ((byN t).take k) = v at *
                  have HVV := Lib.hid hvv
                  clear hvv
                  by_cases c1 : t[k].toNat < 48
                  · have c1d : decide ((t[k].toNat : Int) < 48) = true := decide_eq_true (by omega)
                    have HN := Lib.hid (HDG.out (by omega))
                    go_wp2_with fail
                    go_ret2
                    unfold RefNumPost
                    rw [HN.out]
                    exact ⟨rfl, rfl⟩
                  · have c1d : decide ((t[k].toNat : Int) < 48) = false := decide_eq_false (by omega)
                    by_cases c2 : 57 < t[k].toNat
                    · have c2d : decide ((57 : Int) < (t[k].toNat : Int)) = true := decide_eq_true (by omega)
                      have HN := Lib.hid (HDG.out (by omega))
                      go_wp2_with fail
                      go_ret2
                      unfold RefNumPost
                      rw [HN.out]
                      exact ⟨rfl, rfl⟩
                    · have c2d : decide ((57 : Int) < (t[k].toNat : Int)) = false := decide_eq_false (by omega)
                      have HN := Lib.hid (HST.out ⟨by omega, by omega⟩)
                      have hc3 : 48 ≤ (t[k].toNat : Int) := by omega
                      have hc4 : (t[k].toNat : Int) ≤ 57 := by omega
                      have hv2 : (v : Int) ≤ 99999999 := by omega
                      go_wp2_with fail
                      go_round
                      case rel => exact ⟨k + 1, by go_num, by omega, HN.out.1, by (rw [HN.out.2]; exact int_val (by omega))⟩
                      case measure => simp [intOf]; omega
                · obtain rfl : k = t.size := by omega
                  have hltd : decide (t.size < t.size) = false := decide_eq_false (by omega)
                  have HN := Lib.hid (HR.out.trans (nB_done HNO.out (by omega) HC.out))
                  have hv := HC.out.bound
                  generalize valOf ((byN t).take t.size) = v at *
                  go_wp2_with fail
                  go_ret2
                  unfold RefNumPost
                  rw [HN.out]
                  exact ⟨rfl, rfl⟩
    · have e45 : ((s[0].toNat : Int) == 45) = false := by simp; omega
      have HR := Lib.hid (show numS s = numN false (byN s) by
        unfold numS
        rw [hhd, if_neg (fun h => h45 (Option.some.inj h))])
      clear hbl hhd h45
      go_enter Tryd.func62, Tryd.ntmps62
      by_cases g0 : s.size < 1
      · have g0d : decide ((s.size : Int) < 1) = true := decide_eq_true (by omega)
        have HN := Lib.hid (HR.out.trans (nB_nil (m := false) g0))
        clear g0
        go_wp2_with fail
        go_ret2
        unfold RefNumPost
        rw [HN.out]
        exact ⟨rfl, rfl⟩
      · have g0d : decide ((s.size : Int) < 1) = false := decide_eq_false (by omega)
        by_cases g9 : 9 < s.size
        · have g9d : decide ((9 : Int) < (s.size : Int)) = true := decide_eq_true (by omega)
          have HN := Lib.hid (HR.out.trans (nB_long (m := false) g9))
          clear g9
          go_wp2_with fail
          go_ret2
          unfold RefNumPost
          rw [HN.out]
          exact ⟨rfl, rfl⟩
        · have g9d : decide ((9 : Int) < (s.size : Int)) = false := decide_eq_false (by omega)
          have gp : 0 < s.size := by omega
          have HZ0 := Lib.hid (fun h0 h2 => HR.out.trans (nB_zero (m := false) gp h0 h2))
          have HNZ := Lib.hid (fun (h : ¬ (s[0].toNat = 48 ∧ (1 < s.size ∨ false = true))) => show NoZ s false from fun _ h1 h2 => h ⟨h1, h2⟩)
          have h256 := s[0].toNat_lt
          by_cases gz : s[0].toNat = 48 ∧ (1 < s.size ∨ false = true)
          · obtain ⟨gz0, gz2⟩ := gz
            have HN := Lib.hid (HZ0.out gz0 gz2)
            have gz1 : ((s[0].toNat : Int) == 48) = true := by simp [gz0]
            clear gz0
            rcases gz2 with gz2 | gz2
            rotate_left
            · cases gz2
            all_goals
              go_wp2_with fail
              go_ret2
              unfold RefNumPost
              rw [HN.out]
              exact ⟨rfl, rfl⟩
          · have HNO := Lib.hid (HNZ.out gz)
            have gor : (((s[0].toNat : Int) == 48) = false) ∨ (((s[0].toNat : Int) == 48) = true ∧ s.size = 1 ∧ false = false) := by
              by_cases hz : s[0].toNat = 48
              · refine .inr ⟨by simp [hz], ?_, ?_⟩
                · have : ¬ 1 < s.size := fun h => gz ⟨hz, .inl h⟩
                  omega
                · cases hm : false with
                  | false => rfl
                  | true => exact absurd ⟨hz, .inr hm⟩ gz
              · exact .inl (by simp; omega)
            clear gz
            rcases gor with gz1 | ⟨gz1, gs1, gm⟩
            rotate_left
            · have gs1d : decide ((1 : Int) < (s.size : Int)) = false := decide_eq_false (by omega)
              clear gs1
              go_wp2_with fail
              go_loop [5, 41] (fun vn vi => ∃ k : Nat, vi = .int .i64 k ∧ k ≤ s.size ∧ Hid (NumAt (byN s) k) ∧ vn = .int .i64 (valOf ((byN s).take k) : Nat)) (fun _ vi => s.size - (intOf vi).toNat)
              case atStart => exact ⟨0, rfl, Nat.zero_le _, NumAt.zero _, rfl⟩
              case round =>
                obtain ⟨k, rfl, hk, HC, rfl⟩ := hrel
                by_cases hlt : k < s.size
                · have hltd : decide (k < s.size) = true := decide_eq_true hlt
                  have HDG := Lib.hid (fun hc => HR.out.trans (nB_dig (m := false) hlt hc))
                  have HST := Lib.hid (fun hc => nB_step HNO.out (by omega) HC.out hlt hc)
                  have hv := HC.out.bound8 (by omega)
                  have hk256 := s[k].toNat_lt
                  generalize hvv : valOf ((byN s).take k) = v at *
                  have HVV := Lib.hid hvv
                  clear hvv
                  by_cases c1 : s[k].toNat < 48
                  · have c1d : decide ((s[k].toNat : Int) < 48) = true := decide_eq_true (by omega)
                    have HN := Lib.hid (HDG.out (by omega))
                    go_wp2_with fail
                    go_ret2
                    unfold RefNumPost
                    rw [HN.out]
                    exact ⟨rfl, rfl⟩
                  · have c1d : decide ((s[k].toNat : Int) < 48) = false := decide_eq_false (by omega)
                    by_cases c2 : 57 < s[k].toNat
                    · have c2d : decide ((57 : Int) < (s[k].toNat : Int)) = true := decide_eq_true (by omega)
                      have HN := Lib.hid (HDG.out (by omega))
                      go_wp2_with fail
                      go_ret2
                      unfold RefNumPost
                      rw [HN.out]
                      exact ⟨rfl, rfl⟩
                    · have c2d : decide ((57 : Int) < (s[k].toNat : Int)) = false := decide_eq_false (by omega)
                      have HN := Lib.hid (HST.out ⟨by omega, by omega⟩)
                      have hc3 : 48 ≤ (s[k].toNat : Int) := by omega
                      have hc4 : (s[k].toNat : Int) ≤ 57 := by omega
                      have hv2 : (v : Int) ≤ 99999999 := by omega
                      go_wp2_with fail
                      go_round
                      case rel => exact ⟨k + 1, by go_num, by omega, HN.out.1, by (rw [HN.out.2]; exact int_val (by omega))⟩
                      case measure => simp [intOf]; omega
                · obtain rfl : k = s.size := by omega
                  have hltd : decide (s.size < s.size) = false := decide_eq_false (by omega)
                  have HN := Lib.hid (HR.out.trans (nB_done HNO.out (by omega) HC.out))
                  have hv := HC.out.bound
                  generalize valOf ((byN s).take s.size) = v at *
                  go_wp2_with fail
                  go_ret2
                  unfold RefNumPost
                  rw [HN.out]
                  exact ⟨rfl, rfl⟩
            · go_wp2_with fail
              go_loop [5, 41] (fun vn vi => ∃ k : Nat, vi = .int .i64 k ∧ k ≤ s.size ∧ Hid (NumAt (byN s) k) ∧ vn = .int .i64 (valOf ((byN s).take k) : Nat)) (fun _ vi => s.size - (intOf vi).toNat)
              case atStart => exact ⟨0, rfl, Nat.zero_le _, NumAt.zero _, rfl⟩
              case round =>
                obtain ⟨k, rfl, hk, HC, rfl⟩ := hrel
                by_cases hlt : k < s.size
                · have hltd : decide (k < s.size) = true := decide_eq_true hlt
                  have HDG := Lib.hid (fun hc => HR.out.trans (nB_dig (m := false) hlt hc))
                  have HST := Lib.hid (fun hc => nB_step HNO.out (by omega) HC.out hlt hc)
                  have hv := HC.out.bound8 (by omega)
                  have hk256 := s[k].toNat_lt
                  generalize hvv : valOf ((byN s).take k) = v at *
                  have HVV := Lib.hid hvv
                  clear hvv
                  by_cases c1 : s[k].toNat < 48
                  · have c1d : decide ((s[k].toNat : Int) < 48) = true := decide_eq_true (by omega)
                    have HN := Lib.hid (HDG.out (by omega))
                    go_wp2_with fail
                    go_ret2
                    unfold RefNumPost
                    rw [HN.out]
                    exact ⟨rfl, rfl⟩
                  · have c1d : decide ((s[k].toNat : Int) < 48) = false := decide_eq_false (by omega)
                    by_cases c2 : 57 < s[k].toNat
                    · have c2d : decide ((57 : Int) < (s[k].toNat : Int)) = true := decide_eq_true (by omega)
                      have HN := Lib.hid (HDG.out (by omega))
                      go_wp2_with fail
                      go_ret2
                      unfold RefNumPost
                      rw [HN.out]
                      exact ⟨rfl, rfl⟩
                    · have c2d : decide ((57 : Int) < (s[k].toNat : Int)) = false := decide_eq_false (by omega)
                      have HN := Lib.hid (HST.out ⟨by omega, by omega⟩)
                      have hc3 : 48 ≤ (s[k].toNat : Int) := by omega
                      have hc4 : (s[k].toNat : Int) ≤ 57 := by omega
                      have hv2 : (v : Int) ≤ 99999999 := by omega
                      go_wp2_with fail
                      go_round
                      case rel => exact ⟨k + 1, by go_num, by omega, HN.out.1, by (rw [HN.out.2]; exact int_val (by omega))⟩
                      case measure => simp [intOf]; omega
                · obtain rfl : k = s.size := by omega
                  have hltd : decide (s.size < s.size) = false := decide_eq_false (by omega)
                  have HN := Lib.hid (HR.out.trans (nB_done HNO.out (by omega) HC.out))
                  have hv := HC.out.bound
                  generalize valOf ((byN s).take s.size) = v at *
                  go_wp2_with fail
                  go_ret2
                  unfold RefNumPost
                  rw [HN.out]
                  exact ⟨rfl, rfl⟩
end Go.Proofs.YtjhmehmmpfnnkaaDoor
