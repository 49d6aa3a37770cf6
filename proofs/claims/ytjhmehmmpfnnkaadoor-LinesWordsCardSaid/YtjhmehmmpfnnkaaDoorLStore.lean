/-
  A whole block is stored, or read, in one operation.
-/
import Derived.Test.YtjhmehmmpfnnkaaDoorLParseP
import Derived.Deep.RegionHeld
namespace Go.Proofs.YtjhmehmmpfnnkaaDoor
open Go.RowKit Utf
set_option maxRecDepth 100000
set_option linter.unusedSimpArgs false
set_option linter.unusedVariables false

theorem Blk.putAll {w : World} {g : Nat} {t : TypeId} : ∀ (vs : List Value) (o : Nat) (w : World) (cs : Array Value), Blk w g t cs → o + vs.length = cs.size → Blk (w.setCells g o vs) g t (cs.toList.take o ++ vs).toArray
  | [], o, w, cs, h, hl => by
    have e : (cs.toList.take o ++ []).toArray = cs := by
      rw [List.append_nil, List.take_of_length_le (by simp at hl; simp; omega)]
    rw [e]
    exact h
  | v :: r, o, w, cs, h, hl => by
    have h1 := h.put o v
    have h2 := Blk.putAll (w := w) r (o + 1) (w.setCell ⟨g, o, none⟩ v) (cs.setIfInBounds o v) h1 (by simp at hl ⊢; omega)
    have ho : o < cs.size := by simp at hl; omega
    have e : (cs.setIfInBounds o v).toList.take (o + 1) = cs.toList.take o ++ [v] := by
      rw [Array.toList_setIfInBounds, List.take_add_one, List.take_set_of_le (Nat.le_refl _)]
      congr 1
      rw [List.getElem?_set_self (by simpa using ho)]
      rfl
    rw [e, List.append_assoc] at h2
    exact h2

theorem Only.putAll {S : Nat → Prop} {g : Nat} (hs : S g) : ∀ (vs : List Value) (o : Nat) (a w : World), Only S a w → Only S a (w.setCells g o vs)
  | [], _, _, _, h => h
  | v :: r, o, a, w, h => Only.putAll hs r (o + 1) a _ (h.set (p := ⟨g, o, none⟩) (.inl hs) v)

theorem Blk.there {w : World} {g : Nat} {t : TypeId} {cs : Array Value} (h : Blk w g t cs) (n : Nat) (hn : n ≤ cs.size) : w.there g 0 n := fun j hj => by
  rw [Nat.zero_add]
  refine ⟨?_, h.frozen j⟩
  rw [h.cell j, Array.getElem?_eq_getElem (by omega)]
  rfl

section
variable {P : Program} {ops : Array Oper} {rest : List Oper} {op : Oper} {a : Act} {w : World} {Q : Exit → Act → World → Prop}
theorem wp_store_blk {K : Act → World → Prop} (ty : TypeId) (x y : Operand) (ho : op.op = .store ty x y)
    (g : Nat) (vs : Array Value) (hx : a.eval x = .pointer (some ⟨g, 0, none⟩)) (hy : a.eval y = .agg vs)
    (t : TypeId) (cs : Array Value) (hB : Blk w g t cs) (hsz : vs.size = cs.size) (hi : (P.info? ty).map (·.size) = some vs.size) (h1 : vs.all (·.oneCell') = true)
    (h : ∀ w', Blk w' g t vs → Only (fun k => k = g) w w' → K (a.put op.dst undef) w') : op.wp P a w K Q := by
  refine wp_store_mid ty x y ho g 0 vs hx hy (hB.there _ (Nat.le_of_eq hsz)) hi h1 ?_
  have hb := Blk.putAll (w := w) vs.toList 0 w cs hB (by simp; exact hsz)
  simp only [List.take_zero, List.nil_append, Array.toArray_toList] at hb
  exact h _ hb (Only.putAll (S := fun k => k = g) rfl vs.toList 0 w w (Only.refl _ w))
/-- A whole block is stored, as the one operation of a region that may come up. -/
theorem wpAnyH_store {md : Region.Mode} {S : World → Prop} {fuel : Nat} {listed : Array Bool} {i : Nat} {o : Oper} (hr : Region.ready md ops listed = [i]) (hoi : ops[i]? = some o) (hgd : o.guard = none) (ty : TypeId) (x y : Operand) (ho : o.op = .store ty x y)
    (g : Nat) (vs : Array Value) (hx : a.eval x = .pointer (some ⟨g, 0, none⟩)) (hy : a.eval y = .agg vs)
    (t : TypeId) (cs : Array Value) (hB : Blk w g t cs) (hsz : vs.size = cs.size) (hi : (P.info? ty).map (·.size) = some vs.size) (h1 : vs.all (·.oneCell') = true)
    (h : Hid (∀ w', Blk w' g t vs → Only (fun k => k = g) w w' → S w' ∧ wpAnyH P md ops Q S fuel (listed.setIfInBounds i true) (a.put o.dst undef) w')) : wpAnyH P md ops Q S (fuel + 1) listed a w := by
  refine wpAnyH_all hr (by simp) (fun j hj => ?_)
  obtain rfl : j = i := by simpa using hj
  unfold wpOp
  simp only [hoi]
  have hw : Region.wanted o (yielded ops a.tmps) = true := by simp [Region.wanted, hgd]
  rw [if_pos hw]
  exact .inl (wp_store_blk (K := fun a' w' => S w' ∧ wpAnyH P md ops Q S fuel (listed.setIfInBounds j true) a' w') ty x y ho g vs hx hy t cs hB hsz hi h1 h.out)
/-- A value of all of a block's cells is stored. -/
theorem wpList_store_blk (hgd : op.guard = none) (ty : TypeId) (x y : Operand) (ho : op.op = .store ty x y)
    (g : Nat) (vs : Array Value) (hx : a.eval x = .pointer (some ⟨g, 0, none⟩)) (hy : a.eval y = .agg vs)
    (t : TypeId) (cs : Array Value) (hB : Blk w g t cs) (hsz : vs.size = cs.size) (hi : (P.info? ty).map (·.size) = some vs.size) (h1 : vs.all (·.oneCell') = true)
    (h : Hid (∀ w', Blk w' g t vs → Only (fun k => k = g) w w' → wpList P ops Q rest (a.put op.dst undef) w')) : wpList P ops Q (op :: rest) a w := by
  refine wpList_store_mid hgd ty x y ho g 0 vs hx hy (hB.there _ (Nat.le_of_eq hsz)) hi h1 ?_
  have hb := Blk.putAll (w := w) vs.toList 0 w cs hB (by simp; exact hsz)
  simp only [List.take_zero, List.nil_append, Array.toArray_toList] at hb
  exact h.out _ hb (Only.putAll (S := fun k => k = g) rfl vs.toList 0 w w (Only.refl _ w))
end
end Go.Proofs.YtjhmehmmpfnnkaaDoor
