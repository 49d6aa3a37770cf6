/-
  What lines.Script knows between two lines, and where it ends.
  The contract of lines.Script.
  The contract of tidewaterref31.Lines.
-/
import Derived.Test.YtjhmehmmpfnnkaaDoorM29
import Derived.Shelf.RegionOpen
import Derived.Sort.QuietIn
import Derived.Test.YtjhmehmmpfnnkaaDoorM03
namespace Go.Proofs.YtjhmehmmpfnnkaaDoor
open Go.RowKit Utf
set_option maxRecDepth 100000
set_option linter.unusedSimpArgs false
set_option linter.unusedVariables false

/-- lines.Parse of any text, its lists owned. -/
theorem parse_own (ea : Nat → Addr) (s : ByteArray) (w : World) (hs : s.size ≤ 1000000) (he : LErr w ea) :
    Calls Tryd.prog 17 #[.string s] w fun e w' => ∃ ao ag co cg, e = .returned (.tuple #[.agg (oC (plOf (parseR s)).p.b (.slice ao (plOf (parseR s)).ops.length co) (.slice ag (plOf (parseR s)).gone.length cg) XC.zero 0 0 0), errOf ea (parseR s).1]) ∧
      SEat w' w.heap.size ⟨plOf (parseR s), .slice ao (plOf (parseR s)).ops.length co, .slice ag (plOf (parseR s)).gone.length cg⟩ ∧ Below w.heap.size w w' := by
  refine (parse_all ea s w hs he).mono fun e w' ⟨hb, h⟩ => ?_
  rcases h with ⟨m, hq, rfl⟩ | ⟨l, vo, vg, hq, rfl, ho, hg⟩
  · rw [hq]
    refine ⟨none, none, 0, 0, ?_, ⟨World.ownsRow_nil _ _ _ _, World.ownsRow_nil _ _ _ _⟩, hb⟩
    rw [wZero_eq, wCells_oC]
    rfl
  · rw [hq]
    obtain ⟨ao, co, rfl, h1⟩ := own_row_of ho
    obtain ⟨ag, cg, rfl, h2⟩ := own_row_of hg
    refine ⟨ao, ag, co, cg, ?_, ⟨ho, hg⟩, hb⟩
    rw [wCells_oC]
    rfl

/-- What is told so far. -/
structure SI (w : World) (ea : Nat → Addr) (L : List ByteArray) (k : Nat) (W : World) : Prop where
  bel : Below w.heap.size w W
  r0 : Boxed W w.heap.size 61 (.slice none 0 0)
  r1 : Boxed W (w.heap.size + 1) 3 (.int .i64 0)
  r2 : Boxed W (w.heap.size + 2) 26 .nilIface
  top : w.heap.size + 7 ≤ W.heap.size
  st : ∃ (es : List SE) (v : Value), Boxed W (w.heap.size + 3) 61 v ∧ W.ownsRow (w.heap.size + 7) 48 24 v es.length (es.flatMap SE.cells) ∧ (∀ e ∈ es, SEat W (w.heap.size + 7) e) ∧ scriptR L = (es.map SE.l ++ (scriptR (L.drop k)).1, (scriptR (L.drop k)).2)
/-- What is told when a line isn't right. -/
structure SX (w : World) (ea : Nat → Addr) (L : List ByteArray) (k : Nat) (W : World) : Prop where
  bel : Below w.heap.size w W
  st : ∃ (es : List SE) (v : Value), Boxed W w.heap.size 61 v ∧ Boxed W (w.heap.size + 1) 3 (.int .i64 (es.length : Nat)) ∧ Boxed W (w.heap.size + 2) 26 (errOf ea (scriptR L).2) ∧ W.ownsRow (w.heap.size + 7) 48 24 v es.length (es.flatMap SE.cells) ∧ (∀ e ∈ es, SEat W (w.heap.size + 7) e) ∧ es.map SE.l = (scriptR L).1
section
variable {w : World} {ea : Nat → Addr} {L : List ByteArray} {k : Nat} {W W' : World}
/-- A step that turns one block beyond the first four, that holds no cells or is the iterator's. -/
def Far (w : World) (W : World) (row : Option Nat) : Prop := ∀ r, row = some r → w.heap.size + 4 ≤ r ∧ (r < w.heap.size + 7 ∨ ∃ o : Obj, W.heap[r]? = some o ∧ o.isCells = false)
theorem Far.box {row : Option Nat} (h : Far w W row) {b : Nat} (hb : b < w.heap.size + 4) : some b ≠ row := fun e => by have := (h b e.symm).1; omega
theorem Far.own {row : Option Nat} (h : Far w W row) {e : TypeId} {sz : Nat} {v : Value} {n : Nat} {xs : List Value} (ho : W.ownsRow (w.heap.size + 7) e sz v n xs) : v.ownBlock = none ∨ v.ownBlock ≠ row := by
  cases hv : v.ownBlock with
  | none => exact .inl rfl
  | some g =>
    refine .inr fun e => ?_
    rcases (h g e.symm).2 with h1 | ⟨o, h1, h2⟩
    · have := (ho.lt g hv).1; omega
    · rcases ho.2 with ⟨rfl, _⟩ | ⟨g', cap, cur, rfl, _, hg', _⟩
      · cases hv
      · simp only [Value.ownBlock] at hv
        obtain rfl : g' = g := by simpa using hv
        rw [h1] at hg'
        cases hg'
        cases h2
theorem Far.els {row : Option Nat} (h : Far w W row) (hg : W.grownBy W' row) {es : List SE} (he : ∀ e ∈ es, SEat W (w.heap.size + 7) e) : ∀ e ∈ es, SEat W' (w.heap.size + 7) e :=
  fun e hm => (he e hm).kept hg (h.own (he e hm).1) (h.own (he e hm).2)
theorem SI.kept {row : Option Nat} (h : SI w ea L k W) (hg : W.grownBy W' row) (hf : Far w W row) : SI w ea L k W' := by
  obtain ⟨es, v, s1, s2, s3, s4⟩ := h.st
  exact ⟨h.bel.grown hg h.bel.size (fun r e => by have := (hf r e).1; omega), h.r0.kept hg (hf.box (by omega)), h.r1.kept hg (hf.box (by omega)), h.r2.kept hg (hf.box (by omega)), Nat.le_trans h.top hg.size, es, v, s1.kept hg (hf.box (by omega)), s2.kept hg (hf.own s2), hf.els hg s3, s4⟩
theorem SX.kept {row : Option Nat} (h : SX w ea L k W) (hg : W.grownBy W' row) (hf : Far w W row) : SX w ea L k W' := by
  obtain ⟨es, v, s1, s2, s3, s4, s5, s6⟩ := h.st
  exact ⟨h.bel.grown hg h.bel.size (fun r e => by have := (hf r e).1; omega), es, v, s1.kept hg (hf.box (by omega)), s2.kept hg (hf.box (by omega)), s3.kept hg (hf.box (by omega)), s4.kept hg (hf.own s4), hf.els hg s5, s6⟩
theorem SI.set (h : SI w ea L k W) (v : Value) : SI w ea L k (W.setCell ⟨w.heap.size + 4, 0, none⟩ v) :=
  h.kept (grownBy_setCell' W _ v) (fun r e => by cases e; exact ⟨Nat.le_refl _, .inl (by omega)⟩)
theorem SI.below (h : SI w ea L k W) (hb : Below W.heap.size W W') : SI w ea L k W' := by
  obtain ⟨es, v, s1, s2, s3, s4⟩ := h.st
  have kb : ∀ {b : Nat} {t : TypeId} {u : Value}, Boxed W b t u → Boxed W' b t u := fun h => (hb.block _ h.lt).trans h
  have ko : ∀ {e : TypeId} {sz : Nat} {v : Value} {n : Nat} {xs : List Value}, W.ownsRow (w.heap.size + 7) e sz v n xs → W'.ownsRow (w.heap.size + 7) e sz v n xs := fun {e sz v n xs} h => by
    refine ⟨h.1, ?_⟩
    rcases h.2 with h2 | ⟨g, cap, cur, hv, hB, hg, r⟩
    · exact .inl h2
    · exact .inr ⟨g, cap, cur, hv, hB, (hb.block g (Array.getElem?_eq_some_iff.1 hg).1).trans hg, r⟩
  exact ⟨h.bel.trans (hb.mono h.bel.size), kb h.r0, kb h.r1, kb h.r2, Nat.le_trans h.top hb.size, es, v, kb s1, ko s2, fun e he => ⟨ko (s3 e he).1, ko (s3 e he).2⟩, s4⟩
end
/-- Where the loop begins. -/
def scriptW (w : World) (text : ByteArray) : World :=
  ((((((w.alloc (.cells #[.slice none 0 0] 61)).alloc (.cells #[.int .i64 0] 3)).alloc (.cells #[.nilIface] 26)).alloc (.cells #[.slice none 0 0] 61)).alloc (.cells #[.string text] 9)).alloc (.cells #[.string ⟨#[10]⟩] 9)).alloc (.cells #[.int .i64 0] 3)
theorem box_new {w : World} {n : Nat} (t : TypeId) (v : Value) (h : w.heap.size = n) : Boxed (w.alloc (.cells #[v] t)) n t v := by subst h; exact Boxed.new w t v
theorem scriptW_at (w : World) (text : ByteArray) (ea : Nat → Addr) (L : List ByteArray) : (scriptW w text).heap.size = w.heap.size + 7 ∧ Boxed (scriptW w text) (w.heap.size + 5) 9 (.string ⟨#[10]⟩) ∧ Boxed (scriptW w text) (w.heap.size + 4) 9 (.string text) ∧ Boxed (scriptW w text) (w.heap.size + 6) 3 (.int .i64 0) ∧ SI w ea L 0 (scriptW w text) := by
  have hs : (scriptW w text).heap.size = w.heap.size + 7 := by simp [scriptW]
  refine ⟨hs, (box_new _ _ (by simp)).alloc _, ((box_new _ _ (by simp)).alloc _).alloc _, box_new _ _ (by simp), ⟨?_, ((((((box_new _ _ (by simp)).alloc _).alloc _).alloc _).alloc _).alloc _).alloc _, (((((box_new _ _ (by simp)).alloc _).alloc _).alloc _).alloc _).alloc _, ((((box_new _ _ (by simp)).alloc _).alloc _).alloc _).alloc _, by omega, [], _, (((box_new _ _ (by simp)).alloc _).alloc _).alloc _, World.ownsRow_nil _ _ _ _, fun e he => (by cases he), rfl⟩⟩
  unfold scriptW
  exact ((((((((Below.refl _ w).alloc (Nat.le_refl _) _).alloc (by simp) _).alloc (by simp; omega) _).alloc (by simp; omega) _).alloc (by simp; omega) _).alloc (by simp; omega) _).alloc (by simp; omega) _)


/-! ### A line that is right -/
theorem own_isCells' {w : World} {B sz : Nat} {e : TypeId} {v : Value} {n : Nat} {xs : List Value} (h : w.ownsRow B e sz v n xs) : ∀ (j : Nat) (o : Obj), v.ownBlock = some j → w.heap[j]? = some o → o.isCells = true := by
  intro j o hj ho
  rcases h.2 with ⟨rfl, _⟩ | ⟨g, cap, cur, rfl, _, hg, _⟩
  · cases hj
  · simp only [Value.ownBlock] at hj
    obtain rfl : g = j := by simpa using hj
    rw [ho] at hg
    cases hg
    rfl
theorem own_ne_type {W : World} {B B' sz sz' : Nat} {e e' : TypeId} {v v' : Value} {n n' : Nat} {xs xs' : List Value} (h : W.ownsRow B e sz v n xs) (h' : W.ownsRow B' e' sz' v' n' xs') (hne : e ≠ e') : v.ownBlock = none ∨ v.ownBlock ≠ v'.ownBlock := by
  rcases h.2 with ⟨rfl, _⟩ | ⟨g, cap, cur, rfl, _, hg, _⟩
  · exact .inl rfl
  · refine .inr fun he => ?_
    rcases h'.2 with ⟨rfl, _⟩ | ⟨g', cap', cur', rfl, _, hg', _⟩
    · cases he
    · obtain rfl : g = g' := by simpa [Value.ownBlock] using he
      rw [hg] at hg'
      simp at hg'
      exact hne hg'.2
theorem alloc_row {W : World} {B sz : Nat} {e : TypeId} {v : Value} {n : Nat} {xs : List Value} (h : W.ownsRow B e sz v n xs) : v.ownBlock = none ∨ v.ownBlock ≠ none := Classical.em _
theorem SI.good {w : World} {ea : Nat → Addr} {L : List ByteArray} {k : Nat} {W W5 : World} {es : List SE} {v v' : Value} {e : SE} {o : Obj} (h : SI w ea L k W) (s1 : Boxed W (w.heap.size + 3) 61 v)
    (s2 : W.ownsRow (w.heap.size + 7) 48 24 v es.length (es.flatMap SE.cells)) (s3 : ∀ e ∈ es, SEat W (w.heap.size + 7) e) (s4 : scriptR L = (es.map SE.l ++ (scriptR (L.drop k)).1, (scriptR (L.drop k)).2))
    (he : SEat W (w.heap.size + 7) e) (hs : scriptR (L.drop k) = (e.l :: (scriptR (L.drop (k + 1))).1, (scriptR (L.drop (k + 1))).2))
    (hg : (W.alloc o).grownBy W5 v.ownBlock) (hv : W5.ownsRow (w.heap.size + 7) 48 24 v' (es.length + 1) (es.flatMap SE.cells ++ e.cells)) :
    SI w ea L (k + 1) (W5.setCell ⟨w.heap.size + 3, 0, none⟩ v') := by
  have h4 := h.kept (World.grownBy_alloc W o none) (fun r e => by cases e)
  have nb : ∀ b, b < w.heap.size + 7 → some b ≠ v.ownBlock := fun b hb e => by have := (s2.lt b e.symm).1; omega
  have s24 := s2.alloc o
  have hb5 : ∀ {b : Nat} {t : TypeId} {u : Value}, b < w.heap.size + 7 → Boxed (W.alloc o) b t u → Boxed W5 b t u := fun hb hx => hx.kept hg (nb _ hb)
  have se : ∀ x : SE, SEat W (w.heap.size + 7) x → SEat (W5.setCell ⟨w.heap.size + 3, 0, none⟩ v') (w.heap.size + 7) x := fun x hx => by
    have x4 : SEat (W.alloc o) (w.heap.size + 7) x := hx.kept (World.grownBy_alloc W o none) (alloc_row hx.1) (alloc_row hx.2)
    have x5 : SEat W5 (w.heap.size + 7) x := x4.kept hg (own_ne_type x4.1 s24 (by decide)) (own_ne_type x4.2 s24 (by decide))
    exact x5.kept (grownBy_setCell' W5 _ v') (.inr fun e => by have := (x5.1.lt _ e).1; omega) (.inr fun e => by have := (x5.2.lt _ e).1; omega)
  refine ⟨(h4.bel.grown hg h4.bel.size (fun r e => by have := (s2.lt r e).1; omega)).setCell (p := ⟨w.heap.size + 3, 0, none⟩) (by show w.heap.size ≤ w.heap.size + 3; omega) _, (hb5 (by omega) h4.r0).other (by omega) _, (hb5 (by omega) h4.r1).other (by omega) _, (hb5 (by omega) h4.r2).other (by omega) _,
    Nat.le_trans (Nat.le_trans h4.top hg.size) (grownBy_setCell' W5 _ v').size, es ++ [e], v', (hb5 (by omega) (s1.alloc o)).set v', ?_, ?_, ?_⟩
  · rw [List.length_append, List.length_singleton, List.flatMap_append, List.flatMap_singleton]
    exact hv.kept (grownBy_setCell' W5 _ v') (.inr fun e => by have := (hv.lt _ e).1; omega)
  · intro x hx
    rcases List.mem_append.1 hx with hx | hx
    · exact se x (s3 x hx)
    · rw [List.mem_singleton] at hx; subst hx; exact se _ he
  · rw [s4, hs, List.map_append, List.append_assoc]
    rfl
/-! ### The end -/
theorem SX.of {w : World} {ea : Nat → Addr} {L : List ByteArray} {k n : Nat} {W : World} {es : List SE} {v : Value} (h : SI w ea L k W)
    (s2 : W.ownsRow (w.heap.size + 7) 48 24 v es.length (es.flatMap SE.cells)) (s3 : ∀ e ∈ es, SEat W (w.heap.size + 7) e) (s4 : scriptR L = (es.map SE.l ++ (scriptR (L.drop k)).1, (scriptR (L.drop k)).2))
    (hs : scriptR (L.drop k) = ([], n)) (k' : Nat) : SX w ea L k' (((W.setCell ⟨w.heap.size, 0, none⟩ v).setCell ⟨w.heap.size + 1, 0, none⟩ (.int .i64 (es.length : Nat))).setCell ⟨w.heap.size + 2, 0, none⟩ (errOf ea n)) := by
  rw [hs, List.append_nil] at s4
  have low : ∀ {b : Nat} (hb : b < w.heap.size + 7) (A : World) (u : Value) {e : TypeId} {sz : Nat} {v : Value} {n : Nat} {xs : List Value}, A.ownsRow (w.heap.size + 7) e sz v n xs → (A.setCell ⟨b, 0, none⟩ u).ownsRow (w.heap.size + 7) e sz v n xs := fun {b} hb A u {e sz v n xs} hx =>
    hx.kept (grownBy_setCell' A b u) (.inr fun e => by have := (hx.lt _ e).1; omega)
  have low3 : ∀ {e : TypeId} {sz : Nat} {v' : Value} {n' : Nat} {xs : List Value}, W.ownsRow (w.heap.size + 7) e sz v' n' xs → (((W.setCell ⟨w.heap.size, 0, none⟩ v).setCell ⟨w.heap.size + 1, 0, none⟩ (.int .i64 (es.length : Nat))).setCell ⟨w.heap.size + 2, 0, none⟩ (errOf ea n)).ownsRow (w.heap.size + 7) e sz v' n' xs := fun hx => low (by omega) _ _ (low (by omega) _ _ (low (by omega) _ _ hx))
  refine ⟨((h.bel.setCell (p := ⟨w.heap.size, 0, none⟩) (Nat.le_refl _) _).setCell (p := ⟨w.heap.size + 1, 0, none⟩) (by show w.heap.size ≤ w.heap.size + 1; omega) _).setCell (p := ⟨w.heap.size + 2, 0, none⟩) (by show w.heap.size ≤ w.heap.size + 2; omega) _, es, v, ((h.r0.set v).other (by omega) _).other (by omega) _, ((h.r1.other (by omega) _).set _).other (by omega) _, ?_, low3 s2, fun e he => ⟨low3 (s3 e he).1, low3 (s3 e he).2⟩, ?_⟩
  · have := ((h.r2.other (B' := w.heap.size) (by omega) v).other (B' := w.heap.size + 1) (by omega) (.int .i64 (es.length : Nat))).set (errOf ea n)
    rw [s4]
    exact this
  · rw [s4]
end Go.Proofs.YtjhmehmmpfnnkaaDoor

namespace Go.Proofs.YtjhmehmmpfnnkaaDoor
open Go.RowKit Utf
set_option maxRecDepth 100000
set_option linter.unusedSimpArgs false
set_option linter.unusedVariables false
attribute [local go_sem] Oper.semAt_some
open Go.Shelf

theorem grown_drew' (w : World) (row : Option Nat) : w.grownBy w.drew row := ⟨rfl, rfl, rfl, Nat.le_refl _, fun _ _ _ => rfl⟩
theorem SX.fin {w : World} {ea : Nat → Addr} {L : List ByteArray} {k : Nat} {W : World} {D : Nat} (h : SX w ea L k W) (hD : w.heap.size + 7 ≤ D) (hK : W.heap[D]? = some (.deferred (some []))) :
    ∃ (es : List SE) (v : Value), (W.putObj D (.deferred none)).cell? ⟨w.heap.size, 0, none⟩ = some v ∧ (W.putObj D (.deferred none)).cell? ⟨w.heap.size + 1, 0, none⟩ = some (.int .i64 (es.length : Nat)) ∧ (W.putObj D (.deferred none)).cell? ⟨w.heap.size + 2, 0, none⟩ = some (errOf ea (scriptR L).2) ∧
      es.map SE.l = (scriptR L).1 ∧ (W.putObj D (.deferred none)).ownsRow w.heap.size 48 24 v es.length (es.flatMap SE.cells) ∧ (∀ e ∈ es, SEat (W.putObj D (.deferred none)) w.heap.size e) ∧ Below w.heap.size w (W.putObj D (.deferred none)) := by
  have h2 := h.kept (grownBy_putObj' W D (.deferred none)) (fun r e => by cases e; exact ⟨by omega, .inr ⟨_, hK, rfl⟩⟩)
  obtain ⟨es, v, q1, q2, q3, q4, q5, q6⟩ := h2.st
  exact ⟨es, v, q1.cell, q2.cell, q3.cell, q6, ownsRow_base q4 (by omega), fun e he => (q5 e he).base (by omega), h2.bel⟩

set_option maxHeartbeats 4000000 in
theorem script_in (ea : Nat → Addr) (text : ByteArray) (w : World) (hm : text.size ≤ 1000000) (he : ErrsAt w ea) :
    CallsIn Fence.wide 6 Tryd.prog 24 #[.string text] w fun e w' => ∃ (es : List SE) (v : Value), e = .returned (.tuple #[v, .int .i64 (es.length : Nat), errOf ea (scriptR (linesB text)).2]) ∧ es.map SE.l = (scriptR (linesB text)).1 ∧
      w'.ownsRow w.heap.size 48 24 v es.length (es.flatMap SE.cells) ∧ (∀ e ∈ es, SEat w' w.heap.size e) ∧ Below w.heap.size w w' := by
  refine callsIn_of_wp_marks Tryd.func24 rfl trivial ?_ rfl
  simp only [Tryd.ntmps24, List.size_toArray, List.length_cons, List.length_nil, Nat.reduceAdd, Nat.reduceSub, Array.replicate_succ, Array.replicate_zero, List.push_toArray, List.append_toArray, List.nil_append, List.cons_append]
  gi_wp2_with fail
  refine ⟨trivial, ?_⟩
  refine (callsIn_wide.2 (splitSeq text _)).mono ?_
  rintro e w1 ⟨rfl, rfl⟩
  gi_wp2_with fail
  obtain ⟨hs0, b5, b4, b6, h0⟩ := scriptW_at w text ea (linesB text)
  change Code.wpIn _ _ _ _ _ _ (scriptW w text)
  simp only [Nat.add_assoc, Nat.reduceAdd]
  generalize scriptW w text = W0 at *
  have HE := Lib.hid he
  clear he
  refine range_lines (n := 6) (p := 11) (by decide) (w.heap.size + 5) (w.heap.size + 4) (w.heap.size + 6) text hm (by omega) (by omega) rfl b5 b4 b6 (SI w ea (linesB text)) (SX w ea (linesB text))
    (fun k A B row hs hg hr => hs.kept hg (fun r e => ⟨by have := (hr r e).1; omega, .inr (hr r e).2⟩)) (fun k A B row hs hg hr => hs.kept hg (fun r e => ⟨by have := (hr r e).1; omega, .inr (hr r e).2⟩)) (fun k A v h => h.set v) h0
    (fun x => { tmps := #[.string text, undef, .pointer (some ⟨w.heap.size, 0, none⟩), .pointer (some ⟨w.heap.size + 1, 0, none⟩), .pointer (some ⟨w.heap.size + 2, 0, none⟩), .pointer (some ⟨w.heap.size + 3, 0, none⟩), .string x, undef, undef, .string text,
      .func (.func 73) #[] #[.pointer (some ⟨w.heap.size + 5, 0, none⟩), .pointer (some ⟨w.heap.size + 4, 0, none⟩), .pointer (some ⟨w.heap.size + 6, 0, none⟩)], .string x, undef, undef, undef, undef, undef, undef, undef, undef, undef, undef, undef, undef, undef, undef, undef, undef, undef, undef, undef, undef, undef, undef, undef], defers := [] })
    ?assign ?body ?done ?stop
  case assign =>
    intro l x W K hK
    gi_wp2
    exact hK
  case body =>
    intro l k x W hI hx
    have hxs : x.size ≤ 1000000 := by have := (linesB_len text).2 x (List.mem_of_getElem? hx); omega
    have HI := Lib.hid hI
    have HTP := Lib.hid hI.top
    have HPO := Lib.hid (fun W' (h : ErrsAt W' ea) => parse_own ea x W' hxs h.lerr)
    have HIS := Lib.hid (fun W' h => is_none ea (parseR x).1 W' (parseR_lt x).1 h)
    have HS16 := Lib.hid (script_skip hx)
    have HGO := Lib.hid (script_good hx)
    have HBD := Lib.hid (script_bad hx)
    have HKL := Lib.hid (List.getElem?_eq_some_iff.1 hx).1
    generalize plOf (parseR x) = q at *
    generalize (parseR x).1 = n at *
    clear hI hx hxs b4 b5 b6 h0
    dsimp only
    gi_wp2_with fail
    refine ⟨trivial, ?_⟩
    refine (CallsIn.inRound l (callsIn_wide.2 (HPO.out _ (HE.out.below HI.out.bel)))).mono ?_
    rintro e w2 ⟨ao, ag, co, cg, rfl, hel, hb2⟩
    have HB2 := Lib.hid hb2
    have HEL := Lib.hid (hel.base HI.out.top)
    have HZ := Lib.hid (Blk.new w2 48 wZero)
    clear hb2 hel
    gi_wp2_with (refine wpListIn_store_blk rfl 48 (.tmp 7) (.tmp 15) rfl w2.heap.size (oC q.p.b (.slice ao q.ops.length co) (.slice ag q.gone.length cg) XC.zero 0 0 0) rfl rfl 48 wZero HZ.out (oC_wZero ..) (Tryd.sizeOC ..) (oC_one ..) ?_)
    refine Lib.hid ?_
    intro w3 hz3 ho3
    have n3 := store_new ho3
    have HB3 := Lib.hid (HB2.out.trans (n3.mono HB2.out.size))
    have HO3 := Lib.hid hz3
    have HEL3 := Lib.hid (show SEat w3 (w.heap.size + 7) _ from by
      have ko : ∀ {e : TypeId} {sz : Nat} {v : Value} {n : Nat} {xs : List Value}, w2.ownsRow (w.heap.size + 7) e sz v n xs → w3.ownsRow (w.heap.size + 7) e sz v n xs := fun {e sz v n xs} h => by
        refine ⟨h.1, ?_⟩
        rcases h.2 with h2 | ⟨g, cap, cur, hv, hB, hg, r⟩
        · exact .inl h2
        · exact .inr ⟨g, cap, cur, hv, hB, (n3.block g (Array.getElem?_eq_some_iff.1 hg).1).trans hg, r⟩
      exact ⟨ko HEL.out.1, ko HEL.out.2⟩)
    have HI3 := Lib.hid (HI.out.below HB3.out)
    have k15 := (HE.out.below HI3.out.bel).lerr.none
    clear hz3 ho3 n3 HZ HB2 HEL HI
    gi_wp2_with fail
    refine ⟨trivial, ?_⟩
    refine (CallsIn.inRound l (callsIn_wide.2 (HIS.out _ (HE.out.below HI3.out.bel)))).mono ?_
    rintro e w4 ⟨rfl, rfl⟩
    have HKO := Lib.hid (keeps_of_below HB3.out)
    have HK3 := Lib.hid (show Kept3 (w.heap.size + 5) (w.heap.size + 4) (w.heap.size + 6) W w4 from ⟨HB3.out.block _ (by have := HTP.out; omega), HB3.out.block _ (by have := HTP.out; omega), HB3.out.block _ (by have := HTP.out; omega)⟩)
    by_cases h16 : n = 16
    · have d16 : decide (n = 16) = true := decide_eq_true h16
      have HS := Lib.hid (HS16.out h16)
      clear h16 HS16 HGO HBD HIS HPO HKL
      gi_wp2_with fail
      refine ⟨HKO.out.from _, HK3.out, ?_⟩
      obtain ⟨x1, x2, x3, x4, x5, es, v, s1, s2, s3, s4⟩ := HI3.out
      exact ⟨x1, x2, x3, x4, x5, es, v, s1, s2, s3, by rw [s4, HS.out]⟩
    have d16 : decide (n = 16) = false := decide_eq_false h16
    rw [d16]
    clear d16
    by_cases h0 : n = 0
    · subst h0
      have HS := Lib.hid (HGO.out rfl)
      clear h16 HS16 HGO HBD HIS HPO HKL
      simp only [errOf_zero]
      obtain ⟨es, v, s1, s2, s3, s4⟩ := HI3.out.st
      have y1 := s1.cell
      have y2 := s1.frozen
      have S1 := Lib.hid s1
      have S2 := Lib.hid s2
      have S3 := Lib.hid s3
      have S4 := Lib.hid s4
      clear s1 s2 s3 s4
      gi_wp2_with (refine wpListIn_load_blk rfl 48 (.tmp 7) rfl w2.heap.size rfl 48 (oC q.p.b (.slice ao q.ops.length co) (.slice ag q.gone.length cg) XC.zero 0 0 0) HO3.out _ Tryd.underlying48 rfl (Tryd.sizeOC ..) ?_)
      refine Lib.hid ?_
      have hln : es.length ≤ 1000001 := by
        have h1 := (scriptR_lt (linesB text)).2
        have h2 := congrArg (fun q : List PL × Nat => q.1.length) S4.out
        have h3 := (linesB_len text).1
        simp only [List.length_append, List.length_map] at h2
        omega
      obtain ⟨i1, hj, hy0, hy1, hy2⟩ := info_parts Tryd.infoWOp
      refine wpListIn_value rfl (by kernel_rfl) (by intro c hc; cases hc) (.slice (some ⟨w4.heap.size, 0, none⟩) 1 1) (w4.alloc (.cells (oC q.p.b (.slice ao q.ops.length co) (.slice ag q.gone.length cg) XC.zero 0 0 0) 48)) (by kernel_rfl) ?_
      dsimp only [Act.put]
      simp only [List.setIfInBounds_toArray, List.set_cons_succ, List.set_cons_zero]
      refine wpListIn_append_own _ rfl _ _ 61 rfl (w.heap.size + 7) 48 i1 (.agg wZero) 24 288 Tryd.underlying61 hj hy0 hy1 hy2 (by rfl) (by omega) v es.length (es.flatMap SE.cells) rfl (S2.out.alloc _) ⟨w4.heap.size, 0, none⟩ 1 1 (SE.cells ⟨q, .slice ao q.ops.length co, .slice ag q.gone.length cg⟩) rfl rfl (new_cells _ _ _) ?_ (by unfold maxLen; omega) (by omega) (by have := HI3.out.top; simp; omega) ?_
      · intro u hu
        have := oC_one q.p.b ao ag q.ops.length q.gone.length co cg XC.zero 0 0 0
        rw [Array.all_eq_true_iff_forall_mem] at this
        exact this u (by simpa [SE.cells] using hu)
      intro v' w5 hown hgr hnil
      obtain ⟨ax, cx, rfl, -⟩ := own_row_of hown
      have z5 := ((S1.out.alloc _).kept hgr (fun e => by have := (S2.out.lt _ e.symm).1; omega)).cell
      have f5 := ((S1.out.alloc _).kept hgr (fun e => by have := (S2.out.lt _ e.symm).1; omega)).frozen
      have HG := Lib.hid hgr
      have HV := Lib.hid hown
      clear hgr hown hnil hln hj hy0 hy1 hy2 y1 y2
      dsimp only [Act.put]
      simp only [List.setIfInBounds_toArray, List.set_cons_succ, List.set_cons_zero]
      gi_wp2_with fail
      refine ⟨?_, ?_, ?_⟩
      · exact (((HKO.out.trans (keeps_of_below ((Below.refl _ w4).alloc (Nat.le_refl _) _))).trans (KeepsOthers.of_grownBy HG.out (own_isCells' (S2.out.alloc _)))).trans (KeepsOthers.setCell w5 _ _)).from _
      · have hb : ∀ b, w.heap.size + 4 ≤ b → b < w.heap.size + 7 → (w5.setCell ⟨w.heap.size + 3, 0, none⟩ (.slice ax (es.length + 1) cx)).heap[b]? = w4.heap[b]? := fun b h1 h2 => by
          have h3 := HI3.out.top
          rw [Below.heap_setCell w5 _ _ b (by show b ≠ w.heap.size + 3; omega), HG.out.block b (by simp; omega) (fun e => by have := (S2.out.lt _ e.symm).1; omega), Below.heap_alloc w4 _ b (by omega)]
        exact HK3.out.trans ⟨hb _ (by omega) (by omega), hb _ (by omega) (by omega), hb _ (by omega) (by omega)⟩
      · exact SI.good HI3.out S1.out S2.out S3.out S4.out HEL3.out HS.out HG.out HV.out
    · obtain ⟨m, rfl⟩ : ∃ m, n = m + 1 := ⟨n - 1, by omega⟩
      have HS := Lib.hid (HBD.out h16 h0)
      clear h16 h0 HS16 HGO HBD HIS HPO HKL
      simp only [errOf_succ]
      obtain ⟨es, v, s1, s2, s3, s4⟩ := HI3.out.st
      obtain ⟨av, cv, rfl, -⟩ := own_row_of s2
      have y1 := s1.cell
      have y2 := s1.frozen
      have S1 := Lib.hid s1
      have S2 := Lib.hid s2
      have S3 := Lib.hid s3
      have S4 := Lib.hid s4
      have z0 := HI3.out.r0.cell
      have z1 := HI3.out.r1.cell
      have z2 := HI3.out.r2.cell
      have f0 := HI3.out.r0.frozen
      have f1 := HI3.out.r1.frozen
      have f2 := HI3.out.r2.frozen
      clear s1 s2 s3 s4
      have HR := Lib.hid (SX.of HI3.out S2.out S3.out S4.out HS.out (k + 1))
      have HKF := Lib.hid (((((HKO.out.trans (KeepsOthers.setCell w4 ⟨w.heap.size, 0, none⟩ (.slice av es.length cv))).trans (KeepsOthers.setCell _ ⟨w.heap.size + 1, 0, none⟩ (.int .i64 (es.length : Nat)))).trans (KeepsOthers.setCell _ ⟨w.heap.size + 2, 0, none⟩ (errOf ea (m + 1)))).trans (keeps_of_below (below_drewN (Below.refl _ _) 1))).from W0.heap.size)
      gi_wp2_with fail
      have hmx : Tryd.prog.follows .mixedOrders = true := by kernel_rfl
      gi_region_with_o (fail)
      all_goals gi_wp2_with fail
      all_goals exact ⟨HKF.out, SX.kept HR.out (grown_drew' _ none) (fun r e => by cases e)⟩
  case done =>
    intro D W hD hI hK
    obtain ⟨es, v, s1, s2, s3, s4⟩ := hI.st
    obtain ⟨av, cv, rfl, -⟩ := own_row_of s2
    have hs : scriptR ((linesB text).drop (linesB text).length) = ([], 0) := by rw [List.drop_length]; rfl
    have hD7 : w.heap.size + 7 ≤ D := by omega
    have hx : SX w ea (linesB text) 0 (((W.setCell ⟨w.heap.size, 0, none⟩ (.slice av es.length cv)).setCell ⟨w.heap.size + 1, 0, none⟩ (.int .i64 (es.length : Nat))).setCell ⟨w.heap.size + 2, 0, none⟩ .nilIface).drew := (SX.of hI s2 s3 s4 hs 0).kept (grown_drew' _ none) (fun r e => by cases e)
    have HX := Lib.hid (SX.fin hx hD7 (setCell_other (setCell_other (setCell_other hK (by omega)) (by omega)) (by omega)))
    clear hx
    have y1 := s1.cell
    have y2 := s1.frozen
    have z0 := hI.r0.cell
    have z1 := hI.r1.cell
    have z2 := hI.r2.cell
    have f0 := hI.r0.frozen
    have f1 := hI.r1.frozen
    have f2 := hI.r2.frozen
    have HK := Lib.hid (show (((W.setCell ⟨w.heap.size, 0, none⟩ (.slice av es.length cv)).setCell ⟨w.heap.size + 1, 0, none⟩ (.int .i64 (es.length : Nat))).setCell ⟨w.heap.size + 2, 0, none⟩ .nilIface).drew.heap[D]? = some (.deferred (some [])) from setCell_other (setCell_other (setCell_other hK (by omega)) (by omega)) (by omega))
    clear hs s1 s2 s3 s4 hI hK hD hD7
    gi_wp2_with fail
    have hmx : Tryd.prog.follows .mixedOrders = true := by kernel_rfl
    gi_region_with_o (fail)
    all_goals gi_wp2_with fail
    all_goals
      obtain ⟨es', v', c1, c2, c3, c4⟩ := HX.out
      refine ⟨by simp, .inl ⟨_, _, rfl, run_takeDeferred HK.out, .tuple #[v', .int .i64 (es'.length : Nat), errOf ea (scriptR (linesB text)).2], ?_, es', v', rfl, c4⟩⟩
      simp [results, Tryd.f24, go_sem, c1, c2, c3]
  case stop =>
    intro D k W hD hk hX hK
    have HX := Lib.hid (SX.fin hX (by omega) hK)
    have HK := Lib.hid hK
    clear hX hK
    gi_wp2
    obtain ⟨es', v', c1, c2, c3, c4⟩ := HX.out
    refine ⟨by simp, .inl ⟨_, _, rfl, run_takeDeferred HK.out, .tuple #[v', .int .i64 (es'.length : Nat), errOf ea (scriptR (linesB text)).2], ?_, es', v', rfl, c4⟩⟩
    simp [results, Tryd.f24, go_sem, c1, c2, c3]

/-- lines.Script of any text. -/
theorem script_any (ea : Nat → Addr) (text : ByteArray) (w : World) (hm : text.size ≤ 1000000) (he : ErrsAt w ea) :
    Calls Tryd.prog 24 #[.string text] w fun e w' => ∃ (es : List SE) (v : Value), e = .returned (.tuple #[v, .int .i64 (es.length : Nat), errOf ea (scriptR (linesB text)).2]) ∧ es.map SE.l = (scriptR (linesB text)).1 ∧
      w'.ownsRow w.heap.size 48 24 v es.length (es.flatMap SE.cells) ∧ (∀ e ∈ es, SEat w' w.heap.size e) ∧ Below w.heap.size w w' :=
  callsIn_wide.1 (script_in ea text w hm he)
end Go.Proofs.YtjhmehmmpfnnkaaDoor

namespace Go.Proofs.YtjhmehmmpfnnkaaDoor
open Go.RowKit Utf
set_option maxRecDepth 100000
set_option linter.unusedSimpArgs false
set_option linter.unusedVariables false

theorem splitL_nl : ∀ (x r : List UInt8), (∀ b ∈ x, b ≠ 10) → splitL (x ++ 10 :: r) = x :: splitL r
  | [], r, _ => by simp [splitL]
  | b :: x, r, h => by
    have hb := h b (by simp)
    have ih := splitL_nl x r (fun c hc => h c (List.mem_cons_of_mem _ hc))
    simp only [List.cons_append, splitL, if_neg hb, ih]
theorem splitL_end : ∀ (x : List UInt8), (∀ b ∈ x, b ≠ 10) → splitL x = [x]
  | [], _ => rfl
  | b :: x, h => by
    simp only [splitL, if_neg (h b (by simp)), splitL_end x (fun c hc => h c (List.mem_cons_of_mem _ hc))]
theorem ext_list (s : ByteArray) (a b : Nat) : (s.extract a b).data.toList = (s.data.toList.drop a).take (b - a) := by
  rw [ByteArray.data_extract, Array.toList_extract, List.extract_eq_take_drop]
/-- The lines told so far, where the open one begins, where the reader stands. -/
structure LnI (s : ByteArray) (out : List ByteArray) (last i : Nat) : Prop where
  le : last ≤ i
  len : out.length ≤ last
  sp : linesB s = out ++ (splitL (s.data.toList.drop last)).map fun l => ⟨l.toArray⟩
  no : ∀ b ∈ (s.data.toList.drop last).take (i - last), b ≠ 10
theorem LnI.start (s : ByteArray) : LnI s [] 0 0 := ⟨Nat.le_refl _, Nat.le_refl _, rfl, fun b hb => by simp at hb⟩
theorem take_next {α : Type} {l : List α} {a i : Nat} (ha : a ≤ i) (hi : i < l.length) : (l.drop a).take (i + 1 - a) = (l.drop a).take (i - a) ++ [l[i]] := by
  have h : (l.drop a)[i - a]? = some l[i] := by
    rw [List.getElem?_drop, show a + (i - a) = i by omega, List.getElem?_eq_getElem hi]
  rw [show i + 1 - a = (i - a) + 1 by omega, List.take_add_one, h]
  rfl
theorem LnI.go {s : ByteArray} {out : List ByteArray} {last i : Nat} (h : LnI s out last i) (hi : i < s.size) (hb : s.data.toList[i]'(by rw [← Lib.size_eq]; exact hi) ≠ 10) : LnI s out last (i + 1) :=
  ⟨Nat.le_succ_of_le h.le, h.len, h.sp, fun b hm => by
    rw [take_next h.le (by rw [← Lib.size_eq]; exact hi)] at hm
    rcases List.mem_append.1 hm with hm | hm
    · exact h.no b hm
    · rw [List.mem_singleton] at hm; subst hm; exact hb⟩
theorem LnI.nl {s : ByteArray} {out : List ByteArray} {last i : Nat} (h : LnI s out last i) (hi : i < s.size) (hb : s.data.toList[i]'(by rw [← Lib.size_eq]; exact hi) = 10) : LnI s (out ++ [s.extract last i]) (i + 1) (i + 1) := by
  have hl : i < s.data.toList.length := by rw [← Lib.size_eq]; exact hi
  refine ⟨Nat.le_refl _, by have := h.len; have := h.le; rw [List.length_append, List.length_singleton]; omega, ?_, fun b hm => by simp at hm⟩
  have e1 : s.data.toList.drop last = (s.data.toList.drop last).take (i - last) ++ 10 :: s.data.toList.drop (i + 1) := by
    have e2 := List.take_append_drop (i - last) (s.data.toList.drop last)
    rw [List.drop_drop, show last + (i - last) = i by have := h.le; omega, List.drop_eq_getElem_cons hl, hb] at e2
    exact e2.symm
  rw [h.sp, e1, splitL_nl _ _ h.no, List.map_cons, List.append_assoc, List.singleton_append]
  congr 2
  apply str_ext
  rw [ext_list]
theorem LnI.done {s : ByteArray} {out : List ByteArray} {last : Nat} (h : LnI s out last s.size) : linesB s = out ++ [s.extract last s.size] := by
  have e1 : (s.data.toList.drop last).take (s.size - last) = s.data.toList.drop last := List.take_of_length_le (by rw [List.length_drop, ← Lib.size_eq]; exact Nat.le_refl _)
  rw [h.sp, splitL_end _ (by rw [← e1]; exact h.no)]
  congr 2
  rw [List.map_cons, List.map_nil]
  congr 1
  apply str_ext
  rw [ext_list, e1]

set_option maxHeartbeats 4000000 in
theorem refLines_any (s : ByteArray) (w : World) (hm : s.size ≤ 1000000) :
    Calls Tryd.prog 25 #[.string s] w fun e w' => ∃ v, e = .returned v ∧ OwnE w' w.heap.size 9 1 v (linesB s).length (strRow (linesB s)) ∧ Below w.heap.size w w' := by
  obtain ⟨i1, hinf, hy0, hy1, hy2⟩ := info_parts Tryd.infoString
  go_enter Tryd.func25, Tryd.ntmps25
  go_wp2_with fail
  go_loopw [3, 4, 9] (fun vo vl vi wr => ∃ (i last : Nat) (out : List ByteArray), vi = .int .i64 i ∧ vl = .int .i64 last ∧ i ≤ s.size ∧ last ≤ i ∧ Hid (LnI s out last i) ∧ Below w.heap.size w wr ∧ OwnE wr w.heap.size 9 1 vo out.length (strRow out)) (fun _ _ vi _ => s.size - (intOf vi).toNat)
  case atStart => exact ⟨0, 0, [], rfl, rfl, Nat.zero_le _, Nat.le_refl _, LnI.start s, (Below.refl _ _).alloc (Nat.le_refl _) _, .new⟩
  case round =>
    obtain ⟨i, last, out, rfl, rfl, hil, hli, HL, hbel, hout⟩ := hrel
    have HB := Lib.hid hbel
    have HO := Lib.hid hout
    have HS := Lib.hid hbel.size
    have HLE := Lib.hid HL.out.len
    obtain ⟨ao, cap, rfl, -⟩ := hout.row
    clear hbel hout
    by_cases hlt : i < s.size
    · have hltd : decide (i < s.size) = true := decide_eq_true hlt
      have hlt2 : decide ((i : Int) < (s.size : Int)) = true := decide_eq_true (by omega)
      by_cases h10 : s.data.toList[i]'(by rw [← Lib.size_eq]; exact hlt) = 10
      · have HN := Lib.hid (HL.out.nl hlt h10)
        have e10 : (((s[i]).toNat : Int) == 10) = true := by rw [show s[i] = 10 from h10]; rfl
        clear h10
        go_wp2_with (at_builtin; refine appE rfl _ _ 22 rfl 9 i1 (.string ByteArray.empty) 1 16 Tryd.underlying22 hinf hy0 hy1 hy2 rfl (by omega) w.heap.size _ _ _ rfl HO.out w.heap.size (Nat.le_refl _) HB.out HS.out [.string (s.extract last i)] 1 rfl (by omega) (by intro u hu; simp at hu; subst hu; rfl) rfl (by have := HLE.out; omega) (by omega) ?_)
        refine Lib.hid ?_
        intro v6 w6 hown6 hb6 hg6
        have HO6 := Lib.hid hown6
        have HB6 := Lib.hid hb6
        clear hown6 hb6 hg6
        go_wp2_with fail
        go_roundw
        case rel => exact ⟨i + 1, i + 1, out ++ [s.extract last i], by go_num, by go_num, by omega, Nat.le_refl _, HN.out, HB6.out, by (have := HO6.out; rw [strRow_snoc] at this; rw [List.length_append]; exact .inr this)⟩
        case measure => simp [intOf]; omega
      · have HN := Lib.hid (HL.out.go hlt h10)
        have e10 : (((s[i]).toNat : Int) == 10) = false := by
          have h11 : ¬ s[i].toNat = 10 := fun e => h10 (UInt8.toNat_inj.1 e)
          simp; omega
        clear h10
        go_wp2_with fail
        go_roundw
        case rel => exact ⟨i + 1, last, out, by go_num, rfl, by omega, by omega, HN.out, HB.out, HO.out⟩
        case measure => simp [intOf]; omega
    · have hltd : decide (i < s.size) = false := decide_eq_false hlt
      have hlt2 : decide ((i : Int) < (s.size : Int)) = false := decide_eq_false (by omega)
      obtain rfl : i = s.size := by omega
      have HN := Lib.hid HL.out.done
      go_wp2_with (at_builtin; refine appE rfl _ _ 22 rfl 9 i1 (.string ByteArray.empty) 1 16 Tryd.underlying22 hinf hy0 hy1 hy2 rfl (by omega) w.heap.size _ _ _ rfl HO.out w.heap.size (Nat.le_refl _) HB.out HS.out [.string (s.extract last s.size)] 1 rfl (by omega) (by intro u hu; simp at hu; subst hu; rfl) rfl (by have := HLE.out; omega) (by omega) ?_)
      refine Lib.hid ?_
      intro v6 w6 hown6 hb6 hg6
      have HO6 := Lib.hid hown6
      have HB6 := Lib.hid hb6
      clear hown6 hb6 hg6
      go_wp2_with fail
      go_ret
      exact ⟨_, rfl, by (rw [HN.out]; have := HO6.out; rw [strRow_snoc] at this; rw [List.length_append]; exact .inr this), HB6.out⟩
end Go.Proofs.YtjhmehmmpfnnkaaDoor
