/-
  What the law LinesScript keeps while it compares: the program's ops, the reference's ops, the lines.
  The walk of the law LinesScript.
-/
import Derived.Test.YtjhmehmmpfnnkaaDoorM29
import Derived.Test.YtjhmehmmpfnnkaaDoorM30
namespace Go.Proofs.YtjhmehmmpfnnkaaDoor
open Go.RowKit Utf
set_option maxRecDepth 100000
set_option linter.unusedSimpArgs false
set_option linter.unusedVariables false

/-- tidewaterref31.Parse of any text, its lists owned. -/
theorem refParse_own (s : ByteArray) (w : World) (hs : s.size ≤ 100000) :
    Calls Tryd.prog 18 #[.string s] w fun e w' => ∃ ao ag co cg, e = .returned (.tuple #[.agg (qC (plOf (parseR s)).p.b (.slice ao (plOf (parseR s)).ops.length co) (.slice ag (plOf (parseR s)).gone.length cg) XC.zero), .int .i64 ((parseR s).1 : Nat)]) ∧
      SEat w' w.heap.size ⟨plOf (parseR s), .slice ao (plOf (parseR s)).ops.length co, .slice ag (plOf (parseR s)).gone.length cg⟩ ∧ Below w.heap.size w w' := by
  refine (refParse_all s w hs).mono fun e w' ⟨hb, h⟩ => ?_
  rcases h with ⟨m, hq, rfl⟩ | ⟨l, vo, vg, hq, rfl, ho, hg⟩
  · rw [hq]
    refine ⟨none, none, 0, 0, ?_, ⟨World.ownsRow_nil _ _ _ _, World.ownsRow_nil _ _ _ _⟩, hb⟩
    rw [rZero_eq, rCells_qC]
    rfl
  · rw [hq]
    obtain ⟨ao, co, rfl, h1⟩ := own_row_of ho
    obtain ⟨ag, cg, rfl, h2⟩ := own_row_of hg
    refine ⟨ao, ag, co, cg, ?_, ⟨ho, hg⟩, hb⟩
    rw [rCells_qC]
    rfl

def SE.rcells (e : SE) : List Value := (qC e.l.p.b e.vo e.vg XC.zero).toList
theorem SE.cells_len (e : SE) : e.cells.length = 24 := rfl
theorem SE.rcells_len (e : SE) : e.rcells.length = 21 := rfl
/-- An op's own lists, or empty ones. -/
def EAt (W : World) (B : Nat) (e : SE) : Prop := OwnE W B 103 5 e.vo e.l.ops.length (e.l.ops.flatMap opCells) ∧ OwnE W B 3 1 e.vg e.l.gone.length (intRow e.l.gone)
theorem SEat.e {W : World} {B : Nat} {e : SE} (h : SEat W B e) : EAt W B e := ⟨.inr h.1, .inr h.2⟩
theorem ownE_row {w : World} {B sz : Nat} {e : TypeId} {v : Value} {n : Nat} {xs : List Value} (h : OwnE w B e sz v n xs) : ∃ ao cap, v = .slice ao n cap ∧ RowAt w ao xs := by
  rcases h with ⟨h, rfl, rfl⟩ | h
  · rcases h with rfl | ⟨g, rfl⟩
    · exact ⟨none, 0, rfl, fun i hi => by cases hi⟩
    · exact ⟨some ⟨g, 0, none⟩, 0, rfl, fun i hi => by cases hi⟩
  · exact own_row_of h
theorem flat_at {α : Type} (f : α → List Value) (n : Nat) (hf : ∀ a, (f a).length = n) : ∀ (l : List α) (k j : Nat) (hk : k < l.length), j < n → (l.flatMap f)[k * n + j]? = (f l[k])[j]?
  | [], k, j, hk, _ => by cases hk
  | a :: l, 0, j, _, hj => by
    rw [List.flatMap_cons, Nat.zero_mul, Nat.zero_add, List.getElem?_append_left (by rw [hf]; exact hj)]
    rfl
  | a :: l, k + 1, j, hk, hj => by
    rw [List.flatMap_cons, List.getElem?_append_right (by rw [hf, Nat.succ_mul]; omega), hf, show (k + 1) * n + j - n = k * n + j by rw [Nat.succ_mul]; omega, flat_at f n hf l k j (by simpa using hk) hj]
    rfl
theorem flat_len {α : Type} (f : α → List Value) (n : Nat) (hf : ∀ a, (f a).length = n) : ∀ l : List α, (l.flatMap f).length = l.length * n
  | [] => by simp
  | a :: l => by rw [List.flatMap_cons, List.length_append, hf, flat_len f n hf l, List.length_cons, Nat.succ_mul, Nat.add_comm]
/-- A list's k-th op: its cells. -/
theorem row_flat {α : Type} (f : α → List Value) (n : Nat) (hn : 0 < n) (hf : ∀ a, (f a).length = n) {W : World} {ao : Option Addr} {l : List α} (h : RowAt W ao (l.flatMap f)) (k : Nat) (hk : k < l.length) :
    ∃ b o, ao = some ⟨b, o, none⟩ ∧ ∀ j, j < n → W.cell? ⟨b, o + k * n + j, none⟩ = (f l[k])[j]? := by
  have hlen := flat_len f n hf l
  have hlt : ∀ j, j < n → k * n + j < (l.flatMap f).length := fun j hj => by
    rw [hlen]
    have : (k + 1) * n ≤ l.length * n := Nat.mul_le_mul_right _ hk
    rw [Nat.succ_mul] at this
    omega
  obtain ⟨b, o, rfl, h0⟩ := h (k * n + 0) (hlt 0 hn)
  refine ⟨b, o, rfl, fun j hj => ?_⟩
  obtain ⟨b', o', e, hc⟩ := h (k * n + j) (hlt j hj)
  cases e
  rw [Nat.add_assoc, hc, ← flat_at f n hf l k j hk hj, List.getElem?_eq_getElem (hlt j hj)]

/-! ### What is kept -/
structure LS (w : World) (L : List ByteArray) (es : List SE) (v lv : Value) (k : Nat) (fs : List SE) (u : Value) (W : World) : Prop where
  bel : Below w.heap.size w W
  l : OwnE W w.heap.size 48 24 v es.length (es.flatMap SE.cells)
  le : ∀ e ∈ es, EAt W w.heap.size e
  ln : OwnE W w.heap.size 9 1 lv L.length (strRow L)
  u : OwnE W w.heap.size 52 21 u fs.length (fs.flatMap SE.rcells)
  ue : ∀ e ∈ fs, EAt W w.heap.size e
  hl : es.map SE.l = (scriptR L).1
  hu : scriptR L = (fs.map SE.l ++ (scriptR (L.drop k)).1, (scriptR (L.drop k)).2)
section
variable {w W W' : World} {L : List ByteArray} {es fs : List SE} {v lv u u' : Value} {k : Nat} {f : SE}
theorem EAt.below {B : Nat} {e : SE} (h : EAt W B e) (hb : Below W.heap.size W W') : EAt W' B e := ⟨h.1.below hb, h.2.below hb⟩
theorem LS.below (h : LS w L es v lv k fs u W) (hb : Below W.heap.size W W') : LS w L es v lv k fs u W' :=
  ⟨h.bel.trans (hb.mono h.bel.size), h.l.below hb, fun e he => (h.le e he).below hb, h.ln.below hb, h.u.below hb, fun e he => (h.ue e he).below hb, h.hl, h.hu⟩
theorem LS.draw (h : LS w L es v lv k fs u W) : LS w L es v lv k fs u W.drew := h.below (below_drewN (Below.refl _ W) 1)
theorem LS.len (h : LS w L es v lv k fs u W) : es.length ≤ L.length ∧ fs.length ≤ L.length := by
  have h1 := (scriptR_lt L).2
  have h2 := congrArg List.length h.hl
  have h3 := congrArg (fun q : List PL × Nat => q.1.length) h.hu
  simp only [List.length_map, List.length_append] at h2 h3
  omega
theorem LS.skip (h : LS w L es v lv k fs u W) {s : ByteArray} (hs : L[k]? = some s) (h16 : (parseR s).1 = 16) : LS w L es v lv (k + 1) fs u W :=
  ⟨h.bel, h.l, h.le, h.ln, h.u, h.ue, h.hl, by rw [← script_skip hs h16]; exact h.hu⟩
/-- The reference's ops once the lines are at their end, or one isn't right. -/
theorem LS.fin (h : LS w L es v lv k fs u W) {n : Nat} (hs : scriptR (L.drop k) = ([], n)) : fs.map SE.l = es.map SE.l ∧ (scriptR L).2 = n := by
  have e := h.hu
  rw [hs, List.append_nil] at e
  rw [h.hl, e]
  exact ⟨rfl, rfl⟩
theorem LS.app {o : Obj} (h : LS w L es v lv k fs u W) (hf : EAt W w.heap.size f) {s : ByteArray} (hs : L[k]? = some s) (h0 : (parseR s).1 = 0) (hfl : f.l = plOf (parseR s))
    (hb : Below w.heap.size w W') (hg : (W.alloc o).grownBy W' (ownB u)) (hu' : W'.ownsRow w.heap.size 52 21 u' (fs.length + 1) (fs.flatMap SE.rcells ++ f.rcells)) : LS w L es v lv (k + 1) (fs ++ [f]) u' W' := by
  have ea : ∀ e : SE, EAt W w.heap.size e → EAt W' w.heap.size e := fun e he => ⟨(he.1.alloc o).other (h.u.alloc o) (by decide) hg, (he.2.alloc o).other (h.u.alloc o) (by decide) hg⟩
  refine ⟨hb, (h.l.alloc o).other (h.u.alloc o) (by decide) hg, fun e he => ea e (h.le e he), (h.ln.alloc o).other (h.u.alloc o) (by decide) hg, ?_, ?_, h.hl, ?_⟩
  · rw [List.length_append, List.length_singleton, List.flatMap_append, List.flatMap_singleton]
    exact .inr hu'
  · intro e he
    rcases List.mem_append.1 he with he | he
    · exact ea e (h.ue e he)
    · rw [List.mem_singleton] at he; subst he; exact ea _ hf
  · have e := h.hu
    rw [script_good hs h0] at e
    rw [e, List.map_append, List.append_assoc, ← hfl]
    rfl
end
/-! ### Two ops side by side -/
theorem scriptR_mem : ∀ (L : List ByteArray) (p : PL), p ∈ (scriptR L).1 → ∃ x ∈ L, p = plOf (parseR x)
  | [], p, h => by cases h
  | s :: r, p, h => by
    simp only [scriptR] at h
    split at h
    · obtain ⟨x, h1, h2⟩ := scriptR_mem r p h
      exact ⟨x, List.mem_cons_of_mem _ h1, h2⟩
    · split at h
      · rcases List.mem_cons.1 h with h | h
        · exact ⟨s, List.mem_cons_self .., h⟩
        · obtain ⟨x, h1, h2⟩ := scriptR_mem r p h
          exact ⟨x, List.mem_cons_of_mem _ h1, h2⟩
      · cases h
structure RS (w : World) (b o b' o' : Nat) (ocs qcs : List Value) (ao ag bo bg : Option Addr) (os gs : List Value) (W : World) : Prop where
  bel : Below w.heap.size w W
  c1 : RowAt W (some ⟨b, o, none⟩) ocs
  c2 : RowAt W (some ⟨b', o', none⟩) qcs
  ra : RowAt W ao os
  rg : RowAt W ag gs
  sa : RowAt W bo os
  sg : RowAt W bg gs
theorem RS.below {w W W' : World} {b o b' o' : Nat} {ocs qcs : List Value} {ao ag bo bg : Option Addr} {os gs : List Value} (h : RS w b o b' o' ocs qcs ao ag bo bg os gs W) (hb : Below W.heap.size W W') : RS w b o b' o' ocs qcs ao ag bo bg os gs W' :=
  ⟨h.bel.trans (hb.mono h.bel.size), h.c1.below hb, h.c2.below hb, h.ra.below hb, h.rg.below hb, h.sa.below hb, h.sg.below hb⟩
theorem RowAt.range {W : World} {b o : Nat} {cs : List Value} (h : RowAt W (some ⟨b, o, none⟩) cs) : W.rangeAt b o cs := fun j v hj => by
  obtain ⟨hj', rfl⟩ := List.getElem?_eq_some_iff.1 hj
  obtain ⟨b', o', e, hc⟩ := h j hj'
  cases e
  exact hc
theorem RowAt.of {W : World} {b o n : Nat} {cs : List Value} (hl : cs.length = n) (h : ∀ j, j < n → W.cell? ⟨b, o + j, none⟩ = cs[j]?) : RowAt W (some ⟨b, o, none⟩) cs := fun i hi =>
  ⟨b, o, rfl, (h i (by omega)).trans (List.getElem?_eq_getElem hi)⟩
theorem LS.pair {w W : World} {L : List ByteArray} {es fs : List SE} {al au : Option Addr} {ne cl nf cu k : Nat} {lv : Value} (h : LS w L es (.slice al ne cl) lv k fs (.slice au nf cu) W) (hf : fs.map SE.l = es.map SE.l) (hb : ∀ x ∈ L, x.size ≤ 1000) (j : Nat) (hj : j < es.length) :
    ∃ (l : PL) (ao ag bo bg : Option Addr) (co cg do_ dg b o b' o' : Nat), al = some ⟨b, o, none⟩ ∧ au = some ⟨b', o', none⟩ ∧ l.ops.length ≤ 1000000 ∧ l.gone.length ≤ 1000000 ∧
      RS w b (o + j * 24) b' (o' + j * 21) (oC l.p.b (.slice ao l.ops.length co) (.slice ag l.gone.length cg) XC.zero 0 0 0).toList (qC l.p.b (.slice bo l.ops.length do_) (.slice bg l.gone.length dg) XC.zero).toList ao ag bo bg (l.ops.flatMap opCells) (zRow l.gone) W := by
  have hl : fs.length = es.length := by simpa using congrArg List.length hf
  have hj' : j < fs.length := by omega
  have hel : fs[j].l = es[j].l := by
    have := congrArg (fun q => q[j]?) hf
    simpa [hj, hj'] using this
  have hm : es[j].l ∈ (scriptR L).1 := by rw [← h.hl]; exact List.mem_map_of_mem (List.getElem_mem hj)
  obtain ⟨x, hx, hxe⟩ := scriptR_mem L _ hm
  have hLB := (short_line (hb x hx)).1
  rw [← hxe] at hLB
  obtain ⟨al', cl', e1, hr1⟩ := ownE_row h.l
  cases e1
  obtain ⟨au', cu', e2, hr2⟩ := ownE_row h.u
  cases e2
  obtain ⟨b, o, rfl, hc1⟩ := row_flat SE.cells 24 (by omega) SE.cells_len hr1 j hj
  obtain ⟨b', o', rfl, hc2⟩ := row_flat SE.rcells 21 (by omega) SE.rcells_len hr2 j hj'
  have e1 := h.le _ (List.getElem_mem hj)
  have e2 := h.ue _ (List.getElem_mem hj')
  generalize es[j] = e at *
  generalize fs[j] = f at *
  obtain ⟨l, vo, vg⟩ := e
  obtain ⟨l', uo, ug⟩ := f
  dsimp only [EAt] at hel e1 e2 hLB
  subst hel
  obtain ⟨ao, co, rfl, ra⟩ := ownE_row e1.1
  obtain ⟨ag, cg, rfl, rg⟩ := ownE_row e1.2
  obtain ⟨bo, do_, rfl, sa⟩ := ownE_row e2.1
  obtain ⟨bg, dg, rfl, sg⟩ := ownE_row e2.2
  exact ⟨l', ao, ag, bo, bg, co, cg, do_, dg, b, o, b', o', rfl, rfl, by have := hLB.lo; omega, by have := hLB.lg; omega, h.bel, RowAt.of rfl hc1, RowAt.of rfl hc2, ra, rg, sa, sg⟩

/-! ### Whole values in a list of operations -/
section
variable {P : Program} {ops : Array Oper} {rest : List Oper} {o : Oper} {a : Act} {w : World} {Q : Exit → Act → World → Prop}
theorem wpList_load_hid (hgd : o.guard = none) (ty : TypeId) (x : Operand) (ho : o.op = .load ty x) (g : Nat) (hx : a.eval x = .pointer (some ⟨g, 0, none⟩)) (t : TypeId) (cs : Array Value) (hB : Blk w g t cs) (d : TypeDesc)
    (hu : P.underlying ty = some d) (hd : (match d with | .struct _ | .array _ _ => true | _ => false) = true) (hi : (P.info? ty).map (·.size) = some cs.size) (h : Hid (wpList P ops Q rest (a.put o.dst (.agg cs)) w)) : wpList P ops Q (o :: rest) a w :=
  wpList_load_row hgd ty x ho g hx t cs (0, 0) d hB hu hd hi h.out
theorem wpList_value (hgd : o.guard = none) (v : Value) (w' : World) (hrun : (execOp a.eval o).run P w = .ok (.value v) w') (h : wpList P ops Q rest (a.put o.dst v) w') : wpList P ops Q (o :: rest) a w := by
  refine wpList_plain hgd fun K hK => ?_
  unfold Oper.wp
  rw [hrun, Oper.upon_value]
  exact hK _ _ h
end
end Go.Proofs.YtjhmehmmpfnnkaaDoor

namespace Go.Proofs.YtjhmehmmpfnnkaaDoor
open Go.RowKit Utf
set_option maxRecDepth 100000
set_option linter.unusedSimpArgs false
set_option linter.unusedVariables false

set_option maxHeartbeats 8000000 in
theorem script_walk (ea : Nat → Addr) (s : ByteArray) (w : World) (hm : s.size ≤ maxLen) (he : ErrsAt w ea) :
    Calls Tryd.prog 7 #[.string s] w fun e w' => e = .returned (.bool true) ∧ Below w.heap.size w w' := by
  have HA := Lib.hid (alive_any ea w he.lerr)
  by_cases h1000 : (1000 : Int) < (s.size : Int)
  · clear he
    unfold maxLen at hm
    go_enter Tryd.func7, Tryd.ntmps7
    go_wp2_with fail
    refine HA.out.mono ?_
    rintro e w1 ⟨rfl, hb1⟩
    go_wp2_with fail
    go_ret
    exact ⟨rfl, hb1⟩
  · have hs : s.size ≤ 1000 := by omega
    have hd : decide ((1000 : Int) < (s.size : Int)) = false := decide_eq_false h1000
    have HE := Lib.hid he
    have HSC := Lib.hid (fun W (h : ErrsAt W ea) => script_any ea s W (by omega) h)
    have HLN := Lib.hid (fun W => refLines_any s W (by omega))
    have hll := linesB_len s
    have HLX := Lib.hid (fun x (hx : x ∈ linesB s) => show x.size ≤ 1000 by have := hll.2 x hx; omega)
    have HLL := Lib.hid (show (linesB s).length ≤ 1001 by omega)
    have HPR := Lib.hid (fun x (hx : x ∈ linesB s) W => refParse_own x W (by have := hll.2 x hx; omega))
    have HN := Lib.hid (fun W h => num_of ea (scriptR (linesB s)).2 W (scriptR_lt _).1 h)
    clear he hll
    generalize linesB s = L at *
    obtain ⟨i1, hinf, hy0, hy1, hy2⟩ := info_parts Tryd.infoROp
    have HINF := Lib.hid (And.intro hinf (And.intro hy0 (And.intro hy1 hy2)))
    clear hinf hy0 hy1 hy2
    unfold maxLen at hm
    go_enter Tryd.func7, Tryd.ntmps7
    go_wp2_with fail
    refine HA.out.mono ?_
    rintro e w1 ⟨rfl, hb1⟩
    have B1 := Lib.hid hb1
    clear hb1
    go_wp2_with fail
    refine (HSC.out _ (HE.out.below B1.out)).mono ?_
    rintro e w2 ⟨es, v, rfl, hl2, ho2, hse2, hb2⟩
    obtain ⟨al, cl, rfl, -⟩ := own_row_of ho2
    have HP2 := Lib.hid (show Below w.heap.size w w2 ∧ es.map SE.l = (scriptR L).1 ∧ OwnE w2 w.heap.size 48 24 (.slice al es.length cl) es.length (es.flatMap SE.cells) ∧ (∀ e ∈ es, EAt w2 w.heap.size e) from
      ⟨B1.out.trans (hb2.mono B1.out.size), hl2, .inr (ownsRow_base ho2 B1.out.size), fun e he => ((hse2 e he).base B1.out.size).e⟩)
    clear hl2 ho2 hse2 hb2 B1
    generalize hnn : (scriptR L).2 = nn at *
    have HNN := Lib.hid hnn
    clear hnn
    go_wp2_with fail
    refine (HLN.out _).mono ?_
    rintro e w3 ⟨lv, rfl, hln, hb3⟩
    obtain ⟨lo, lc, rfl, -⟩ := ownE_row hln
    have HLS := Lib.hid (show LS w L es (.slice al es.length cl) (.slice lo L.length lc) 0 [] (.slice (some ⟨w2.heap.size, 0, none⟩) 0 0) w3 from
      have hb := (HP2.out.1.alloc HP2.out.1.size _).trans (hb3.mono (Nat.le_trans HP2.out.1.size (by simp)))
      ⟨hb, (HP2.out.2.2.1.alloc _).below hb3, fun e he => by
        have h := HP2.out.2.2.2 e he
        exact EAt.below ⟨h.1.alloc _, h.2.alloc _⟩ hb3, hln.base (Nat.le_trans HP2.out.1.size (by simp)), .new, fun e he => (by cases he), HP2.out.2.1, rfl⟩)
    clear hln hb3 HP2
    go_wp2_with fail
    go_loopw [6, 7, 28] (fun vo vf vi wr => ∃ (k : Nat) (fs : List SE), vf = .int .i64 0 ∧ vi = .int .i64 k ∧ k ≤ L.length ∧ Hid (LS w L es (.slice al es.length cl) (.slice lo L.length lc) k fs vo wr)) (fun _ _ vi _ => L.length - (intOf vi).toNat)
    case atStart => exact ⟨0, [], rfl, rfl, Nat.zero_le _, HLS⟩
    case round =>
      clear HLS
      obtain ⟨k, fs, rfl, rfl, hkl, HS⟩ := hrel
      have hl1 := HLL.out
      have hl2 := HS.out.len.1
      obtain ⟨au, cu, rfl, -⟩ := ownE_row HS.out.u
      by_cases hlt : k < L.length
      · have hlt2 : decide ((k : Int) < (L.length : Int)) = true := decide_eq_true (by omega)
        obtain ⟨lo', lc', e, hrow⟩ := ownE_row HS.out.ln
        cases e
        obtain ⟨lb, lof, rfl, hc⟩ := hrow k (by simpa [strRow] using hlt)
        have hc' : wr.cell? ⟨lb, lof + k, none⟩ = some (.string L[k]) := by rw [hc]; simp [strRow]
        have hxk : L[k]? = some L[k] := List.getElem?_eq_getElem hlt
        have hxm : L[k] ∈ L := List.getElem_mem hlt
        clear hc hrow
        generalize L[k] = x at *
        have HXK := Lib.hid hxk
        have HP := Lib.hid (fun W => HPR.out x hxm W)
        have HI0 := Lib.hid (HLX.out x hxm)
        have HGO := Lib.hid (fun h => script_good hxk h)
        have HBD := Lib.hid (fun h h' => script_bad hxk h h')
        have HSK := Lib.hid (fun W fs v (h : LS w L es (.slice al es.length cl) (.slice (some ⟨lb, lof, none⟩) L.length lc) k fs v W) h16 => h.skip hxk h16)
        have HAP := Lib.hid (fun W W' fs v v' f o (h : LS w L es (.slice al es.length cl) (.slice (some ⟨lb, lof, none⟩) L.length lc) k fs v W) hf h0 hfl hb hg hu => h.app (W' := W') (u' := v') (f := f) (o := o) hf hxk h0 hfl hb hg hu)
        clear hxk hxm HPR
        generalize plOf (parseR x) = q at *
        generalize (parseR x).1 = n at *
        go_wp2_with fail
        refine (HP.out _).mono ?_
        rintro e w4 ⟨bo, bg, do_, dg, rfl, hse4, hb4⟩
        have HE4 := Lib.hid ((hse4.base HS.out.bel.size).e)
        have HS4 := Lib.hid (HS.out.below hb4)
        have HZ := Lib.hid (Blk.new w4 52 rZero)
        clear hb4 hse4 HS
        go_wp2_with (refine wpList_store_blk rfl 52 (.tmp 10) (.tmp 35) rfl w4.heap.size (qC q.p.b (.slice bo q.ops.length do_) (.slice bg q.gone.length dg) XC.zero) rfl rfl 52 rZero HZ.out (qC_rZero ..) (Tryd.sizeQC ..) (qC_one ..) ?_)
        refine Lib.hid ?_
        intro w5 hz5 ho5
        have n5 := store_new ho5
        have O5 := Lib.hid hz5
        have HS5 := Lib.hid (HS4.out.below n5)
        have HE5 := Lib.hid (HE4.out.below n5)
        clear hz5 ho5 n5 HZ HS4 HE4
        by_cases h16 : n = 16
        · have e16 : ((n : Int) == 16) = true := by rw [h16]; rfl
          have HR := Lib.hid (HSK.out _ _ _ HS5.out h16)
          clear h16
          go_wp2_with fail
          go_roundw
          case rel => exact ⟨k + 1, fs, rfl, by go_num, by omega, HR⟩
          case measure => simp [intOf]; omega
        have e16 : ((n : Int) == 16) = false := by simp; omega
        by_cases h0 : n = 0
        · have e0 : ((n : Int) != 0) = false := by simp [h0]
          have HAQ := Lib.hid (fun W' v' o hb hg hu => HAP.out _ W' _ _ v' ⟨q, .slice bo q.ops.length do_, .slice bg q.gone.length dg⟩ o HS5.out HE5.out h0 rfl hb hg hu)
          have HLE := Lib.hid HS5.out.len
          have HON := Lib.hid (show ∀ u ∈ SE.rcells ⟨q, .slice bo q.ops.length do_, .slice bg q.gone.length dg⟩, u.oneCell' = true from by
            intro u hu
            have := qC_one q.p.b bo bg q.ops.length q.gone.length do_ dg XC.zero
            rw [Array.all_eq_true_iff_forall_mem] at this
            exact this u (by simpa [SE.rcells] using hu))
          clear h16 h0 HAP HSK HGO HBD
          go_wp2_with (refine wpList_load_hid rfl 52 (.tmp 10) rfl w4.heap.size rfl 52 (qC q.p.b (.slice bo q.ops.length do_) (.slice bg q.gone.length dg) XC.zero) O5.out _ Tryd.underlying52 rfl (Tryd.sizeQC ..) ?_)
          refine Lib.hid ?_
          refine wpList_value rfl (.slice (some ⟨w5.heap.size, 0, none⟩) 1 1) (w5.alloc (.cells (SE.rcells ⟨q, .slice bo q.ops.length do_, .slice bg q.gone.length dg⟩).toArray 52)) (by kernel_rfl) ?_
          dsimp only [Act.put]
          simp only [List.setIfInBounds_toArray, List.set_cons_succ, List.set_cons_zero]
          refine appE rfl _ _ 64 rfl 52 i1 (.agg rZero) 21 264 Tryd.underlying64 HINF.out.1 HINF.out.2.1 HINF.out.2.2.1 HINF.out.2.2.2 rfl (by omega) w.heap.size _ _ _ rfl HS5.out.u w.heap.size (Nat.le_refl _) HS5.out.bel HS5.out.bel.size (SE.rcells ⟨q, .slice bo q.ops.length do_, .slice bg q.gone.length dg⟩) 1 rfl (by omega) HON.out rfl (by have := HLE.out; have := HLL.out; omega) (by omega) (Lib.hid ?_)
          intro v6 w6 hown6 hb6 hg6
          have HR := Lib.hid (HAQ.out _ _ _ hb6 hg6 hown6)
          clear hown6 hb6 hg6 HAQ HON
          dsimp only [Act.put]
          simp only [List.setIfInBounds_toArray, List.set_cons_succ, List.set_cons_zero]
          go_wp2_with fail
          go_roundw
          case rel => exact ⟨k + 1, _, rfl, by go_num, by omega, HR⟩
          case measure => simp [intOf]; omega
        · have e0 : ((n : Int) != 0) = true := by simp; omega
          have HF := Lib.hid (HS5.out.fin (HBD.out h16 h0))
          clear h16 h0
          go_wp2_with fail
          obtain rfl : n = nn := HF.out.2.symm.trans HNN.out
          have hfl : fs.length = es.length := by simpa using congrArg List.length HF.out.1
          rw [hfl] at HS5 ⊢
          clear hfl
          have n1 := i64ne (n : Int)
          have n2 := i64ne (es.length : Int)
          have HPA := Lib.hid (fun W j hj (h : LS w L es (.slice al es.length cl) (.slice (some ⟨lb, lof, none⟩) L.length lc) k fs (.slice au es.length cu) W) => h.pair HF.out.1 HLX.out j hj)
          refine (HN.out _ (HE.out.below HS5.out.bel)).mono ?_
          rintro e w7 ⟨rfl, hb7⟩
          have HS7 := Lib.hid (HS5.out.below hb7)
          clear hb7 HS5
          go_wp2_with fail
          go_loopw [65] (fun vj wz => ∃ j : Nat, vj = .int .i64 j ∧ j ≤ es.length ∧ Hid (LS w L es (.slice al es.length cl) (.slice (some ⟨lb, lof, none⟩) L.length lc) k fs (.slice au es.length cu) wz)) (fun vj _ => es.length - (intOf vj).toNat)
          case atStart => exact ⟨0, rfl, Nat.zero_le _, HS7⟩
          case round =>
            clear HS7
            obtain ⟨j, rfl, hjl, HT⟩ := hrel
            by_cases hj : j < es.length
            · have hj2 : decide ((j : Int) < (es.length : Int)) = true := decide_eq_true (by omega)
              obtain ⟨l, ao, ag, bo', bg', co, cg, do', dg', b1, o1, b2, o2, e1, e2, hlo, hlg, hrs⟩ := HPA.out _ j hj HT.out
              subst e1
              subst e2
              have HRS := Lib.hid hrs
              have HOF := Lib.hid (fun W => Calls.mono (R' := fun e w' => ∃ v, e = .returned v ∧ v = .agg (qC l.p.b (.slice ao l.ops.length co) (.slice ag l.gone.length cg) XC.zero) ∧ Below W.heap.size W w') (of_any l.p.b ao ag l.ops.length l.gone.length co cg XC.zero 0 0 0 W) (fun e w' ⟨h1, h2⟩ => ⟨_, h1, rfl, h2⟩))
              have HSM := Lib.hid (fun W ha hb hc hd => same_b l ao ag bo' bg' co cg do' dg' W hlo hlg ha hb hc hd)
              have hji : (j : Int) < (es.length : Int) := by omega
              clear hrs hlo hlg
              go_wp2_with fail
              refine wp_region_held_drew (S := fun W => LS w L es (.slice (some ⟨b1, o1, none⟩) es.length cl) (.slice (some ⟨lb, lof, none⟩) L.length lc) k fs (.slice (some ⟨b2, o2, none⟩) es.length cu) W ∧ RS w b1 (o1 + j * 24) b2 (o2 + j * 21) (oC l.p.b (.slice ao l.ops.length co) (.slice ag l.gone.length cg) XC.zero 0 0 0).toList (qC l.p.b (.slice bo' l.ops.length do') (.slice bg' l.gone.length dg') XC.zero).toList ao ag bo' bg' (l.ops.flatMap opCells) (zRow l.gone) W) (by kernel_rfl) ⟨HT.out.draw, HRS.out.below (below_drewN (Below.refl _ _) 1)⟩ ?_
              intro hS
              clear HT HRS
              generalize wr.drew = w8 at *
              refine wpAnyH_take (i := 0) (oi := { dst := some 68, op := Op.move (Operand.tmp 3), type := 61, pos := "law.go:137", after := #[], guard := none }) (v := .slice (some ⟨b1, o1, none⟩) es.length cl) (by kernel_rfl) (by kernel_rfl) (by kernel_rfl) (by kernel_rfl) (fun _ _ _ h => h) (.inl ⟨by kernel_rfl, fun W hW => by kernel_rfl⟩) hS ?_
              refine wpAnyH_take (i := 1) (oi := { dst := some 69, op := Op.move (Operand.tmp 12), type := 3, pos := "law.go:137", after := #[], guard := none }) (v := .int .i64 (j : Nat)) (by kernel_rfl) (by kernel_rfl) (by kernel_rfl) (by kernel_rfl) (fun _ _ _ h => h) (.inl ⟨by kernel_rfl, fun W hW => by kernel_rfl⟩) hS ?_
              refine wpAnyH_take (i := 2) (oi := { dst := some 70, op := Op.indexAddr 61 (Operand.tmp 68) (Operand.tmp 69), type := 0, pos := "law.go:137", after := #[{ on := 0, ground := Ground.data }, { on := 1, ground := Ground.data }], guard := none }) (v := .pointer (some ⟨b1, o1 + j * 24, none⟩)) (by kernel_rfl) (by kernel_rfl) (by kernel_rfl) (by kernel_rfl) (fun _ _ _ h => h) (.inl ⟨by kernel_rfl, fun W hW => by go_simp⟩) hS ?_
              refine wpAnyH_take (i := 3) (oi := { dst := some 71, op := Op.load 48 (Operand.tmp 70), type := 48, pos := "law.go:137", after := #[{ on := 2, ground := Ground.data }], guard := none }) (v := .agg (oC l.p.b (.slice ao l.ops.length co) (.slice ag l.gone.length cg) XC.zero 0 0 0)) (by kernel_rfl) (by kernel_rfl) (by kernel_rfl) (by kernel_rfl) (fun _ _ _ h => h) (yieldsIf_load_mid (by rfl) _ _ rfl b1 (o1 + j * 24) (by kernel_rfl) (oC l.p.b (.slice ao l.ops.length co) (.slice ag l.gone.length cg) XC.zero 0 0 0).toList _ (fun W hW => hW.2.c1.range) Tryd.underlying48 rfl Tryd.sizeW) hS ?_
              refine wpAnyH_take (i := 5) (oi := { dst := some 73, op := Op.move (Operand.tmp 6), type := 64, pos := "law.go:137", after := #[], guard := none }) (v := .slice (some ⟨b2, o2, none⟩) es.length cu) (by kernel_rfl) (by kernel_rfl) (by kernel_rfl) (by kernel_rfl) (fun _ _ _ h => h) (.inl ⟨by kernel_rfl, fun W hW => by kernel_rfl⟩) hS ?_
              refine wpAnyH_take (i := 6) (oi := { dst := some 74, op := Op.move (Operand.tmp 12), type := 3, pos := "law.go:137", after := #[], guard := none }) (v := .int .i64 (j : Nat)) (by kernel_rfl) (by kernel_rfl) (by kernel_rfl) (by kernel_rfl) (fun _ _ _ h => h) (.inl ⟨by kernel_rfl, fun W hW => by kernel_rfl⟩) hS ?_
              refine wpAnyH_take (i := 7) (oi := { dst := some 75, op := Op.indexAddr 64 (Operand.tmp 73) (Operand.tmp 74), type := 0, pos := "law.go:137", after := #[{ on := 5, ground := Ground.data }, { on := 6, ground := Ground.data }], guard := none }) (v := .pointer (some ⟨b2, o2 + j * 21, none⟩)) (by kernel_rfl) (by kernel_rfl) (by kernel_rfl) (by kernel_rfl) (fun _ _ _ h => h) (.inl ⟨by kernel_rfl, fun W hW => by go_simp⟩) hS ?_
              refine wpAnyH_take (i := 8) (oi := { dst := some 76, op := Op.load 52 (Operand.tmp 75), type := 52, pos := "law.go:137", after := #[{ on := 7, ground := Ground.data }], guard := none }) (v := .agg (qC l.p.b (.slice bo' l.ops.length do') (.slice bg' l.gone.length dg') XC.zero)) (by kernel_rfl) (by kernel_rfl) (by kernel_rfl) (by kernel_rfl) (fun _ _ _ h => h) (yieldsIf_load_mid (by rfl) _ _ rfl b2 (o2 + j * 21) (by kernel_rfl) (qC l.p.b (.slice bo' l.ops.length do') (.slice bg' l.gone.length dg') XC.zero).toList _ (fun W hW => hW.2.c2.range) Tryd.underlying52 rfl Tryd.sizeR) hS ?_
              refine wpAnyH_ready (rs := [4]) (by kernel_rfl) (by simp) ?_
              refine AllReadyH.cons (o := { dst := some 72, op := Op.call { callee := Callee.value (Operand.func 20), args := #[Operand.tmp 71], argTypes := #[48] }, type := 52, pos := "law.go:137", after := #[{ on := 3, ground := Ground.data }], guard := none }) (by kernel_rfl) (fun K hK => ?_) AllReadyH.nil
              rw [if_pos (by kernel_rfl)]
              refine wp_call_of 20 #[.agg (oC l.p.b (.slice ao l.ops.length co) (.slice ag l.gone.length cg) XC.zero 0 0 0)] (by kernel_rfl) (fun v w' => v = .agg (qC l.p.b (.slice ao l.ops.length co) (.slice ag l.gone.length cg) XC.zero) ∧ Below w8.heap.size w8 w') (HOF.out w8) (Lib.hid ?_)
              rintro v w9 ⟨rfl, hb9⟩
              refine hK.out _ _ ⟨hS.1.below hb9, hS.2.below hb9⟩ (fun hS9 => ?_)
              clear hK K hb9 hS
              refine wpAnyH_ready (rs := [9]) (by kernel_rfl) (by simp) ?_
              refine AllReadyH.cons (o := { dst := some 77, op := Op.call { callee := Callee.value (Operand.func 19), args := #[Operand.tmp 72, Operand.tmp 76], argTypes := #[52, 52] }, type := 4, pos := "law.go:137", after := #[{ on := 4, ground := Ground.data }, { on := 8, ground := Ground.data }, { on := 4, ground := Ground.chain }], guard := none }) (by kernel_rfl) (fun K hK => ?_) AllReadyH.nil
              rw [if_pos (by kernel_rfl)]
              refine wp_call_of 19 #[.agg (qC l.p.b (.slice ao l.ops.length co) (.slice ag l.gone.length cg) XC.zero), .agg (qC l.p.b (.slice bo' l.ops.length do') (.slice bg' l.gone.length dg') XC.zero)] (by kernel_rfl) (fun v w' => v = .bool true ∧ Below w9.heap.size w9 w') (HSM.out w9 hS9.2.ra hS9.2.sa hS9.2.rg hS9.2.sg) (Lib.hid ?_)
              rintro v w10 ⟨rfl, hb10⟩
              refine hK.out _ _ ⟨hS9.1.below hb10, hS9.2.below hb10⟩ (fun hS10 => ?_)
              clear hK K hb10 hS9
              refine wpAnyH_take (i := 10) (oi := { dst := some 78, op := Op.unOp UnOp.not 4 (Operand.tmp 77), type := 4, pos := "law.go:137", after := #[{ on := 9, ground := Ground.data }], guard := none }) (v := .bool false) (by kernel_rfl) (by kernel_rfl) (by kernel_rfl) (by kernel_rfl) (fun _ _ _ h => h) (.inl ⟨by kernel_rfl, fun W hW => by kernel_rfl⟩) hS10 ?_
              refine wpAnyH_done (by kernel_rfl) ?_ _
              have HT := Lib.hid hS10.1
              clear hS10 HOF HSM
              dsimp only [Exit.then, Act.put]
              simp only [List.setIfInBounds_toArray, List.set_cons_succ, List.set_cons_zero]
              go_wp2_with fail
              go_roundw
              case rel => exact ⟨j + 1, by go_num, by omega, HT⟩
              case measure => simp [intOf]; omega
            · obtain rfl : j = es.length := by omega
              have hj2 : decide ((es.length : Int) < (es.length : Int)) = false := decide_eq_false (by omega)
              go_wp2_with fail
              go_ret
              exact ⟨rfl, HT.out.bel⟩
      · obtain rfl : k = L.length := by omega
        have hlt2 : decide ((L.length : Int) < (L.length : Int)) = false := decide_eq_false (by omega)
        have HF := Lib.hid (HS.out.fin (n := 0) (by rw [List.drop_length]; rfl))
        go_wp2_with fail
        obtain rfl : 0 = nn := HF.out.2.symm.trans HNN.out
        have hfl : fs.length = es.length := by simpa using congrArg List.length HF.out.1
        rw [hfl] at HS ⊢
        clear hfl
        have n1 := i64ne (0 : Int)
        have n2 := i64ne (es.length : Int)
        have HPA := Lib.hid (fun W j hj (h : LS w L es (.slice al es.length cl) (.slice lo L.length lc) L.length fs (.slice au es.length cu) W) => h.pair HF.out.1 HLX.out j hj)
        refine (HN.out _ (HE.out.below HS.out.bel)).mono ?_
        rintro e w7 ⟨rfl, hb7⟩
        have HS7 := Lib.hid (HS.out.below hb7)
        clear hb7 HS
        go_wp2_with fail
        go_loopw [65] (fun vj wz => ∃ j : Nat, vj = .int .i64 j ∧ j ≤ es.length ∧ Hid (LS w L es (.slice al es.length cl) (.slice lo L.length lc) L.length fs (.slice au es.length cu) wz)) (fun vj _ => es.length - (intOf vj).toNat)
        case atStart => exact ⟨0, rfl, Nat.zero_le _, HS7⟩
        case round =>
          clear HS7
          obtain ⟨j, rfl, hjl, HT⟩ := hrel
          by_cases hj : j < es.length
          · have hj2 : decide ((j : Int) < (es.length : Int)) = true := decide_eq_true (by omega)
            obtain ⟨l, ao, ag, bo', bg', co, cg, do', dg', b1, o1, b2, o2, e1, e2, hlo, hlg, hrs⟩ := HPA.out _ j hj HT.out
            subst e1
            subst e2
            have HRS := Lib.hid hrs
            have HOF := Lib.hid (fun W => Calls.mono (R' := fun e w' => ∃ v, e = .returned v ∧ v = .agg (qC l.p.b (.slice ao l.ops.length co) (.slice ag l.gone.length cg) XC.zero) ∧ Below W.heap.size W w') (of_any l.p.b ao ag l.ops.length l.gone.length co cg XC.zero 0 0 0 W) (fun e w' ⟨h1, h2⟩ => ⟨_, h1, rfl, h2⟩))
            have HSM := Lib.hid (fun W ha hb hc hd => same_b l ao ag bo' bg' co cg do' dg' W hlo hlg ha hb hc hd)
            have hji : (j : Int) < (es.length : Int) := by omega
            clear hrs hlo hlg
            go_wp2_with fail
            refine wp_region_held_drew (S := fun W => LS w L es (.slice (some ⟨b1, o1, none⟩) es.length cl) (.slice lo L.length lc) L.length fs (.slice (some ⟨b2, o2, none⟩) es.length cu) W ∧ RS w b1 (o1 + j * 24) b2 (o2 + j * 21) (oC l.p.b (.slice ao l.ops.length co) (.slice ag l.gone.length cg) XC.zero 0 0 0).toList (qC l.p.b (.slice bo' l.ops.length do') (.slice bg' l.gone.length dg') XC.zero).toList ao ag bo' bg' (l.ops.flatMap opCells) (zRow l.gone) W) (by kernel_rfl) ⟨HT.out.draw, HRS.out.below (below_drewN (Below.refl _ _) 1)⟩ ?_
            intro hS
            clear HT HRS
            generalize wr.drew = w8 at *
            refine wpAnyH_take (i := 0) (oi := { dst := some 68, op := Op.move (Operand.tmp 3), type := 61, pos := "law.go:137", after := #[], guard := none }) (v := .slice (some ⟨b1, o1, none⟩) es.length cl) (by kernel_rfl) (by kernel_rfl) (by kernel_rfl) (by kernel_rfl) (fun _ _ _ h => h) (.inl ⟨by kernel_rfl, fun W hW => by kernel_rfl⟩) hS ?_
            refine wpAnyH_take (i := 1) (oi := { dst := some 69, op := Op.move (Operand.tmp 12), type := 3, pos := "law.go:137", after := #[], guard := none }) (v := .int .i64 (j : Nat)) (by kernel_rfl) (by kernel_rfl) (by kernel_rfl) (by kernel_rfl) (fun _ _ _ h => h) (.inl ⟨by kernel_rfl, fun W hW => by kernel_rfl⟩) hS ?_
            refine wpAnyH_take (i := 2) (oi := { dst := some 70, op := Op.indexAddr 61 (Operand.tmp 68) (Operand.tmp 69), type := 0, pos := "law.go:137", after := #[{ on := 0, ground := Ground.data }, { on := 1, ground := Ground.data }], guard := none }) (v := .pointer (some ⟨b1, o1 + j * 24, none⟩)) (by kernel_rfl) (by kernel_rfl) (by kernel_rfl) (by kernel_rfl) (fun _ _ _ h => h) (.inl ⟨by kernel_rfl, fun W hW => by go_simp⟩) hS ?_
            refine wpAnyH_take (i := 3) (oi := { dst := some 71, op := Op.load 48 (Operand.tmp 70), type := 48, pos := "law.go:137", after := #[{ on := 2, ground := Ground.data }], guard := none }) (v := .agg (oC l.p.b (.slice ao l.ops.length co) (.slice ag l.gone.length cg) XC.zero 0 0 0)) (by kernel_rfl) (by kernel_rfl) (by kernel_rfl) (by kernel_rfl) (fun _ _ _ h => h) (yieldsIf_load_mid (by rfl) _ _ rfl b1 (o1 + j * 24) (by kernel_rfl) (oC l.p.b (.slice ao l.ops.length co) (.slice ag l.gone.length cg) XC.zero 0 0 0).toList _ (fun W hW => hW.2.c1.range) Tryd.underlying48 rfl Tryd.sizeW) hS ?_
            refine wpAnyH_take (i := 5) (oi := { dst := some 73, op := Op.move (Operand.tmp 6), type := 64, pos := "law.go:137", after := #[], guard := none }) (v := .slice (some ⟨b2, o2, none⟩) es.length cu) (by kernel_rfl) (by kernel_rfl) (by kernel_rfl) (by kernel_rfl) (fun _ _ _ h => h) (.inl ⟨by kernel_rfl, fun W hW => by kernel_rfl⟩) hS ?_
            refine wpAnyH_take (i := 6) (oi := { dst := some 74, op := Op.move (Operand.tmp 12), type := 3, pos := "law.go:137", after := #[], guard := none }) (v := .int .i64 (j : Nat)) (by kernel_rfl) (by kernel_rfl) (by kernel_rfl) (by kernel_rfl) (fun _ _ _ h => h) (.inl ⟨by kernel_rfl, fun W hW => by kernel_rfl⟩) hS ?_
            refine wpAnyH_take (i := 7) (oi := { dst := some 75, op := Op.indexAddr 64 (Operand.tmp 73) (Operand.tmp 74), type := 0, pos := "law.go:137", after := #[{ on := 5, ground := Ground.data }, { on := 6, ground := Ground.data }], guard := none }) (v := .pointer (some ⟨b2, o2 + j * 21, none⟩)) (by kernel_rfl) (by kernel_rfl) (by kernel_rfl) (by kernel_rfl) (fun _ _ _ h => h) (.inl ⟨by kernel_rfl, fun W hW => by go_simp⟩) hS ?_
            refine wpAnyH_take (i := 8) (oi := { dst := some 76, op := Op.load 52 (Operand.tmp 75), type := 52, pos := "law.go:137", after := #[{ on := 7, ground := Ground.data }], guard := none }) (v := .agg (qC l.p.b (.slice bo' l.ops.length do') (.slice bg' l.gone.length dg') XC.zero)) (by kernel_rfl) (by kernel_rfl) (by kernel_rfl) (by kernel_rfl) (fun _ _ _ h => h) (yieldsIf_load_mid (by rfl) _ _ rfl b2 (o2 + j * 21) (by kernel_rfl) (qC l.p.b (.slice bo' l.ops.length do') (.slice bg' l.gone.length dg') XC.zero).toList _ (fun W hW => hW.2.c2.range) Tryd.underlying52 rfl Tryd.sizeR) hS ?_
            refine wpAnyH_ready (rs := [4]) (by kernel_rfl) (by simp) ?_
            refine AllReadyH.cons (o := { dst := some 72, op := Op.call { callee := Callee.value (Operand.func 20), args := #[Operand.tmp 71], argTypes := #[48] }, type := 52, pos := "law.go:137", after := #[{ on := 3, ground := Ground.data }], guard := none }) (by kernel_rfl) (fun K hK => ?_) AllReadyH.nil
            rw [if_pos (by kernel_rfl)]
            refine wp_call_of 20 #[.agg (oC l.p.b (.slice ao l.ops.length co) (.slice ag l.gone.length cg) XC.zero 0 0 0)] (by kernel_rfl) (fun v w' => v = .agg (qC l.p.b (.slice ao l.ops.length co) (.slice ag l.gone.length cg) XC.zero) ∧ Below w8.heap.size w8 w') (HOF.out w8) (Lib.hid ?_)
            rintro v w9 ⟨rfl, hb9⟩
            refine hK.out _ _ ⟨hS.1.below hb9, hS.2.below hb9⟩ (fun hS9 => ?_)
            clear hK K hb9 hS
            refine wpAnyH_ready (rs := [9]) (by kernel_rfl) (by simp) ?_
            refine AllReadyH.cons (o := { dst := some 77, op := Op.call { callee := Callee.value (Operand.func 19), args := #[Operand.tmp 72, Operand.tmp 76], argTypes := #[52, 52] }, type := 4, pos := "law.go:137", after := #[{ on := 4, ground := Ground.data }, { on := 8, ground := Ground.data }, { on := 4, ground := Ground.chain }], guard := none }) (by kernel_rfl) (fun K hK => ?_) AllReadyH.nil
            rw [if_pos (by kernel_rfl)]
            refine wp_call_of 19 #[.agg (qC l.p.b (.slice ao l.ops.length co) (.slice ag l.gone.length cg) XC.zero), .agg (qC l.p.b (.slice bo' l.ops.length do') (.slice bg' l.gone.length dg') XC.zero)] (by kernel_rfl) (fun v w' => v = .bool true ∧ Below w9.heap.size w9 w') (HSM.out w9 hS9.2.ra hS9.2.sa hS9.2.rg hS9.2.sg) (Lib.hid ?_)
            rintro v w10 ⟨rfl, hb10⟩
            refine hK.out _ _ ⟨hS9.1.below hb10, hS9.2.below hb10⟩ (fun hS10 => ?_)
            clear hK K hb10 hS9
            refine wpAnyH_take (i := 10) (oi := { dst := some 78, op := Op.unOp UnOp.not 4 (Operand.tmp 77), type := 4, pos := "law.go:137", after := #[{ on := 9, ground := Ground.data }], guard := none }) (v := .bool false) (by kernel_rfl) (by kernel_rfl) (by kernel_rfl) (by kernel_rfl) (fun _ _ _ h => h) (.inl ⟨by kernel_rfl, fun W hW => by kernel_rfl⟩) hS10 ?_
            refine wpAnyH_done (by kernel_rfl) ?_ _
            have HT := Lib.hid hS10.1
            clear hS10 HOF HSM
            dsimp only [Exit.then, Act.put]
            simp only [List.setIfInBounds_toArray, List.set_cons_succ, List.set_cons_zero]
            go_wp2_with fail
            go_roundw
            case rel => exact ⟨j + 1, by go_num, by omega, HT⟩
            case measure => simp [intOf]; omega
          · obtain rfl : j = es.length := by omega
            have hj2 : decide ((es.length : Int) < (es.length : Int)) = false := decide_eq_false (by omega)
            go_wp2_with fail
            go_ret
            exact ⟨rfl, HT.out.bel⟩
end Go.Proofs.YtjhmehmmpfnnkaaDoor
