/-
  An op among the arguments, opened: its cells, its lists.
  What the row's list of variables gives: the errors of package api, each a pointer of its own.
-/
import Derived.Test.YtjhmehmmpfnnkaaDoorM29
import Derived.Deep.Slices
import Derived.OpenShut
import Derived.KernelRfl
import Derived.Test.YtjhmehmmpfnnkaaDoorM03
import Derived.LaidLaws
namespace Go.Proofs.YtjhmehmmpfnnkaaDoor
open Go.RowKit Utf Go.ChangeShapes Go.WideShapes
set_option maxRecDepth 100000
set_option linter.unusedSimpArgs false
set_option linter.unusedVariables false

/-- These cells read as data of the type. -/
def Rd {H : Type} (enc : TypeId × Value → H) (P : Program) (w : World) (base : Nat) (sp : Nat → Bool) (held : Bool) (t : TypeId) (cs : List Value) : Prop :=
  ∃ fuel x, DataW.trod enc P w base sp held fuel t cs = some x
section
variable {H : Type} {enc : TypeId × Value → H} {P : Program} {w : World} {base : Nat} {sp : Nat → Bool} {held : Bool} {t e : TypeId} {cs : List Value}
theorem Rd.field {fs : Array Field} (ht : P.underlying t = some (.struct fs)) (h : Rd enc P w base sp held t cs) :
    cs.length = P.cellsOf t ∧ ∀ (i : Nat) (f : Field), fs[i]? = some f → Rd enc P w base sp held f.type ((cs.drop f.offset).take (P.cellsOf f.type)) := by
  obtain ⟨fuel, x, h⟩ := h
  obtain ⟨xs, n, -, -, hl, hx, hf⟩ := DataW.trod_struct ht h
  refine ⟨hl, fun i f hi => ?_⟩
  have h1 := hf i f hi
  have h2 : i < xs.length := by rw [hx]; exact (Array.getElem?_eq_some_iff.1 hi).1
  rw [List.getElem?_eq_getElem h2] at h1
  exact ⟨n, _, h1⟩
theorem Rd.int {k : IntKind} (ht : P.underlying t = some (.int k)) (h : Rd enc P w base sp held t cs) : ∃ z, cs = [.int k z] ∧ (Lit.int k z).wf = true := by
  obtain ⟨fuel, x, h⟩ := h
  obtain ⟨z, h1, -, h2⟩ := DataW.trod_int ht h
  exact ⟨z, h1, h2⟩
theorem Rd.str (ht : P.underlying t = some .string) (h : Rd enc P w base sp held t cs) : ∃ s, cs = [.string s] ∧ s.size ≤ maxLen := by
  obtain ⟨fuel, x, h⟩ := h
  obtain ⟨z, h1, -, h2⟩ := DataW.trod_string ht h
  exact ⟨z, h1, h2⟩
theorem Rd.slice (ht : P.underlying t = some (.slice e)) (h : Rd enc P w base sp held t cs) :
    ∃ ao n c, cs = [.slice ao n c] ∧ ∀ i, i < n → ∃ a cs', ao = some a ∧ w.cells? base (a.add (i * P.cellsOf e)) (P.cellsOf e) = some cs' ∧ Rd enc P w base sp held e cs' := by
  obtain ⟨fuel, x, h⟩ := h
  rcases Go.Deep.open_slice ht h with ⟨rfl, -⟩ | ⟨a, len, cap, m, n, D, Pl, rfl, -, hl, -, hm, -, hx⟩
  · exact ⟨none, 0, 0, rfl, fun i hi => by cases hi⟩
  · refine ⟨some a, len, cap, rfl, fun i hi => ?_⟩
    obtain ⟨cs', h1, h2⟩ := hx i (by rw [hm]; split <;> omega)
    exact ⟨a, cs', rfl, h1, n, _, h2⟩
end
theorem cell_drop {cs : List Value} {off : Nat} {v : Value} (h : (cs.drop off).take 1 = [v]) : cs[off]? = some v := by
  have h1 : ((cs.drop off).take 1)[0]? = some v := by rw [h]; rfl
  rw [List.getElem?_take_of_lt (by omega), List.getElem?_drop, Nat.add_zero] at h1
  exact h1
section
variable {H : Type} {enc : TypeId × Value → H} {w : World} {base : Nat} {sp : Nat → Bool} {held : Bool} {cs : List Value}
theorem rd_aop (h : Rd enc Tryd.prog w base sp held 103 cs) : ∃ o : BOp, cs = bCells o ∧ -9223372036854775808 ≤ o.version ∧ o.version ≤ 9223372036854775807 := by
  obtain ⟨hl, hf⟩ := h.field Tryd.underlying103
  have hl5 : cs.length = 5 := hl.trans (by kernel_rfl)
  have c1 : Tryd.prog.cellsOf 3 = 1 := by kernel_rfl
  have c2 : Tryd.prog.cellsOf 9 = 1 := by kernel_rfl
  have f0 : Rd enc Tryd.prog w base sp held 3 ((cs.drop 0).take 1) := by
    have h := hf 0 ⟨_, 3, 0, _, _, _, _⟩ rfl
    dsimp only at h
    rw [c1] at h
    exact h
  have f1 : Rd enc Tryd.prog w base sp held 9 ((cs.drop 1).take 1) := by
    have h := hf 1 ⟨_, 9, 1, _, _, _, _⟩ rfl
    dsimp only at h
    rw [c2] at h
    exact h
  have f2 : Rd enc Tryd.prog w base sp held 9 ((cs.drop 2).take 1) := by
    have h := hf 2 ⟨_, 9, 2, _, _, _, _⟩ rfl
    dsimp only at h
    rw [c2] at h
    exact h
  have f3 : Rd enc Tryd.prog w base sp held 9 ((cs.drop 3).take 1) := by
    have h := hf 3 ⟨_, 9, 3, _, _, _, _⟩ rfl
    dsimp only at h
    rw [c2] at h
    exact h
  have f4 : Rd enc Tryd.prog w base sp held 3 ((cs.drop 4).take 1) := by
    have h := hf 4 ⟨_, 3, 4, _, _, _, _⟩ rfl
    dsimp only at h
    rw [c1] at h
    exact h
  obtain ⟨z0, g0, -⟩ := f0.int Tryd.underlying3
  obtain ⟨s1, g1, -⟩ := f1.str Tryd.underlying9
  obtain ⟨s2, g2, -⟩ := f2.str Tryd.underlying9
  obtain ⟨s3, g3, -⟩ := f3.str Tryd.underlying9
  obtain ⟨z4, g4, w4⟩ := f4.int Tryd.underlying3
  refine ⟨⟨z0, s1, s2, s3, z4⟩, ?_, bounds_i64 w4⟩
  apply List.ext_getElem?
  intro i
  rcases i with _ | _ | _ | _ | _ | i
  · exact cell_drop g0
  · exact cell_drop g1
  · exact cell_drop g2
  · exact cell_drop g3
  · exact cell_drop g4
  · rw [List.getElem?_eq_none (by omega), List.getElem?_eq_none (by simp [bCells])]
instance : Inhabited BOp := ⟨⟨0, ByteArray.empty, ByteArray.empty, ByteArray.empty, 0⟩⟩
theorem addr_mul (a : Addr) (i j : Nat) : (a.add i).add j = a.add (i + j) := Go.Deep.add_add a i j
theorem rd_aops (h : Rd enc Tryd.prog w base sp held 40 cs) : ∃ ao c, ∃ ops : List BOp, cs = [.slice ao ops.length c] ∧ RowAt w ao (ops.flatMap bCells) ∧ ∀ o ∈ ops, -9223372036854775808 ≤ o.version ∧ o.version ≤ 9223372036854775807 := by
  obtain ⟨ao, n, c, rfl, hx⟩ := h.slice Tryd.underlying40
  have c5 : Tryd.prog.cellsOf 103 = 5 := by kernel_rfl
  obtain ⟨F, hF⟩ := Go.Deep.choose_lt (α := BOp) (n := n) (p := fun i o => (∃ a, ao = some a ∧ ∀ j, j < 5 → w.cell? (a.add (i * 5 + j)) = (bCells o)[j]?) ∧ -9223372036854775808 ≤ o.version ∧ o.version ≤ 9223372036854775807) (fun i hi => by
    obtain ⟨a, cs', ha, hc, hr⟩ := hx i hi
    obtain ⟨o, rfl, hv⟩ := rd_aop hr
    rw [c5] at hc
    obtain ⟨-, -, hcell⟩ := World.cells?_some hc
    refine ⟨o, ⟨a, ha, fun j hj => ?_⟩, hv⟩
    rw [← addr_mul]
    exact hcell j hj)
  have hlen : ((List.range n).map F).length = n := by simp
  refine ⟨ao, c, (List.range n).map F, by rw [hlen], fun i hi => ?_, fun o ho => ?_⟩
  · have hfl : (((List.range n).map F).flatMap bCells).length = n * 5 := by
      have : ∀ l : List BOp, (l.flatMap bCells).length = l.length * 5 := by
        intro l
        induction l with
        | nil => rfl
        | cons p l ih => rw [List.flatMap_cons, List.length_append, ih]; simp [bCells]; omega
      rw [this, hlen]
    have hk : i / 5 < n := by omega
    obtain ⟨⟨a, ha, hc⟩, -⟩ := hF (i / 5) hk
    have h1 := hc (i % 5) (by omega)
    have h2 := flat5 bCells (fun _ => rfl) ((List.range n).map F) (i / 5) (by rw [hlen]; exact hk) (i % 5) (by omega)
    have h3 : 5 * (i / 5) + i % 5 = i := Nat.div_add_mod i 5
    rw [h3] at h2
    rw [show i / 5 * 5 + i % 5 = i by omega] at h1
    have h4 : ((List.range n).map F)[i / 5]'(by rw [hlen]; exact hk) = F (i / 5) := by simp
    rw [h4, ← h1, List.getElem?_eq_getElem hi] at h2
    have hspot : a.spot = none := by
      obtain ⟨⟨a', ha', hc'⟩, -⟩ := hF 0 (by omega)
      rw [ha] at ha'
      cases ha'
      have hq := World.cell?_spot (hc' 0 (by omega))
      simpa [Addr.add] using hq
    obtain ⟨b, o, s⟩ := a
    simp only at hspot
    subst hspot
    rw [Go.WideShapes.add_plain] at h2
    exact ⟨b, o, ha, h2.symm⟩
  · obtain ⟨i, hi, rfl⟩ := List.mem_map.1 ho
    exact (hF i (List.mem_range.1 hi)).2
theorem rd_ints (h : Rd enc Tryd.prog w base sp held 23 cs) : ∃ ao c, ∃ zs : List Int, cs = [.slice ao zs.length c] ∧ RowAt w ao (zRow zs) ∧ ∀ z ∈ zs, -9223372036854775808 ≤ z ∧ z ≤ 9223372036854775807 := by
  obtain ⟨ao, n, c, rfl, hx⟩ := h.slice Tryd.underlying23
  have c1 : Tryd.prog.cellsOf 3 = 1 := by kernel_rfl
  obtain ⟨F, hF⟩ := Go.Deep.choose_lt (α := Int) (n := n) (p := fun i z => (∃ a, ao = some a ∧ w.cell? (a.add i) = some (.int .i64 z)) ∧ -9223372036854775808 ≤ z ∧ z ≤ 9223372036854775807) (fun i hi => by
    obtain ⟨a, cs', ha, hc, hr⟩ := hx i hi
    obtain ⟨z, rfl, hv⟩ := hr.int Tryd.underlying3
    rw [c1, Nat.mul_one] at hc
    exact ⟨z, ⟨a, ha, cell_of_cells?_one hc⟩, bounds_i64 hv⟩)
  have hlen : ((List.range n).map F).length = n := by simp
  refine ⟨ao, c, (List.range n).map F, by rw [hlen], fun i hi => ?_, fun o ho => ?_⟩
  · have hk : i < n := by rw [← hlen]; simpa [zRow] using hi
    obtain ⟨⟨a, ha, hc⟩, -⟩ := hF i hk
    have hspot : a.spot = none := by
      obtain ⟨⟨a', ha', hc'⟩, -⟩ := hF 0 (by omega)
      rw [ha] at ha'
      cases ha'
      have hq := World.cell?_spot hc'
      simpa [Addr.add] using hq
    obtain ⟨b, o, s⟩ := a
    simp only at hspot
    subst hspot
    rw [Go.WideShapes.add_plain] at hc
    exact ⟨b, o, ha, by rw [hc]; simp [zRow]⟩
  · obtain ⟨i, hi, rfl⟩ := List.mem_map.1 ho
    exact (hF i (List.mem_range.1 hi)).2
theorem cell_take {cs : List Value} {o m j : Nat} {v : Value} (h : ((cs.drop o).take m)[j]? = some v) : cs[o + j]? = some v := by
  by_cases hj : j < m
  · rw [List.getElem?_take_of_lt hj, List.getElem?_drop] at h
    exact h
  · rw [List.getElem?_eq_none (by rw [List.length_take]; omega)] at h
    cases h
/-- The op, as the walk's cells. -/
theorem rd_op (h : Rd enc Tryd.prog w base sp held 48 cs) : ∃ (p : BP) (ops : List BOp) (gone : List Int) (ao ag : Option Addr) (co cg : Nat) (x : XC) (c1 c2 c3 : Int),
    cs = (oC p (.slice ao ops.length co) (.slice ag gone.length cg) x c1 c2 c3).toList ∧ (∀ f, isNum f = true → -9223372036854775808 ≤ p.getN f ∧ p.getN f ≤ 9223372036854775807) ∧
    (∀ o ∈ ops, -9223372036854775808 ≤ o.version ∧ o.version ≤ 9223372036854775807) ∧ (∀ z ∈ gone, -9223372036854775808 ≤ z ∧ z ≤ 9223372036854775807) ∧ RowAt w ao (ops.flatMap bCells) ∧ RowAt w ag (zRow gone) := by
  obtain ⟨hl, hf⟩ := h.field Tryd.underlying48
  have hl24 : cs.length = 24 := hl.trans (by kernel_rfl)
  have c1 : Tryd.prog.cellsOf 3 = 1 := by kernel_rfl
  have c2 : Tryd.prog.cellsOf 9 = 1 := by kernel_rfl
  have c3 : Tryd.prog.cellsOf 40 = 1 := by kernel_rfl
  have c4 : Tryd.prog.cellsOf 23 = 1 := by kernel_rfl
  have c5 : Tryd.prog.cellsOf 43 = 12 := by kernel_rfl
  have c6 : Tryd.prog.cellsOf 45 = 2 := by kernel_rfl
  have c7 : Tryd.prog.cellsOf 46 = 1 := by kernel_rfl
  have c8 : Tryd.prog.cellsOf 41 = 1 := by kernel_rfl
  have f0 : Rd enc Tryd.prog w base sp held 3 ((cs.drop 0).take 1) := by
    have h := hf 0 ⟨_, 3, 0, _, _, _, _⟩ rfl
    dsimp only at h
    rw [c1] at h
    exact h
  have f1 : Rd enc Tryd.prog w base sp held 3 ((cs.drop 1).take 1) := by
    have h := hf 1 ⟨_, 3, 1, _, _, _, _⟩ rfl
    dsimp only at h
    rw [c1] at h
    exact h
  have f2 : Rd enc Tryd.prog w base sp held 3 ((cs.drop 2).take 1) := by
    have h := hf 2 ⟨_, 3, 2, _, _, _, _⟩ rfl
    dsimp only at h
    rw [c1] at h
    exact h
  have f3 : Rd enc Tryd.prog w base sp held 3 ((cs.drop 3).take 1) := by
    have h := hf 3 ⟨_, 3, 3, _, _, _, _⟩ rfl
    dsimp only at h
    rw [c1] at h
    exact h
  have f4 : Rd enc Tryd.prog w base sp held 40 ((cs.drop 4).take 1) := by
    have h := hf 4 ⟨_, 40, 4, _, _, _, _⟩ rfl
    dsimp only at h
    rw [c3] at h
    exact h
  have f5 : Rd enc Tryd.prog w base sp held 43 ((cs.drop 5).take 12) := by
    have h := hf 5 ⟨_, 43, 5, _, _, _, _⟩ rfl
    dsimp only at h
    rw [c5] at h
    exact h
  have f6 : Rd enc Tryd.prog w base sp held 9 ((cs.drop 17).take 1) := by
    have h := hf 6 ⟨_, 9, 17, _, _, _, _⟩ rfl
    dsimp only at h
    rw [c2] at h
    exact h
  have f7 : Rd enc Tryd.prog w base sp held 45 ((cs.drop 18).take 2) := by
    have h := hf 7 ⟨_, 45, 18, _, _, _, _⟩ rfl
    dsimp only at h
    rw [c6] at h
    exact h
  have f8 : Rd enc Tryd.prog w base sp held 23 ((cs.drop 20).take 1) := by
    have h := hf 8 ⟨_, 23, 20, _, _, _, _⟩ rfl
    dsimp only at h
    rw [c4] at h
    exact h
  have f9 : Rd enc Tryd.prog w base sp held 46 ((cs.drop 21).take 1) := by
    have h := hf 9 ⟨_, 46, 21, _, _, _, _⟩ rfl
    dsimp only at h
    rw [c7] at h
    exact h
  have f10 : Rd enc Tryd.prog w base sp held 3 ((cs.drop 22).take 1) := by
    have h := hf 10 ⟨_, 3, 22, _, _, _, _⟩ rfl
    dsimp only at h
    rw [c1] at h
    exact h
  have f11 : Rd enc Tryd.prog w base sp held 3 ((cs.drop 23).take 1) := by
    have h := hf 11 ⟨_, 3, 23, _, _, _, _⟩ rfl
    dsimp only at h
    rw [c1] at h
    exact h
  obtain ⟨-, he⟩ := f5.field Tryd.underlying43
  obtain ⟨-, hs⟩ := f7.field Tryd.underlying45
  have e0 : Rd enc Tryd.prog w base sp held 3 ((((cs.drop 5).take 12).drop 0).take 1) := by
    have h := he 0 ⟨_, 3, 0, _, _, _, _⟩ rfl
    dsimp only at h
    rw [c1] at h
    exact h
  have e1 : Rd enc Tryd.prog w base sp held 3 ((((cs.drop 5).take 12).drop 1).take 1) := by
    have h := he 1 ⟨_, 3, 1, _, _, _, _⟩ rfl
    dsimp only at h
    rw [c1] at h
    exact h
  have e2 : Rd enc Tryd.prog w base sp held 3 ((((cs.drop 5).take 12).drop 2).take 1) := by
    have h := he 2 ⟨_, 3, 2, _, _, _, _⟩ rfl
    dsimp only at h
    rw [c1] at h
    exact h
  have e3 : Rd enc Tryd.prog w base sp held 3 ((((cs.drop 5).take 12).drop 3).take 1) := by
    have h := he 3 ⟨_, 3, 3, _, _, _, _⟩ rfl
    dsimp only at h
    rw [c1] at h
    exact h
  have e4 : Rd enc Tryd.prog w base sp held 3 ((((cs.drop 5).take 12).drop 4).take 1) := by
    have h := he 4 ⟨_, 3, 4, _, _, _, _⟩ rfl
    dsimp only at h
    rw [c1] at h
    exact h
  have e5 : Rd enc Tryd.prog w base sp held 3 ((((cs.drop 5).take 12).drop 5).take 1) := by
    have h := he 5 ⟨_, 3, 5, _, _, _, _⟩ rfl
    dsimp only at h
    rw [c1] at h
    exact h
  have e6 : Rd enc Tryd.prog w base sp held 40 ((((cs.drop 5).take 12).drop 6).take 1) := by
    have h := he 6 ⟨_, 40, 6, _, _, _, _⟩ rfl
    dsimp only at h
    rw [c3] at h
    exact h
  have e7 : Rd enc Tryd.prog w base sp held 9 ((((cs.drop 5).take 12).drop 7).take 1) := by
    have h := he 7 ⟨_, 9, 7, _, _, _, _⟩ rfl
    dsimp only at h
    rw [c2] at h
    exact h
  have e8 : Rd enc Tryd.prog w base sp held 3 ((((cs.drop 5).take 12).drop 8).take 1) := by
    have h := he 8 ⟨_, 3, 8, _, _, _, _⟩ rfl
    dsimp only at h
    rw [c1] at h
    exact h
  have e9 : Rd enc Tryd.prog w base sp held 3 ((((cs.drop 5).take 12).drop 9).take 1) := by
    have h := he 9 ⟨_, 3, 9, _, _, _, _⟩ rfl
    dsimp only at h
    rw [c1] at h
    exact h
  have e10 : Rd enc Tryd.prog w base sp held 3 ((((cs.drop 5).take 12).drop 10).take 1) := by
    have h := he 10 ⟨_, 3, 10, _, _, _, _⟩ rfl
    dsimp only at h
    rw [c1] at h
    exact h
  have e11 : Rd enc Tryd.prog w base sp held 41 ((((cs.drop 5).take 12).drop 11).take 1) := by
    have h := he 11 ⟨_, 41, 11, _, _, _, _⟩ rfl
    dsimp only at h
    rw [c8] at h
    exact h
  have s0 : Rd enc Tryd.prog w base sp held 9 ((((cs.drop 18).take 2).drop 0).take 1) := by
    have h := hs 0 ⟨_, 9, 0, _, _, _, _⟩ rfl
    dsimp only at h
    rw [c2] at h
    exact h
  have s1 : Rd enc Tryd.prog w base sp held 9 ((((cs.drop 18).take 2).drop 1).take 1) := by
    have h := hs 1 ⟨_, 9, 1, _, _, _, _⟩ rfl
    dsimp only at h
    rw [c2] at h
    exact h
  obtain ⟨z0, g0, w0⟩ := f0.int Tryd.underlying3
  obtain ⟨z1, g1, w1⟩ := f1.int Tryd.underlying3
  obtain ⟨z2, g2, w2⟩ := f2.int Tryd.underlying3
  obtain ⟨z3, g3, w3⟩ := f3.int Tryd.underlying3
  obtain ⟨ao, co, ops, g4, ra, hv⟩ := rd_aops f4
  obtain ⟨y0, h0, v0⟩ := e0.int Tryd.underlying3
  obtain ⟨y1, h1, v1⟩ := e1.int Tryd.underlying3
  obtain ⟨y2, h2, v2⟩ := e2.int Tryd.underlying3
  obtain ⟨y3, h3, v3⟩ := e3.int Tryd.underlying3
  obtain ⟨y4, h4, v4⟩ := e4.int Tryd.underlying3
  obtain ⟨y5, h5, v5⟩ := e5.int Tryd.underlying3
  obtain ⟨a6, n6, k6, h6, -⟩ := e6.slice Tryd.underlying40
  obtain ⟨y7, h7, -⟩ := e7.str Tryd.underlying9
  obtain ⟨y8, h8, v8⟩ := e8.int Tryd.underlying3
  obtain ⟨y9, h9, v9⟩ := e9.int Tryd.underlying3
  obtain ⟨y10, h10, v10⟩ := e10.int Tryd.underlying3
  obtain ⟨a11, n11, k11, h11, -⟩ := e11.slice Tryd.underlying41
  obtain ⟨z6, g6, -⟩ := f6.str Tryd.underlying9
  obtain ⟨t0, i0, -⟩ := s0.str Tryd.underlying9
  obtain ⟨t1, i1, -⟩ := s1.str Tryd.underlying9
  obtain ⟨ag, cg, gone, g8, rg, hz⟩ := rd_ints f8
  obtain ⟨z9, g9, -⟩ := f9.int Tryd.underlying46
  obtain ⟨z10, g10, -⟩ := f10.int Tryd.underlying3
  obtain ⟨z11, g11, -⟩ := f11.int Tryd.underlying3
  refine ⟨⟨z0, z1, z2, z3, y0, y1, y2, y3, y7, z6, t0, t1⟩, ops, gone, ao, ag, co, cg, ⟨y4, y5, a6, n6, k6, y8, y9, y10, a11, n11, k11⟩, z9, z10, z11, ?_, ?_, hv, hz, ra, rg⟩
  · apply List.ext_getElem?
    intro i
    rcases i with _ | _ | _ | _ | _ | _ | _ | _ | _ | _ | _ | _ | _ | _ | _ | _ | _ | _ | _ | _ | _ | _ | _ | _ | i
    · exact cell_drop g0
    · exact cell_drop g1
    · exact cell_drop g2
    · exact cell_drop g3
    · exact cell_drop g4
    · exact cell_take (j := 0) (cell_drop h0)
    · exact cell_take (j := 1) (cell_drop h1)
    · exact cell_take (j := 2) (cell_drop h2)
    · exact cell_take (j := 3) (cell_drop h3)
    · exact cell_take (j := 4) (cell_drop h4)
    · exact cell_take (j := 5) (cell_drop h5)
    · exact cell_take (j := 6) (cell_drop h6)
    · exact cell_take (j := 7) (cell_drop h7)
    · exact cell_take (j := 8) (cell_drop h8)
    · exact cell_take (j := 9) (cell_drop h9)
    · exact cell_take (j := 10) (cell_drop h10)
    · exact cell_take (j := 11) (cell_drop h11)
    · exact cell_drop g6
    · exact cell_take (j := 0) (cell_drop i0)
    · exact cell_take (j := 1) (cell_drop i1)
    · exact cell_drop g8
    · exact cell_drop g9
    · exact cell_drop g10
    · exact cell_drop g11
    · rw [List.getElem?_eq_none (by omega), List.getElem?_eq_none (by simp [oC])]
  · intro f hf
    cases f
    all_goals first | exact bounds_i64 w1 | exact bounds_i64 w2 | exact bounds_i64 w3 | exact bounds_i64 v1 | exact bounds_i64 v2 | exact bounds_i64 v3 | cases hf
end
/-- An op handed to a law. -/
theorem open_op {H : Type} {enc : TypeId × Value → H} {W : World} {sp : Nat → Bool} {held : Bool} {r : Reach} {b0 b1 : Nat} {v : Value} {d : DataW H} {ps : List MemPlace} (hval : Value.okWide Tryd.prog W r b0 48 v)
    (h : DataW.Trod enc Tryd.prog W b1 sp held 48 v d ps) : ∃ (p : BP) (ops : List BOp) (gone : List Int) (ao ag : Option Addr) (co cg : Nat) (x : XC) (c1 c2 c3 : Int),
    v = .agg (oC p (.slice ao ops.length co) (.slice ag gone.length cg) x c1 c2 c3) ∧ (∀ f, isNum f = true → -9223372036854775808 ≤ p.getN f ∧ p.getN f ≤ 9223372036854775807) ∧
    (∀ o ∈ ops, -9223372036854775808 ≤ o.version ∧ o.version ≤ 9223372036854775807) ∧ (∀ z ∈ gone, -9223372036854775808 ≤ z ∧ z ≤ 9223372036854775807) ∧ RowAt W ao (ops.flatMap bCells) ∧ RowAt W ag (zRow gone) := by
  unfold Value.okWide at hval
  rw [Tryd.underlying48] at hval
  obtain ⟨cs, rfl, -, -⟩ := hval
  obtain ⟨fuel, h⟩ := h
  obtain ⟨p, ops, gone, ao, ag, co, cg, x, c1, c2, c3, hcs, h1⟩ := rd_op (cs := cs.toList) ⟨fuel, _, h⟩
  refine ⟨p, ops, gone, ao, ag, co, cg, x, c1, c2, c3, ?_, h1⟩
  rw [Array.toList_inj.1 hcs]
end Go.Proofs.YtjhmehmmpfnnkaaDoor

namespace Go.Proofs.YtjhmehmmpfnnkaaDoor
open Go.RowKit Go.ChangeShapes
set_option maxRecDepth 100000
set_option linter.unusedSimpArgs false
set_option linter.unusedVariables false

def mkD (x : String × List UInt8) : String × DataW Unit := (x.1, .iface "*errors.errorString" (.ptr (.agg [.lit (.string x.2)])))

/-- All errors of package api, with their texts. -/
def errL : List (String × List UInt8) := [("tidewater/api.ErrRange", [116, 105, 100, 101, 119, 97, 116, 101, 114, 58, 32, 114, 97, 110, 103, 101]), ("tidewater/api.ErrShort", [116, 105, 100, 101, 119, 97, 116, 101, 114, 58, 32, 115, 104, 111, 114, 116]), ("tidewater/api.ErrLong", [116, 105, 100, 101, 119, 97, 116, 101, 114, 58, 32, 108, 111, 110, 103]), ("tidewater/api.ErrForm", [116, 105, 100, 101, 119, 97, 116, 101, 114, 58, 32, 102, 111, 114, 109]), ("tidewater/api.ErrSum", [116, 105, 100, 101, 119, 97, 116, 101, 114, 58, 32, 115, 117, 109]), ("tidewater/api.ErrRune", [116, 105, 100, 101, 119, 97, 116, 101, 114, 58, 32, 114, 117, 110, 101]), ("tidewater/api.ErrName", [116, 105, 100, 101, 119, 97, 116, 101, 114, 58, 32, 110, 97, 109, 101]), ("tidewater/api.ErrSealed", [116, 105, 100, 101, 119, 97, 116, 101, 114, 58, 32, 115, 101, 97, 108, 101, 100]), ("tidewater/api.ErrWritten", [116, 105, 100, 101, 119, 97, 116, 101, 114, 58, 32, 119, 114, 105, 116, 116, 101, 110]), ("tidewater/api.ErrUnwritten", [116, 105, 100, 101, 119, 97, 116, 101, 114, 58, 32, 117, 110, 119, 114, 105, 116, 116, 101, 110]), ("tidewater/api.ErrTrimmed", [116, 105, 100, 101, 119, 97, 116, 101, 114, 58, 32, 116, 114, 105, 109, 109, 101, 100]), ("tidewater/api.ErrDown", [116, 105, 100, 101, 119, 97, 116, 101, 114, 58, 32, 100, 111, 119, 110]), ("tidewater/api.ErrFull", [116, 105, 100, 101, 119, 97, 116, 101, 114, 58, 32, 102, 117, 108, 108]), ("tidewater/api.ErrEpoch", [116, 105, 100, 101, 119, 97, 116, 101, 114, 58, 32, 101, 112, 111, 99, 104]), ("tidewater/api.ErrMoved", [116, 105, 100, 101, 119, 97, 116, 101, 114, 58, 32, 109, 111, 118, 101, 100]), ("tidewater/api.ErrNone", [116, 105, 100, 101, 119, 97, 116, 101, 114, 58, 32, 110, 111, 110, 101]), ("tidewater/api.ErrState", [116, 105, 100, 101, 119, 97, 116, 101, 114, 58, 32, 115, 116, 97, 116, 101]), ("tidewater/api.ErrClash", [116, 105, 100, 101, 119, 97, 116, 101, 114, 58, 32, 99, 108, 97, 115, 104]), ("tidewater/api.ErrStale", [116, 105, 100, 101, 119, 97, 116, 101, 114, 58, 32, 115, 116, 97, 108, 101])]

theorem Tryd.cellsErrStr : Tryd.prog.cellsOf 185 = 1 := by kernel_rfl
theorem Tryd.cellsStr : Tryd.prog.cellsOf 9 = 1 := by kernel_rfl
theorem Tryd.errGs : (List.range 19).all (fun i => Tryd.prog.globalNamed (errL.getD i ("", [])).1 == some (errG i)) = true := by kernel_rfl
theorem Tryd.errTs : (List.range 19).all (fun i => (Tryd.prog.globals[errG i]?).map (·.type) == some 26) = true := by kernel_rfl
theorem Tryd.star : ("*errors.errorString" : String) = "*" ++ "errors.errorString" := by decide
theorem Tryd.errName (u : TypeId) (h : Tryd.prog.typeName? 3 u = some "*errors.errorString") : u = 163 := typeName_ptr_named (nm := "errors.errorString") (by rw [← Tryd.star]; kernel_rfl) (by kernel_rfl) (by decide) u (by rw [← Tryd.star]; exact h)

theorem errL_global (i : Nat) (hi : i < 19) : Tryd.prog.globalNamed (errL.getD i ("", [])).1 = some (errG i) := by
  have := List.all_eq_true.1 Tryd.errGs i (List.mem_range.2 hi)
  exact eq_of_beq this
theorem errG_type (i : Nat) (hi : i < 19) : (Tryd.prog.globals[errG i]?).map (·.type) = some 26 := by
  have := List.all_eq_true.1 Tryd.errTs i (List.mem_range.2 hi)
  exact eq_of_beq this

theorem laid_from {W : World} : ∀ (n k : Nat) (ps : List MemPlace), n + k = 19 → DataW.LaidVars Tryd.prog W ((errL.drop k).map mkD) ps →
    (∀ b off, MemPlace.cell b off ∈ ps → (∃ c t, W.heap[b]? = some (.cells c t (0, 0))) ∧ ∀ u v, W.cell? ⟨b, off, none⟩ = some (.iface u v) → Value.okWide Tryd.prog W .any 0 u v) →
    ∃ al : List Addr, al.length = n ∧ (∀ i, i < n → W.cell? ⟨errG (k + i), 0, none⟩ = some (.iface 163 (.pointer (some (al.getD i ⟨0, 0, none⟩))))) ∧
      (∀ i, i < n → ∃ c t, W.heap[(al.getD i ⟨0, 0, none⟩).block]? = some (.cells c t (0, 0))) ∧ (al.map fun a => MemPlace.row a 1).flatten.Sublist ps
  | 0, k, ps, hk, h, _ => ⟨[], rfl, fun i hi => by omega, fun i hi => by omega, List.nil_sublist _⟩
  | n + 1, k, ps, hk, h, hrows => by
    have hk19 : k < 19 := by omega
    have hlen : k < errL.length := by show k < 19; exact hk19
    have hd : errL.drop k = errL.getD k ("", []) :: errL.drop (k + 1) := by
      rw [List.drop_eq_getElem_cons hlen]
      simp [List.getD, List.getElem?_eq_getElem hlen]
    rw [hd, List.map_cons] at h
    obtain ⟨g, t, cs, fuel, p, q, hg, ht, hv, hdat, hq, rfl⟩ := h
    obtain rfl := Option.some.inj ((errL_global k hk19).symm.trans hg)
    obtain rfl := Option.some.inj ((errG_type k hk19).symm.trans ht)
    obtain ⟨l⟩ := cs
    have ok0 : ∀ u v, l = [.iface u v] → Value.okWide Tryd.prog W .any 0 u v := fun u v e => by
      subst e
      exact (hrows (errG k) 0 (by simp [MemPlace.row])).2 u v (by simpa using World.var?_cell hg hv 0)
    obtain ⟨a, s, rfl, hc, hs, hz, rfl⟩ := errorString_of_trod Tryd.underlying26 Tryd.errName Tryd.underlying163 Tryd.underlying185 rfl rfl Tryd.underlying9 Tryd.cellsErrStr Tryd.cellsStr hdat ok0
    obtain ⟨al, h1, h2, h3, h4⟩ := laid_from n (k + 1) q (by omega) hq (fun b off hm => hrows b off (List.mem_append_right _ hm))
    refine ⟨a :: al, by simp [h1], ?_, ?_, ?_⟩
    · intro i hi
      cases i with
      | zero => simpa using World.var?_cell hg hv 0
      | succ i =>
        have := h2 i (by omega)
        rw [show k + (i + 1) = k + 1 + i by omega]
        simpa using this
    · intro i hi
      cases i with
      | zero =>
        obtain ⟨c, t, hb⟩ := (hrows a.block a.off (by simp [MemPlace.row])).1
        exact ⟨c, t, by simpa using hb⟩
      | succ i => simpa using h3 i (by omega)
    · rw [List.map_cons, List.flatten_cons, List.append_assoc]
      exact (List.Sublist.append (List.Sublist.refl _) h4).trans (List.sublist_append_right _ _)

/-- The errors, out of the row's list. -/
theorem errs_of_laid {W : World} (h : laidMet Tryd.prog (errL.map mkD) W) : ∃ ea, ErrsAt W ea := by
  obtain ⟨ps, hv, hnd, hrows⟩ := h
  obtain ⟨al, h1, h2, h3, h4⟩ := laid_from 19 0 ps rfl hv hrows
  refine ⟨fun i => al.getD i ⟨0, 0, none⟩, fun i hi => by simpa [errV] using h2 i hi, h3, ?_⟩
  intro i j hi hj hij he
  have hnd2 := hnd.sublist h4
  have hi' : i < al.length := by omega
  have hj' : j < al.length := by omega
  simp only [List.getD, List.getElem?_eq_getElem hi', List.getElem?_eq_getElem hj', Option.getD_some] at he
  have hfl : (al.map fun a => MemPlace.row a 1).flatten = al.map fun a => MemPlace.cell a.block a.off := by
    rw [← List.flatMap_def]
    have : (fun a : Addr => MemPlace.row a 1) = fun a => [MemPlace.cell a.block a.off] := by
      funext a; simp [MemPlace.row]
    rw [this]
    clear h1 h2 h3 h4 hnd2 hi' hj' he
    induction al with
    | nil => rfl
    | cons a al ih => simp [ih]
  rw [hfl] at hnd2
  have hi2 : i < (al.map fun a => MemPlace.cell a.block a.off).length := by simpa using hi'
  have hj2 : j < (al.map fun a => MemPlace.cell a.block a.off).length := by simpa using hj'
  have hp := List.pairwise_iff_getElem.1 hnd2
  rcases Nat.lt_or_ge i j with hlt | hge
  · exact hp i j hi2 hj2 hlt (by simp [he])
  · exact hp j i hj2 hi2 (by omega) (by simp [he])
end Go.Proofs.YtjhmehmmpfnnkaaDoor
