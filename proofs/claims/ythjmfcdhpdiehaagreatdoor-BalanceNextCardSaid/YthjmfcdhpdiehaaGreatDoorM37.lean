/-
  What the row's list of variables gives: the errors of package api, each a pointer of its own.
  The arguments of the Balance laws, opened; the errors that their rows list.
  All nineteen errors, out of a row's list, and where they lie.
-/
import Derived.Test.YthjmfcdhpdiehaaGreatDoorM04
import Derived.LaidLaws
import Derived.Test.YthjmfcdhpdiehaaGreatDoorM26
import Derived.Deep.Slices
import Derived.OpenShut
import Derived.KernelRfl
namespace Go.Proofs.YthjmfcdhpdiehaaGreatDoor
open Go.RowKit Go.ChangeShapes
set_option maxRecDepth 100000
set_option linter.unusedSimpArgs false
set_option linter.unusedVariables false

def mkD (x : String × List UInt8) : String × DataW Unit := (x.1, .iface "*errors.errorString" (.ptr (.agg [.lit (.string x.2)])))

/-- All errors of package api, with their texts. -/
def errL : List (String × List UInt8) := [("tidewater/api.ErrRange", [116, 105, 100, 101, 119, 97, 116, 101, 114, 58, 32, 114, 97, 110, 103, 101]), ("tidewater/api.ErrShort", [116, 105, 100, 101, 119, 97, 116, 101, 114, 58, 32, 115, 104, 111, 114, 116]), ("tidewater/api.ErrLong", [116, 105, 100, 101, 119, 97, 116, 101, 114, 58, 32, 108, 111, 110, 103]), ("tidewater/api.ErrForm", [116, 105, 100, 101, 119, 97, 116, 101, 114, 58, 32, 102, 111, 114, 109]), ("tidewater/api.ErrSum", [116, 105, 100, 101, 119, 97, 116, 101, 114, 58, 32, 115, 117, 109]), ("tidewater/api.ErrRune", [116, 105, 100, 101, 119, 97, 116, 101, 114, 58, 32, 114, 117, 110, 101]), ("tidewater/api.ErrName", [116, 105, 100, 101, 119, 97, 116, 101, 114, 58, 32, 110, 97, 109, 101]), ("tidewater/api.ErrSealed", [116, 105, 100, 101, 119, 97, 116, 101, 114, 58, 32, 115, 101, 97, 108, 101, 100]), ("tidewater/api.ErrWritten", [116, 105, 100, 101, 119, 97, 116, 101, 114, 58, 32, 119, 114, 105, 116, 116, 101, 110]), ("tidewater/api.ErrUnwritten", [116, 105, 100, 101, 119, 97, 116, 101, 114, 58, 32, 117, 110, 119, 114, 105, 116, 116, 101, 110]), ("tidewater/api.ErrTrimmed", [116, 105, 100, 101, 119, 97, 116, 101, 114, 58, 32, 116, 114, 105, 109, 109, 101, 100]), ("tidewater/api.ErrDown", [116, 105, 100, 101, 119, 97, 116, 101, 114, 58, 32, 100, 111, 119, 110]), ("tidewater/api.ErrFull", [116, 105, 100, 101, 119, 97, 116, 101, 114, 58, 32, 102, 117, 108, 108]), ("tidewater/api.ErrEpoch", [116, 105, 100, 101, 119, 97, 116, 101, 114, 58, 32, 101, 112, 111, 99, 104]), ("tidewater/api.ErrMoved", [116, 105, 100, 101, 119, 97, 116, 101, 114, 58, 32, 109, 111, 118, 101, 100]), ("tidewater/api.ErrNone", [116, 105, 100, 101, 119, 97, 116, 101, 114, 58, 32, 110, 111, 110, 101]), ("tidewater/api.ErrState", [116, 105, 100, 101, 119, 97, 116, 101, 114, 58, 32, 115, 116, 97, 116, 101]), ("tidewater/api.ErrClash", [116, 105, 100, 101, 119, 97, 116, 101, 114, 58, 32, 99, 108, 97, 115, 104]), ("tidewater/api.ErrStale", [116, 105, 100, 101, 119, 97, 116, 101, 114, 58, 32, 115, 116, 97, 108, 101])]

theorem Tryz.cellsErrStr : Tryz.prog.cellsOf 216 = 1 := by kernel_rfl
theorem Tryz.cellsStr : Tryz.prog.cellsOf 9 = 1 := by kernel_rfl
theorem Tryz.errGs : (List.range 19).all (fun i => Tryz.prog.globalNamed (errL.getD i ("", [])).1 == some (errG i)) = true := by kernel_rfl
theorem Tryz.errTs : (List.range 19).all (fun i => (Tryz.prog.globals[errG i]?).map (·.type) == some 34) = true := by kernel_rfl
theorem Tryz.star : ("*errors.errorString" : String) = "*" ++ "errors.errorString" := by decide
theorem Tryz.errName (u : TypeId) (h : Tryz.prog.typeName? 3 u = some "*errors.errorString") : u = 184 := typeName_ptr_named (nm := "errors.errorString") (by rw [← Tryz.star]; kernel_rfl) (by kernel_rfl) (by decide) u (by rw [← Tryz.star]; exact h)

theorem errL_global (i : Nat) (hi : i < 19) : Tryz.prog.globalNamed (errL.getD i ("", [])).1 = some (errG i) := by
  have := List.all_eq_true.1 Tryz.errGs i (List.mem_range.2 hi)
  exact eq_of_beq this
theorem errG_type (i : Nat) (hi : i < 19) : (Tryz.prog.globals[errG i]?).map (·.type) = some 34 := by
  have := List.all_eq_true.1 Tryz.errTs i (List.mem_range.2 hi)
  exact eq_of_beq this

theorem laid_from {W : World} : ∀ (n k : Nat) (ps : List MemPlace), n + k = 19 → DataW.LaidVars Tryz.prog W ((errL.drop k).map mkD) ps →
    (∀ b off, MemPlace.cell b off ∈ ps → (∃ c t, W.heap[b]? = some (.cells c t (0, 0))) ∧ ∀ u v, W.cell? ⟨b, off, none⟩ = some (.iface u v) → Value.okWide Tryz.prog W .any 0 u v) →
    ∃ al : List Addr, al.length = n ∧ (∀ i, i < n → W.cell? ⟨errG (k + i), 0, none⟩ = some (.iface 184 (.pointer (some (al.getD i ⟨0, 0, none⟩))))) ∧
      (∀ i, i < n → ∃ c t, W.heap[(al.getD i ⟨0, 0, none⟩).block]? = some (.cells c t (0, 0))) ∧ (al.map fun a => MemPlace.row a 1).flatten.Sublist ps
  | 0, k, ps, hk, h, _ => ⟨[], rfl, fun i hi => by omega, fun i hi => by omega, List.nil_sublist _⟩
  | n + 1, k, ps, hk, h, hrows => by
    have hk19 : k < 19 := by omega
    have hlen : k < errL.length := by show k < 19; exact hk19
    have hd : errL.drop k = errL.getD k ("", []) :: errL.drop (k + 1) := by
      rw [List.drop_eq_getElem_cons hlen]
      simp [List.getD, List.getElem?_eq_getElem hlen]
    rw [hd, List.map_cons] at h
    obtain ⟨g, t, cs, fuel, p, q, hg, ht, hv, hdat, hq, rfl⟩ := h
    obtain rfl := Option.some.inj ((errL_global k hk19).symm.trans hg)
    obtain rfl := Option.some.inj ((errG_type k hk19).symm.trans ht)
    obtain ⟨l⟩ := cs
    have ok0 : ∀ u v, l = [.iface u v] → Value.okWide Tryz.prog W .any 0 u v := fun u v e => by
      subst e
      exact (hrows (errG k) 0 (by simp [MemPlace.row])).2 u v (by simpa using World.var?_cell hg hv 0)
    obtain ⟨a, s, rfl, hc, hs, hz, rfl⟩ := errorString_of_trod Tryz.underlying34 Tryz.errName Tryz.underlying184 Tryz.underlying216 rfl rfl Tryz.underlying9 Tryz.cellsErrStr Tryz.cellsStr hdat ok0
    obtain ⟨al, h1, h2, h3, h4⟩ := laid_from n (k + 1) q (by omega) hq (fun b off hm => hrows b off (List.mem_append_right _ hm))
    refine ⟨a :: al, by simp [h1], ?_, ?_, ?_⟩
    · intro i hi
      cases i with
      | zero => simpa using World.var?_cell hg hv 0
      | succ i =>
        have := h2 i (by omega)
        rw [show k + (i + 1) = k + 1 + i by omega]
        simpa using this
    · intro i hi
      cases i with
      | zero =>
        obtain ⟨c, t, hb⟩ := (hrows a.block a.off (by simp [MemPlace.row])).1
        exact ⟨c, t, by simpa using hb⟩
      | succ i => simpa using h3 i (by omega)
    · rw [List.map_cons, List.flatten_cons, List.append_assoc]
      exact (List.Sublist.append (List.Sublist.refl _) h4).trans (List.sublist_append_right _ _)

/-- The errors, out of the row's list. -/
theorem errs_of_laid {W : World} (h : laidMet Tryz.prog (errL.map mkD) W) : ∃ ea, ErrsAt W ea := by
  obtain ⟨ps, hv, hnd, hrows⟩ := h
  obtain ⟨al, h1, h2, h3, h4⟩ := laid_from 19 0 ps rfl hv hrows
  refine ⟨fun i => al.getD i ⟨0, 0, none⟩, fun i hi => by simpa [errV] using h2 i hi, h3, ?_⟩
  intro i j hi hj hij he
  have hnd2 := hnd.sublist h4
  have hi' : i < al.length := by omega
  have hj' : j < al.length := by omega
  simp only [List.getD, List.getElem?_eq_getElem hi', List.getElem?_eq_getElem hj', Option.getD_some] at he
  have hfl : (al.map fun a => MemPlace.row a 1).flatten = al.map fun a => MemPlace.cell a.block a.off := by
    rw [← List.flatMap_def]
    have : (fun a : Addr => MemPlace.row a 1) = fun a => [MemPlace.cell a.block a.off] := by
      funext a; simp [MemPlace.row]
    rw [this]
    clear h1 h2 h3 h4 hnd2 hi' hj' he
    induction al with
    | nil => rfl
    | cons a al ih => simp [ih]
  rw [hfl] at hnd2
  have hi2 : i < (al.map fun a => MemPlace.cell a.block a.off).length := by simpa using hi'
  have hj2 : j < (al.map fun a => MemPlace.cell a.block a.off).length := by simpa using hj'
  have hp := List.pairwise_iff_getElem.1 hnd2
  rcases Nat.lt_or_ge i j with hlt | hge
  · exact hp i j hi2 hj2 hlt (by simp [he])
  · exact hp j i hj2 hi2 (by omega) (by simp [he])
end Go.Proofs.YthjmfcdhpdiehaaGreatDoor

namespace Go.Proofs.YthjmfcdhpdiehaaGreatDoor
open Go.RowKit Utf Go.ChangeShapes Go.WideShapes
set_option maxRecDepth 100000
set_option linter.unusedSimpArgs false
set_option linter.unusedVariables false

/-- These cells read as data of the type. -/
def Rd {H : Type} (enc : TypeId × Value → H) (P : Program) (w : World) (base : Nat) (sp : Nat → Bool) (held : Bool) (t : TypeId) (cs : List Value) : Prop :=
  ∃ fuel x, DataW.trod enc P w base sp held fuel t cs = some x
section
variable {H : Type} {enc : TypeId × Value → H} {P : Program} {w : World} {base : Nat} {sp : Nat → Bool} {held : Bool} {t e : TypeId} {cs : List Value}
theorem Rd.field {fs : Array Field} (ht : P.underlying t = some (.struct fs)) (h : Rd enc P w base sp held t cs) :
    cs.length = P.cellsOf t ∧ ∀ (i : Nat) (f : Field), fs[i]? = some f → Rd enc P w base sp held f.type ((cs.drop f.offset).take (P.cellsOf f.type)) := by
  obtain ⟨fuel, x, h⟩ := h
  obtain ⟨xs, n, -, -, hl, hx, hf⟩ := DataW.trod_struct ht h
  refine ⟨hl, fun i f hi => ?_⟩
  have h1 := hf i f hi
  have h2 : i < xs.length := by rw [hx]; exact (Array.getElem?_eq_some_iff.1 hi).1
  rw [List.getElem?_eq_getElem h2] at h1
  exact ⟨n, _, h1⟩
theorem Rd.int {k : IntKind} (ht : P.underlying t = some (.int k)) (h : Rd enc P w base sp held t cs) : ∃ z, cs = [.int k z] ∧ (Lit.int k z).wf = true := by
  obtain ⟨fuel, x, h⟩ := h
  obtain ⟨z, h1, -, h2⟩ := DataW.trod_int ht h
  exact ⟨z, h1, h2⟩
theorem Rd.str (ht : P.underlying t = some .string) (h : Rd enc P w base sp held t cs) : ∃ s, cs = [.string s] ∧ s.size ≤ maxLen := by
  obtain ⟨fuel, x, h⟩ := h
  obtain ⟨z, h1, -, h2⟩ := DataW.trod_string ht h
  exact ⟨z, h1, h2⟩
theorem Rd.slice (ht : P.underlying t = some (.slice e)) (h : Rd enc P w base sp held t cs) :
    ∃ ao n c, cs = [.slice ao n c] ∧ ∀ i, i < n → ∃ a cs', ao = some a ∧ w.cells? base (a.add (i * P.cellsOf e)) (P.cellsOf e) = some cs' ∧ Rd enc P w base sp held e cs' := by
  obtain ⟨fuel, x, h⟩ := h
  rcases Go.Deep.open_slice ht h with ⟨rfl, -⟩ | ⟨a, len, cap, m, n, D, Pl, rfl, -, hl, -, hm, -, hx⟩
  · exact ⟨none, 0, 0, rfl, fun i hi => by cases hi⟩
  · refine ⟨some a, len, cap, rfl, fun i hi => ?_⟩
    obtain ⟨cs', h1, h2⟩ := hx i (by rw [hm]; split <;> omega)
    exact ⟨a, cs', rfl, h1, n, _, h2⟩
theorem cell_drop {cs : List Value} {off : Nat} {v : Value} (h : (cs.drop off).take 1 = [v]) : cs[off]? = some v := by
  have h1 : ((cs.drop off).take 1)[0]? = some v := by rw [h]; rfl
  rw [List.getElem?_take_of_lt (by omega), List.getElem?_drop, Nat.add_zero] at h1
  exact h1
theorem cell_take {cs : List Value} {o m j : Nat} {v : Value} (h : ((cs.drop o).take m)[j]? = some v) : cs[o + j]? = some v := by
  by_cases hj : j < m
  · rw [List.getElem?_take_of_lt hj, List.getElem?_drop] at h
    exact h
  · rw [List.getElem?_eq_none (by rw [List.length_take]; omega)] at h
    cases h
/-- A slice of such elements. -/
theorem rd_list {α : Type} [Inhabited α] (f : α → List Value) (n : Nat) (hn : 0 < n) (hf : ∀ a, (f a).length = n) (Q : α → Prop) (helem : ∀ cs, Rd enc P w base sp held e cs → ∃ a, cs = f a ∧ Q a) (hu : P.underlying t = some (.slice e)) (hc : P.cellsOf e = n) (h : Rd enc P w base sp held t cs) :
    ∃ ao c, ∃ l : List α, cs = [.slice ao l.length c] ∧ RowAt w ao (l.flatMap f) ∧ ∀ a ∈ l, Q a := by
  obtain ⟨ao, m, c, rfl, hx⟩ := h.slice hu
  obtain ⟨F, hF⟩ := Go.Deep.choose_lt (α := α) (n := m) (p := fun i o => (∃ a, ao = some a ∧ ∀ j, j < n → w.cell? (a.add (i * n + j)) = (f o)[j]?) ∧ Q o) (fun i hi => by
    obtain ⟨a, cs', ha, hcc, hr⟩ := hx i hi
    obtain ⟨o, rfl, hv⟩ := helem _ hr
    rw [hc] at hcc
    obtain ⟨-, -, hcell⟩ := World.cells?_some hcc
    refine ⟨o, ⟨a, ha, fun j hj => ?_⟩, hv⟩
    rw [← Go.Deep.add_add]
    exact hcell j hj)
  have hlen : ((List.range m).map F).length = m := by simp
  refine ⟨ao, c, (List.range m).map F, by rw [hlen], fun i hi => ?_, fun o ho => ?_⟩
  · have hfl : (((List.range m).map F).flatMap f).length = m * n := by rw [flat_len f n hf, hlen]
    have hi' : i < m * n := by rw [← hfl]; exact hi
    obtain ⟨q, r, rfl, hr⟩ : ∃ q r, i = q * n + r ∧ r < n := ⟨i / n, i % n, by rw [Nat.mul_comm]; exact (Nat.div_add_mod i n).symm, Nat.mod_lt _ hn⟩
    have hk : q < m := by
      refine Decidable.byContradiction fun h => ?_
      have : m * n ≤ q * n := Nat.mul_le_mul_right n (by omega)
      omega
    obtain ⟨⟨a, ha, hcq⟩, -⟩ := hF q hk
    have h1 := hcq r hr
    have h2 := flat_at f n hf ((List.range m).map F) q r (by rw [hlen]; exact hk) hr
    have h4 : ((List.range m).map F)[q]'(by rw [hlen]; exact hk) = F q := by simp
    rw [h4, ← h1, List.getElem?_eq_getElem hi] at h2
    have hspot : a.spot = none := by
      obtain ⟨⟨a', ha', hc'⟩, -⟩ := hF 0 (by omega)
      rw [ha] at ha'
      cases ha'
      have h5 := hc' 0 hn
      rw [List.getElem?_eq_getElem (show 0 < (f (F 0)).length by rw [hf]; exact hn)] at h5
      have hq := World.cell?_spot h5
      simpa [Addr.add] using hq
    obtain ⟨b, o, s⟩ := a
    simp only at hspot
    subst hspot
    rw [Go.WideShapes.add_plain] at h2
    exact ⟨b, o, ha, h2.symm⟩
  · obtain ⟨i, hi, rfl⟩ := List.mem_map.1 ho
    exact (hF i (List.mem_range.1 hi)).2
end
section
variable {H : Type} {enc : TypeId × Value → H} {w : World} {base : Nat} {sp : Nat → Bool} {held : Bool} {cs : List Value}
theorem rd_load (h : Rd enc Tryz.prog w base sp held 77 cs) : ∃ x : LD, cs = x.cells ∧ True := by
  obtain ⟨hl, hf⟩ := h.field Tryz.underlying77
  have hln : cs.length = 2 := hl.trans (by kernel_rfl)
  have c1 : Tryz.prog.cellsOf 3 = 1 := by kernel_rfl
  have c2 : Tryz.prog.cellsOf 9 = 1 := by kernel_rfl
  have f0 : Rd enc Tryz.prog w base sp held 9 ((cs.drop 0).take 1) := by
    have h := hf 0 ⟨_, 9, 0, _, _, _, _⟩ rfl
    dsimp only at h
    rw [c2] at h
    exact h
  have f1 : Rd enc Tryz.prog w base sp held 3 ((cs.drop 1).take 1) := by
    have h := hf 1 ⟨_, 3, 1, _, _, _, _⟩ rfl
    dsimp only at h
    rw [c1] at h
    exact h
  obtain ⟨z0, g0, -⟩ := f0.str Tryz.underlying9
  obtain ⟨z1, g1, w1⟩ := f1.int Tryz.underlying3
  refine ⟨⟨z0, z1⟩, ?_, trivial⟩
  apply List.ext_getElem?
  intro i
  rcases i with _ | _ | i
  · exact cell_drop g0
  · exact cell_drop g1
  · rw [List.getElem?_eq_none (by omega), List.getElem?_eq_none (by simp [LD.cells])]
theorem rd_ask (h : Rd enc Tryz.prog w base sp held 25 cs) : ∃ s m : Int, cs = [.int .i64 s, .int .i64 m] := by
  obtain ⟨hl, hf⟩ := h.field Tryz.underlying25
  have hln : cs.length = 2 := hl.trans (by kernel_rfl)
  have c1 : Tryz.prog.cellsOf 3 = 1 := by kernel_rfl
  have f0 : Rd enc Tryz.prog w base sp held 3 ((cs.drop 0).take 1) := by
    have h := hf 0 ⟨_, 3, 0, _, _, _, _⟩ rfl
    dsimp only at h
    rw [c1] at h
    exact h
  have f1 : Rd enc Tryz.prog w base sp held 3 ((cs.drop 1).take 1) := by
    have h := hf 1 ⟨_, 3, 1, _, _, _, _⟩ rfl
    dsimp only at h
    rw [c1] at h
    exact h
  obtain ⟨z0, g0, w0⟩ := f0.int Tryz.underlying3
  obtain ⟨z1, g1, w1⟩ := f1.int Tryz.underlying3
  refine ⟨z0, z1, ?_⟩
  apply List.ext_getElem?
  intro i
  rcases i with _ | _ | i
  · exact cell_drop g0
  · exact cell_drop g1
  · rw [List.getElem?_eq_none (by omega), List.getElem?_eq_none (by simp)]
theorem rd_aop (h : Rd enc Tryz.prog w base sp held 81 cs) : ∃ o : BOp, cs = bCells o ∧ -9223372036854775808 ≤ o.version ∧ o.version ≤ 9223372036854775807 := by
  obtain ⟨hl, hf⟩ := h.field Tryz.underlying81
  have hln : cs.length = 5 := hl.trans (by kernel_rfl)
  have c1 : Tryz.prog.cellsOf 3 = 1 := by kernel_rfl
  have c2 : Tryz.prog.cellsOf 9 = 1 := by kernel_rfl
  have f0 : Rd enc Tryz.prog w base sp held 3 ((cs.drop 0).take 1) := by
    have h := hf 0 ⟨_, 3, 0, _, _, _, _⟩ rfl
    dsimp only at h
    rw [c1] at h
    exact h
  have f1 : Rd enc Tryz.prog w base sp held 9 ((cs.drop 1).take 1) := by
    have h := hf 1 ⟨_, 9, 1, _, _, _, _⟩ rfl
    dsimp only at h
    rw [c2] at h
    exact h
  have f2 : Rd enc Tryz.prog w base sp held 9 ((cs.drop 2).take 1) := by
    have h := hf 2 ⟨_, 9, 2, _, _, _, _⟩ rfl
    dsimp only at h
    rw [c2] at h
    exact h
  have f3 : Rd enc Tryz.prog w base sp held 9 ((cs.drop 3).take 1) := by
    have h := hf 3 ⟨_, 9, 3, _, _, _, _⟩ rfl
    dsimp only at h
    rw [c2] at h
    exact h
  have f4 : Rd enc Tryz.prog w base sp held 3 ((cs.drop 4).take 1) := by
    have h := hf 4 ⟨_, 3, 4, _, _, _, _⟩ rfl
    dsimp only at h
    rw [c1] at h
    exact h
  obtain ⟨z0, g0, w0⟩ := f0.int Tryz.underlying3
  obtain ⟨z1, g1, -⟩ := f1.str Tryz.underlying9
  obtain ⟨z2, g2, -⟩ := f2.str Tryz.underlying9
  obtain ⟨z3, g3, -⟩ := f3.str Tryz.underlying9
  obtain ⟨z4, g4, w4⟩ := f4.int Tryz.underlying3
  refine ⟨⟨z0, z1, z2, z3, z4⟩, ?_, bounds_i64 w4⟩
  apply List.ext_getElem?
  intro i
  rcases i with _ | _ | _ | _ | _ | i
  · exact cell_drop g0
  · exact cell_drop g1
  · exact cell_drop g2
  · exact cell_drop g3
  · exact cell_drop g4
  · rw [List.getElem?_eq_none (by omega), List.getElem?_eq_none (by simp [bCells])]
instance : Inhabited BOp := ⟨⟨0, ⟨#[]⟩, ⟨#[]⟩, ⟨#[]⟩, 0⟩⟩
instance : Inhabited LD := ⟨⟨⟨#[]⟩, 0⟩⟩
instance : Inhabited EN := ⟨EN.zero⟩
theorem rd_aops (h : Rd enc Tryz.prog w base sp held 41 cs) : ∃ ao c, ∃ ops : List BOp, cs = [.slice ao ops.length c] ∧ RowAt w ao (ops.flatMap bCells) ∧ ∀ o ∈ ops, -9223372036854775808 ≤ o.version ∧ o.version ≤ 9223372036854775807 :=
  rd_list bCells 5 (by decide) bCells_len _ (fun cs h => rd_aop h) Tryz.underlying41 (by kernel_rfl) h
theorem rd_loads (h : Rd enc Tryz.prog w base sp held 23 cs) : ∃ ao c, ∃ l : List LD, cs = [.slice ao l.length c] ∧ RowAt w ao (ldRow l) ∧ ∀ x ∈ l, True :=
  rd_list LD.cells 2 (by decide) LD.cells_len _ (fun cs h => rd_load h) Tryz.underlying23 (by kernel_rfl) h
theorem rd_act (h : Rd enc Tryz.prog w base sp held 79 cs) : ∃ x : Ac, cs = acC x ∧ AcAt w x := by
  obtain ⟨hl, hf⟩ := h.field Tryz.underlying79
  have hln : cs.length = 13 := hl.trans (by kernel_rfl)
  have c1 : Tryz.prog.cellsOf 3 = 1 := by kernel_rfl
  have c5 : Tryz.prog.cellsOf 44 = 12 := by kernel_rfl
  have f0 : Rd enc Tryz.prog w base sp held 44 ((cs.drop 0).take 12) := by
    have h := hf 0 ⟨_, 44, 0, _, _, _, _⟩ rfl
    dsimp only at h
    rw [c5] at h
    exact h
  have f1 : Rd enc Tryz.prog w base sp held 3 ((cs.drop 12).take 1) := by
    have h := hf 1 ⟨_, 3, 12, _, _, _, _⟩ rfl
    dsimp only at h
    rw [c1] at h
    exact h
  obtain ⟨y12, g12, -⟩ := f1.int Tryz.underlying3
  obtain ⟨-, hf⟩ := f0.field Tryz.underlying44
  have c2 : Tryz.prog.cellsOf 9 = 1 := by kernel_rfl
  have c3 : Tryz.prog.cellsOf 41 = 1 := by kernel_rfl
  have c4 : Tryz.prog.cellsOf 42 = 1 := by kernel_rfl
  have e0 : Rd enc Tryz.prog w base sp held 3 ((((cs.drop 0).take 12).drop 0).take 1) := by
    have h := hf 0 ⟨_, 3, 0, _, _, _, _⟩ rfl
    dsimp only at h
    rw [c1] at h
    exact h
  have e1 : Rd enc Tryz.prog w base sp held 3 ((((cs.drop 0).take 12).drop 1).take 1) := by
    have h := hf 1 ⟨_, 3, 1, _, _, _, _⟩ rfl
    dsimp only at h
    rw [c1] at h
    exact h
  have e2 : Rd enc Tryz.prog w base sp held 3 ((((cs.drop 0).take 12).drop 2).take 1) := by
    have h := hf 2 ⟨_, 3, 2, _, _, _, _⟩ rfl
    dsimp only at h
    rw [c1] at h
    exact h
  have e3 : Rd enc Tryz.prog w base sp held 3 ((((cs.drop 0).take 12).drop 3).take 1) := by
    have h := hf 3 ⟨_, 3, 3, _, _, _, _⟩ rfl
    dsimp only at h
    rw [c1] at h
    exact h
  have e4 : Rd enc Tryz.prog w base sp held 3 ((((cs.drop 0).take 12).drop 4).take 1) := by
    have h := hf 4 ⟨_, 3, 4, _, _, _, _⟩ rfl
    dsimp only at h
    rw [c1] at h
    exact h
  have e5 : Rd enc Tryz.prog w base sp held 3 ((((cs.drop 0).take 12).drop 5).take 1) := by
    have h := hf 5 ⟨_, 3, 5, _, _, _, _⟩ rfl
    dsimp only at h
    rw [c1] at h
    exact h
  have e6 : Rd enc Tryz.prog w base sp held 41 ((((cs.drop 0).take 12).drop 6).take 1) := by
    have h := hf 6 ⟨_, 41, 6, _, _, _, _⟩ rfl
    dsimp only at h
    rw [c3] at h
    exact h
  have e7 : Rd enc Tryz.prog w base sp held 9 ((((cs.drop 0).take 12).drop 7).take 1) := by
    have h := hf 7 ⟨_, 9, 7, _, _, _, _⟩ rfl
    dsimp only at h
    rw [c2] at h
    exact h
  have e8 : Rd enc Tryz.prog w base sp held 3 ((((cs.drop 0).take 12).drop 8).take 1) := by
    have h := hf 8 ⟨_, 3, 8, _, _, _, _⟩ rfl
    dsimp only at h
    rw [c1] at h
    exact h
  have e9 : Rd enc Tryz.prog w base sp held 3 ((((cs.drop 0).take 12).drop 9).take 1) := by
    have h := hf 9 ⟨_, 3, 9, _, _, _, _⟩ rfl
    dsimp only at h
    rw [c1] at h
    exact h
  have e10 : Rd enc Tryz.prog w base sp held 3 ((((cs.drop 0).take 12).drop 10).take 1) := by
    have h := hf 10 ⟨_, 3, 10, _, _, _, _⟩ rfl
    dsimp only at h
    rw [c1] at h
    exact h
  have e11 : Rd enc Tryz.prog w base sp held 42 ((((cs.drop 0).take 12).drop 11).take 1) := by
    have h := hf 11 ⟨_, 42, 11, _, _, _, _⟩ rfl
    dsimp only at h
    rw [c4] at h
    exact h
  obtain ⟨y0, h0, -⟩ := e0.int Tryz.underlying3
  obtain ⟨y1, h1, -⟩ := e1.int Tryz.underlying3
  obtain ⟨y2, h2, -⟩ := e2.int Tryz.underlying3
  obtain ⟨y3, h3, -⟩ := e3.int Tryz.underlying3
  obtain ⟨y4, h4, -⟩ := e4.int Tryz.underlying3
  obtain ⟨y5, h5, -⟩ := e5.int Tryz.underlying3
  obtain ⟨ao, co, ops, h6, hrow, hver⟩ := rd_aops e6
  obtain ⟨y7, h7, -⟩ := e7.str Tryz.underlying9
  obtain ⟨y8, h8, -⟩ := e8.int Tryz.underlying3
  obtain ⟨y9, h9, -⟩ := e9.int Tryz.underlying3
  obtain ⟨y10, h10, -⟩ := e10.int Tryz.underlying3
  obtain ⟨ad, nd, cd, h11, -⟩ := e11.slice Tryz.underlying42
  refine ⟨(⟨y0, y1, y2, y3, y4, y5, ao, ops.length, co, y7, y8, y9, y10, ad, nd, cd⟩, y12), ?_, ⟨ops, rfl, hrow, hver⟩⟩
  apply List.ext_getElem?
  intro i
  rcases i with _ | _ | _ | _ | _ | _ | _ | _ | _ | _ | _ | _ | _ | i
  · exact (Nat.zero_add 0 ▸ cell_take (o := 0) (j := 0) (cell_drop h0))
  · exact (Nat.zero_add 1 ▸ cell_take (o := 0) (j := 1) (cell_drop h1))
  · exact (Nat.zero_add 2 ▸ cell_take (o := 0) (j := 2) (cell_drop h2))
  · exact (Nat.zero_add 3 ▸ cell_take (o := 0) (j := 3) (cell_drop h3))
  · exact (Nat.zero_add 4 ▸ cell_take (o := 0) (j := 4) (cell_drop h4))
  · exact (Nat.zero_add 5 ▸ cell_take (o := 0) (j := 5) (cell_drop h5))
  · exact (Nat.zero_add 6 ▸ cell_take (o := 0) (j := 6) (cell_drop h6))
  · exact (Nat.zero_add 7 ▸ cell_take (o := 0) (j := 7) (cell_drop h7))
  · exact (Nat.zero_add 8 ▸ cell_take (o := 0) (j := 8) (cell_drop h8))
  · exact (Nat.zero_add 9 ▸ cell_take (o := 0) (j := 9) (cell_drop h9))
  · exact (Nat.zero_add 10 ▸ cell_take (o := 0) (j := 10) (cell_drop h10))
  · exact (Nat.zero_add 11 ▸ cell_take (o := 0) (j := 11) (cell_drop h11))
  · exact cell_drop g12
  · rw [List.getElem?_eq_none (by omega), List.getElem?_eq_none (by simp [acC, EN.cells])]
theorem rd_acts (h : Rd enc Tryz.prog w base sp held 22 cs) : ∃ ao c, ∃ l : List Ac, cs = [.slice ao l.length c] ∧ RowAt w ao (acRow l) ∧ ∀ x ∈ l, AcAt w x :=
  rd_list acC 13 (by decide) acC_len _ (fun cs h => rd_act h) Tryz.underlying22 (by kernel_rfl) h
end
section
variable {H : Type} {enc : TypeId × Value → H} {W : World} {sp : Nat → Bool} {held : Bool} {r : Reach} {b0 b1 : Nat} {v : Value} {d : DataW H} {ps : List MemPlace}
theorem open_acts (hval : ∃ a n c, v = .slice a n c) (h : DataW.Trod enc Tryz.prog W b1 sp held 22 v d ps) : ∃ ao c, ∃ l : List Ac, v = .slice ao l.length c ∧ RowAt W ao (acRow l) ∧ ∀ x ∈ l, AcAt W x := by
  obtain ⟨a, n, c, rfl⟩ := hval
  obtain ⟨fuel, h⟩ := h
  obtain ⟨ao, c', l, h1, h2, h3⟩ := rd_acts (cs := [.slice a n c]) ⟨fuel, _, h⟩
  exact ⟨ao, c', l, by simpa using h1, h2, h3⟩
theorem open_loads (hval : ∃ a n c, v = .slice a n c) (h : DataW.Trod enc Tryz.prog W b1 sp held 23 v d ps) : ∃ ao c, ∃ l : List LD, v = .slice ao l.length c ∧ RowAt W ao (ldRow l) := by
  obtain ⟨a, n, c, rfl⟩ := hval
  obtain ⟨fuel, h⟩ := h
  obtain ⟨ao, c', l, h1, h2, -⟩ := rd_loads (cs := [.slice a n c]) ⟨fuel, _, h⟩
  exact ⟨ao, c', l, by simpa using h1, h2⟩
theorem open_ask (hval : Value.okWide Tryz.prog W r b0 25 v) (h : DataW.Trod enc Tryz.prog W b1 sp held 25 v d ps) : ∃ s m : Int, v = .agg #[.int .i64 s, .int .i64 m] := by
  unfold Value.okWide at hval
  rw [Tryz.underlying25] at hval
  obtain ⟨cs, rfl, -, -⟩ := hval
  obtain ⟨fuel, h⟩ := h
  obtain ⟨s, m, hcs⟩ := rd_ask (cs := cs.toList) ⟨fuel, _, h⟩
  refine ⟨s, m, ?_⟩
  rw [← Array.toArray_toList (xs := cs), hcs]
end
theorem Tryz.laidOut : laidOutB Tryz.prog = true := by kernel_rfl
end Go.Proofs.YthjmfcdhpdiehaaGreatDoor

namespace Go.Proofs.YthjmfcdhpdiehaaGreatDoor
open Go.RowKit Utf Go.ChangeShapes Go.WideShapes
set_option maxRecDepth 100000
set_option linter.unusedSimpArgs false
set_option linter.unusedVariables false

theorem berrs_of_laid {W : World} (h : laidMet Tryz.prog (errL.map mkD) W) : ∃ ea, ErrsAt W ea ∧ ∀ n, (ea n).block < W.heap.size := by
  obtain ⟨ea, he⟩ := errs_of_laid h
  have lt : ∀ i, i < 19 → (ea i).block < W.heap.size := fun i hi => by
    obtain ⟨c, t, hc⟩ := he.block i hi
    exact (Array.getElem?_eq_some_iff.1 hc).1
  have e : ∀ i, i < 19 → (if i < 19 then ea i else ea 0) = ea i := fun i hi => if_pos hi
  refine ⟨fun n => if n < 19 then ea n else ea 0, ⟨fun i hi => ?_, fun i hi => ?_, fun i j hi hj hij => ?_⟩, fun n => ?_⟩
  · unfold errV
    dsimp only
    rw [e i hi]
    exact he.cell i hi
  · rw [e i hi]
    exact he.block i hi
  · rw [e i hi, e j hj]
    exact he.apart i j hi hj hij
  · dsimp only
    by_cases hn : n < 19
    · rw [if_pos hn]; exact lt n hn
    · rw [if_neg hn]; exact lt 0 (by decide)
end Go.Proofs.YthjmfcdhpdiehaaGreatDoor
