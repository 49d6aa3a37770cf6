/-
  What the row's list of variables gives: the errors of package api, each a pointer of its own.
-/
import Derived.Test.YtjhmehmmpfnnkaaDoorM03
import Derived.LaidLaws
namespace Go.Proofs.YtjhmehmmpfnnkaaDoor
open Go.RowKit Go.ChangeShapes
set_option maxRecDepth 100000
set_option linter.unusedSimpArgs false
set_option linter.unusedVariables false

def mkD (x : String × List UInt8) : String × DataW Unit := (x.1, .iface "*errors.errorString" (.ptr (.agg [.lit (.string x.2)])))

/-- All errors of package api, with their texts. -/
def errL : List (String × List UInt8) := [("tidewater/api.ErrRange", [116, 105, 100, 101, 119, 97, 116, 101, 114, 58, 32, 114, 97, 110, 103, 101]), ("tidewater/api.ErrShort", [116, 105, 100, 101, 119, 97, 116, 101, 114, 58, 32, 115, 104, 111, 114, 116]), ("tidewater/api.ErrLong", [116, 105, 100, 101, 119, 97, 116, 101, 114, 58, 32, 108, 111, 110, 103]), ("tidewater/api.ErrForm", [116, 105, 100, 101, 119, 97, 116, 101, 114, 58, 32, 102, 111, 114, 109]), ("tidewater/api.ErrSum", [116, 105, 100, 101, 119, 97, 116, 101, 114, 58, 32, 115, 117, 109]), ("tidewater/api.ErrRune", [116, 105, 100, 101, 119, 97, 116, 101, 114, 58, 32, 114, 117, 110, 101]), ("tidewater/api.ErrName", [116, 105, 100, 101, 119, 97, 116, 101, 114, 58, 32, 110, 97, 109, 101]), ("tidewater/api.ErrSealed", [116, 105, 100, 101, 119, 97, 116, 101, 114, 58, 32, 115, 101, 97, 108, 101, 100]), ("tidewater/api.ErrWritten", [116, 105, 100, 101, 119, 97, 116, 101, 114, 58, 32, 119, 114, 105, 116, 116, 101, 110]), ("tidewater/api.ErrUnwritten", [116, 105, 100, 101, 119, 97, 116, 101, 114, 58, 32, 117, 110, 119, 114, 105, 116, 116, 101, 110]), ("tidewater/api.ErrTrimmed", [116, 105, 100, 101, 119, 97, 116, 101, 114, 58, 32, 116, 114, 105, 109, 109, 101, 100]), ("tidewater/api.ErrDown", [116, 105, 100, 101, 119, 97, 116, 101, 114, 58, 32, 100, 111, 119, 110]), ("tidewater/api.ErrFull", [116, 105, 100, 101, 119, 97, 116, 101, 114, 58, 32, 102, 117, 108, 108]), ("tidewater/api.ErrEpoch", [116, 105, 100, 101, 119, 97, 116, 101, 114, 58, 32, 101, 112, 111, 99, 104]), ("tidewater/api.ErrMoved", [116, 105, 100, 101, 119, 97, 116, 101, 114, 58, 32, 109, 111, 118, 101, 100]), ("tidewater/api.ErrNone", [116, 105, 100, 101, 119, 97, 116, 101, 114, 58, 32, 110, 111, 110, 101]), ("tidewater/api.ErrState", [116, 105, 100, 101, 119, 97, 116, 101, 114, 58, 32, 115, 116, 97, 116, 101]), ("tidewater/api.ErrClash", [116, 105, 100, 101, 119, 97, 116, 101, 114, 58, 32, 99, 108, 97, 115, 104]), ("tidewater/api.ErrStale", [116, 105, 100, 101, 119, 97, 116, 101, 114, 58, 32, 115, 116, 97, 108, 101])]

theorem Tryd.cellsErrStr : Tryd.prog.cellsOf 185 = 1 := by kernel_rfl
theorem Tryd.cellsStr : Tryd.prog.cellsOf 9 = 1 := by kernel_rfl
theorem Tryd.errGs : (List.range 19).all (fun i => Tryd.prog.globalNamed (errL.getD i ("", [])).1 == some (errG i)) = true := by kernel_rfl
theorem Tryd.errTs : (List.range 19).all (fun i => (Tryd.prog.globals[errG i]?).map (·.type) == some 26) = true := by kernel_rfl
theorem Tryd.star : ("*errors.errorString" : String) = "*" ++ "errors.errorString" := by decide
theorem Tryd.errName (u : TypeId) (h : Tryd.prog.typeName? 3 u = some "*errors.errorString") : u = 163 := typeName_ptr_named (nm := "errors.errorString") (by rw [← Tryd.star]; kernel_rfl) (by kernel_rfl) (by decide) u (by rw [← Tryd.star]; exact h)

theorem errL_global (i : Nat) (hi : i < 19) : Tryd.prog.globalNamed (errL.getD i ("", [])).1 = some (errG i) := by
  have := List.all_eq_true.1 Tryd.errGs i (List.mem_range.2 hi)
  exact eq_of_beq this
theorem errG_type (i : Nat) (hi : i < 19) : (Tryd.prog.globals[errG i]?).map (·.type) = some 26 := by
  have := List.all_eq_true.1 Tryd.errTs i (List.mem_range.2 hi)
  exact eq_of_beq this

theorem laid_from {W : World} : ∀ (n k : Nat) (ps : List MemPlace), n + k = 19 → DataW.LaidVars Tryd.prog W ((errL.drop k).map mkD) ps →
    (∀ b off, MemPlace.cell b off ∈ ps → (∃ c t, W.heap[b]? = some (.cells c t (0, 0))) ∧ ∀ u v, W.cell? ⟨b, off, none⟩ = some (.iface u v) → Value.okWide Tryd.prog W .any 0 u v) →
    ∃ al : List Addr, al.length = n ∧ (∀ i, i < n → W.cell? ⟨errG (k + i), 0, none⟩ = some (.iface 163 (.pointer (some (al.getD i ⟨0, 0, none⟩))))) ∧
      (∀ i, i < n → ∃ c t, W.heap[(al.getD i ⟨0, 0, none⟩).block]? = some (.cells c t (0, 0))) ∧ (al.map fun a => MemPlace.row a 1).flatten.Sublist ps
  | 0, k, ps, hk, h, _ => ⟨[], rfl, fun i hi => by omega, fun i hi => by omega, List.nil_sublist _⟩
  | n + 1, k, ps, hk, h, hrows => by
    have hk19 : k < 19 := by omega
    have hlen : k < errL.length := by show k < 19; exact hk19
    have hd : errL.drop k = errL.getD k ("", []) :: errL.drop (k + 1) := by
      rw [List.drop_eq_getElem_cons hlen]
      simp [List.getD, List.getElem?_eq_getElem hlen]
    rw [hd, List.map_cons] at h
    obtain ⟨g, t, cs, fuel, p, q, hg, ht, hv, hdat, hq, rfl⟩ := h
    obtain rfl := Option.some.inj ((errL_global k hk19).symm.trans hg)
    obtain rfl := Option.some.inj ((errG_type k hk19).symm.trans ht)
    obtain ⟨l⟩ := cs
    have ok0 : ∀ u v, l = [.iface u v] → Value.okWide Tryd.prog W .any 0 u v := fun u v e => by
      subst e
      exact (hrows (errG k) 0 (by simp [MemPlace.row])).2 u v (by simpa using World.var?_cell hg hv 0)
    obtain ⟨a, s, rfl, hc, hs, hz, rfl⟩ := errorString_of_trod Tryd.underlying26 Tryd.errName Tryd.underlying163 Tryd.underlying185 rfl rfl Tryd.underlying9 Tryd.cellsErrStr Tryd.cellsStr hdat ok0
    obtain ⟨al, h1, h2, h3, h4⟩ := laid_from n (k + 1) q (by omega) hq (fun b off hm => hrows b off (List.mem_append_right _ hm))
    refine ⟨a :: al, by simp [h1], ?_, ?_, ?_⟩
    · intro i hi
      cases i with
      | zero => simpa using World.var?_cell hg hv 0
      | succ i =>
        have := h2 i (by omega)
        rw [show k + (i + 1) = k + 1 + i by omega]
        simpa using this
    · intro i hi
      cases i with
      | zero =>
        obtain ⟨c, t, hb⟩ := (hrows a.block a.off (by simp [MemPlace.row])).1
        exact ⟨c, t, by simpa using hb⟩
      | succ i => simpa using h3 i (by omega)
    · rw [List.map_cons, List.flatten_cons, List.append_assoc]
      exact (List.Sublist.append (List.Sublist.refl _) h4).trans (List.sublist_append_right _ _)

/-- The errors, out of the row's list. -/
theorem errs_of_laid {W : World} (h : laidMet Tryd.prog (errL.map mkD) W) : ∃ ea, ErrsAt W ea := by
  obtain ⟨ps, hv, hnd, hrows⟩ := h
  obtain ⟨al, h1, h2, h3, h4⟩ := laid_from 19 0 ps rfl hv hrows
  refine ⟨fun i => al.getD i ⟨0, 0, none⟩, fun i hi => by simpa [errV] using h2 i hi, h3, ?_⟩
  intro i j hi hj hij he
  have hnd2 := hnd.sublist h4
  have hi' : i < al.length := by omega
  have hj' : j < al.length := by omega
  simp only [List.getD, List.getElem?_eq_getElem hi', List.getElem?_eq_getElem hj', Option.getD_some] at he
  have hfl : (al.map fun a => MemPlace.row a 1).flatten = al.map fun a => MemPlace.cell a.block a.off := by
    rw [← List.flatMap_def]
    have : (fun a : Addr => MemPlace.row a 1) = fun a => [MemPlace.cell a.block a.off] := by
      funext a; simp [MemPlace.row]
    rw [this]
    clear h1 h2 h3 h4 hnd2 hi' hj' he
    induction al with
    | nil => rfl
    | cons a al ih => simp [ih]
  rw [hfl] at hnd2
  have hi2 : i < (al.map fun a => MemPlace.cell a.block a.off).length := by simpa using hi'
  have hj2 : j < (al.map fun a => MemPlace.cell a.block a.off).length := by simpa using hj'
  have hp := List.pairwise_iff_getElem.1 hnd2
  rcases Nat.lt_or_ge i j with hlt | hge
  · exact hp i j hi2 hj2 hlt (by simp [he])
  · exact hp j i hj2 hi2 (by omega) (by simp [he])
end Go.Proofs.YtjhmehmmpfnnkaaDoor
