/-
  What a row's list of variables gives, whichever errors it lists; arguments that are slices of texts or of numbers.
-/
import Derived.Test.YtjhmehmmpfnnkaaDoorErrLaid
import Derived.Test.YtjhmehmmpfnnkaaDoorLKit
import Derived.Test.YtjhmehmmpfnnkaaDoorLRestG
import Derived.SliceStrings
import Derived.Carry
namespace Go.Proofs.YtjhmehmmpfnnkaaDoor
open Go.RowKit Go.ChangeShapes Utf
set_option maxRecDepth 100000
set_option linter.unusedSimpArgs false
set_option linter.unusedVariables false

theorem Tryd.laidOut : laidOutB Tryd.prog = true := by kernel_rfl
theorem Tryd.cellsInt : Tryd.prog.cellsOf 3 = 1 := by kernel_rfl

theorem laid_idx {W : World} : ∀ (is : List Nat) (ps : List MemPlace), (∀ i ∈ is, i < 19) → DataW.LaidVars Tryd.prog W ((is.map fun i => errL.getD i ("", [])).map mkD) ps →
    (∀ b off, MemPlace.cell b off ∈ ps → (∃ c t, W.heap[b]? = some (.cells c t (0, 0))) ∧ ∀ u v, W.cell? ⟨b, off, none⟩ = some (.iface u v) → Value.okWide Tryd.prog W .any 0 u v) →
    ∃ al : List Addr, ∀ j (hj : j < is.length), W.cell? ⟨errG is[j], 0, none⟩ = some (.iface 163 (.pointer (some (al.getD j ⟨0, 0, none⟩))))
  | [], ps, _, _, _ => ⟨[], fun j hj => by simp at hj⟩
  | k :: is, ps, hk, h, hrows => by
    have hk19 : k < 19 := hk k (List.mem_cons_self ..)
    rw [List.map_cons, List.map_cons] at h
    obtain ⟨g, t, cs, fuel, p, q, hg, ht, hv, hdat, hq, rfl⟩ := h
    obtain rfl := Option.some.inj ((errL_global k hk19).symm.trans hg)
    obtain rfl := Option.some.inj ((errG_type k hk19).symm.trans ht)
    obtain ⟨l⟩ := cs
    have ok0 : ∀ u v, l = [.iface u v] → Value.okWide Tryd.prog W .any 0 u v := fun u v e => by
      subst e
      exact (hrows (errG k) 0 (by simp [MemPlace.row])).2 u v (by simpa using World.var?_cell hg hv 0)
    obtain ⟨a, s, rfl, hc, hs, hz, rfl⟩ := errorString_of_trod Tryd.underlying26 Tryd.errName Tryd.underlying163 Tryd.underlying185 rfl rfl Tryd.underlying9 Tryd.cellsErrStr Tryd.cellsStr hdat ok0
    obtain ⟨al, h2⟩ := laid_idx is q (fun i hi => hk i (List.mem_cons_of_mem _ hi)) hq (fun b off hm => hrows b off (List.mem_append_right _ hm))
    refine ⟨a :: al, ?_⟩
    intro j hj
    cases j with
    | zero => simpa using World.var?_cell hg hv 0
    | succ j =>
      have := h2 j (by simpa using hj)
      simpa using this

/-- The five errors that package lines gives, listed alone. -/
theorem lerr_of_five {W : World} (h : laidMet Tryd.prog ((([1, 3, 5, 6, 15] : List Nat).map fun i => errL.getD i ("", [])).map mkD) W) : ∃ ea, LErr W ea := by
  obtain ⟨ps, hv, hnd, hrows⟩ := h
  obtain ⟨al, h2⟩ := laid_idx [1, 3, 5, 6, 15] ps (by decide) hv hrows
  refine ⟨fun i => if i = 1 then al.getD 0 ⟨0, 0, none⟩ else if i = 3 then al.getD 1 ⟨0, 0, none⟩ else if i = 5 then al.getD 2 ⟨0, 0, none⟩ else if i = 6 then al.getD 3 ⟨0, 0, none⟩ else al.getD 4 ⟨0, 0, none⟩, ?_⟩
  intro i hi
  rcases hi with rfl | rfl | rfl | rfl | rfl
  · exact h2 0 (by decide)
  · exact h2 1 (by decide)
  · exact h2 2 (by decide)
  · exact h2 3 (by decide)
  · exact h2 4 (by decide)

section
variable {H : Type} {enc : TypeId × Value → H} {W : World}
/-- An argument that is a slice of texts. -/
theorem open_strRow {t : TypeId} {v : Value} {d : DataW H} {ps : List MemPlace} (ht : Tryd.prog.underlying t = some (.slice 9)) (hv : ∃ a n c, v = .slice a n c)
    (h : DataW.Trod enc Tryd.prog W 0 (fun _ => true) true t v d ps) : ∃ ao list cap, v = .slice ao (List.length list) cap ∧ RowAt W ao (strRow list) ∧ list.length ≤ maxLen ∧ ∀ s ∈ list, s.size ≤ maxLen := by
  obtain ⟨ao, n, cap, rfl⟩ := hv
  obtain ⟨fuel, hf⟩ := h
  rcases open_strings ht Tryd.underlying9 Tryd.cellsStr hf with ⟨hcs, hx⟩ | ⟨a, len', cap', ss, hcs, _, hl, hm, hz, hx, hcell, hws⟩
  · simp [Value.cells] at hcs
    obtain ⟨rfl, rfl, rfl⟩ := hcs
    exact ⟨none, [], 0, rfl, fun i hi => by simp [strRow] at hi, Nat.zero_le _, fun s hs => by simp at hs⟩
  · simp [Value.cells] at hcs
    obtain ⟨rfl, rfl, rfl⟩ := hcs
    simp only [if_true] at hz
    by_cases hn : n = 0
    · subst hn
      exact ⟨some a, [], cap, rfl, fun i hi => by simp [strRow] at hi, Nat.zero_le _, fun s hs => by simp at hs⟩
    · have hsp : ∃ b o, a = ⟨b, o, none⟩ := by
        have h0 := hcell 0 (by omega)
        obtain ⟨b, o, sp⟩ := a
        cases sp with
        | none => exact ⟨b, o, rfl⟩
        | some x => simp [Addr.add, World.cell?] at h0; split at h0 <;> cases h0
      obtain ⟨b, o, rfl⟩ := hsp
      refine ⟨some ⟨b, o, none⟩, ss.take n, cap, by rw [List.length_take, Nat.min_eq_left (by omega)], ?_, by rw [List.length_take]; omega, fun s hs => hws s (List.mem_of_mem_take hs)⟩
      intro i hi
      have hi' : i < n := by simp [strRow] at hi; omega
      have hc := hcell i (by omega)
      rw [addr_add] at hc
      refine ⟨b, o, rfl, hc.trans ?_⟩
      simp [strRow, List.getD, show i < ss.length by omega]
/-- An argument that is a slice of numbers. -/
theorem open_intRow {t : TypeId} {v : Value} {d : DataW H} {ps : List MemPlace} (ht : Tryd.prog.underlying t = some (.slice 3)) (hv : ∃ a n c, v = .slice a n c)
    (h : DataW.Trod enc Tryd.prog W 0 (fun _ => true) true t v d ps) : ∃ ao list cap, v = .slice ao (List.length list) cap ∧ RowAt W ao (intRow list) ∧ list.length ≤ maxLen ∧ ∀ n ∈ list, -9223372036854775808 ≤ n ∧ n ≤ 9223372036854775807 := by
  obtain ⟨ao, n, cap, rfl⟩ := hv
  obtain ⟨fuel, hf⟩ := h
  rcases open_ints ht Tryd.underlying3 Tryd.cellsInt hf with ⟨hcs, hx⟩ | ⟨a, len', cap', ss, hcs, _, hl, hm, hz, hx, hcell, hws⟩
  · simp [Value.cells] at hcs
    obtain ⟨rfl, rfl, rfl⟩ := hcs
    exact ⟨none, [], 0, rfl, fun i hi => by simp [intRow] at hi, Nat.zero_le _, fun s hs => by simp at hs⟩
  · simp [Value.cells] at hcs
    obtain ⟨rfl, rfl, rfl⟩ := hcs
    simp only [if_true] at hz
    by_cases hn : n = 0
    · subst hn
      exact ⟨some a, [], cap, rfl, fun i hi => by simp [intRow] at hi, Nat.zero_le _, fun s hs => by simp at hs⟩
    · have hsp : ∃ b o, a = ⟨b, o, none⟩ := by
        have h0 := hcell 0 (by omega)
        obtain ⟨b, o, sp⟩ := a
        cases sp with
        | none => exact ⟨b, o, rfl⟩
        | some x => simp [Addr.add, World.cell?] at h0; split at h0 <;> cases h0
      obtain ⟨b, o, rfl⟩ := hsp
      refine ⟨some ⟨b, o, none⟩, ss.take n, cap, by rw [List.length_take, Nat.min_eq_left (by omega)], ?_, by rw [List.length_take]; omega, fun s hs => by
        have := hws s (List.mem_of_mem_take hs)
        simp only [Lit.wf, Bool.and_eq_true, decide_eq_true_eq] at this
        exact this⟩
      intro i hi
      have hi' : i < n := by simp [intRow] at hi; omega
      have hc := hcell i (by omega)
      rw [addr_add] at hc
      refine ⟨b, o, rfl, hc.trans ?_⟩
      simp [intRow, List.getD, show i < ss.length by omega]
end
end Go.Proofs.YtjhmehmmpfnnkaaDoor
