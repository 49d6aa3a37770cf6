/-
  What the Lines walks share: the errors that package lines gives, by their numbers.
-/
import Derived.Test.YtjhmehmmpfnnkaaDoorAKit
import Derived.Test.YtjhmehmmpfnnkaaDoorErr
import Derived.Test.YtjhmehmmpfnnkaaDoorWords
import Derived.Test.YtjhmehmmpfnnkaaDoorNumbers
namespace Go.Proofs.YtjhmehmmpfnnkaaDoor
open Go.RowKit Utf
set_option maxRecDepth 100000
set_option linter.unusedSimpArgs false
set_option linter.unusedVariables false

/-- The listed variables that package lines reads: each holds a pointer to an errorString. -/
def LErr (W : World) (ea : Nat → Addr) : Prop := ∀ i, (i = 1 ∨ i = 3 ∨ i = 5 ∨ i = 6 ∨ i = 15) → W.cell? ⟨errG i, 0, none⟩ = some (errV ea i)

theorem LErr.below {W W' : World} {ea : Nat → Addr} (h : LErr W ea) (hb : Below W.heap.size W W') : LErr W' ea :=
  fun i hi => (hb.cell (World.block_lt_of_cell? W _ (h i hi))).trans (h i hi)

theorem ErrsAt.lerr {W : World} {ea : Nat → Addr} (h : ErrsAt W ea) : LErr W ea := fun i hi => h.cell i (by omega)

section
variable {W : World} {ea : Nat → Addr} (h : LErr W ea)
include h
theorem LErr.short : W.cell? ⟨3, 0, none⟩ = some (.iface 163 (.pointer (some (ea 1)))) := h 1 (by omega)
theorem LErr.form : W.cell? ⟨1, 0, none⟩ = some (.iface 163 (.pointer (some (ea 3)))) := h 3 (by omega)
theorem LErr.rune : W.cell? ⟨0, 0, none⟩ = some (.iface 163 (.pointer (some (ea 5)))) := h 5 (by omega)
theorem LErr.name : W.cell? ⟨6, 0, none⟩ = some (.iface 163 (.pointer (some (ea 6)))) := h 6 (by omega)
theorem LErr.none : W.cell? ⟨15, 0, none⟩ = some (.iface 163 (.pointer (some (ea 15)))) := h 15 (by omega)
end

/-- An error by its number; nil of 0. -/
def errOf (ea : Nat → Addr) (n : Nat) : Value := if n = 0 then .nilIface else errV ea (n - 1)
theorem errOf_zero (ea : Nat → Addr) : errOf ea 0 = .nilIface := rfl
theorem errOf_succ (ea : Nat → Addr) (n : Nat) : errOf ea (n + 1) = .iface 163 (.pointer (some (ea n))) := rfl

/-- The iterator's block and a row of cells are two blocks. -/
theorem OwnE.iter_ne {w : World} {B : Nat} {e : TypeId} {size : Nat} {v : Value} {n : Nat} {xs : List Value} (h : OwnE w B e size v n xs) {b : Nat} {s : ByteArray} {p : Nat} (hb : w.heap[b]? = some (.stringIter s p)) : ownB v ≠ some b := by
  intro hk
  rcases h with ⟨h, _, _⟩ | h
  · rcases h with rfl | ⟨g', rfl⟩ <;> cases hk
  · rcases h.2 with ⟨rfl, _⟩ | ⟨g, cap, cur, rfl, _, hg, _⟩
    · cases hk
    · simp only [ownB] at hk
      split at hk
      · cases hk
      · have : g = b := by simpa using hk
        subst this
        rw [hg] at hb
        cases hb

theorem OwnE.iterAt' {w : World} {B : Nat} {e : TypeId} {size : Nat} {v : Value} {n : Nat} {xs : List Value} (h : OwnE w B e size v n xs) {b : Nat} {s : ByteArray} {p : Nat} (hb : w.heap[b]? = some (.stringIter s p)) (p' : Nat) : OwnE (w.iterAt b s p') B e size v n xs := by
  rcases h with h | h
  · exact .inl h
  · refine .inr ⟨h.1, ?_⟩
    rcases h.2 with h2 | ⟨g, cap, cur, hv, hB, hg, r⟩
    · exact .inl h2
    · refine .inr ⟨g, cap, cur, hv, hB, ?_, r⟩
      rw [Lib.iterAt_other _ _ _ _ _ (fun e => by subst e; rw [hg] at hb; cases hb)]
      exact hg

/-- The iterator's block behind an append to a row of the call's own. -/
theorem iter_grownE {w w' : World} {B : Nat} {e : TypeId} {size : Nat} {v : Value} {n : Nat} {xs : List Value} (h : OwnE w B e size v n xs) {e' : TypeId} {us : Array Value} {b : Nat} {s : ByteArray} {p : Nat} (hg : (w.alloc (.cells us e')).grownBy w' (ownB v)) (hb : w.heap[b]? = some (.stringIter s p)) : w'.heap[b]? = some (.stringIter s p) := by
  have hlt : b < w.heap.size := (Array.getElem?_eq_some_iff.1 hb).1
  rw [hg.block b (by simp; omega) (fun e => h.iter_ne hb e.symm), Below.heap_alloc w _ b hlt]
  exact hb

theorem off_pos_lt {s : ByteArray} {rs : List Nat} (h : s.data.toList = encAll rs) (k : Nat) (hk : k < rs.length) : s.size - off rs (k + 1) < s.size - off rs k := by
  have h1 := off_succ rs k hk
  have h2 := off_lt h k hk
  have h3 := enc_length rs[k]
  omega
end Go.Proofs.YtjhmehmmpfnnkaaDoor
