/-
  Plain: a line's words, read from a place on. No program in sight.
-/
import Derived.Test.YtjhmehmmpfnnkaaDoorWords
namespace Go.Proofs.YtjhmehmmpfnnkaaDoor
set_option linter.unusedSimpArgs false
set_option linter.unusedVariables false

def wF (s : WS) (l : List Nat) : Option (List (List Nat)) := (wsRun s l).bind WS.fin
theorem wF_start (rs : List Nat) : wF ⟨[], [], .gap⟩ (rs.drop 0) = wordsL rs := rfl
theorem wF_at {s : WS} {rs : List Nat} {i : Nat} (hi : i < rs.length) : wF s (rs.drop i) = (s.step rs[i]).bind fun t => wF t (rs.drop (i + 1)) := by
  rw [List.drop_eq_getElem_cons hi]
  unfold wF
  show ((s.step rs[i]).bind fun t => wsRun t (rs.drop (i + 1))).bind WS.fin = _
  cases s.step rs[i] <;> rfl
theorem wF_end {s : WS} {rs : List Nat} {i : Nat} (hi : rs.length ≤ i) : wF s (rs.drop i) = s.fin := by
  rw [List.drop_eq_nil_of_le hi]; rfl
theorem cur_next {rs : List Nat} {f i : Nat} (hf : f ≤ i) (hi : i < rs.length) : (rs.take (i + 1)).drop f = (rs.take i).drop f ++ [rs[i]] := by
  rw [List.take_succ_eq_append_getElem hi, List.drop_append_of_le_length (by rw [List.length_take]; omega)]
theorem cur_none (rs : List Nat) (i : Nat) : (rs.take i).drop i = [] := List.drop_eq_nil_of_le (by rw [List.length_take]; omega)

section
variable {rs : List Nat} {out : List (List Nat)} {X : Option (List (List Nat))} {f i : Nat}
/-- Where a word's rune stands: none yet, or in a bare word. -/
def bareM (f i : Nat) : WM := if i = f then .gap else .bare
theorem w_blank (hi : i < rs.length) (h : wF ⟨out, [], .gap⟩ (rs.drop i) = X) (hc : rs[i] = 32) : wF ⟨out, [], .gap⟩ (rs.drop (i + 1)) = X := by
  rw [wF_at hi] at h
  simpa [WS.step, WM.step, hc] using h
theorem w_open (hi : i < rs.length) (h : wF ⟨out, [], .gap⟩ (rs.drop i) = X) (hc : rs[i] = 34) : wF ⟨out, (rs.take (i + 1)).drop i, .quo⟩ (rs.drop (i + 1)) = X := by
  rw [wF_at hi] at h
  rw [cur_next (Nat.le_refl _) hi, cur_none]
  simpa [WS.step, WM.step, hc] using h
theorem w_bare0 (h : wF ⟨out, [], .gap⟩ (rs.drop i) = X) : wF ⟨out, (rs.take i).drop i, bareM i i⟩ (rs.drop i) = X := by
  rw [cur_none, bareM, if_pos rfl]; exact h
theorem w_bare (hf : f ≤ i) (hi : i < rs.length) (h : wF ⟨out, (rs.take i).drop f, bareM f i⟩ (rs.drop i) = X) (h1 : rs[i] ≠ 32) (h2 : rs[i] ≠ 34) : wF ⟨out, (rs.take (i + 1)).drop f, bareM f (i + 1)⟩ (rs.drop (i + 1)) = X := by
  rw [wF_at hi] at h
  rw [cur_next hf hi]
  have e : bareM f (i + 1) = .bare := by unfold bareM; rw [if_neg (by omega)]
  rw [e]
  unfold bareM at h
  by_cases hfi : i = f
  · rw [if_pos hfi] at h
    simpa [WS.step, WM.step, h1, h2] using h
  · rw [if_neg hfi] at h
    simpa [WS.step, WM.step, h1, h2] using h
theorem w_quo (hf : f ≤ i) (hi : i < rs.length) (h : wF ⟨out, (rs.take i).drop f, .quo⟩ (rs.drop i) = X) (h1 : rs[i] ≠ 34) (h2 : rs[i] ≠ 92) : wF ⟨out, (rs.take (i + 1)).drop f, .quo⟩ (rs.drop (i + 1)) = X := by
  rw [wF_at hi] at h
  rw [cur_next hf hi]
  simpa [WS.step, WM.step, h1, h2] using h
theorem w_esc (hf : f ≤ i) (hi : i + 1 < rs.length) (h : wF ⟨out, (rs.take i).drop f, .quo⟩ (rs.drop i) = X) (h1 : rs[i] = 92) : wF ⟨out, (rs.take (i + 1 + 1)).drop f, .quo⟩ (rs.drop (i + 1 + 1)) = X := by
  rw [wF_at (by omega)] at h
  rw [cur_next (by omega) hi, cur_next hf (by omega)]
  simp only [WS.step, WM.step, h1, if_true, Option.bind_some] at h
  rw [wF_at hi] at h
  simpa [WS.step, WM.step, h1] using h
theorem w_esc_end (hi : i < rs.length) (hn : ¬ i + 1 < rs.length) (h : wF ⟨out, (rs.take i).drop f, .quo⟩ (rs.drop i) = X) (h1 : rs[i] = 92) : X = none := by
  rw [wF_at (by omega)] at h
  simp only [WS.step, WM.step, h1, if_true, Option.bind_some] at h
  rw [wF_end (by omega)] at h
  exact h.symm
theorem w_quo_end (hi : ¬ i < rs.length) (h : wF ⟨out, (rs.take i).drop f, .quo⟩ (rs.drop i) = X) : X = none := by
  rw [wF_end (by omega)] at h
  exact h.symm
theorem w_close (hf : f ≤ i) (hi : i < rs.length) (h : wF ⟨out, (rs.take i).drop f, .quo⟩ (rs.drop i) = X) (h1 : rs[i] = 34) : wF ⟨out, (rs.take (i + 1)).drop f, .shut⟩ (rs.drop (i + 1)) = X := by
  rw [wF_at hi] at h
  rw [cur_next hf hi]
  simpa [WS.step, WM.step, h1] using h
/-- Behind a word stands the end, or a blank. -/
theorem w_done {m : WM} (hm : m = .bare ∨ m = .shut) (hi : ¬ i < rs.length) (h : wF ⟨out, (rs.take i).drop f, m⟩ (rs.drop i) = X) : wF ⟨out ++ [(rs.take i).drop f], [], .gap⟩ (rs.drop i) = X := by
  rw [wF_end (by omega)] at h ⊢
  rw [← h]
  rcases hm with rfl | rfl <;> rfl
theorem w_next {m : WM} (hm : m = .bare ∨ m = .shut) (hi : i < rs.length) (h : wF ⟨out, (rs.take i).drop f, m⟩ (rs.drop i) = X) (h1 : rs[i] = 32) : wF ⟨out ++ [(rs.take i).drop f], [], .gap⟩ (rs.drop i) = X := by
  rw [wF_at hi] at h ⊢
  rw [← h]
  rcases hm with rfl | rfl <;> simp [WS.step, WM.step, h1]
theorem w_bad_shut (hi : i < rs.length) (h : wF ⟨out, (rs.take i).drop f, .shut⟩ (rs.drop i) = X) (h1 : rs[i] ≠ 32) : X = none := by
  rw [wF_at hi] at h
  rw [← h]
  simp [WS.step, WM.step, h1]
theorem w_bad_bare (hi : i < rs.length) (h : wF ⟨out, (rs.take i).drop f, .bare⟩ (rs.drop i) = X) (h1 : rs[i] = 34) : X = none := by
  rw [wF_at hi] at h
  rw [← h]
  simp [WS.step, WM.step, h1]
theorem w_all (hi : ¬ i < rs.length) (h : wF ⟨out, [], .gap⟩ (rs.drop i) = X) : X = some out := by
  rw [wF_end (by omega)] at h
  exact h.symm
theorem bareM_of (h : f < i) : bareM f i = .bare := by unfold bareM; rw [if_neg (by omega)]
end
end Go.Proofs.YtjhmehmmpfnnkaaDoor
