/-
  What a plan leaves: the loads of all shards together, and no strays. Plain Lean.
-/
import Derived.Test.YthjmfcdhpdiehaaGreatDoorM17
namespace Go.Proofs.YthjmfcdhpdiehaaGreatDoor
open Go.RowKit Utf
set_option maxRecDepth 100000
set_option linter.unusedSimpArgs false
set_option linter.unusedVariables false

theorem lessB_of {k hi : ByteArray} (h : lessB k hi = true) : hi.data.toList = [] ∨ bLt k hi = true := by
  unfold lessB at h
  rcases Bool.or_eq_true_iff.1 h with h | h
  · exact .inl (List.isEmpty_iff.1 h)
  · exact .inr h
theorem lessB_mk {k hi : ByteArray} (h : hi.data.toList = [] ∨ bLt k hi = true) : lessB k hi = true := by
  unfold lessB
  rcases h with h | h
  · rw [h]; rfl
  · rw [h, Bool.or_true]
theorem lessB_no {k hi : ByteArray} (h : ¬ hi.data.toList = []) : lessB k hi = bLt k hi := by
  unfold lessB
  have : hi.data.toList.isEmpty = false := by
    cases he : hi.data.toList with
    | nil => exact absurd he h
    | cons c l => rfl
  rw [this, Bool.false_or]
theorem spanR_of {lo hi : ByteArray} (h : spanR lo hi = true) : isEnd lo = true ∧ isEnd hi = true ∧ lessB lo hi = true := by
  unfold spanR at h
  simpa [and_assoc] using h
theorem spanR_mk {lo hi : ByteArray} (h1 : isEnd lo = true) (h2 : isEnd hi = true) (h3 : lessB lo hi = true) : spanR lo hi = true := by
  unfold spanR
  rw [h1, h2, h3]
  rfl
theorem isKey_end {k : ByteArray} (h : isKey k = true) : isEnd k = true := by
  unfold isEnd
  rw [h, Bool.or_true]
theorem isKey_some {k : ByteArray} (h : isKey k = true) : ¬ k.data.toList = [] := by
  intro h0
  have : k = ⟨#[]⟩ := str_ext (by rw [h0])
  subst this
  revert h
  decide
theorem hasB_of {lo hi k : ByteArray} (h : hasB lo hi k = true) : spanR lo hi = true ∧ isKey k = true ∧ bLt k lo = false ∧ lessB k hi = true := by
  unfold hasB at h
  simpa [and_assoc] using h
/-- A key in a span, other than its low end, cuts it. -/
theorem cut_spans {lo hi k : ByteArray} (h : hasB lo hi k = true) (hne : k ≠ lo) : spanR lo k = true ∧ spanR k hi = true ∧ ¬ k.data.toList = [] := by
  obtain ⟨h1, h2, h3, h4⟩ := hasB_of h
  obtain ⟨e1, e2, -⟩ := spanR_of h1
  have hl : bLt lo k = true := by
    cases hh : bLt lo k with
    | true => rfl
    | false => exact absurd (bLt_total h3 hh) hne
  exact ⟨spanR_mk e1 (isKey_end h2) (lessB_mk (.inr hl)), spanR_mk (isKey_end h2) e2 h4, isKey_some h2⟩
theorem joinB_cases {lo hi lo2 hi2 : ByteArray} {sp : ByteArray × ByteArray} (h : joinB lo hi lo2 hi2 = some sp) : spanR lo hi = true ∧ spanR lo2 hi2 = true ∧ ((¬ hi.data.toList = [] ∧ hi = lo2 ∧ sp = (lo, hi2)) ∨ (¬ hi2.data.toList = [] ∧ hi2 = lo ∧ sp = (lo2, hi))) := by
  unfold joinB at h
  by_cases h1 : (!(spanR lo hi && spanR lo2 hi2)) = true
  · rw [if_pos h1] at h; cases h
  rw [if_neg h1] at h
  have hs : spanR lo hi = true ∧ spanR lo2 hi2 = true := by
    cases ha : spanR lo hi <;> cases hb : spanR lo2 hi2 <;> rw [ha, hb] at h1 <;> simp at h1
    exact ⟨rfl, rfl⟩
  refine ⟨hs.1, hs.2, ?_⟩
  by_cases h2 : (!hi.data.toList.isEmpty && decide (hi = lo2)) = true
  · rw [if_pos h2] at h
    simp only [Bool.and_eq_true, Bool.not_eq_true', decide_eq_true_eq] at h2
    cases h
    exact .inl ⟨(fun e => by rw [e] at h2; exact Bool.noConfusion h2.1), h2.2, rfl⟩
  rw [if_neg h2] at h
  by_cases h3 : (!hi2.data.toList.isEmpty && decide (hi2 = lo)) = true
  · rw [if_pos h3] at h
    simp only [Bool.and_eq_true, Bool.not_eq_true', decide_eq_true_eq] at h3
    cases h
    exact .inr ⟨(fun e => by rw [e] at h3; exact Bool.noConfusion h3.1), h3.2, rfl⟩
  rw [if_neg h3] at h
  cases h
theorem twoR_ne {e : EN} (h : twoR e = true) : e.shard ≠ e.other := by
  unfold twoR at h
  simp only [Bool.and_eq_true, decide_eq_true_eq] at h
  exact h.2
theorem findN_id {id : Int} {l : List Sh} {k : Nat} (h : findN id l = some k) : (shAt l k).id = id := by
  obtain ⟨hk, h⟩ := findN_lt h
  rw [shAt_eq hk]
  exact h
theorem plan_len (l : List LD) (s : Nat) (most : Int) : ∀ (k : Nat) (m : PM) (out : List EN), (planS l s most k m out).1.length ≤ out.length + k
  | 0, m, out => Nat.le_refl _
  | k + 1, m, out => by
    unfold planS
    cases nextP m l s most with
    | none => exact Nat.le_add_right _ _
    | some e =>
      refine Nat.le_trans (plan_len l s most k _ _) ?_
      rw [List.length_append, List.length_singleton]
      omega
/-- Behind a plan that is not full nothing is to be done. -/
theorem plan_end (l : List LD) (s : Nat) (most : Int) : ∀ (k : Nat) (m : PM) (out : List EN), (planS l s most k m out).1.length < out.length + k → nextP (planS l s most k m out).2 l s most = none
  | 0, m, out, h => absurd h (Nat.lt_irrefl _)
  | k + 1, m, out, h => by
    unfold planS at h ⊢
    cases hn : nextP m l s most with
    | none => exact hn
    | some e =>
      rw [hn] at h
      dsimp only at h ⊢
      refine plan_end l s most k _ _ ?_
      rw [List.length_append, List.length_singleton]
      omega
end Go.Proofs.YthjmfcdhpdiehaaGreatDoor
