/-
  How every map stands: spans that adjoin, numbers that are apart and used. Plain Lean.
  What is to be done next counts, and a move evens. Plain Lean.
  A plan, step by step. Plain Lean.
  Shards that are alike; the greater of two numbers: as operations.
-/
import Derived.Test.YthjmfcdhpdiehaaGreatDoorM24
import Derived.Test.YthjmfcdhpdiehaaGreatDoorM17
import Derived.Test.YthjmfcdhpdiehaaGreatDoorM19
import Derived.Test.YthjmfcdhpdiehaaGreatDoorM26
import Derived.Laws.StructEq
namespace Go.Proofs.YthjmfcdhpdiehaaGreatDoor
open Go.RowKit Utf
set_option maxRecDepth 100000
set_option linter.unusedSimpArgs false
set_option linter.unusedVariables false

theorem shAt_set {l : List Sh} {i j : Nat} {x : Sh} (hi : i < l.length) (hj : j < l.length) : shAt (l.set i x) j = if j = i then x else shAt l j := by
  rw [shAt_eq (show j < (l.set i x).length by simpa using hj), set_at l i x j hj hi, shAt_eq hj]
theorem shAt_ins {l : List Sh} {k j : Nat} {x : Sh} (hk : k ≤ l.length) (hj : j < l.length + 1) : shAt (l.take k ++ x :: l.drop k) j = if j < k then shAt l j else if j = k then x else shAt l (j - 1) := by
  unfold shAt
  rw [List.getD_eq_getElem?_getD, List.getElem?_append, List.length_take, Nat.min_eq_left hk]
  by_cases h1 : j < k
  · rw [if_pos h1, if_pos h1, List.getElem?_take_of_lt h1, ← List.getD_eq_getElem?_getD]
  · rw [if_neg h1, if_neg h1]
    by_cases h2 : j = k
    · subst h2
      rw [if_pos rfl, Nat.sub_self]
      rfl
    · rw [if_neg h2]
      obtain ⟨d, rfl⟩ : ∃ d, j = k + d + 1 := ⟨j - k - 1, by omega⟩
      rw [show k + d + 1 - k = d + 1 by omega, List.getElem?_cons_succ, List.getElem?_drop, ← List.getD_eq_getElem?_getD]
      rfl
theorem shAt_del {l : List Sh} {k j : Nat} (hk : k < l.length) : shAt (l.take k ++ l.drop (k + 1)) j = if j < k then shAt l j else shAt l (j + 1) := by
  unfold shAt
  rw [List.getD_eq_getElem?_getD, List.getElem?_append, List.length_take, Nat.min_eq_left (by omega)]
  by_cases h1 : j < k
  · rw [if_pos h1, if_pos h1, List.getElem?_take_of_lt h1, ← List.getD_eq_getElem?_getD]
  · rw [if_neg h1, if_neg h1, List.getElem?_drop, ← List.getD_eq_getElem?_getD]
    congr 1
    omega
/-- How every map stands. -/
structure Inv (m : PM) : Prop where
  span : ∀ i, i < m.live.length → spanR (shAt m.live i).lo (shAt m.live i).hi = true
  adj : ∀ i, i + 1 < m.live.length → ¬ (shAt m.live i).hi.data.toList = [] ∧ (shAt m.live i).hi = (shAt m.live (i + 1)).lo
  uniq : ∀ i j, i < m.live.length → j < m.live.length → (shAt m.live i).id = (shAt m.live j).id → i = j
  idok : ∀ i, i < m.live.length → 1 ≤ (shAt m.live i).id ∧ (shAt m.live i).id ≤ 12 ∧ usedIn m.evs (shAt m.live i).id = true
  used : ∀ k : Nat, 1 ≤ k → k ≤ 12 → m.used k = usedIn m.evs (k : Int)
theorem usedIn_app (evs : List Ev) (t : Int) (e : EN) (x : Int) : usedIn (evs ++ [(t, e)]) x = (usedIn evs x || (decide (e.kind = 3) && decide (e.other = x))) := by
  unfold usedIn
  rw [List.any_append, List.any_cons, List.any_nil, Bool.or_false, Bool.or_assoc]
theorem Inv.new : Inv PM.new := by
  have hl : PM.new.live.length = 1 := rfl
  refine ⟨fun i hi => ?_, fun i hi => ?_, fun i j hi hj _ => ?_, fun i hi => ?_, fun k h1 h2 => ?_⟩
  · obtain rfl : i = 0 := by omega
    kernel_rfl
  · omega
  · omega
  · obtain rfl : i = 0 := by omega
    exact ⟨by decide, by decide, by decide⟩
  · show (k == 1) = usedIn [] (k : Int)
    unfold usedIn
    by_cases h : k = 1
    · subst h; rfl
    · have : (k == 1) = false := by simpa using h
      rw [this, decide_eq_false (by omega)]
      rfl
section
variable {m : PM}
/-- The low ends rise. -/
theorem Inv.low (h : Inv m) {i : Nat} : ∀ d, i + d + 1 < m.live.length → bLt (shAt m.live i).lo (shAt m.live (i + d + 1)).lo = true
  | 0, hd => by
    obtain ⟨h1, h2⟩ := h.adj i hd
    have h3 := (spanR_of (h.span i (by omega))).2.2
    rw [lessB_no h1] at h3
    rw [Nat.add_zero, ← h2]
    exact h3
  | d + 1, hd => by
    have ih := Inv.low h (i := i) d (by omega)
    obtain ⟨h1, h2⟩ := h.adj (i + d + 1) hd
    have h3 := (spanR_of (h.span (i + d + 1) (by omega))).2.2
    rw [lessB_no h1, h2] at h3
    exact bLt_trans ih h3
theorem Inv.lows (h : Inv m) {i j : Nat} (hij : i < j) (hj : j < m.live.length) : bLt (shAt m.live i).lo (shAt m.live j).lo = true := by
  obtain ⟨d, rfl⟩ : ∃ d, j = i + d + 1 := ⟨j - i - 1, by omega⟩
  exact h.low d hj
theorem Inv.low_inj (h : Inv m) {i j : Nat} (hi : i < m.live.length) (hj : j < m.live.length) (he : (shAt m.live i).lo = (shAt m.live j).lo) : i = j := by
  rcases Nat.lt_trichotomy i j with h1 | h1 | h1
  · have := h.lows h1 hj
    rw [he, bLt_irrefl] at this
    cases this
  · exact h1
  · have := h.lows h1 hi
    rw [he, bLt_irrefl] at this
    cases this
/-- Spans that meet are neighbours. -/
theorem Inv.next_of (h : Inv m) {i k : Nat} (hi : i < m.live.length) (hk : k < m.live.length) (h1 : ¬ (shAt m.live i).hi.data.toList = []) (h2 : (shAt m.live i).hi = (shAt m.live k).lo) : k = i + 1 := by
  have h3 := (spanR_of (h.span i hi)).2.2
  rw [lessB_no h1] at h3
  by_cases h4 : i + 1 < m.live.length
  · have h5 := (h.adj i h4).2
    exact h.low_inj hk h4 (h2.symm.trans h5)
  · have h5 : k ≤ i := by omega
    rcases Nat.lt_or_ge k i with h6 | h6
    · have h7 := h.lows h6 hi
      rw [← h2] at h7
      rw [bLt_asymm h7] at h3
      cases h3
    · obtain rfl : k = i := by omega
      rw [h2, bLt_irrefl] at h3
      cases h3
theorem Inv.find (h : Inv m) {i : Nat} (hi : i < m.live.length) : findN (shAt m.live i).id m.live = some i := by
  refine find_some hi (by rw [shAt_eq hi]) (fun j hj he => ?_)
  have := h.uniq j i (by omega) hi (by rw [shAt_eq (show j < m.live.length by omega), he])
  omega
end

/-- What Apply leaves stands as well. -/
theorem Inv.apply {m : PM} (h : Inv m) (e : EN) (t : Int) : Inv (applyP m e t).2 := by
  unfold applyP
  by_cases hc : (countsP m e && decide (0 ≤ t) && decide (t ≤ 4095)) = true
  · rw [if_pos hc]
    simp only [Bool.and_eq_true] at hc
    have hcc := hc.1.1
    unfold countsP at hcc
    cases hf : findN e.shard m.live with
    | none => rw [hf] at hcc; cases hcc
    | some i =>
      rw [hf] at hcc
      dsimp only at hcc
      have hi := findN_ix hf
      by_cases h2 : e.kind = 2
      · dsimp only
        rw [if_pos h2]
        unfold moveP
        rw [hf]
        have hl : (m.live.set i ((shAt m.live i).moved e.server)).length = m.live.length := List.length_set ..
        have key : ∀ j, j < m.live.length → (shAt (m.live.set i ((shAt m.live i).moved e.server)) j).lo = (shAt m.live j).lo ∧ (shAt (m.live.set i ((shAt m.live i).moved e.server)) j).hi = (shAt m.live j).hi ∧ (shAt (m.live.set i ((shAt m.live i).moved e.server)) j).id = (shAt m.live j).id := fun j hj => by
          rw [shAt_set hi hj]
          by_cases hji : j = i
          · subst hji; rw [if_pos rfl]; exact ⟨rfl, rfl, rfl⟩
          · rw [if_neg hji]; exact ⟨rfl, rfl, rfl⟩
        refine ⟨fun j hj => ?_, fun j hj => ?_, fun j k hj hk he => ?_, fun j hj => ?_, h.used⟩ <;> dsimp only at * <;> rw [hl] at *
        · rw [(key j hj).1, (key j hj).2.1]
          exact h.span j hj
        · rw [(key j (by omega)).2.1, (key (j + 1) hj).1]
          exact h.adj j hj
        · rw [(key j hj).2.2, (key k hk).2.2] at he
          exact h.uniq j k hj hk he
        · rw [(key j hj).2.2]
          exact h.idok j hj
      · rw [if_neg h2] at hcc
        dsimp only
        rw [if_neg h2]
        by_cases h3 : e.kind = 3
        · rw [if_pos h3] at hcc
          rw [if_pos h3]
          simp only [Bool.and_eq_true, decide_eq_true_eq, Bool.not_eq_true'] at hcc
          obtain ⟨⟨⟨hr, hu⟩, hh⟩, hne⟩ := hcc
          obtain ⟨s1, s2, s3⟩ := cut_spans hh hne
          have hr2 := hr
          unfold rightE at hr2
          rw [if_neg h2, if_pos h3] at hr2
          simp only [Bool.and_eq_true] at hr2
          have htw := hr2.1.1
          unfold twoR at htw
          simp only [Bool.and_eq_true] at htw
          have ho := within_le htw.1.2
          obtain ⟨on, hon⟩ : ∃ on : Nat, e.other = (on : Int) := ⟨e.other.toNat, by omega⟩
          rw [hon, Int.toNat_natCast] at hu
          have hnu : usedIn m.evs e.other = false := by rw [hon, ← h.used on (by omega) (by omega)]; exact hu
          have hnew : ∀ j, j < m.live.length → (shAt m.live j).id ≠ e.other := fun j hj he => by
            have := (h.idok j hj).2.2
            rw [he, hnu] at this
            cases this
          unfold PM.event splitP
          rw [hf]
          dsimp only
          generalize hx : (shAt m.live i).turned (shAt m.live i).lo e.key ((t.toNat + 1 : Nat) : Int) = x
          generalize hy : (⟨e.other, e.server, ((t.toNat + 1 : Nat) : Int), e.key, (shAt m.live i).hi⟩ : Sh) = y
          have hxl : x.lo = (shAt m.live i).lo ∧ x.hi = e.key ∧ x.id = (shAt m.live i).id := by subst hx; exact ⟨rfl, rfl, rfl⟩
          have hyl : y.lo = e.key ∧ y.hi = (shAt m.live i).hi ∧ y.id = e.other := by subst hy; exact ⟨rfl, rfl, rfl⟩
          have hl1 : (m.live.set i x).length = m.live.length := List.length_set ..
          have hl : ((m.live.set i x).take (i + 1) ++ y :: (m.live.set i x).drop (i + 1)).length = m.live.length + 1 := by
            simp only [List.length_append, List.length_take, List.length_cons, List.length_drop, hl1]
            omega
          have key : ∀ j, j < m.live.length + 1 → shAt ((m.live.set i x).take (i + 1) ++ y :: (m.live.set i x).drop (i + 1)) j = if j < i then shAt m.live j else if j = i then x else if j = i + 1 then y else shAt m.live (j - 1) := fun j hj => by
            rw [shAt_ins (by omega) (by omega)]
            by_cases a1 : j < i
            · rw [if_pos (by omega), if_pos a1, shAt_set hi (by omega), if_neg (by omega)]
            · rw [if_neg a1]
              by_cases a2 : j = i
              · subst a2
                rw [if_pos (by omega), if_pos rfl, shAt_set hi hi, if_pos rfl]
              · rw [if_neg (by omega), if_neg a2]
                by_cases a3 : j = i + 1
                · rw [if_pos a3, if_pos a3]
                · rw [if_neg a3, if_neg a3, shAt_set hi (by omega), if_neg (by omega)]
          have kA : ∀ j, j < i → shAt ((m.live.set i x).take (i + 1) ++ y :: (m.live.set i x).drop (i + 1)) j = shAt m.live j := fun j hj => by rw [key j (by omega), if_pos hj]
          have kB : shAt ((m.live.set i x).take (i + 1) ++ y :: (m.live.set i x).drop (i + 1)) i = x := by rw [key i (by omega), if_neg (by omega), if_pos rfl]
          have kC : shAt ((m.live.set i x).take (i + 1) ++ y :: (m.live.set i x).drop (i + 1)) (i + 1) = y := by rw [key (i + 1) (by omega), if_neg (by omega), if_neg (by omega), if_pos rfl]
          have kD : ∀ j, i < j → j < m.live.length → shAt ((m.live.set i x).take (i + 1) ++ y :: (m.live.set i x).drop (i + 1)) (j + 1) = shAt m.live j := fun j h1 h2 => by rw [key (j + 1) (by omega), if_neg (by omega), if_neg (by omega), if_neg (by omega), Nat.add_sub_cancel]
          have cases4 : ∀ j, j < m.live.length + 1 → j < i ∨ j = i ∨ j = i + 1 ∨ ∃ q, j = q + 1 ∧ i < q ∧ q < m.live.length := fun j hj => by
            by_cases a1 : j < i
            · exact .inl a1
            · by_cases a2 : j = i
              · exact .inr (.inl a2)
              · by_cases a3 : j = i + 1
                · exact .inr (.inr (.inl a3))
                · exact .inr (.inr (.inr ⟨j - 1, by omega, by omega, by omega⟩))
          have idof : ∀ j, j < m.live.length + 1 → (∃ q, q < m.live.length ∧ (shAt ((m.live.set i x).take (i + 1) ++ y :: (m.live.set i x).drop (i + 1)) j).id = (shAt m.live q).id ∧ j = (if q ≤ i then q else q + 1)) ∨ (j = i + 1 ∧ (shAt ((m.live.set i x).take (i + 1) ++ y :: (m.live.set i x).drop (i + 1)) j).id = e.other) := fun j hj => by
            rcases cases4 j hj with a | rfl | rfl | ⟨q, rfl, a, b⟩
            · exact .inl ⟨j, by omega, by rw [kA j a], by rw [if_pos (by omega)]⟩
            · exact .inl ⟨_, hi, by rw [kB, hxl.2.2], by rw [if_pos (by omega)]⟩
            · exact .inr ⟨rfl, by rw [kC, hyl.2.2]⟩
            · exact .inl ⟨q, b, by rw [kD q a b], by rw [if_neg (by omega)]⟩
          refine ⟨fun j hj => ?_, fun j hj => ?_, fun j k hj hk he => ?_, fun j hj => ?_, fun k k1 k2 => ?_⟩
          · dsimp only at hj ⊢
            rw [hl] at hj
            rcases cases4 j hj with a | rfl | rfl | ⟨q, rfl, a, b⟩
            · rw [kA j a]; exact h.span j (by omega)
            · rw [kB, hxl.1, hxl.2.1]; exact s1
            · rw [kC, hyl.1, hyl.2.1]; exact s2
            · rw [kD q a b]; exact h.span q b
          · dsimp only at hj ⊢
            rw [hl] at hj
            rcases cases4 j (by omega) with a | rfl | rfl | ⟨q, rfl, a, b⟩
            · by_cases hj2 : j + 1 = i
              · rw [kA j a, hj2, kB, hxl.1]
                have := h.adj j (by omega)
                rwa [hj2] at this
              · rw [kA j a, kA (j + 1) (by omega)]
                exact h.adj j (by omega)
            · rw [kB, kC, hxl.2.1, hyl.1]
              exact ⟨s3, rfl⟩
            · rw [kC, kD (i + 1) (by omega) (by omega), hyl.2.1]
              exact h.adj i (by omega)
            · rw [kD q a b, kD (q + 1) (by omega) (by omega)]
              exact h.adj q (by omega)
          · dsimp only at hj hk he
            rw [hl] at hj hk
            rcases idof j hj with ⟨q, q1, q2, q3⟩ | ⟨q1, q2⟩ <;> rcases idof k hk with ⟨r, r1, r2, r3⟩ | ⟨r1, r2⟩
            · rw [q2, r2] at he
              have := h.uniq q r q1 r1 he
              subst this
              rw [q3, r3]
            · rw [q2, r2] at he
              exact absurd he (hnew q q1)
            · rw [q2, r2] at he
              exact absurd he.symm (hnew r r1)
            · rw [q1, r1]
          · dsimp only at hj ⊢
            rw [hl] at hj
            rw [usedIn_app]
            rcases idof j hj with ⟨q, q1, q2, q3⟩ | ⟨q1, q2⟩
            · rw [q2]
              obtain ⟨a, b, c⟩ := h.idok q q1
              exact ⟨a, b, by rw [c]; rfl⟩
            · rw [q2]
              exact ⟨ho.1, ho.2, by rw [decide_eq_true h3, decide_eq_true rfl]; simp⟩
          · dsimp only
            rw [usedIn_app, h.used k k1 k2, decide_eq_true h3, Bool.true_and]
            congr 1
            by_cases hk : (k : Int) = e.other
            · rw [decide_eq_true hk, decide_eq_true hk.symm]
            · rw [decide_eq_false hk, decide_eq_false (fun e1 => hk e1.symm)]
        · rw [if_neg h3] at hcc
          rw [if_neg h3]
          by_cases h4 : e.kind = 4
          · rw [if_pos h4] at hcc
            simp only [Bool.and_eq_true] at hcc
            have hr := hcc.1
            unfold rightE at hr
            rw [if_neg h2, if_neg h3, if_pos h4] at hr
            have hne := twoR_ne hr
            have hus : ∀ x, usedIn (m.evs ++ [(t, e)]) x = usedIn m.evs x := fun x => by rw [usedIn_app, decide_eq_false h3, Bool.false_and, Bool.or_false]
            have same : ∀ (m' : PM), m'.live = m.live → m'.used = m.used → Inv (m'.event t e) → Inv (m'.event t e) := fun _ _ _ h => h
            have keep : Inv (m.event t e) := ⟨h.span, h.adj, h.uniq, fun j hj => by
              obtain ⟨a, b, c⟩ := h.idok j hj
              exact ⟨a, b, by show usedIn (m.evs ++ [(t, e)]) _ = true; rw [hus]; exact c⟩, fun k k1 k2 => by show m.used k = usedIn (m.evs ++ [(t, e)]) _; rw [hus]; exact h.used k k1 k2⟩
            unfold mergeP
            rw [hf]
            cases hf2 : findN e.other m.live with
            | none => exact keep
            | some k =>
              dsimp only
              have hk := findN_ix hf2
              have hki : k ≠ i := fun hh => by
                subst hh
                exact hne ((findN_id hf).symm.trans (findN_id hf2))
              cases hj : joinB (shAt m.live i).lo (shAt m.live i).hi (shAt m.live k).lo (shAt m.live k).hi with
              | none => exact keep
              | some sp =>
                dsimp only
                unfold PM.event
                dsimp only
                obtain ⟨s1, s2, hh⟩ := joinB_cases hj
                generalize hx : (shAt m.live i).turned sp.1 sp.2 ((t.toNat + 1 : Nat) : Int) = x
                have hxl : x.lo = sp.1 ∧ x.hi = sp.2 ∧ x.id = (shAt m.live i).id := by subst hx; exact ⟨rfl, rfl, rfl⟩
                have hl1 : (m.live.set i x).length = m.live.length := List.length_set ..
                have hl : ((m.live.set i x).take k ++ (m.live.set i x).drop (k + 1)).length = m.live.length - 1 := by
                  simp only [List.length_append, List.length_take, List.length_drop, hl1]
                  omega
                have key : ∀ j, j < m.live.length - 1 → shAt ((m.live.set i x).take k ++ (m.live.set i x).drop (k + 1)) j = if (if j < k then j else j + 1) = i then x else shAt m.live (if j < k then j else j + 1) := fun j hj => by
                  rw [shAt_del (by omega)]
                  by_cases a : j < k
                  · rw [if_pos a, if_pos a, shAt_set hi (by omega)]
                  · rw [if_neg a, if_neg a, shAt_set hi (by omega)]
                have kid : ∀ j, j < m.live.length - 1 → (shAt ((m.live.set i x).take k ++ (m.live.set i x).drop (k + 1)) j).id = (shAt m.live (if j < k then j else j + 1)).id := fun j hj => by
                  rw [key j hj]
                  by_cases a : (if j < k then j else j + 1) = i
                  · rw [if_pos a, hxl.2.2, a]
                  · rw [if_neg a]
                have hin : ∀ j, j < m.live.length - 1 → (if j < k then j else j + 1) < m.live.length := fun j hj => by split <;> omega
                have hspans : spanR sp.1 sp.2 = true ∧ (∀ j, j + 1 < m.live.length - 1 → ¬ (shAt ((m.live.set i x).take k ++ (m.live.set i x).drop (k + 1)) j).hi.data.toList = [] ∧ (shAt ((m.live.set i x).take k ++ (m.live.set i x).drop (k + 1)) j).hi = (shAt ((m.live.set i x).take k ++ (m.live.set i x).drop (k + 1)) (j + 1)).lo) := by
                  rcases hh with ⟨n1, n2, rfl⟩ | ⟨n1, n2, rfl⟩
                  · have hk1 := h.next_of hi hk n1 n2
                    subst hk1
                    dsimp only at hxl ⊢
                    have hb := (spanR_of s1).2.2
                    rw [lessB_no n1, n2] at hb
                    refine ⟨spanR_mk (spanR_of s1).1 (spanR_of s2).2.1 (lessB_mk ((lessB_of (spanR_of s2).2.2).imp id (fun h5 => bLt_trans hb h5))), fun j hj => ?_⟩
                    rw [key j (by omega), key (j + 1) hj]
                    rcases Nat.lt_trichotomy j i with a | a | a
                    · rw [if_pos (show j < i + 1 by omega), if_neg (show ¬ j = i by omega), if_pos (show j + 1 < i + 1 by omega)]
                      by_cases b : j + 1 = i
                      · rw [if_pos b, hxl.1]
                        have := h.adj j (by omega)
                        rwa [b] at this
                      · rw [if_neg b]
                        exact h.adj j (by omega)
                    · subst a
                      rw [if_pos (show j < j + 1 by omega), if_pos rfl, if_neg (show ¬ j + 1 < j + 1 by omega), if_neg (show ¬ j + 1 + 1 = j by omega), hxl.2.1]
                      exact h.adj (j + 1) (by omega)
                    · rw [if_neg (show ¬ j < i + 1 by omega), if_neg (show ¬ j + 1 = i by omega), if_neg (show ¬ j + 1 < i + 1 by omega), if_neg (show ¬ j + 1 + 1 = i by omega)]
                      exact h.adj (j + 1) (by omega)
                  · have hk1 := h.next_of hk hi n1 n2
                    subst hk1
                    dsimp only at hxl ⊢
                    have hb := (spanR_of s2).2.2
                    rw [lessB_no n1, n2] at hb
                    refine ⟨spanR_mk (spanR_of s2).1 (spanR_of s1).2.1 (lessB_mk ((lessB_of (spanR_of s1).2.2).imp id (fun h5 => bLt_trans hb h5))), fun j hj => ?_⟩
                    rw [key j (by omega), key (j + 1) hj]
                    rcases Nat.lt_trichotomy j k with a | a | a
                    · rw [if_pos a, if_neg (show ¬ j = k + 1 by omega)]
                      by_cases b : j + 1 = k
                      · rw [if_neg (show ¬ j + 1 < k by omega), if_pos (show j + 1 + 1 = k + 1 by omega), hxl.1]
                        have := h.adj j (by omega)
                        rwa [b] at this
                      · rw [if_pos (show j + 1 < k by omega), if_neg (show ¬ j + 1 = k + 1 by omega)]
                        exact h.adj j (by omega)
                    · subst a
                      rw [if_neg (show ¬ j < j by omega), if_pos rfl, if_neg (show ¬ j + 1 < j by omega), if_neg (show ¬ j + 1 + 1 = j + 1 by omega), hxl.2.1]
                      exact h.adj (j + 1) (by omega)
                    · rw [if_neg (show ¬ j < k by omega), if_neg (show ¬ j + 1 = k + 1 by omega), if_neg (show ¬ j + 1 < k by omega), if_neg (show ¬ j + 1 + 1 = k + 1 by omega)]
                      exact h.adj (j + 1) (by omega)
                refine ⟨fun j hj => ?_, fun j hj => ?_, fun j q hj hq he => ?_, fun j hj => ?_, fun q q1 q2 => ?_⟩
                · dsimp only at hj ⊢
                  rw [hl] at hj
                  rw [key j hj]
                  by_cases a : (if j < k then j else j + 1) = i
                  · rw [if_pos a, hxl.1, hxl.2.1]
                    exact hspans.1
                  · rw [if_neg a]
                    exact h.span _ (hin j hj)
                · dsimp only at hj ⊢
                  rw [hl] at hj
                  exact hspans.2 j hj
                · dsimp only at hj hq he
                  rw [hl] at hj hq
                  rw [kid j hj, kid q hq] at he
                  have := h.uniq _ _ (hin j hj) (hin q hq) he
                  revert this
                  split <;> split <;> omega
                · dsimp only at hj ⊢
                  rw [hl] at hj
                  rw [kid j hj, hus]
                  exact h.idok _ (hin j hj)
                · dsimp only
                  rw [hus]
                  exact h.used q q1 q2
          · rw [if_neg h4] at hcc
            cases hcc
  · rw [if_neg hc]
    exact h
end Go.Proofs.YthjmfcdhpdiehaaGreatDoor

namespace Go.Proofs.YthjmfcdhpdiehaaGreatDoor
open Go.RowKit Utf
set_option maxRecDepth 100000
set_option linter.unusedSimpArgs false
set_option linter.unusedVariables false

theorem move_kind (a b : Int) : (moveE a b).kind = 2 := rfl
theorem split_kind (a : Int) (n : Nat) (b : Int) (k : ByteArray) : (splitE a n b k).kind = 3 := rfl
theorem join_kind (a b : Int) : (joinE a b).kind = 4 := rfl
theorem plAt_loads {live : List Sh} {l : List LD} {i : Nat} (h : i < live.length) : plAt (loadsP live l) i = (shAt live i, keysP (shAt live i) l) := by
  unfold plAt loadsP
  rw [List.getD_eq_getElem?_getD, List.getElem?_map, List.getElem?_eq_getElem h, shAt_eq h]
  rfl
theorem loads_len (live : List Sh) (l : List LD) : (loadsP live l).length = live.length := List.length_map ..
theorem bestTo_may (may : Sh × List LD → Bool) (p : List (Sh × List LD)) : ∀ (k q : Nat), bestTo may p k = some q → may (plAt p q) = true
  | 0, q, h => by cases h
  | k + 1, q, h => by
    rw [bestTo_succ] at h
    by_cases hm : may (plAt p k) = true
    · rcases bestStep_or may p (bestTo may p k) k with e | e
      · rw [e] at h
        cases h
        exact hm
      · rw [e] at h
        exact bestTo_may may p k q h
    · rw [bestStep_no (by simpa using hm)] at h
      exact bestTo_may may p k q h
theorem bestN_may {may : Sh × List LD → Bool} {p : List (Sh × List LD)} {q : Nat} (h : bestN may p = some q) : may (plAt p q) = true := bestTo_may may p p.length q h
theorem fresh_facts {evs : List Ev} (h : freshP evs ≠ 0) : 1 ≤ freshP evs ∧ freshP evs ≤ 12 ∧ usedIn evs (freshP evs : Nat) = false := by
  unfold freshP at h ⊢
  cases hf : freshN evs with
  | none => rw [hf] at h; exact absurd rfl h
  | some n =>
    unfold freshN at hf
    rw [List.find?_range_eq_some] at hf
    obtain ⟨h1, h2, -⟩ := hf
    have h3 := List.mem_range.1 h2
    dsimp only
    refine ⟨by omega, by omega, ?_⟩
    have : ((n + 1 : Nat) : Int) = (n : Int) + 1 := by omega
    rw [this]
    simpa using h1
theorem right_pair {l : List LD} (h : rightB l = true) : ∀ i d, i + d + 1 < l.length → bLt (ldAt l i).key (ldAt l (i + d + 1)).key = true := by
  have step : ∀ i, i + 1 < l.length → bLt (ldAt l i).key (ldAt l (i + 1)).key = true := fun i hi => by
    have := rightB_at h hi
    unfold ldOK at this
    simp only [Bool.and_eq_true, Bool.or_eq_true, decide_eq_true_eq] at this
    rcases this.2 with h1 | h1
    · omega
    · rwa [Nat.add_sub_cancel] at h1
  intro i d
  induction d with
  | zero => exact step i
  | succ d ih => exact fun hd => bLt_trans (ih (by omega)) (step (i + d + 1) hd)
theorem right_pairwise {l : List LD} (h : rightB l = true) : l.Pairwise (fun x y => bLt x.key y.key = true) := by
  rw [List.pairwise_iff_getElem]
  intro i j hi hj hij
  obtain ⟨d, rfl⟩ : ∃ d, j = i + d + 1 := ⟨j - i - 1, by omega⟩
  have := right_pair h i d hj
  rwa [ldAt_eq hi, ldAt_eq hj] at this
/-- A key at which a shard is cut: in its span, not its low end. -/
theorem half_key {l : List LD} {s : Sh} (h : rightB l = true) (h2 : ¬ (keysP s l).length < 2) : hasB s.lo s.hi (halfP (keysP s l)) = true ∧ halfP (keysP s l) ≠ s.lo := by
  have hp : (keysP s l).Pairwise (fun x y => bLt x.key y.key = true) := (right_pairwise h).filter _
  have hm : ∀ x ∈ keysP s l, hasB s.lo s.hi x.key = true := fun x hx => (List.mem_filter.1 hx).2
  generalize keysP s l = ks at *
  have hn : 1 ≤ halfN ks ∧ halfN ks < ks.length := by
    unfold halfN
    cases hf : (List.range ks.length).find? (halfAt ks) with
    | none => simp only [Option.getD_none]; omega
    | some k =>
      rw [List.find?_range_eq_some] at hf
      obtain ⟨h1, h3, -⟩ := hf
      have h4 := List.mem_range.1 h3
      unfold halfAt at h1
      simp only [Bool.and_eq_true, decide_eq_true_eq] at h1
      simp only [Option.getD_some]
      omega
  unfold halfP
  rw [ldAt_eq hn.2]
  refine ⟨hm _ (List.getElem_mem _), fun he => ?_⟩
  have h0 : 0 < ks.length := by omega
  have a := (hasB_of (hm ks[0] (List.getElem_mem h0))).2.2.1
  have b := List.pairwise_iff_getElem.1 hp 0 (halfN ks) h0 hn.2 (by omega)
  rw [he] at b
  rw [b] at a
  cases a
theorem endsL_range {l : List Int} (h : 1 ≤ l.length) : 1 ≤ (endsL l).1 ∧ (endsL l).1 ≤ l.length ∧ 1 ≤ (endsL l).2 ∧ (endsL l).2 ≤ l.length := by
  obtain ⟨i, j, -, hi, -, hj, e⟩ := endsL_of h
  rw [e]
  exact ⟨by dsimp only; omega, by dsimp only; omega, by dsimp only; omega, by dsimp only; omega⟩
theorem within_mk {n m : Int} (h1 : 1 ≤ n) (h2 : n ≤ m) : within n m = true := by
  unfold within
  rw [decide_eq_true h1, decide_eq_true h2]
  rfl
theorem stray_facts {p : List (Sh × List LD)} {s least : Int} {e : EN} (h : straysP p s least = some e) : ∃ i, i < p.length ∧ (plAt p i).1.server > s ∧ e = moveE (plAt p i).1.id least := by
  unfold straysP at h
  obtain ⟨i, hi, rfl⟩ := Option.map_eq_some_iff.1 h
  unfold strayN at hi
  rw [List.findIdx?_eq_some_iff_getElem] at hi
  obtain ⟨h1, h2, -⟩ := hi
  refine ⟨i, h1, ?_, rfl⟩
  have : plAt p i = p[i] := by unfold plAt; rw [List.getD_eq_getElem?_getD, List.getElem?_eq_getElem h1]; rfl
  rw [this]
  simpa using h2
theorem move_counts {m : PM} (hi : Inv m) {i : Nat} (h : i < m.live.length) {sv : Int} (h1 : 1 ≤ sv) (h4 : sv ≤ 4) : countsP m (moveE (shAt m.live i).id sv) = true := by
  rw [counts_some (show findN (moveE (shAt m.live i).id sv).shard m.live = some i from hi.find h), move_kind, if_pos rfl]
  obtain ⟨a, b, -⟩ := hi.idok i h
  unfold rightE
  rw [move_kind, if_pos rfl]
  show (within (shAt m.live i).id 12 && within sv 4) = true
  rw [within_mk a b, within_mk h1 h4]
  rfl
/-- What is to be done next counts. -/
theorem next_counts {m : PM} {l : List LD} {s : Nat} {most : Int} {e : EN} (hi : Inv m) (hr : rightB l = true) (hs : 1 ≤ s ∧ s ≤ 4) (h : nextP m l s most = some e) : countsP m e = true := by
  have hen := endsL_range (l := srvP s (loadsP m.live l)) (by rw [srvP_len]; omega)
  rw [srvP_len] at hen
  unfold nextP at h
  cases h1 : straysP (loadsP m.live l) s ((endsL (srvP s (loadsP m.live l))).1 : Nat) with
  | some e1 =>
    rw [h1] at h
    cases h
    obtain ⟨i, hil, -, rfl⟩ := stray_facts h1
    rw [loads_len] at hil
    rw [plAt_loads hil]
    exact move_counts hi hil (by omega) (by omega)
  | none =>
    rw [h1] at h
    dsimp only at h
    cases h2 : cutsP m.evs (loadsP m.live l) most ((endsL (srvP s (loadsP m.live l))).1 : Nat) with
    | some e2 =>
      rw [h2] at h
      cases h
      unfold cutsP at h2
      cases hb : bestN (fun _ => true) (loadsP m.live l) with
      | none => rw [hb] at h2; cases h2
      | some i =>
        have hil := bestN_lt hb
        rw [loads_len] at hil
        rw [hb] at h2
        dsimp only at h2
        rw [plAt_loads hil] at h2
        dsimp only at h2
        split at h2
        · cases h2
        · split at h2
          · cases h2
          · split at h2
            · cases h2
            · rename_i q1 q2 q3
              cases h2
              obtain ⟨f1, f2, f3⟩ := fresh_facts q3
              obtain ⟨k1, k2⟩ := half_key (s := shAt m.live i) hr q2
              obtain ⟨a, b, c⟩ := hi.idok i hil
              rw [counts_some (show findN (splitE (shAt m.live i).id (freshP m.evs) ((endsL (srvP s (loadsP m.live l))).1 : Nat) (halfP (keysP (shAt m.live i) l))).shard m.live = some i from hi.find hil), split_kind, if_neg (by decide), if_pos rfl]
              have hus : m.used (freshP m.evs) = false := by rw [hi.used _ f1 f2]; exact f3
              have hne : (shAt m.live i).id ≠ ((freshP m.evs : Nat) : Int) := fun he => by
                rw [he, f3] at c
                cases c
              have hrt : rightE (splitE (shAt m.live i).id (freshP m.evs) ((endsL (srvP s (loadsP m.live l))).1 : Nat) (halfP (keysP (shAt m.live i) l))) = true := by
                unfold rightE
                rw [split_kind, if_neg (by decide), if_pos rfl]
                show (within (shAt m.live i).id 12 && within ((freshP m.evs : Nat) : Int) 12 && decide ((shAt m.live i).id ≠ ((freshP m.evs : Nat) : Int)) && within (((endsL (srvP s (loadsP m.live l))).1 : Nat) : Int) 4 && isKey (halfP (keysP (shAt m.live i) l))) = true
                rw [within_mk a b, within_mk (by omega) (by omega), decide_eq_true hne, within_mk (by omega) (by omega), (hasB_of k1).2.1]
                rfl
              rw [hrt]
              show (true && !m.used (((freshP m.evs : Nat) : Int)).toNat && hasB (shAt m.live i).lo (shAt m.live i).hi (halfP (keysP (shAt m.live i) l)) && decide (halfP (keysP (shAt m.live i) l) ≠ (shAt m.live i).lo)) = true
              rw [Int.toNat_natCast, hus, k1, decide_eq_true k2]
              rfl
    | none =>
      rw [h2] at h
      dsimp only at h
      cases h3 : evensP (loadsP m.live l) (srvP s (loadsP m.live l)) (endsL (srvP s (loadsP m.live l))).1 (endsL (srvP s (loadsP m.live l))).2 with
      | some e3 =>
        rw [h3] at h
        cases h
        unfold evensP at h3
        obtain ⟨i, hb, rfl⟩ := Option.map_eq_some_iff.1 h3
        have hil := bestN_lt hb
        rw [loads_len] at hil
        rw [plAt_loads hil]
        exact move_counts hi hil (by omega) (by omega)
      | none =>
        rw [h3] at h
        dsimp only at h
        unfold joinsP at h
        obtain ⟨i, hb, rfl⟩ := Option.map_eq_some_iff.1 h
        unfold joinsN at hb
        rw [List.find?_range_eq_some] at hb
        have hj := hb.1
        unfold joinAt at hj
        simp only [Bool.and_eq_true, decide_eq_true_eq] at hj
        have hi1 := hj.1
        rw [loads_len] at hi1
        rw [plAt_loads (show i < m.live.length by omega), plAt_loads hi1]
        dsimp only
        obtain ⟨a, b, -⟩ := hi.idok i (by omega)
        obtain ⟨a', b', -⟩ := hi.idok (i + 1) hi1
        have hne : (shAt m.live i).id ≠ (shAt m.live (i + 1)).id := fun he => by
          have := hi.uniq i (i + 1) (by omega) hi1 he
          omega
        rw [counts_some (show findN (joinE (shAt m.live i).id (shAt m.live (i + 1)).id).shard m.live = some i from hi.find (by omega)), join_kind, if_neg (by decide), if_neg (by decide), if_pos rfl]
        rw [show findN (joinE (shAt m.live i).id (shAt m.live (i + 1)).id).other m.live = some (i + 1) from hi.find hi1]
        have hrt : rightE (joinE (shAt m.live i).id (shAt m.live (i + 1)).id) = true := by
          unfold rightE
          rw [join_kind, if_neg (by decide), if_neg (by decide), if_pos rfl]
          show (within (shAt m.live i).id 12 && within (shAt m.live (i + 1)).id 12 && decide ((shAt m.live i).id ≠ (shAt m.live (i + 1)).id)) = true
          rw [within_mk a b, within_mk a' b', decide_eq_true hne]
          rfl
        rw [hrt, Bool.true_and]
        dsimp only
        obtain ⟨n1, n2⟩ := hi.adj i hi1
        unfold joinB
        rw [hi.span i (by omega), hi.span (i + 1) hi1]
        rw [if_neg (by decide), if_pos]
        · rfl
        · have : (shAt m.live i).hi.data.toList.isEmpty = false := by
            cases hq : (shAt m.live i).hi.data.toList with
            | nil => exact absurd hq n1
            | cons c r => rfl
          rw [this, decide_eq_true n2]
          rfl
/-- A server's load, in short. -/
def srvOf (l : List LD) (k : Int) (s : Sh) : Int := if s.server = k then sumN (keysP s l) else 0
theorem srvFold_get {n : Nat} (l : List LD) (k : Nat) (hk : k < n) : ∀ (live : List Sh) (acc : List Int), (∀ s ∈ live, 1 ≤ s.server) → acc.length = n → ((loadsP live l).foldl (srvStep n) acc).getD k 0 = acc.getD k 0 + (live.map (srvOf l ((k : Int) + 1))).sum
  | [], acc, _, _ => by simp [loadsP]
  | s :: r, acc, hs, ha => by
    have ih := srvFold_get l k hk r (srvStep n acc (s, keysP s l)) (fun x hx => hs x (List.mem_cons_of_mem _ hx)) (by rw [srvStep_len, ha])
    have h1 := hs s List.mem_cons_self
    have e1 : loadsP (s :: r) l = (s, keysP s l) :: loadsP r l := rfl
    rw [e1, List.foldl_cons, ih, List.map_cons, List.sum_cons]
    have : (srvStep n acc (s, keysP s l)).getD k 0 = acc.getD k 0 + srvOf l ((k : Int) + 1) s := by
      unfold srvStep srvOf addAt
      dsimp only
      by_cases h2 : s.server ≤ (n : Int)
      · rw [if_pos h2, List.getD_eq_getElem?_getD, List.getElem?_set]
        by_cases h3 : (s.server - 1).toNat = k
        · rw [if_pos h3, if_pos (by omega), if_pos (by omega)]
          subst h3
          rfl
        · rw [if_neg h3, if_neg (by omega), ← List.getD_eq_getElem?_getD]
          omega
      · rw [if_neg h2, if_neg (by omega)]
        omega
    omega
theorem srv_get {n : Nat} {m : PM} (l : List LD) {k : Nat} (hk : k < n) (hs : SrvOk m) : (srvP n (loadsP m.live l)).getD k 0 = (m.live.map (srvOf l ((k : Int) + 1))).sum := by
  unfold srvP
  rw [srvFold_get l k hk m.live _ hs (List.length_replicate ..), List.getD_eq_getElem?_getD, List.getElem?_replicate, if_pos hk]
  simp
/-- A Move from one of the servers makes the greater load of both smaller. -/
theorem move_evens {m : PM} {l : List LD} {s : Nat} {most : Int} {e : EN} {t : Int} (hi : Inv m) (hso : SrvOk m) (hr : rightB l = true) (hs : 1 ≤ s ∧ s ≤ 4) (ht : 0 ≤ t ∧ t ≤ 4095) (h : nextP m l s most = some e) (hk : e.kind = 2) {i : Nat} (hf : findN e.shard m.live = some i) (hsv : (shAt m.live i).server ≤ (s : Int)) :
    max ((srvP s (loadsP (applyP m e t).2.live l)).getD ((shAt m.live i).server - 1).toNat 0) ((srvP s (loadsP (applyP m e t).2.live l)).getD (e.server - 1).toNat 0) < max ((srvP s (loadsP m.live l)).getD ((shAt m.live i).server - 1).toNat 0) ((srvP s (loadsP m.live l)).getD (e.server - 1).toNat 0) ∧ 1 ≤ e.server ∧ e.server ≤ (s : Int) := by
  have hen := endsL_range (l := srvP s (loadsP m.live l)) (by rw [srvP_len]; omega)
  rw [srvP_len] at hen
  have hct := next_counts hi hr hs h
  have hil := findN_ix hf
  unfold nextP at h
  cases h1 : straysP (loadsP m.live l) s ((endsL (srvP s (loadsP m.live l))).1 : Nat) with
  | some e1 =>
    rw [h1] at h
    cases h
    obtain ⟨j, hjl, hgt, rfl⟩ := stray_facts h1
    rw [loads_len] at hjl
    rw [plAt_loads hjl] at hgt hf
    have hfj : findN (shAt m.live j).id m.live = some i := hf
    rw [hi.find hjl] at hfj
    cases hfj
    exact absurd hsv (by dsimp only at hgt; omega)
  | none =>
    rw [h1] at h
    dsimp only at h
    cases h2 : cutsP m.evs (loadsP m.live l) most ((endsL (srvP s (loadsP m.live l))).1 : Nat) with
    | some e2 =>
      rw [h2] at h
      cases h
      unfold cutsP at h2
      cases hb : bestN (fun _ => true) (loadsP m.live l) with
      | none => rw [hb] at h2; cases h2
      | some q =>
        rw [hb] at h2
        dsimp only at h2
        split at h2
        · cases h2
        · split at h2
          · cases h2
          · split at h2
            · cases h2
            · cases h2
              exact absurd hk (by first | (rw [split_kind]; decide) | (rw [join_kind]; decide))
    | none =>
      rw [h2] at h
      dsimp only at h
      cases h3 : evensP (loadsP m.live l) (srvP s (loadsP m.live l)) (endsL (srvP s (loadsP m.live l))).1 (endsL (srvP s (loadsP m.live l))).2 with
      | some e3 =>
        rw [h3] at h
        cases h
        unfold evensP at h3
        obtain ⟨j, hb, rfl⟩ := Option.map_eq_some_iff.1 h3
        have hjl := bestN_lt hb
        have hmay := bestN_may hb
        rw [loads_len] at hjl
        rw [plAt_loads hjl] at hmay hf hct ⊢
        have hfj : findN (shAt m.live j).id m.live = some i := hf
        rw [hi.find hjl] at hfj
        cases hfj
        unfold evenMay at hmay
        simp only [Bool.and_eq_true, decide_eq_true_eq] at hmay
        obtain ⟨⟨m1, m2⟩, m3⟩ := hmay
        obtain ⟨lw, hlw⟩ : ∃ lw, (endsL (srvP s (loadsP m.live l))).1 = lw + 1 := ⟨_, (Nat.sub_add_cancel hen.1).symm⟩
        obtain ⟨hg, hhg⟩ : ∃ hg, (endsL (srvP s (loadsP m.live l))).2 = hg + 1 := ⟨_, (Nat.sub_add_cancel hen.2.2.1).symm⟩
        rw [hlw, hhg] at m3
        rw [hhg] at m1
        rw [hlw] at hct ⊢
        rw [Nat.add_sub_cancel, Nat.add_sub_cancel] at m3
        have hlive : (applyP m (moveE (shAt m.live i).id ((lw + 1 : Nat) : Int)) t).2.live = m.live.set i ((shAt m.live i).moved ((lw + 1 : Nat) : Int)) := by
          unfold applyP
          rw [if_pos (by rw [hct, decide_eq_true ht.1, decide_eq_true ht.2]; rfl)]
          dsimp only
          rw [move_kind, if_pos rfl]
          unfold moveP
          rw [show findN (moveE (shAt m.live i).id ((lw + 1 : Nat) : Int)).shard m.live = some i from hi.find hil]
          rfl
        have hso2 : SrvOk (applyP m (moveE (shAt m.live i).id ((lw + 1 : Nat) : Int)) t).2 := by
          intro x hx
          rw [hlive] at hx
          rcases mem_set_or hx with rfl | hx
          · show (1 : Int) ≤ ((lw + 1 : Nat) : Int)
            omega
          · exact hso x hx
        have e1 : (((shAt m.live i).server - 1).toNat) = hg := by omega
        have e2 : ((moveE (shAt m.live i).id ((lw + 1 : Nat) : Int)).server - 1).toNat = lw := by
          show ((((lw + 1 : Nat) : Int)) - 1).toNat = lw
          omega
        try dsimp only at e1
        have hkm : keysP ((shAt m.live i).moved ((lw + 1 : Nat) : Int)) l = keysP (shAt m.live i) l := rfl
        have g1 := srv_get (n := s) l (show hg < s by omega) hso
        have g2 := srv_get (n := s) l (show lw < s by omega) hso
        have g3 := srv_get (n := s) l (show hg < s by omega) hso2
        have g4 := srv_get (n := s) l (show lw < s by omega) hso2
        rw [hlive] at g3 g4
        rw [sum_set _ _ _ _ hil] at g3 g4
        have x1 : srvOf l ((hg : Int) + 1) (shAt m.live i) = sumN (keysP (shAt m.live i) l) := by unfold srvOf; rw [if_pos (by omega)]
        have hlh : lw ≠ hg := fun he => by
          subst he
          omega
        have x2 : srvOf l ((lw : Int) + 1) (shAt m.live i) = 0 := by unfold srvOf; rw [if_neg (by omega)]
        have x3 : srvOf l ((hg : Int) + 1) ((shAt m.live i).moved ((lw + 1 : Nat) : Int)) = 0 := by
          have q1 : ((shAt m.live i).moved ((lw + 1 : Nat) : Int)).server = ((lw + 1 : Nat) : Int) := rfl
          unfold srvOf
          rw [q1, if_neg (by omega)]
        have x4 : srvOf l ((lw : Int) + 1) ((shAt m.live i).moved ((lw + 1 : Nat) : Int)) = sumN (keysP (shAt m.live i) l) := by
          have q1 : ((shAt m.live i).moved ((lw + 1 : Nat) : Int)).server = ((lw + 1 : Nat) : Int) := rfl
          unfold srvOf
          rw [q1, if_pos (by omega), hkm]
        rw [x1, x3, ← g1] at g3
        rw [x2, x4, ← g2] at g4
        rw [hlive]
        rw [e1, e2, g3, g4]
        generalize (srvP s (loadsP m.live l)).getD hg 0 = bh at *
        generalize (srvP s (loadsP m.live l)).getD lw 0 = bl at *
        try dsimp only at m2 m3
        generalize sumN (keysP (shAt m.live i) l) = x at *
        refine ⟨?_, ?_, ?_⟩
        · omega
        · show (1 : Int) ≤ ((lw + 1 : Nat) : Int)
          omega
        · show ((lw + 1 : Nat) : Int) ≤ (s : Int)
          omega
      | none =>
        rw [h3] at h
        dsimp only at h
        unfold joinsP at h
        obtain ⟨q, hb, rfl⟩ := Option.map_eq_some_iff.1 h
        exact absurd hk (by first | (rw [split_kind]; decide) | (rw [join_kind]; decide))
end Go.Proofs.YthjmfcdhpdiehaaGreatDoor

namespace Go.Proofs.YthjmfcdhpdiehaaGreatDoor
open Go.RowKit Utf
set_option maxRecDepth 100000
set_option linter.unusedSimpArgs false
set_option linter.unusedVariables false

/-- The map behind the first entries. -/
def stepAt (m0 : PM) (es : List EN) (k : Nat) : PM := (List.range k).foldl (fun m i => (applyP m (es.getD i EN.zero) (i : Nat)).2) m0
theorem stepAt_succ (m0 : PM) (es : List EN) (k : Nat) : stepAt m0 es (k + 1) = (applyP (stepAt m0 es k) (es.getD k EN.zero) (k : Nat)).2 := by
  unfold stepAt
  rw [List.range_succ, List.foldl_append]
  rfl
theorem stepAt_pre (m0 : PM) {es es' : List EN} : ∀ k, (∀ i, i < k → es.getD i EN.zero = es'.getD i EN.zero) → stepAt m0 es k = stepAt m0 es' k
  | 0, _ => rfl
  | k + 1, h => by rw [stepAt_succ, stepAt_succ, stepAt_pre m0 k (fun i hi => h i (by omega)), h k (by omega)]
theorem getD_pre (out : List EN) (e : EN) {i : Nat} (h : i < out.length) : (out ++ [e]).getD i EN.zero = out.getD i EN.zero := by
  rw [List.getD_eq_getElem?_getD, List.getElem?_append_left h, ← List.getD_eq_getElem?_getD]
theorem getD_last (out : List EN) (e : EN) : (out ++ [e]).getD out.length EN.zero = e := by
  rw [List.getD_eq_getElem?_getD, List.getElem?_append_right (Nat.le_refl _), Nat.sub_self]
  rfl
theorem plan_steps (l : List LD) (s : Nat) (most : Int) (m0 : PM) : ∀ (n : Nat) (m : PM) (out : List EN), stepAt m0 out out.length = m → (∀ k, k < out.length → nextP (stepAt m0 out k) l s most = some (out.getD k EN.zero)) →
    ∀ k, k < (planS l s most n m out).1.length → nextP (stepAt m0 (planS l s most n m out).1 k) l s most = some ((planS l s most n m out).1.getD k EN.zero)
  | 0, m, out, _, h => h
  | n + 1, m, out, hm, h => by
    unfold planS
    cases hn : nextP m l s most with
    | none => exact h
    | some e =>
      refine plan_steps l s most m0 n _ _ ?_ ?_
      · rw [List.length_append, List.length_singleton, stepAt_succ, stepAt_pre m0 (es' := out) _ (fun i hi => getD_pre out e hi), getD_last, hm]
      · intro k hk
        rw [List.length_append, List.length_singleton] at hk
        by_cases h1 : k < out.length
        · rw [stepAt_pre m0 (es' := out) _ (fun i hi => getD_pre out e (by omega)), getD_pre out e h1]
          exact h k h1
        · obtain rfl : k = out.length := by omega
          rw [stepAt_pre m0 (es' := out) _ (fun i hi => getD_pre out e hi), hm, getD_last]
          exact hn
theorem step_inv {m0 : PM} (h : Inv m0) (es : List EN) : ∀ k, Inv (stepAt m0 es k)
  | 0 => h
  | k + 1 => by
    rw [stepAt_succ]
    exact (step_inv h es k).apply _ _
theorem step_ok {m0 : PM} {n : Nat} (h : PMok m0 n) (es : List EN) : ∀ k, PMok (stepAt m0 es k) (n + k)
  | 0 => h
  | k + 1 => by
    rw [stepAt_succ]
    exact (step_ok h es k).apply _ _
theorem made_inv (acs : List Ac) : Inv (madeP acs) := by
  unfold madeP
  suffices ∀ (acs : List Ac) (m : PM), Inv m → Inv (acs.foldl (fun m a => (applyP m a.1 a.2).2) m) from this acs _ Inv.new
  intro acs
  induction acs with
  | nil => exact fun m h => h
  | cons a r ih => exact fun m h => ih _ (h.apply _ _)
/-- What is known of a step. -/
theorem step_facts {m : PM} {l : List LD} {s : Nat} {most : Int} {e : EN} {k : Nat} (hi : Inv m) (hr : rightB l = true) (hs : 1 ≤ s ∧ s ≤ 4) (hk : k ≤ 4095) (h : nextP m l s most = some e) : countsP m e = true ∧ (applyP m e (k : Nat)).1 = true ∧ ∃ i, findN e.shard m.live = some i ∧ i < m.live.length := by
  have hc := next_counts hi hr hs h
  refine ⟨hc, ?_, ?_⟩
  · unfold applyP
    rw [if_pos (by rw [hc, decide_eq_true (show (0 : Int) ≤ (k : Nat) by omega), decide_eq_true (show ((k : Nat) : Int) ≤ 4095 by omega)]; rfl)]
  · cases hf : findN e.shard m.live with
    | none => rw [counts_none hf] at hc; cases hc
    | some i => exact ⟨i, rfl, findN_ix hf⟩
end Go.Proofs.YthjmfcdhpdiehaaGreatDoor

namespace Go.Proofs.YthjmfcdhpdiehaaGreatDoor
open Go.RowKit Utf
set_option maxRecDepth 100000
set_option linter.unusedSimpArgs false
set_option linter.unusedVariables false

theorem fields_sh : (Tryz.prog.fieldsOf 54).toList = [⟨"ID", 3, 0, false, "", "", 0⟩, ⟨"Server", 3, 1, false, "", "", 8⟩, ⟨"Since", 3, 2, false, "", "", 16⟩, ⟨"Span", 52, 3, false, "", "", 24⟩] := by kernel_rfl
theorem fields_sp : (Tryz.prog.fieldsOf 52).toList = [⟨"Lo", 9, 0, false, "", "", 0⟩, ⟨"Hi", 9, 1, false, "", "", 16⟩] := by kernel_rfl
theorem eqF_step {P : Program} (w : World) (d : Nat) (xs : Array Value) (f : Field) (fs : List Field) (hn : f.name ≠ "_") (v : Value) (hx : Sem.run P (Go.part f.type xs f.offset) w = .ok v w) (he : (Op.equalIn d f.type v v).run P w = .ok true w) : (Op.eqFields d xs xs (f :: fs)).run P w = (Op.eqFields d xs xs fs).run P w := by
  simp only [Op.eqFields]
  rw [if_pos hn]
  simp [Sem.run_bind, hx, he, Result.andThen]
theorem equal_int (d : Nat) (z : Int) (w : World) : (Op.equalIn (d + 1) 3 (.int .i64 z) (.int .i64 z)).run Tryz.prog w = .ok true w := by
  rw [run_equalIn_int w d _ .i64 .i64 z z Tryz.underlying3]
  simp
theorem equal_str (d : Nat) (z : ByteArray) (w : World) : (Op.equalIn (d + 1) 9 (.string z) (.string z)).run Tryz.prog w = .ok true w := by
  rw [run_equalIn_string w d _ z z Tryz.underlying9]
  simp
theorem equal_sp (d : Nat) (lo hi : ByteArray) (w : World) : (Op.equalIn (d + 1 + 1) 52 (.agg #[.string lo, .string hi]) (.agg #[.string lo, .string hi])).run Tryz.prog w = .ok true w := by
  rw [run_equalIn_agg w (d + 1) _ _ _ (by kernel_rfl) (by kernel_rfl), fields_sp]
  rw [eqF_step w _ _ _ _ (by decide) (.string lo) (by kernel_rfl) (equal_str d lo w)]
  rw [eqF_step w _ _ _ _ (by decide) (.string hi) (by kernel_rfl) (equal_str d hi w)]
  rfl
theorem equal_sh (id server since : Int) (lo hi : ByteArray) (w : World) : (Op.equalIn 10000 54 (.agg #[.int .i64 id, .int .i64 server, .int .i64 since, .string lo, .string hi]) (.agg #[.int .i64 id, .int .i64 server, .int .i64 since, .string lo, .string hi])).run Tryz.prog w = .ok true w := by
  rw [run_equalIn_agg w 9999 _ _ _ (by kernel_rfl) (by kernel_rfl), fields_sh]
  rw [eqF_step w _ _ _ _ (by decide) (.int .i64 id) (by kernel_rfl) (equal_int 9998 id w)]
  rw [eqF_step w _ _ _ _ (by decide) (.int .i64 server) (by kernel_rfl) (equal_int 9998 server w)]
  rw [eqF_step w _ _ _ _ (by decide) (.int .i64 since) (by kernel_rfl) (equal_int 9998 since w)]
  rw [eqF_step w _ _ _ _ (by decide) (.agg #[.string lo, .string hi]) (by kernel_rfl) (equal_sp 9997 lo hi w)]
  rfl
section
variable {o : Oper} {a : Act} {w : World}
theorem run_max2 (x y : Operand) (ty : TypeId) (ho : o.op = .call { callee := .builtin .max, args := #[x, y], argTypes := #[ty, ty] }) (m n : Int) (hx : a.eval x = .int .i64 m) (hy : a.eval y = .int .i64 n) (r : Int) (hr : max m n = r) : (execOp a.eval o).run Tryz.prog w = .ok (.value (.int .i64 r)) w := by
  have h : (if n > m then n else m) = r := by rw [← hr]; split <;> omega
  unfold execOp
  simp [ho, resolve, invoke, builtin, hx, hy, Builtin.max_, Builtin.max2, h, Result.andThen]
/-- Shards that are alike are not unlike. -/
theorem run_shneq (x y : Operand) (ho : o.op = .binOp .neq 54 x y 54) (id server since : Int) (lo hi : ByteArray) (hx : a.eval x = .agg #[.int .i64 id, .int .i64 server, .int .i64 since, .string lo, .string hi]) (hy : a.eval y = .agg #[.int .i64 id, .int .i64 server, .int .i64 since, .string lo, .string hi]) : (execOp a.eval o).run Tryz.prog w = .ok (.value (.bool false)) w := by
  have h1 := run_neq_struct (P := Tryz.prog) w 54 #[.int .i64 id, .int .i64 server, .int .i64 since, .string lo, .string hi] #[.int .i64 id, .int .i64 server, .int .i64 since, .string lo, .string hi]
  rw [equal_sh] at h1
  have h2 := run_eqGuard_agg (P := Tryz.prog) w .neq 54 x y #[.int .i64 id, .int .i64 server, .int .i64 since, .string lo, .string hi] #[.int .i64 id, .int .i64 server, .int .i64 since, .string lo, .string hi] (by kernel_rfl)
  unfold execOp
  simp [ho, hx, hy, h1, h2, Result.andThen]
end
end Go.Proofs.YthjmfcdhpdiehaaGreatDoor
