/-
  How every map stands: spans that adjoin, numbers that are apart and used. Plain Lean.
  The program's map and the reference's: the same shards, in another order; what sorts them. Plain Lean.
-/
import Derived.Test.YthjmfcdhpdiehaaGreatDoorM24
import Derived.Test.YthjmfcdhpdiehaaGreatDoorM17
import Derived.Test.YthjmfcdhpdiehaaGreatDoorM26
namespace Go.Proofs.YthjmfcdhpdiehaaGreatDoor
open Go.RowKit Utf
set_option maxRecDepth 100000
set_option linter.unusedSimpArgs false
set_option linter.unusedVariables false

theorem shAt_set {l : List Sh} {i j : Nat} {x : Sh} (hi : i < l.length) (hj : j < l.length) : shAt (l.set i x) j = if j = i then x else shAt l j := by
  rw [shAt_eq (show j < (l.set i x).length by simpa using hj), set_at l i x j hj hi, shAt_eq hj]
theorem shAt_ins {l : List Sh} {k j : Nat} {x : Sh} (hk : k ≤ l.length) (hj : j < l.length + 1) : shAt (l.take k ++ x :: l.drop k) j = if j < k then shAt l j else if j = k then x else shAt l (j - 1) := by
  unfold shAt
  rw [List.getD_eq_getElem?_getD, List.getElem?_append, List.length_take, Nat.min_eq_left hk]
  by_cases h1 : j < k
  · rw [if_pos h1, if_pos h1, List.getElem?_take_of_lt h1, ← List.getD_eq_getElem?_getD]
  · rw [if_neg h1, if_neg h1]
    by_cases h2 : j = k
    · subst h2
      rw [if_pos rfl, Nat.sub_self]
      rfl
    · rw [if_neg h2]
      obtain ⟨d, rfl⟩ : ∃ d, j = k + d + 1 := ⟨j - k - 1, by omega⟩
      rw [show k + d + 1 - k = d + 1 by omega, List.getElem?_cons_succ, List.getElem?_drop, ← List.getD_eq_getElem?_getD]
      rfl
theorem shAt_del {l : List Sh} {k j : Nat} (hk : k < l.length) : shAt (l.take k ++ l.drop (k + 1)) j = if j < k then shAt l j else shAt l (j + 1) := by
  unfold shAt
  rw [List.getD_eq_getElem?_getD, List.getElem?_append, List.length_take, Nat.min_eq_left (by omega)]
  by_cases h1 : j < k
  · rw [if_pos h1, if_pos h1, List.getElem?_take_of_lt h1, ← List.getD_eq_getElem?_getD]
  · rw [if_neg h1, if_neg h1, List.getElem?_drop, ← List.getD_eq_getElem?_getD]
    congr 1
    omega
/-- How every map stands. -/
structure Inv (m : PM) : Prop where
  span : ∀ i, i < m.live.length → spanR (shAt m.live i).lo (shAt m.live i).hi = true
  adj : ∀ i, i + 1 < m.live.length → ¬ (shAt m.live i).hi.data.toList = [] ∧ (shAt m.live i).hi = (shAt m.live (i + 1)).lo
  uniq : ∀ i j, i < m.live.length → j < m.live.length → (shAt m.live i).id = (shAt m.live j).id → i = j
  idok : ∀ i, i < m.live.length → 1 ≤ (shAt m.live i).id ∧ (shAt m.live i).id ≤ 12 ∧ usedIn m.evs (shAt m.live i).id = true
  used : ∀ k : Nat, 1 ≤ k → k ≤ 12 → m.used k = usedIn m.evs (k : Int)
theorem usedIn_app (evs : List Ev) (t : Int) (e : EN) (x : Int) : usedIn (evs ++ [(t, e)]) x = (usedIn evs x || (decide (e.kind = 3) && decide (e.other = x))) := by
  unfold usedIn
  rw [List.any_append, List.any_cons, List.any_nil, Bool.or_false, Bool.or_assoc]
theorem Inv.new : Inv PM.new := by
  have hl : PM.new.live.length = 1 := rfl
  refine ⟨fun i hi => ?_, fun i hi => ?_, fun i j hi hj _ => ?_, fun i hi => ?_, fun k h1 h2 => ?_⟩
  · obtain rfl : i = 0 := by omega
    kernel_rfl
  · omega
  · omega
  · obtain rfl : i = 0 := by omega
    exact ⟨by decide, by decide, by decide⟩
  · show (k == 1) = usedIn [] (k : Int)
    unfold usedIn
    by_cases h : k = 1
    · subst h; rfl
    · have : (k == 1) = false := by simpa using h
      rw [this, decide_eq_false (by omega)]
      rfl
section
variable {m : PM}
/-- The low ends rise. -/
theorem Inv.low (h : Inv m) {i : Nat} : ∀ d, i + d + 1 < m.live.length → bLt (shAt m.live i).lo (shAt m.live (i + d + 1)).lo = true
  | 0, hd => by
    obtain ⟨h1, h2⟩ := h.adj i hd
    have h3 := (spanR_of (h.span i (by omega))).2.2
    rw [lessB_no h1] at h3
    rw [Nat.add_zero, ← h2]
    exact h3
  | d + 1, hd => by
    have ih := Inv.low h (i := i) d (by omega)
    obtain ⟨h1, h2⟩ := h.adj (i + d + 1) hd
    have h3 := (spanR_of (h.span (i + d + 1) (by omega))).2.2
    rw [lessB_no h1, h2] at h3
    exact bLt_trans ih h3
theorem Inv.lows (h : Inv m) {i j : Nat} (hij : i < j) (hj : j < m.live.length) : bLt (shAt m.live i).lo (shAt m.live j).lo = true := by
  obtain ⟨d, rfl⟩ : ∃ d, j = i + d + 1 := ⟨j - i - 1, by omega⟩
  exact h.low d hj
theorem Inv.low_inj (h : Inv m) {i j : Nat} (hi : i < m.live.length) (hj : j < m.live.length) (he : (shAt m.live i).lo = (shAt m.live j).lo) : i = j := by
  rcases Nat.lt_trichotomy i j with h1 | h1 | h1
  · have := h.lows h1 hj
    rw [he, bLt_irrefl] at this
    cases this
  · exact h1
  · have := h.lows h1 hi
    rw [he, bLt_irrefl] at this
    cases this
/-- Spans that meet are neighbours. -/
theorem Inv.next_of (h : Inv m) {i k : Nat} (hi : i < m.live.length) (hk : k < m.live.length) (h1 : ¬ (shAt m.live i).hi.data.toList = []) (h2 : (shAt m.live i).hi = (shAt m.live k).lo) : k = i + 1 := by
  have h3 := (spanR_of (h.span i hi)).2.2
  rw [lessB_no h1] at h3
  by_cases h4 : i + 1 < m.live.length
  · have h5 := (h.adj i h4).2
    exact h.low_inj hk h4 (h2.symm.trans h5)
  · have h5 : k ≤ i := by omega
    rcases Nat.lt_or_ge k i with h6 | h6
    · have h7 := h.lows h6 hi
      rw [← h2] at h7
      rw [bLt_asymm h7] at h3
      cases h3
    · obtain rfl : k = i := by omega
      rw [h2, bLt_irrefl] at h3
      cases h3
theorem Inv.find (h : Inv m) {i : Nat} (hi : i < m.live.length) : findN (shAt m.live i).id m.live = some i := by
  refine find_some hi (by rw [shAt_eq hi]) (fun j hj he => ?_)
  have := h.uniq j i (by omega) hi (by rw [shAt_eq (show j < m.live.length by omega), he])
  omega
end

/-- What Apply leaves stands as well. -/
theorem Inv.apply {m : PM} (h : Inv m) (e : EN) (t : Int) : Inv (applyP m e t).2 := by
  unfold applyP
  by_cases hc : (countsP m e && decide (0 ≤ t) && decide (t ≤ 4095)) = true
  · rw [if_pos hc]
    simp only [Bool.and_eq_true] at hc
    have hcc := hc.1.1
    unfold countsP at hcc
    cases hf : findN e.shard m.live with
    | none => rw [hf] at hcc; cases hcc
    | some i =>
      rw [hf] at hcc
      dsimp only at hcc
      have hi := findN_ix hf
      by_cases h2 : e.kind = 2
      · dsimp only
        rw [if_pos h2]
        unfold moveP
        rw [hf]
        have hl : (m.live.set i ((shAt m.live i).moved e.server)).length = m.live.length := List.length_set ..
        have key : ∀ j, j < m.live.length → (shAt (m.live.set i ((shAt m.live i).moved e.server)) j).lo = (shAt m.live j).lo ∧ (shAt (m.live.set i ((shAt m.live i).moved e.server)) j).hi = (shAt m.live j).hi ∧ (shAt (m.live.set i ((shAt m.live i).moved e.server)) j).id = (shAt m.live j).id := fun j hj => by
          rw [shAt_set hi hj]
          by_cases hji : j = i
          · subst hji; rw [if_pos rfl]; exact ⟨rfl, rfl, rfl⟩
          · rw [if_neg hji]; exact ⟨rfl, rfl, rfl⟩
        refine ⟨fun j hj => ?_, fun j hj => ?_, fun j k hj hk he => ?_, fun j hj => ?_, h.used⟩ <;> dsimp only at * <;> rw [hl] at *
        · rw [(key j hj).1, (key j hj).2.1]
          exact h.span j hj
        · rw [(key j (by omega)).2.1, (key (j + 1) hj).1]
          exact h.adj j hj
        · rw [(key j hj).2.2, (key k hk).2.2] at he
          exact h.uniq j k hj hk he
        · rw [(key j hj).2.2]
          exact h.idok j hj
      · rw [if_neg h2] at hcc
        dsimp only
        rw [if_neg h2]
        by_cases h3 : e.kind = 3
        · rw [if_pos h3] at hcc
          rw [if_pos h3]
          simp only [Bool.and_eq_true, decide_eq_true_eq, Bool.not_eq_true'] at hcc
          obtain ⟨⟨⟨hr, hu⟩, hh⟩, hne⟩ := hcc
          obtain ⟨s1, s2, s3⟩ := cut_spans hh hne
          have hr2 := hr
          unfold rightE at hr2
          rw [if_neg h2, if_pos h3] at hr2
          simp only [Bool.and_eq_true] at hr2
          have htw := hr2.1.1
          unfold twoR at htw
          simp only [Bool.and_eq_true] at htw
          have ho := within_le htw.1.2
          obtain ⟨on, hon⟩ : ∃ on : Nat, e.other = (on : Int) := ⟨e.other.toNat, by omega⟩
          rw [hon, Int.toNat_natCast] at hu
          have hnu : usedIn m.evs e.other = false := by rw [hon, ← h.used on (by omega) (by omega)]; exact hu
          have hnew : ∀ j, j < m.live.length → (shAt m.live j).id ≠ e.other := fun j hj he => by
            have := (h.idok j hj).2.2
            rw [he, hnu] at this
            cases this
          unfold PM.event splitP
          rw [hf]
          dsimp only
          generalize hx : (shAt m.live i).turned (shAt m.live i).lo e.key ((t.toNat + 1 : Nat) : Int) = x
          generalize hy : (⟨e.other, e.server, ((t.toNat + 1 : Nat) : Int), e.key, (shAt m.live i).hi⟩ : Sh) = y
          have hxl : x.lo = (shAt m.live i).lo ∧ x.hi = e.key ∧ x.id = (shAt m.live i).id := by subst hx; exact ⟨rfl, rfl, rfl⟩
          have hyl : y.lo = e.key ∧ y.hi = (shAt m.live i).hi ∧ y.id = e.other := by subst hy; exact ⟨rfl, rfl, rfl⟩
          have hl1 : (m.live.set i x).length = m.live.length := List.length_set ..
          have hl : ((m.live.set i x).take (i + 1) ++ y :: (m.live.set i x).drop (i + 1)).length = m.live.length + 1 := by
            simp only [List.length_append, List.length_take, List.length_cons, List.length_drop, hl1]
            omega
          have key : ∀ j, j < m.live.length + 1 → shAt ((m.live.set i x).take (i + 1) ++ y :: (m.live.set i x).drop (i + 1)) j = if j < i then shAt m.live j else if j = i then x else if j = i + 1 then y else shAt m.live (j - 1) := fun j hj => by
            rw [shAt_ins (by omega) (by omega)]
            by_cases a1 : j < i
            · rw [if_pos (by omega), if_pos a1, shAt_set hi (by omega), if_neg (by omega)]
            · rw [if_neg a1]
              by_cases a2 : j = i
              · subst a2
                rw [if_pos (by omega), if_pos rfl, shAt_set hi hi, if_pos rfl]
              · rw [if_neg (by omega), if_neg a2]
                by_cases a3 : j = i + 1
                · rw [if_pos a3, if_pos a3]
                · rw [if_neg a3, if_neg a3, shAt_set hi (by omega), if_neg (by omega)]
          have kA : ∀ j, j < i → shAt ((m.live.set i x).take (i + 1) ++ y :: (m.live.set i x).drop (i + 1)) j = shAt m.live j := fun j hj => by rw [key j (by omega), if_pos hj]
          have kB : shAt ((m.live.set i x).take (i + 1) ++ y :: (m.live.set i x).drop (i + 1)) i = x := by rw [key i (by omega), if_neg (by omega), if_pos rfl]
          have kC : shAt ((m.live.set i x).take (i + 1) ++ y :: (m.live.set i x).drop (i + 1)) (i + 1) = y := by rw [key (i + 1) (by omega), if_neg (by omega), if_neg (by omega), if_pos rfl]
          have kD : ∀ j, i < j → j < m.live.length → shAt ((m.live.set i x).take (i + 1) ++ y :: (m.live.set i x).drop (i + 1)) (j + 1) = shAt m.live j := fun j h1 h2 => by rw [key (j + 1) (by omega), if_neg (by omega), if_neg (by omega), if_neg (by omega), Nat.add_sub_cancel]
          have cases4 : ∀ j, j < m.live.length + 1 → j < i ∨ j = i ∨ j = i + 1 ∨ ∃ q, j = q + 1 ∧ i < q ∧ q < m.live.length := fun j hj => by
            by_cases a1 : j < i
            · exact .inl a1
            · by_cases a2 : j = i
              · exact .inr (.inl a2)
              · by_cases a3 : j = i + 1
                · exact .inr (.inr (.inl a3))
                · exact .inr (.inr (.inr ⟨j - 1, by omega, by omega, by omega⟩))
          have idof : ∀ j, j < m.live.length + 1 → (∃ q, q < m.live.length ∧ (shAt ((m.live.set i x).take (i + 1) ++ y :: (m.live.set i x).drop (i + 1)) j).id = (shAt m.live q).id ∧ j = (if q ≤ i then q else q + 1)) ∨ (j = i + 1 ∧ (shAt ((m.live.set i x).take (i + 1) ++ y :: (m.live.set i x).drop (i + 1)) j).id = e.other) := fun j hj => by
            rcases cases4 j hj with a | rfl | rfl | ⟨q, rfl, a, b⟩
            · exact .inl ⟨j, by omega, by rw [kA j a], by rw [if_pos (by omega)]⟩
            · exact .inl ⟨_, hi, by rw [kB, hxl.2.2], by rw [if_pos (by omega)]⟩
            · exact .inr ⟨rfl, by rw [kC, hyl.2.2]⟩
            · exact .inl ⟨q, b, by rw [kD q a b], by rw [if_neg (by omega)]⟩
          refine ⟨fun j hj => ?_, fun j hj => ?_, fun j k hj hk he => ?_, fun j hj => ?_, fun k k1 k2 => ?_⟩
          · dsimp only at hj ⊢
            rw [hl] at hj
            rcases cases4 j hj with a | rfl | rfl | ⟨q, rfl, a, b⟩
            · rw [kA j a]; exact h.span j (by omega)
            · rw [kB, hxl.1, hxl.2.1]; exact s1
            · rw [kC, hyl.1, hyl.2.1]; exact s2
            · rw [kD q a b]; exact h.span q b
          · dsimp only at hj ⊢
            rw [hl] at hj
            rcases cases4 j (by omega) with a | rfl | rfl | ⟨q, rfl, a, b⟩
            · by_cases hj2 : j + 1 = i
              · rw [kA j a, hj2, kB, hxl.1]
                have := h.adj j (by omega)
                rwa [hj2] at this
              · rw [kA j a, kA (j + 1) (by omega)]
                exact h.adj j (by omega)
            · rw [kB, kC, hxl.2.1, hyl.1]
              exact ⟨s3, rfl⟩
            · rw [kC, kD (i + 1) (by omega) (by omega), hyl.2.1]
              exact h.adj i (by omega)
            · rw [kD q a b, kD (q + 1) (by omega) (by omega)]
              exact h.adj q (by omega)
          · dsimp only at hj hk he
            rw [hl] at hj hk
            rcases idof j hj with ⟨q, q1, q2, q3⟩ | ⟨q1, q2⟩ <;> rcases idof k hk with ⟨r, r1, r2, r3⟩ | ⟨r1, r2⟩
            · rw [q2, r2] at he
              have := h.uniq q r q1 r1 he
              subst this
              rw [q3, r3]
            · rw [q2, r2] at he
              exact absurd he (hnew q q1)
            · rw [q2, r2] at he
              exact absurd he.symm (hnew r r1)
            · rw [q1, r1]
          · dsimp only at hj ⊢
            rw [hl] at hj
            rw [usedIn_app]
            rcases idof j hj with ⟨q, q1, q2, q3⟩ | ⟨q1, q2⟩
            · rw [q2]
              obtain ⟨a, b, c⟩ := h.idok q q1
              exact ⟨a, b, by rw [c]; rfl⟩
            · rw [q2]
              exact ⟨ho.1, ho.2, by rw [decide_eq_true h3, decide_eq_true rfl]; simp⟩
          · dsimp only
            rw [usedIn_app, h.used k k1 k2, decide_eq_true h3, Bool.true_and]
            congr 1
            by_cases hk : (k : Int) = e.other
            · rw [decide_eq_true hk, decide_eq_true hk.symm]
            · rw [decide_eq_false hk, decide_eq_false (fun e1 => hk e1.symm)]
        · rw [if_neg h3] at hcc
          rw [if_neg h3]
          by_cases h4 : e.kind = 4
          · rw [if_pos h4] at hcc
            simp only [Bool.and_eq_true] at hcc
            have hr := hcc.1
            unfold rightE at hr
            rw [if_neg h2, if_neg h3, if_pos h4] at hr
            have hne := twoR_ne hr
            have hus : ∀ x, usedIn (m.evs ++ [(t, e)]) x = usedIn m.evs x := fun x => by rw [usedIn_app, decide_eq_false h3, Bool.false_and, Bool.or_false]
            have same : ∀ (m' : PM), m'.live = m.live → m'.used = m.used → Inv (m'.event t e) → Inv (m'.event t e) := fun _ _ _ h => h
            have keep : Inv (m.event t e) := ⟨h.span, h.adj, h.uniq, fun j hj => by
              obtain ⟨a, b, c⟩ := h.idok j hj
              exact ⟨a, b, by show usedIn (m.evs ++ [(t, e)]) _ = true; rw [hus]; exact c⟩, fun k k1 k2 => by show m.used k = usedIn (m.evs ++ [(t, e)]) _; rw [hus]; exact h.used k k1 k2⟩
            unfold mergeP
            rw [hf]
            cases hf2 : findN e.other m.live with
            | none => exact keep
            | some k =>
              dsimp only
              have hk := findN_ix hf2
              have hki : k ≠ i := fun hh => by
                subst hh
                exact hne ((findN_id hf).symm.trans (findN_id hf2))
              cases hj : joinB (shAt m.live i).lo (shAt m.live i).hi (shAt m.live k).lo (shAt m.live k).hi with
              | none => exact keep
              | some sp =>
                dsimp only
                unfold PM.event
                dsimp only
                obtain ⟨s1, s2, hh⟩ := joinB_cases hj
                generalize hx : (shAt m.live i).turned sp.1 sp.2 ((t.toNat + 1 : Nat) : Int) = x
                have hxl : x.lo = sp.1 ∧ x.hi = sp.2 ∧ x.id = (shAt m.live i).id := by subst hx; exact ⟨rfl, rfl, rfl⟩
                have hl1 : (m.live.set i x).length = m.live.length := List.length_set ..
                have hl : ((m.live.set i x).take k ++ (m.live.set i x).drop (k + 1)).length = m.live.length - 1 := by
                  simp only [List.length_append, List.length_take, List.length_drop, hl1]
                  omega
                have key : ∀ j, j < m.live.length - 1 → shAt ((m.live.set i x).take k ++ (m.live.set i x).drop (k + 1)) j = if (if j < k then j else j + 1) = i then x else shAt m.live (if j < k then j else j + 1) := fun j hj => by
                  rw [shAt_del (by omega)]
                  by_cases a : j < k
                  · rw [if_pos a, if_pos a, shAt_set hi (by omega)]
                  · rw [if_neg a, if_neg a, shAt_set hi (by omega)]
                have kid : ∀ j, j < m.live.length - 1 → (shAt ((m.live.set i x).take k ++ (m.live.set i x).drop (k + 1)) j).id = (shAt m.live (if j < k then j else j + 1)).id := fun j hj => by
                  rw [key j hj]
                  by_cases a : (if j < k then j else j + 1) = i
                  · rw [if_pos a, hxl.2.2, a]
                  · rw [if_neg a]
                have hin : ∀ j, j < m.live.length - 1 → (if j < k then j else j + 1) < m.live.length := fun j hj => by split <;> omega
                have hspans : spanR sp.1 sp.2 = true ∧ (∀ j, j + 1 < m.live.length - 1 → ¬ (shAt ((m.live.set i x).take k ++ (m.live.set i x).drop (k + 1)) j).hi.data.toList = [] ∧ (shAt ((m.live.set i x).take k ++ (m.live.set i x).drop (k + 1)) j).hi = (shAt ((m.live.set i x).take k ++ (m.live.set i x).drop (k + 1)) (j + 1)).lo) := by
                  rcases hh with ⟨n1, n2, rfl⟩ | ⟨n1, n2, rfl⟩
                  · have hk1 := h.next_of hi hk n1 n2
                    subst hk1
                    dsimp only at hxl ⊢
                    have hb := (spanR_of s1).2.2
                    rw [lessB_no n1, n2] at hb
                    refine ⟨spanR_mk (spanR_of s1).1 (spanR_of s2).2.1 (lessB_mk ((lessB_of (spanR_of s2).2.2).imp id (fun h5 => bLt_trans hb h5))), fun j hj => ?_⟩
                    rw [key j (by omega), key (j + 1) hj]
                    rcases Nat.lt_trichotomy j i with a | a | a
                    · rw [if_pos (show j < i + 1 by omega), if_neg (show ¬ j = i by omega), if_pos (show j + 1 < i + 1 by omega)]
                      by_cases b : j + 1 = i
                      · rw [if_pos b, hxl.1]
                        have := h.adj j (by omega)
                        rwa [b] at this
                      · rw [if_neg b]
                        exact h.adj j (by omega)
                    · subst a
                      rw [if_pos (show j < j + 1 by omega), if_pos rfl, if_neg (show ¬ j + 1 < j + 1 by omega), if_neg (show ¬ j + 1 + 1 = j by omega), hxl.2.1]
                      exact h.adj (j + 1) (by omega)
                    · rw [if_neg (show ¬ j < i + 1 by omega), if_neg (show ¬ j + 1 = i by omega), if_neg (show ¬ j + 1 < i + 1 by omega), if_neg (show ¬ j + 1 + 1 = i by omega)]
                      exact h.adj (j + 1) (by omega)
                  · have hk1 := h.next_of hk hi n1 n2
                    subst hk1
                    dsimp only at hxl ⊢
                    have hb := (spanR_of s2).2.2
                    rw [lessB_no n1, n2] at hb
                    refine ⟨spanR_mk (spanR_of s2).1 (spanR_of s1).2.1 (lessB_mk ((lessB_of (spanR_of s1).2.2).imp id (fun h5 => bLt_trans hb h5))), fun j hj => ?_⟩
                    rw [key j (by omega), key (j + 1) hj]
                    rcases Nat.lt_trichotomy j k with a | a | a
                    · rw [if_pos a, if_neg (show ¬ j = k + 1 by omega)]
                      by_cases b : j + 1 = k
                      · rw [if_neg (show ¬ j + 1 < k by omega), if_pos (show j + 1 + 1 = k + 1 by omega), hxl.1]
                        have := h.adj j (by omega)
                        rwa [b] at this
                      · rw [if_pos (show j + 1 < k by omega), if_neg (show ¬ j + 1 = k + 1 by omega)]
                        exact h.adj j (by omega)
                    · subst a
                      rw [if_neg (show ¬ j < j by omega), if_pos rfl, if_neg (show ¬ j + 1 < j by omega), if_neg (show ¬ j + 1 + 1 = j + 1 by omega), hxl.2.1]
                      exact h.adj (j + 1) (by omega)
                    · rw [if_neg (show ¬ j < k by omega), if_neg (show ¬ j + 1 = k + 1 by omega), if_neg (show ¬ j + 1 < k by omega), if_neg (show ¬ j + 1 + 1 = k + 1 by omega)]
                      exact h.adj (j + 1) (by omega)
                refine ⟨fun j hj => ?_, fun j hj => ?_, fun j q hj hq he => ?_, fun j hj => ?_, fun q q1 q2 => ?_⟩
                · dsimp only at hj ⊢
                  rw [hl] at hj
                  rw [key j hj]
                  by_cases a : (if j < k then j else j + 1) = i
                  · rw [if_pos a, hxl.1, hxl.2.1]
                    exact hspans.1
                  · rw [if_neg a]
                    exact h.span _ (hin j hj)
                · dsimp only at hj ⊢
                  rw [hl] at hj
                  exact hspans.2 j hj
                · dsimp only at hj hq he
                  rw [hl] at hj hq
                  rw [kid j hj, kid q hq] at he
                  have := h.uniq _ _ (hin j hj) (hin q hq) he
                  revert this
                  split <;> split <;> omega
                · dsimp only at hj ⊢
                  rw [hl] at hj
                  rw [kid j hj, hus]
                  exact h.idok _ (hin j hj)
                · dsimp only
                  rw [hus]
                  exact h.used q q1 q2
          · rw [if_neg h4] at hcc
            cases hcc
  · rw [if_neg hc]
    exact h
end Go.Proofs.YthjmfcdhpdiehaaGreatDoor

namespace Go.Proofs.YthjmfcdhpdiehaaGreatDoor
open Go.RowKit Utf
set_option maxRecDepth 100000
set_option linter.unusedSimpArgs false
set_option linter.unusedVariables false

/-- The same shards and numbers. -/
structure SameM (m : PM) (r : RM) : Prop where
  perm : r.live.Perm m.live
  used : ∀ k : Nat, 1 ≤ k → k ≤ 12 → inL r.used (k : Int) = m.used k
theorem SameM.new : SameM PM.new RM.new := by
  refine ⟨List.Perm.refl _, fun k h1 h2 => ?_⟩
  show inL [1] (k : Int) = (k == 1)
  unfold inL
  by_cases h : k = 1
  · subst h; rfl
  · have : (k == 1) = false := by simpa using h
    rw [this]
    simp
    omega
theorem findN_none {id : Int} {l : List Sh} (h : findN id l = none) : ∀ s ∈ l, s.id ≠ id := by
  unfold findN at h
  rw [List.findIdx?_eq_none_iff] at h
  intro s hs
  simpa using h s hs
theorem Inv.inj {m : PM} (h : Inv m) {a b : Sh} (ha : a ∈ m.live) (hb : b ∈ m.live) (he : a.id = b.id) : a = b := by
  obtain ⟨i, hi, rfl⟩ := List.getElem_of_mem ha
  obtain ⟨j, hj, rfl⟩ := List.getElem_of_mem hb
  have := h.uniq i j hi hj (by rw [shAt_eq hi, shAt_eq hj]; exact he)
  subst this
  rfl
/-- A number is found in both, or in none. -/
theorem SameM.find {m : PM} {r : RM} (h : SameM m r) (hi : Inv m) (id : Int) : (findN id r.live = none ∧ findN id m.live = none) ∨ ∃ j i, findN id r.live = some j ∧ findN id m.live = some i ∧ j < r.live.length ∧ i < m.live.length ∧ shAt r.live j = shAt m.live i ∧ (shAt m.live i).id = id := by
  cases hr : findN id r.live with
  | none =>
    cases hm : findN id m.live with
    | none => exact .inl ⟨rfl, rfl⟩
    | some i =>
      obtain ⟨h1, h2⟩ := findN_lt hm
      exact absurd h2 (findN_none hr _ (h.perm.mem_iff.2 (List.getElem_mem h1)))
  | some j =>
    obtain ⟨h1, h2⟩ := findN_lt hr
    have h3 : r.live[j] ∈ m.live := h.perm.mem_iff.1 (List.getElem_mem h1)
    cases hm : findN id m.live with
    | none => exact absurd h2 (findN_none hm _ h3)
    | some i =>
      obtain ⟨h4, h5⟩ := findN_lt hm
      refine .inr ⟨j, i, rfl, rfl, h1, h4, ?_, by rw [shAt_eq h4]; exact h5⟩
      rw [shAt_eq h1, shAt_eq h4]
      exact hi.inj h3 (List.getElem_mem h4) (h2.trans h5.symm)
theorem perm_out {α : Type} {l : List α} {i : Nat} (h : i < l.length) : (l[i] :: l.eraseIdx i).Perm l := by
  have h1 : l = l.take i ++ l[i] :: l.drop (i + 1) := by
    rw [List.getElem_cons_drop, List.take_append_drop]
  rw [List.eraseIdx_eq_take_drop_succ]
  exact (List.perm_middle.symm).trans (by rw [← h1])
theorem perm_del {α : Type} {l l' : List α} (h : l.Perm l') {j i : Nat} (hj : j < l.length) (hi : i < l'.length) (he : l[j] = l'[i]) : (l.eraseIdx j).Perm (l'.eraseIdx i) := by
  have h1 := perm_out hj
  have h2 := perm_out hi
  have h3 := (h1.trans h).trans h2.symm
  rw [he] at h3
  exact h3.cons_inv
theorem perm_set {α : Type} {l l' : List α} (h : l.Perm l') {j i : Nat} (hj : j < l.length) (hi : i < l'.length) (he : l[j] = l'[i]) (x : α) : (l.set j x).Perm (l'.set i x) := by
  have h1 := perm_out (l := l.set j x) (i := j) (by simpa using hj)
  have h2 := perm_out (l := l'.set i x) (i := i) (by simpa using hi)
  rw [List.getElem_set_self, List.eraseIdx_set_eq] at h1 h2
  exact (h1.symm.trans ((perm_del h hj hi he).cons x)).trans h2
theorem used_iff {m : PM} {r : RM} (h : SameM m r) {x : Int} (hx : 1 ≤ x ∧ x ≤ 12) : inL r.used x = m.used x.toNat := by
  have := h.used x.toNat (by omega) (by omega)
  rw [Int.toNat_of_nonneg (by omega)] at this
  exact this
theorem right_two {e : EN} (h : rightE e = true) (h2 : e.kind = 3 ∨ e.kind = 4) : twoR e = true := by
  unfold rightE at h
  rcases h2 with h2 | h2
  · rw [if_neg (by omega), if_pos h2] at h
    simp only [Bool.and_eq_true] at h
    exact h.1.1
  · rw [if_neg (by omega), if_neg (by omega), if_pos h2] at h
    exact h
theorem twoR_of {e : EN} (h : twoR e = true) : (1 ≤ e.shard ∧ e.shard ≤ 12) ∧ (1 ≤ e.other ∧ e.other ≤ 12) ∧ e.shard ≠ e.other := by
  unfold twoR at h
  simp only [Bool.and_eq_true, decide_eq_true_eq] at h
  exact ⟨within_le h.1.1, within_le h.1.2, h.2⟩
/-- The same entries count. -/
theorem SameM.counts {m : PM} {r : RM} (h : SameM m r) (hi : Inv m) (e : EN) : rcountsP r e = countsP m e := by
  unfold rcountsP countsP
  rcases h.find hi e.shard with ⟨h1, h2⟩ | ⟨j, i, h1, h2, h3, h4, h5, h6⟩
  · rw [h1, h2]
  · rw [h1, h2]
    dsimp only
    by_cases k2 : e.kind = 2
    · rw [if_pos k2, if_pos k2]
    rw [if_neg k2, if_neg k2]
    by_cases k3 : e.kind = 3
    · rw [if_pos k3, if_pos k3, h5]
      cases hr : rightE e with
      | false => rfl
      | true => rw [used_iff h (twoR_of (right_two hr (.inl k3))).2.1]
    rw [if_neg k3, if_neg k3]
    by_cases k4 : e.kind = 4
    · rw [if_pos k4, if_pos k4]
      rcases h.find hi e.other with ⟨g1, g2⟩ | ⟨j', i', g1, g2, g3, g4, g5, g6⟩
      · rw [g1, g2]
      · rw [g1, g2]
        dsimp only
        rw [h5, g5]
    rw [if_neg k4, if_neg k4]
theorem inL_app (l : List Int) (x n : Int) : inL (l ++ [x]) n = (inL l n || decide (x = n)) := by
  unfold inL
  rw [List.any_append]
  simp
theorem shAt_get {l l' : List Sh} {j i : Nat} (hj : j < l.length) (hi : i < l'.length) (h : shAt l j = shAt l' i) : l[j] = l'[i] := by
  rw [← shAt_eq hj, ← shAt_eq hi]
  exact h
/-- Apply keeps them the same. -/
theorem SameM.apply {m : PM} {r : RM} (h : SameM m r) (hi : Inv m) (e : EN) (t : Int) : SameM (applyP m e t).2 (rapplyP r e t).2 := by
  unfold applyP rapplyP
  rw [h.counts hi]
  by_cases hc : (countsP m e && decide (0 ≤ t) && decide (t ≤ 4095)) = true
  · rw [if_pos hc, if_pos hc]
    simp only [Bool.and_eq_true, decide_eq_true_eq] at hc
    obtain ⟨⟨hc, ht⟩, -⟩ := hc
    dsimp only
    have hk := counts_kind hc
    unfold countsP at hc
    rcases h.find hi e.shard with ⟨h1, h2⟩ | ⟨j, i, h1, h2, h3, h4, h5, h6⟩
    · rw [h2] at hc; cases hc
    rw [h2] at hc
    dsimp only at hc
    have he := shAt_get h3 h4 h5
    by_cases k2 : e.kind = 2
    · rw [if_pos k2, if_pos k2]
      unfold moveP rmoveP
      rw [h1, h2]
      dsimp only
      rw [h5]
      exact ⟨perm_set h.perm h3 h4 he _, h.used⟩
    rw [if_neg k2] at hc ⊢
    rw [if_neg k2]
    by_cases k3 : e.kind = 3
    · rw [if_pos k3] at hc ⊢
      rw [if_pos k3]
      simp only [Bool.and_eq_true] at hc
      have htw := twoR_of (right_two hc.1.1.1 (.inl k3))
      unfold PM.event splitP rsplitP
      rw [h1, h2]
      dsimp only
      rw [h5]
      refine ⟨?_, fun k k1 k2 => ?_⟩
      · refine List.perm_append_comm.trans ?_
        refine List.Perm.trans ?_ List.perm_middle.symm
        rw [List.take_append_drop]
        exact (perm_set h.perm h3 h4 he _).cons _
      · rw [inL_app, h.used k k1 k2]
        congr 1
        exact decide_eq_decide.2 eq_comm
    rw [if_neg k3] at hc ⊢
    rw [if_neg k3]
    have k4 : e.kind = 4 := by omega
    rw [if_pos k4] at hc
    simp only [Bool.and_eq_true] at hc
    have htw := twoR_of (right_two hc.1 (.inr k4))
    unfold PM.event mergeP rmergeP
    rcases h.find hi e.other with ⟨g1, g2⟩ | ⟨j', i', g1, g2, g3, g4, g5, g6⟩
    · rw [g2] at hc; cases hc.2
    rw [h1, h2, g1, g2]
    dsimp only
    rw [h5, g5]
    cases hjn : joinB (shAt m.live i).lo (shAt m.live i).hi (shAt m.live i').lo (shAt m.live i').hi with
    | none => exact ⟨h.perm, h.used⟩
    | some sp =>
      dsimp only
      refine ⟨?_, h.used⟩
      have hne : i ≠ i' := fun x => htw.2.2 (by rw [← h6, ← g6, x])
      have hne2 : j ≠ j' := fun x => hne (by
        subst x
        rw [h5] at g5
        exact hi.uniq i i' h4 g4 (by rw [g5]))
      have hp := perm_set h.perm h3 h4 he ((shAt m.live i).turned sp.1 sp.2 ((t.toNat + 1 : Nat) : Int))
      have hg := shAt_get g3 g4 g5
      rw [← List.eraseIdx_eq_take_drop_succ, ← List.eraseIdx_eq_take_drop_succ]
      exact perm_del hp (by simpa using g3) (by simpa using g4) (by rw [List.getElem_set_ne hne2, List.getElem_set_ne hne]; exact hg)
  · rw [if_neg hc, if_neg hc]
    exact h
theorem made_same (l : List Ac) : SameM (madeP l) (rmadeP l) ∧ Inv (madeP l) := by
  unfold madeP rmadeP
  suffices ∀ (l : List Ac) (m : PM) (r : RM), SameM m r → Inv m → SameM (l.foldl (fun m a => (applyP m a.1 a.2).2) m) (l.foldl (fun m a => (rapplyP m a.1 a.2).2) r) ∧ Inv (l.foldl (fun m a => (applyP m a.1 a.2).2) m) from this l _ _ SameM.new Inv.new
  intro l
  induction l with
  | nil => exact fun m r h hi => ⟨h, hi⟩
  | cons a q ih => exact fun m r h hi => ih _ _ (h.apply hi _ _) (hi.apply _ _)

/-! What sorts them. -/
/-- Does it come later than what is sorted? -/
def laterP (out : List Sh) (s : Sh) : Bool := match out.getLast? with
  | none => true
  | some x => bLt x.lo s.lo
/-- The first of the least that come later, of the first k. -/
def pickN (l out : List Sh) : Nat → Option Nat
  | 0 => none
  | k + 1 => if laterP out (shAt l k) && (match pickN l out k with
      | none => true
      | some b => bLt (shAt l k).lo (shAt l b).lo) then some k else pickN l out k
/-- What is sorted, round by round. -/
def sortN (l : List Sh) : Nat → List Sh
  | 0 => []
  | k + 1 => match pickN l (sortN l k) l.length with
    | none => sortN l k
    | some b => sortN l k ++ [shAt l b]
theorem sortN_len (l : List Sh) : ∀ k, (sortN l k).length ≤ k
  | 0 => Nat.le_refl _
  | k + 1 => by
    unfold sortN
    have := sortN_len l k
    cases pickN l (sortN l k) l.length with
    | none => exact Nat.le_succ_of_le this
    | some b =>
      dsimp only
      rw [List.length_append, List.length_singleton]
      omega
theorem pick_spec (l out : List Sh) : ∀ k, (pickN l out k = none → ∀ j, j < k → laterP out (shAt l j) = false) ∧ (∀ b, pickN l out k = some b → b < k ∧ laterP out (shAt l b) = true ∧ ∀ j, j < k → laterP out (shAt l j) = true → bLt (shAt l j).lo (shAt l b).lo = false)
  | 0 => ⟨fun _ j hj => by omega, fun b h => by cases h⟩
  | k + 1 => by
    obtain ⟨ih1, ih2⟩ := pick_spec l out k
    unfold pickN
    cases hl : laterP out (shAt l k) with
    | false =>
      rw [Bool.false_and, if_neg (by decide)]
      refine ⟨fun h j hj => ?_, fun b h => ?_⟩
      · by_cases hjk : j < k
        · exact ih1 h j hjk
        · obtain rfl : j = k := by omega
          exact hl
      · obtain ⟨h1, h2, h3⟩ := ih2 b h
        refine ⟨by omega, h2, fun j hj hlj => ?_⟩
        by_cases hjk : j < k
        · exact h3 j hjk hlj
        · obtain rfl : j = k := by omega
          rw [hl] at hlj; cases hlj
    | true =>
      rw [Bool.true_and]
      cases hp : pickN l out k with
      | none =>
        dsimp only
        rw [if_pos rfl]
        refine ⟨fun h => (nomatch h), fun b h => ?_⟩
        cases h
        refine ⟨by omega, hl, fun j hj hlj => ?_⟩
        by_cases hjk : j < k
        · rw [ih1 hp j hjk] at hlj; cases hlj
        · obtain rfl : j = k := by omega
          exact bLt_irrefl _
      | some b0 =>
        dsimp only
        obtain ⟨h1, h2, h3⟩ := ih2 b0 hp
        by_cases hb : bLt (shAt l k).lo (shAt l b0).lo = true
        · rw [if_pos hb]
          refine ⟨fun h => (nomatch h), fun b h => ?_⟩
          cases h
          refine ⟨by omega, hl, fun j hj hlj => ?_⟩
          by_cases hjk : j < k
          · cases hq : bLt (shAt l j).lo (shAt l k).lo with
            | false => rfl
            | true => rw [← h3 j hjk hlj, bLt_trans hq hb]
          · obtain rfl : j = k := by omega
            exact bLt_irrefl _
        · rw [if_neg hb]
          refine ⟨fun h => (nomatch h), fun b h => ?_⟩
          cases h
          refine ⟨by omega, h2, fun j hj hlj => ?_⟩
          by_cases hjk : j < k
          · exact h3 j hjk hlj
          · obtain rfl : j = k := by omega
            exact Bool.eq_false_iff.2 hb
/-- What is sorted is the program's list. -/
theorem sortN_same {m : PM} {r : RM} (h : SameM m r) (hi : Inv m) : ∀ k, k ≤ m.live.length → sortN r.live k = m.live.take k
  | 0, _ => by rw [List.take_zero]; rfl
  | k + 1, hk => by
    have ih := sortN_same h hi k (by omega)
    unfold sortN
    rw [ih]
    have hlen := h.perm.length_eq
    have hlat : ∀ i, i < m.live.length → laterP (m.live.take k) (shAt m.live i) = decide (k ≤ i) := by
      intro i hil
      unfold laterP
      rcases k with _ | q
      · rw [List.take_zero]
        exact (decide_eq_true (Nat.zero_le _)).symm
      · rw [List.getLast?_eq_getElem?, List.length_take, Nat.min_eq_left (by omega), Nat.add_sub_cancel, List.getElem?_take_of_lt (by omega), List.getElem?_eq_getElem (show q < m.live.length by omega)]
        dsimp only
        rw [← shAt_eq (show q < m.live.length by omega)]
        by_cases hqi : q + 1 ≤ i
        · rw [decide_eq_true hqi]
          exact hi.lows (by omega) hil
        · rw [decide_eq_false hqi]
          by_cases hiq : i = q
          · subst hiq
            exact bLt_irrefl _
          · cases hb : bLt (shAt m.live q).lo (shAt m.live i).lo with
            | false => rfl
            | true =>
              have := bLt_trans hb (hi.lows (show i < q by omega) (by omega))
              rw [bLt_irrefl] at this
              cases this
    have hmem : ∀ j, j < r.live.length → ∃ i, i < m.live.length ∧ shAt r.live j = shAt m.live i := by
      intro j hj
      obtain ⟨i, h1, h2⟩ := List.getElem_of_mem (h.perm.mem_iff.1 (shAt_mem hj))
      exact ⟨i, h1, by rw [shAt_eq h1]; exact h2.symm⟩
    obtain ⟨jk, hjk, hjk2⟩ := List.getElem_of_mem (h.perm.mem_iff.2 (shAt_mem (show k < m.live.length by omega)))
    rw [← shAt_eq hjk] at hjk2
    obtain ⟨h1, h2⟩ := pick_spec r.live (m.live.take k) r.live.length
    cases hp : pickN r.live (m.live.take k) r.live.length with
    | none =>
      have := h1 hp jk hjk
      rw [hjk2, hlat k (by omega), decide_eq_true (Nat.le_refl _)] at this
      cases this
    | some b =>
      obtain ⟨hb1, hb2, hb3⟩ := h2 b hp
      obtain ⟨i, hil, hie⟩ := hmem b hb1
      dsimp only
      rw [hie, hlat i hil] at hb2
      have hki := of_decide_eq_true hb2
      have h4 := hb3 jk hjk (by rw [hjk2, hlat k (by omega), decide_eq_true (Nat.le_refl _)])
      rw [hjk2, hie] at h4
      obtain rfl : i = k := by
        by_cases hik : i = k
        · exact hik
        · rw [hi.lows (show k < i by omega) hil] at h4
          cases h4
      rw [hie, List.take_succ_eq_append_getElem hil, shAt_eq hil]
theorem sort_same {m : PM} {r : RM} (h : SameM m r) (hi : Inv m) : sortN r.live r.live.length = m.live := by
  rw [h.perm.length_eq, sortN_same h hi _ (Nat.le_refl _), List.take_length]
end Go.Proofs.YthjmfcdhpdiehaaGreatDoor
