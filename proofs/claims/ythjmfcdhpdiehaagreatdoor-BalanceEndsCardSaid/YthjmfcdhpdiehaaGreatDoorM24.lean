/-
  What a plan leaves: the loads of all shards together, and no strays. Plain Lean.
-/
import Derived.Test.YthjmfcdhpdiehaaGreatDoorM17
namespace Go.Proofs.YthjmfcdhpdiehaaGreatDoor
open Go.RowKit Utf
set_option maxRecDepth 100000
set_option linter.unusedSimpArgs false
set_option linter.unusedVariables false

/-- The loads of all shards together. -/
def totP (m : PM) (l : List LD) : Int := (m.live.map (fun s => sumN (keysP s l))).sum
theorem sum_set (f : Sh → Int) : ∀ (l : List Sh) (i : Nat) (x : Sh), i < l.length → ((l.set i x).map f).sum = (l.map f).sum - f (shAt l i) + f x
  | [], i, x, h => by cases h
  | y :: r, 0, x, h => by
    simp only [List.set_cons_zero, List.map_cons, List.sum_cons]
    have : shAt (y :: r) 0 = y := rfl
    rw [this]
    omega
  | y :: r, i + 1, x, h => by
    have ih := sum_set f r i x (by simpa using h)
    have : shAt (y :: r) (i + 1) = shAt r i := rfl
    rw [this]
    simp only [List.set_cons_succ, List.map_cons, List.sum_cons]
    omega
theorem sum_del (f : Sh → Int) : ∀ (l : List Sh) (k : Nat), k < l.length → ((l.take k ++ l.drop (k + 1)).map f).sum = (l.map f).sum - f (shAt l k)
  | [], k, h => by cases h
  | y :: r, 0, h => by
    have : shAt (y :: r) 0 = y := rfl
    rw [this]
    simp only [List.take_zero, List.nil_append, Nat.zero_add, List.drop_one, List.tail_cons, List.map_cons, List.sum_cons]
    omega
  | y :: r, k + 1, h => by
    have ih := sum_del f r k (by simpa using h)
    have : shAt (y :: r) (k + 1) = shAt r k := rfl
    rw [this]
    simp only [List.take_succ_cons, List.drop_succ_cons, List.cons_append, List.map_cons, List.sum_cons]
    omega
theorem sum_ins (f : Sh → Int) (l : List Sh) (k : Nat) (x : Sh) : ((l.take k ++ x :: l.drop k).map f).sum = (l.map f).sum + f x := by
  have : (l.map f).sum = ((l.take k ++ l.drop k).map f).sum := by rw [List.take_append_drop]
  rw [this]
  simp only [List.map_append, List.map_cons, List.sum_append, List.sum_cons]
  omega
theorem bool_cut (x y z : Bool) (h : x = (y || z)) (h2 : (y && z) = false) (n a b c : Int) (e1 : a = b + c) : a + (if x = true then n else 0) = (b + (if y = true then n else 0)) + (c + (if z = true then n else 0)) := by
  subst h
  cases y <;> cases z <;> simp at * <;> omega
theorem sumN_keys (s : Sh) (x : LD) (l : List LD) : sumN (keysP s (x :: l)) = sumN (keysP s l) + (if hasB s.lo s.hi x.key = true then x.n else 0) := by
  unfold keysP sumN
  by_cases h : hasB s.lo s.hi x.key = true
  · simp only [List.filter_cons, h, if_true, List.map_cons, List.sum_cons]
    omega
  · simp only [List.filter_cons, h, if_false]
    simp
/-- Shards whose keys are those of two. -/
theorem keys_cut (s a b : Sh) (h : ∀ k, hasB s.lo s.hi k = (hasB a.lo a.hi k || hasB b.lo b.hi k) ∧ (hasB a.lo a.hi k && hasB b.lo b.hi k) = false) : ∀ l : List LD, sumN (keysP s l) = sumN (keysP a l) + sumN (keysP b l)
  | [] => by simp [keysP, sumN]
  | x :: l => by
    rw [sumN_keys, sumN_keys, sumN_keys]
    exact bool_cut _ _ _ (h x.key).1 (h x.key).2 _ _ _ _ (keys_cut s a b h l)
theorem lessB_of {k hi : ByteArray} (h : lessB k hi = true) : hi.data.toList = [] ∨ bLt k hi = true := by
  unfold lessB at h
  rcases Bool.or_eq_true_iff.1 h with h | h
  · exact .inl (List.isEmpty_iff.1 h)
  · exact .inr h
theorem lessB_mk {k hi : ByteArray} (h : hi.data.toList = [] ∨ bLt k hi = true) : lessB k hi = true := by
  unfold lessB
  rcases h with h | h
  · rw [h]; rfl
  · rw [h, Bool.or_true]
theorem lessB_no {k hi : ByteArray} (h : ¬ hi.data.toList = []) : lessB k hi = bLt k hi := by
  unfold lessB
  have : hi.data.toList.isEmpty = false := by
    cases he : hi.data.toList with
    | nil => exact absurd he h
    | cons c l => rfl
  rw [this, Bool.false_or]
theorem spanR_of {lo hi : ByteArray} (h : spanR lo hi = true) : isEnd lo = true ∧ isEnd hi = true ∧ lessB lo hi = true := by
  unfold spanR at h
  simpa [and_assoc] using h
theorem spanR_mk {lo hi : ByteArray} (h1 : isEnd lo = true) (h2 : isEnd hi = true) (h3 : lessB lo hi = true) : spanR lo hi = true := by
  unfold spanR
  rw [h1, h2, h3]
  rfl
/-- Behind a cut each key is in one part. -/
theorem has_cut {a b c : ByteArray} (h1 : spanR a b = true) (h2 : spanR b c = true) (hb : ¬ b.data.toList = []) (k : ByteArray) : hasB a c k = (hasB a b k || hasB b c k) ∧ (hasB a b k && hasB b c k) = false := by
  obtain ⟨ea, eb, lab⟩ := spanR_of h1
  obtain ⟨-, ec, lbc⟩ := spanR_of h2
  have hab : bLt a b = true := by rw [lessB_no hb] at lab; exact lab
  have hac : lessB a c = true := lessB_mk ((lessB_of lbc).imp id (fun h => bLt_trans hab h))
  have h3 := spanR_mk ea ec hac
  unfold hasB
  rw [h1, h2, h3, lessB_no hb]
  simp only [Bool.true_and]
  cases hk : isKey k
  · simp
  simp only [Bool.true_and]
  cases hkb : bLt k b with
  | true =>
    have : lessB k c = true := lessB_mk ((lessB_of lbc).imp id (fun h => bLt_trans hkb h))
    rw [this]
    simp
  | false =>
    have : bLt k a = false := by
      cases hka : bLt k a with
      | false => rfl
      | true => rw [bLt_trans hka hab] at hkb; cases hkb
    rw [this]
    simp
theorem isKey_end {k : ByteArray} (h : isKey k = true) : isEnd k = true := by
  unfold isEnd
  rw [h, Bool.or_true]
theorem isKey_some {k : ByteArray} (h : isKey k = true) : ¬ k.data.toList = [] := by
  intro h0
  have : k = ⟨#[]⟩ := str_ext (by rw [h0])
  subst this
  revert h
  decide
theorem hasB_of {lo hi k : ByteArray} (h : hasB lo hi k = true) : spanR lo hi = true ∧ isKey k = true ∧ bLt k lo = false ∧ lessB k hi = true := by
  unfold hasB at h
  simpa [and_assoc] using h
/-- A key in a span, other than its low end, cuts it. -/
theorem cut_spans {lo hi k : ByteArray} (h : hasB lo hi k = true) (hne : k ≠ lo) : spanR lo k = true ∧ spanR k hi = true ∧ ¬ k.data.toList = [] := by
  obtain ⟨h1, h2, h3, h4⟩ := hasB_of h
  obtain ⟨e1, e2, -⟩ := spanR_of h1
  have hl : bLt lo k = true := by
    cases hh : bLt lo k with
    | true => rfl
    | false => exact absurd (bLt_total h3 hh) hne
  exact ⟨spanR_mk e1 (isKey_end h2) (lessB_mk (.inr hl)), spanR_mk (isKey_end h2) e2 h4, isKey_some h2⟩
theorem joinB_cases {lo hi lo2 hi2 : ByteArray} {sp : ByteArray × ByteArray} (h : joinB lo hi lo2 hi2 = some sp) : spanR lo hi = true ∧ spanR lo2 hi2 = true ∧ ((¬ hi.data.toList = [] ∧ hi = lo2 ∧ sp = (lo, hi2)) ∨ (¬ hi2.data.toList = [] ∧ hi2 = lo ∧ sp = (lo2, hi))) := by
  unfold joinB at h
  by_cases h1 : (!(spanR lo hi && spanR lo2 hi2)) = true
  · rw [if_pos h1] at h; cases h
  rw [if_neg h1] at h
  have hs : spanR lo hi = true ∧ spanR lo2 hi2 = true := by
    cases ha : spanR lo hi <;> cases hb : spanR lo2 hi2 <;> rw [ha, hb] at h1 <;> simp at h1
    exact ⟨rfl, rfl⟩
  refine ⟨hs.1, hs.2, ?_⟩
  by_cases h2 : (!hi.data.toList.isEmpty && decide (hi = lo2)) = true
  · rw [if_pos h2] at h
    simp only [Bool.and_eq_true, Bool.not_eq_true', decide_eq_true_eq] at h2
    cases h
    exact .inl ⟨(fun e => by rw [e] at h2; exact Bool.noConfusion h2.1), h2.2, rfl⟩
  rw [if_neg h2] at h
  by_cases h3 : (!hi2.data.toList.isEmpty && decide (hi2 = lo)) = true
  · rw [if_pos h3] at h
    simp only [Bool.and_eq_true, Bool.not_eq_true', decide_eq_true_eq] at h3
    cases h
    exact .inr ⟨(fun e => by rw [e] at h3; exact Bool.noConfusion h3.1), h3.2, rfl⟩
  rw [if_neg h3] at h
  cases h
theorem twoR_ne {e : EN} (h : twoR e = true) : e.shard ≠ e.other := by
  unfold twoR at h
  simp only [Bool.and_eq_true, decide_eq_true_eq] at h
  exact h.2
theorem findN_id {id : Int} {l : List Sh} {k : Nat} (h : findN id l = some k) : (shAt l k).id = id := by
  obtain ⟨hk, h⟩ := findN_lt h
  rw [shAt_eq hk]
  exact h
theorem set_len_shAt {l : List Sh} {i k : Nat} (x : Sh) (hi : i < l.length) (hk : k < l.length) (hne : k ≠ i) : shAt (l.set i x) k = shAt l k := by
  rw [shAt_eq hk, shAt_eq (show k < (l.set i x).length by simpa using hk), set_at l i x k hk hi, if_neg hne]
/-- An entry that is done keeps the loads together. -/
theorem tot_apply (m : PM) (e : EN) (t : Int) (l : List LD) : totP (applyP m e t).2 l = totP m l := by
  unfold applyP
  by_cases hc : (countsP m e && decide (0 ≤ t) && decide (t ≤ 4095)) = true
  · rw [if_pos hc]
    simp only [Bool.and_eq_true] at hc
    have hcc := hc.1.1
    unfold countsP at hcc
    cases hf : findN e.shard m.live with
    | none => rw [hf] at hcc; cases hcc
    | some i =>
      rw [hf] at hcc
      dsimp only at hcc
      have hi := findN_ix hf
      by_cases h2 : e.kind = 2
      · rw [if_pos h2] at hcc
        dsimp only
        rw [if_pos h2]
        unfold moveP
        rw [hf]
        unfold totP
        dsimp only
        rw [sum_set _ _ _ _ hi]
        have : keysP ((shAt m.live i).moved e.server) l = keysP (shAt m.live i) l := rfl
        rw [this]
        omega
      · rw [if_neg h2] at hcc
        dsimp only
        rw [if_neg h2]
        by_cases h3 : e.kind = 3
        · rw [if_pos h3] at hcc
          rw [if_pos h3]
          simp only [Bool.and_eq_true, decide_eq_true_eq] at hcc
          obtain ⟨s1, s2, s3⟩ := cut_spans hcc.1.2 hcc.2
          unfold PM.event splitP
          rw [hf]
          unfold totP
          dsimp only
          rw [sum_ins, sum_set _ _ _ _ hi]
          have := keys_cut (shAt m.live i) ((shAt m.live i).turned (shAt m.live i).lo e.key ((t.toNat + 1 : Nat) : Int)) ⟨e.other, e.server, ((t.toNat + 1 : Nat) : Int), e.key, (shAt m.live i).hi⟩ (fun k => has_cut s1 s2 s3 k) l
          omega
        · rw [if_neg h3] at hcc
          rw [if_neg h3]
          by_cases h4 : e.kind = 4
          · rw [if_pos h4] at hcc
            simp only [Bool.and_eq_true] at hcc
            have hr := hcc.1
            unfold rightE at hr
            rw [if_neg h2, if_neg h3, if_pos h4] at hr
            have hne := twoR_ne hr
            unfold PM.event mergeP
            rw [hf]
            cases hf2 : findN e.other m.live with
            | none => rfl
            | some k =>
              dsimp only
              have hk := findN_ix hf2
              have hki : k ≠ i := fun hh => by
                subst hh
                exact hne ((findN_id hf).symm.trans (findN_id hf2))
              cases hj : joinB (shAt m.live i).lo (shAt m.live i).hi (shAt m.live k).lo (shAt m.live k).hi with
              | none => rfl
              | some sp =>
                dsimp only
                obtain ⟨s1, s2, hh⟩ := joinB_cases hj
                unfold totP
                dsimp only
                rw [sum_del _ _ _ (by simpa using hk), sum_set _ _ _ _ hi, set_len_shAt _ hi hk hki]
                rcases hh with ⟨n1, n2, rfl⟩ | ⟨n1, n2, rfl⟩
                · dsimp only
                  rw [← n2] at s2
                  have := keys_cut ((shAt m.live i).turned (shAt m.live i).lo (shAt m.live k).hi ((t.toNat + 1 : Nat) : Int)) (shAt m.live i) (shAt m.live k) (fun q => by
                    show hasB (shAt m.live i).lo (shAt m.live k).hi q = _ ∧ _
                    rw [← n2]
                    exact has_cut s1 s2 n1 q) l
                  omega
                · dsimp only
                  rw [← n2] at s1
                  have := keys_cut ((shAt m.live i).turned (shAt m.live k).lo (shAt m.live i).hi ((t.toNat + 1 : Nat) : Int)) (shAt m.live k) (shAt m.live i) (fun q => by
                    show hasB (shAt m.live k).lo (shAt m.live i).hi q = _ ∧ _
                    rw [← n2]
                    exact has_cut s2 s1 n1 q) l
                  omega
          · rw [if_neg h4] at hcc
            cases hcc
  · rw [if_neg hc]
theorem tot_plan (l : List LD) (s : Nat) (most : Int) : ∀ (k : Nat) (m : PM) (out : List EN), totP (planS l s most k m out).2 l = totP m l
  | 0, m, out => rfl
  | k + 1, m, out => by
    unfold planS
    cases nextP m l s most with
    | none => rfl
    | some e => exact (tot_plan l s most k _ _).trans (tot_apply m e _ l)
theorem plan_len (l : List LD) (s : Nat) (most : Int) : ∀ (k : Nat) (m : PM) (out : List EN), (planS l s most k m out).1.length ≤ out.length + k
  | 0, m, out => Nat.le_refl _
  | k + 1, m, out => by
    unfold planS
    cases nextP m l s most with
    | none => exact Nat.le_add_right _ _
    | some e =>
      refine Nat.le_trans (plan_len l s most k _ _) ?_
      rw [List.length_append, List.length_singleton]
      omega
/-- Behind a plan that is not full nothing is to be done. -/
theorem plan_end (l : List LD) (s : Nat) (most : Int) : ∀ (k : Nat) (m : PM) (out : List EN), (planS l s most k m out).1.length < out.length + k → nextP (planS l s most k m out).2 l s most = none
  | 0, m, out, h => absurd h (Nat.lt_irrefl _)
  | k + 1, m, out, h => by
    unfold planS at h ⊢
    cases hn : nextP m l s most with
    | none => exact hn
    | some e =>
      rw [hn] at h
      dsimp only at h ⊢
      refine plan_end l s most k _ _ ?_
      rw [List.length_append, List.length_singleton]
      omega
theorem plan_ok (l : List LD) (s : Nat) (most : Int) : ∀ (k : Nat) (m : PM) (out : List EN) (n : Nat), PMok m n → PMok (planS l s most k m out).2 (n + k)
  | 0, m, out, n, h => h
  | k + 1, m, out, n, h => by
    unfold planS
    cases nextP m l s most with
    | none => exact h.mono (Nat.le_add_right _ _)
    | some e =>
      have := plan_ok l s most k (applyP m e (out.length : Nat)).2 (out ++ [e]) (n + 1) (h.apply e _)
      exact this.mono (by omega)
/-- Where nothing is to be done no shard strays. -/
theorem next_home {m : PM} {l : List LD} {s : Nat} {most : Int} (h : nextP m l s most = none) : ∀ x ∈ m.live, x.server ≤ (s : Int) := by
  unfold nextP at h
  cases hs : straysP (loadsP m.live l) s ((endsL (srvP s (loadsP m.live l))).1 : Nat) with
  | some e => rw [hs] at h; cases h
  | none =>
    clear h
    unfold straysP at hs
    have h0 := Option.map_eq_none_iff.1 hs
    unfold strayN at h0
    rw [List.findIdx?_eq_none_iff] at h0
    intro x hx
    have := h0 (x, keysP x l) (List.mem_map.2 ⟨x, hx, rfl⟩)
    simpa using this
end Go.Proofs.YthjmfcdhpdiehaaGreatDoor
