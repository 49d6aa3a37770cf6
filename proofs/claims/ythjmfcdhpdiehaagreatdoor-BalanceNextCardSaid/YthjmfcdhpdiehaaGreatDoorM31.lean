/-
  What is to be done next counts, and a move evens. Plain Lean.
  A plan, step by step. Plain Lean.
  Shards that are alike; the greater of two numbers: as operations.
-/
import Derived.Test.YthjmfcdhpdiehaaGreatDoorM27
import Derived.Test.YthjmfcdhpdiehaaGreatDoorM19
import Derived.Test.YthjmfcdhpdiehaaGreatDoorM26
import Derived.Laws.StructEq
namespace Go.Proofs.YthjmfcdhpdiehaaGreatDoor
open Go.RowKit Utf
set_option maxRecDepth 100000
set_option linter.unusedSimpArgs false
set_option linter.unusedVariables false

theorem move_kind (a b : Int) : (moveE a b).kind = 2 := rfl
theorem split_kind (a : Int) (n : Nat) (b : Int) (k : ByteArray) : (splitE a n b k).kind = 3 := rfl
theorem join_kind (a b : Int) : (joinE a b).kind = 4 := rfl
theorem plAt_loads {live : List Sh} {l : List LD} {i : Nat} (h : i < live.length) : plAt (loadsP live l) i = (shAt live i, keysP (shAt live i) l) := by
  unfold plAt loadsP
  rw [List.getD_eq_getElem?_getD, List.getElem?_map, List.getElem?_eq_getElem h, shAt_eq h]
  rfl
theorem loads_len (live : List Sh) (l : List LD) : (loadsP live l).length = live.length := List.length_map ..
theorem fresh_facts {evs : List Ev} (h : freshP evs ≠ 0) : 1 ≤ freshP evs ∧ freshP evs ≤ 12 ∧ usedIn evs (freshP evs : Nat) = false := by
  unfold freshP at h ⊢
  cases hf : freshN evs with
  | none => rw [hf] at h; exact absurd rfl h
  | some n =>
    unfold freshN at hf
    rw [List.find?_range_eq_some] at hf
    obtain ⟨h1, h2, -⟩ := hf
    have h3 := List.mem_range.1 h2
    dsimp only
    refine ⟨by omega, by omega, ?_⟩
    have : ((n + 1 : Nat) : Int) = (n : Int) + 1 := by omega
    rw [this]
    simpa using h1
theorem right_pair {l : List LD} (h : rightB l = true) : ∀ i d, i + d + 1 < l.length → bLt (ldAt l i).key (ldAt l (i + d + 1)).key = true := by
  have step : ∀ i, i + 1 < l.length → bLt (ldAt l i).key (ldAt l (i + 1)).key = true := fun i hi => by
    have := rightB_at h hi
    unfold ldOK at this
    simp only [Bool.and_eq_true, Bool.or_eq_true, decide_eq_true_eq] at this
    rcases this.2 with h1 | h1
    · omega
    · rwa [Nat.add_sub_cancel] at h1
  intro i d
  induction d with
  | zero => exact step i
  | succ d ih => exact fun hd => bLt_trans (ih (by omega)) (step (i + d + 1) hd)
theorem right_pairwise {l : List LD} (h : rightB l = true) : l.Pairwise (fun x y => bLt x.key y.key = true) := by
  rw [List.pairwise_iff_getElem]
  intro i j hi hj hij
  obtain ⟨d, rfl⟩ : ∃ d, j = i + d + 1 := ⟨j - i - 1, by omega⟩
  have := right_pair h i d hj
  rwa [ldAt_eq hi, ldAt_eq hj] at this
/-- A key at which a shard is cut: in its span, not its low end. -/
theorem half_key {l : List LD} {s : Sh} (h : rightB l = true) (h2 : ¬ (keysP s l).length < 2) : hasB s.lo s.hi (halfP (keysP s l)) = true ∧ halfP (keysP s l) ≠ s.lo := by
  have hp : (keysP s l).Pairwise (fun x y => bLt x.key y.key = true) := (right_pairwise h).filter _
  have hm : ∀ x ∈ keysP s l, hasB s.lo s.hi x.key = true := fun x hx => (List.mem_filter.1 hx).2
  generalize keysP s l = ks at *
  have hn : 1 ≤ halfN ks ∧ halfN ks < ks.length := by
    unfold halfN
    cases hf : (List.range ks.length).find? (halfAt ks) with
    | none => simp only [Option.getD_none]; omega
    | some k =>
      rw [List.find?_range_eq_some] at hf
      obtain ⟨h1, h3, -⟩ := hf
      have h4 := List.mem_range.1 h3
      unfold halfAt at h1
      simp only [Bool.and_eq_true, decide_eq_true_eq] at h1
      simp only [Option.getD_some]
      omega
  unfold halfP
  rw [ldAt_eq hn.2]
  refine ⟨hm _ (List.getElem_mem _), fun he => ?_⟩
  have h0 : 0 < ks.length := by omega
  have a := (hasB_of (hm ks[0] (List.getElem_mem h0))).2.2.1
  have b := List.pairwise_iff_getElem.1 hp 0 (halfN ks) h0 hn.2 (by omega)
  rw [he] at b
  rw [b] at a
  cases a
theorem endsL_range {l : List Int} (h : 1 ≤ l.length) : 1 ≤ (endsL l).1 ∧ (endsL l).1 ≤ l.length ∧ 1 ≤ (endsL l).2 ∧ (endsL l).2 ≤ l.length := by
  obtain ⟨i, j, -, hi, -, hj, e⟩ := endsL_of h
  rw [e]
  exact ⟨by dsimp only; omega, by dsimp only; omega, by dsimp only; omega, by dsimp only; omega⟩
theorem within_mk {n m : Int} (h1 : 1 ≤ n) (h2 : n ≤ m) : within n m = true := by
  unfold within
  rw [decide_eq_true h1, decide_eq_true h2]
  rfl
theorem stray_facts {p : List (Sh × List LD)} {s least : Int} {e : EN} (h : straysP p s least = some e) : ∃ i, i < p.length ∧ (plAt p i).1.server > s ∧ e = moveE (plAt p i).1.id least := by
  unfold straysP at h
  obtain ⟨i, hi, rfl⟩ := Option.map_eq_some_iff.1 h
  unfold strayN at hi
  rw [List.findIdx?_eq_some_iff_getElem] at hi
  obtain ⟨h1, h2, -⟩ := hi
  refine ⟨i, h1, ?_, rfl⟩
  have : plAt p i = p[i] := by unfold plAt; rw [List.getD_eq_getElem?_getD, List.getElem?_eq_getElem h1]; rfl
  rw [this]
  simpa using h2
theorem move_counts {m : PM} (hi : Inv m) {i : Nat} (h : i < m.live.length) {sv : Int} (h1 : 1 ≤ sv) (h4 : sv ≤ 4) : countsP m (moveE (shAt m.live i).id sv) = true := by
  rw [counts_some (show findN (moveE (shAt m.live i).id sv).shard m.live = some i from hi.find h), move_kind, if_pos rfl]
  obtain ⟨a, b, -⟩ := hi.idok i h
  unfold rightE
  rw [move_kind, if_pos rfl]
  show (within (shAt m.live i).id 12 && within sv 4) = true
  rw [within_mk a b, within_mk h1 h4]
  rfl
/-- What is to be done next counts. -/
theorem next_counts {m : PM} {l : List LD} {s : Nat} {most : Int} {e : EN} (hi : Inv m) (hr : rightB l = true) (hs : 1 ≤ s ∧ s ≤ 4) (h : nextP m l s most = some e) : countsP m e = true := by
  have hen := endsL_range (l := srvP s (loadsP m.live l)) (by rw [srvP_len]; omega)
  rw [srvP_len] at hen
  unfold nextP at h
  cases h1 : straysP (loadsP m.live l) s ((endsL (srvP s (loadsP m.live l))).1 : Nat) with
  | some e1 =>
    rw [h1] at h
    cases h
    obtain ⟨i, hil, -, rfl⟩ := stray_facts h1
    rw [loads_len] at hil
    rw [plAt_loads hil]
    exact move_counts hi hil (by omega) (by omega)
  | none =>
    rw [h1] at h
    dsimp only at h
    cases h2 : cutsP m.evs (loadsP m.live l) most ((endsL (srvP s (loadsP m.live l))).1 : Nat) with
    | some e2 =>
      rw [h2] at h
      cases h
      unfold cutsP at h2
      cases hb : bestN (fun _ => true) (loadsP m.live l) with
      | none => rw [hb] at h2; cases h2
      | some i =>
        have hil := bestN_lt hb
        rw [loads_len] at hil
        rw [hb] at h2
        dsimp only at h2
        rw [plAt_loads hil] at h2
        dsimp only at h2
        split at h2
        · cases h2
        · split at h2
          · cases h2
          · split at h2
            · cases h2
            · rename_i q1 q2 q3
              cases h2
              obtain ⟨f1, f2, f3⟩ := fresh_facts q3
              obtain ⟨k1, k2⟩ := half_key (s := shAt m.live i) hr q2
              obtain ⟨a, b, c⟩ := hi.idok i hil
              rw [counts_some (show findN (splitE (shAt m.live i).id (freshP m.evs) ((endsL (srvP s (loadsP m.live l))).1 : Nat) (halfP (keysP (shAt m.live i) l))).shard m.live = some i from hi.find hil), split_kind, if_neg (by decide), if_pos rfl]
              have hus : m.used (freshP m.evs) = false := by rw [hi.used _ f1 f2]; exact f3
              have hne : (shAt m.live i).id ≠ ((freshP m.evs : Nat) : Int) := fun he => by
                rw [he, f3] at c
                cases c
              have hrt : rightE (splitE (shAt m.live i).id (freshP m.evs) ((endsL (srvP s (loadsP m.live l))).1 : Nat) (halfP (keysP (shAt m.live i) l))) = true := by
                unfold rightE
                rw [split_kind, if_neg (by decide), if_pos rfl]
                show (within (shAt m.live i).id 12 && within ((freshP m.evs : Nat) : Int) 12 && decide ((shAt m.live i).id ≠ ((freshP m.evs : Nat) : Int)) && within (((endsL (srvP s (loadsP m.live l))).1 : Nat) : Int) 4 && isKey (halfP (keysP (shAt m.live i) l))) = true
                rw [within_mk a b, within_mk (by omega) (by omega), decide_eq_true hne, within_mk (by omega) (by omega), (hasB_of k1).2.1]
                rfl
              rw [hrt]
              show (true && !m.used (((freshP m.evs : Nat) : Int)).toNat && hasB (shAt m.live i).lo (shAt m.live i).hi (halfP (keysP (shAt m.live i) l)) && decide (halfP (keysP (shAt m.live i) l) ≠ (shAt m.live i).lo)) = true
              rw [Int.toNat_natCast, hus, k1, decide_eq_true k2]
              rfl
    | none =>
      rw [h2] at h
      dsimp only at h
      cases h3 : evensP (loadsP m.live l) (srvP s (loadsP m.live l)) (endsL (srvP s (loadsP m.live l))).1 (endsL (srvP s (loadsP m.live l))).2 with
      | some e3 =>
        rw [h3] at h
        cases h
        unfold evensP at h3
        obtain ⟨i, hb, rfl⟩ := Option.map_eq_some_iff.1 h3
        have hil := bestN_lt hb
        rw [loads_len] at hil
        rw [plAt_loads hil]
        exact move_counts hi hil (by omega) (by omega)
      | none =>
        rw [h3] at h
        dsimp only at h
        unfold joinsP at h
        obtain ⟨i, hb, rfl⟩ := Option.map_eq_some_iff.1 h
        unfold joinsN at hb
        rw [List.find?_range_eq_some] at hb
        have hj := hb.1
        unfold joinAt at hj
        simp only [Bool.and_eq_true, decide_eq_true_eq] at hj
        have hi1 := hj.1
        rw [loads_len] at hi1
        rw [plAt_loads (show i < m.live.length by omega), plAt_loads hi1]
        dsimp only
        obtain ⟨a, b, -⟩ := hi.idok i (by omega)
        obtain ⟨a', b', -⟩ := hi.idok (i + 1) hi1
        have hne : (shAt m.live i).id ≠ (shAt m.live (i + 1)).id := fun he => by
          have := hi.uniq i (i + 1) (by omega) hi1 he
          omega
        rw [counts_some (show findN (joinE (shAt m.live i).id (shAt m.live (i + 1)).id).shard m.live = some i from hi.find (by omega)), join_kind, if_neg (by decide), if_neg (by decide), if_pos rfl]
        rw [show findN (joinE (shAt m.live i).id (shAt m.live (i + 1)).id).other m.live = some (i + 1) from hi.find hi1]
        have hrt : rightE (joinE (shAt m.live i).id (shAt m.live (i + 1)).id) = true := by
          unfold rightE
          rw [join_kind, if_neg (by decide), if_neg (by decide), if_pos rfl]
          show (within (shAt m.live i).id 12 && within (shAt m.live (i + 1)).id 12 && decide ((shAt m.live i).id ≠ (shAt m.live (i + 1)).id)) = true
          rw [within_mk a b, within_mk a' b', decide_eq_true hne]
          rfl
        rw [hrt, Bool.true_and]
        dsimp only
        obtain ⟨n1, n2⟩ := hi.adj i hi1
        unfold joinB
        rw [hi.span i (by omega), hi.span (i + 1) hi1]
        rw [if_neg (by decide), if_pos]
        · rfl
        · have : (shAt m.live i).hi.data.toList.isEmpty = false := by
            cases hq : (shAt m.live i).hi.data.toList with
            | nil => exact absurd hq n1
            | cons c r => rfl
          rw [this, decide_eq_true n2]
          rfl
end Go.Proofs.YthjmfcdhpdiehaaGreatDoor

namespace Go.Proofs.YthjmfcdhpdiehaaGreatDoor
open Go.RowKit Utf
set_option maxRecDepth 100000
set_option linter.unusedSimpArgs false
set_option linter.unusedVariables false

/-- The map behind the first entries. -/
def stepAt (m0 : PM) (es : List EN) (k : Nat) : PM := (List.range k).foldl (fun m i => (applyP m (es.getD i EN.zero) (i : Nat)).2) m0
theorem stepAt_succ (m0 : PM) (es : List EN) (k : Nat) : stepAt m0 es (k + 1) = (applyP (stepAt m0 es k) (es.getD k EN.zero) (k : Nat)).2 := by
  unfold stepAt
  rw [List.range_succ, List.foldl_append]
  rfl
theorem stepAt_pre (m0 : PM) {es es' : List EN} : ∀ k, (∀ i, i < k → es.getD i EN.zero = es'.getD i EN.zero) → stepAt m0 es k = stepAt m0 es' k
  | 0, _ => rfl
  | k + 1, h => by rw [stepAt_succ, stepAt_succ, stepAt_pre m0 k (fun i hi => h i (by omega)), h k (by omega)]
theorem getD_pre (out : List EN) (e : EN) {i : Nat} (h : i < out.length) : (out ++ [e]).getD i EN.zero = out.getD i EN.zero := by
  rw [List.getD_eq_getElem?_getD, List.getElem?_append_left h, ← List.getD_eq_getElem?_getD]
theorem getD_last (out : List EN) (e : EN) : (out ++ [e]).getD out.length EN.zero = e := by
  rw [List.getD_eq_getElem?_getD, List.getElem?_append_right (Nat.le_refl _), Nat.sub_self]
  rfl
theorem plan_steps (l : List LD) (s : Nat) (most : Int) (m0 : PM) : ∀ (n : Nat) (m : PM) (out : List EN), stepAt m0 out out.length = m → (∀ k, k < out.length → nextP (stepAt m0 out k) l s most = some (out.getD k EN.zero)) →
    ∀ k, k < (planS l s most n m out).1.length → nextP (stepAt m0 (planS l s most n m out).1 k) l s most = some ((planS l s most n m out).1.getD k EN.zero)
  | 0, m, out, _, h => h
  | n + 1, m, out, hm, h => by
    unfold planS
    cases hn : nextP m l s most with
    | none => exact h
    | some e =>
      refine plan_steps l s most m0 n _ _ ?_ ?_
      · rw [List.length_append, List.length_singleton, stepAt_succ, stepAt_pre m0 (es' := out) _ (fun i hi => getD_pre out e hi), getD_last, hm]
      · intro k hk
        rw [List.length_append, List.length_singleton] at hk
        by_cases h1 : k < out.length
        · rw [stepAt_pre m0 (es' := out) _ (fun i hi => getD_pre out e (by omega)), getD_pre out e h1]
          exact h k h1
        · obtain rfl : k = out.length := by omega
          rw [stepAt_pre m0 (es' := out) _ (fun i hi => getD_pre out e hi), hm, getD_last]
          exact hn
theorem step_inv {m0 : PM} (h : Inv m0) (es : List EN) : ∀ k, Inv (stepAt m0 es k)
  | 0 => h
  | k + 1 => by
    rw [stepAt_succ]
    exact (step_inv h es k).apply _ _
theorem step_ok {m0 : PM} {n : Nat} (h : PMok m0 n) (es : List EN) : ∀ k, PMok (stepAt m0 es k) (n + k)
  | 0 => h
  | k + 1 => by
    rw [stepAt_succ]
    exact (step_ok h es k).apply _ _
end Go.Proofs.YthjmfcdhpdiehaaGreatDoor

namespace Go.Proofs.YthjmfcdhpdiehaaGreatDoor
open Go.RowKit Utf
set_option maxRecDepth 100000
set_option linter.unusedSimpArgs false
set_option linter.unusedVariables false

theorem fields_sp : (Tryz.prog.fieldsOf 52).toList = [⟨"Lo", 9, 0, false, "", "", 0⟩, ⟨"Hi", 9, 1, false, "", "", 16⟩] := by kernel_rfl
theorem eqF_step {P : Program} (w : World) (d : Nat) (xs : Array Value) (f : Field) (fs : List Field) (hn : f.name ≠ "_") (v : Value) (hx : Sem.run P (Go.part f.type xs f.offset) w = .ok v w) (he : (Op.equalIn d f.type v v).run P w = .ok true w) : (Op.eqFields d xs xs (f :: fs)).run P w = (Op.eqFields d xs xs fs).run P w := by
  simp only [Op.eqFields]
  rw [if_pos hn]
  simp [Sem.run_bind, hx, he, Result.andThen]
theorem equal_int (d : Nat) (z : Int) (w : World) : (Op.equalIn (d + 1) 3 (.int .i64 z) (.int .i64 z)).run Tryz.prog w = .ok true w := by
  rw [run_equalIn_int w d _ .i64 .i64 z z Tryz.underlying3]
  simp
theorem equal_str (d : Nat) (z : ByteArray) (w : World) : (Op.equalIn (d + 1) 9 (.string z) (.string z)).run Tryz.prog w = .ok true w := by
  rw [run_equalIn_string w d _ z z Tryz.underlying9]
  simp
theorem equal_sp (d : Nat) (lo hi : ByteArray) (w : World) : (Op.equalIn (d + 1 + 1) 52 (.agg #[.string lo, .string hi]) (.agg #[.string lo, .string hi])).run Tryz.prog w = .ok true w := by
  rw [run_equalIn_agg w (d + 1) _ _ _ (by kernel_rfl) (by kernel_rfl), fields_sp]
  rw [eqF_step w _ _ _ _ (by decide) (.string lo) (by kernel_rfl) (equal_str d lo w)]
  rw [eqF_step w _ _ _ _ (by decide) (.string hi) (by kernel_rfl) (equal_str d hi w)]
  rfl
section
variable {o : Oper} {a : Act} {w : World}
end
end Go.Proofs.YthjmfcdhpdiehaaGreatDoor
