/-
  Plain: bounds of what a line tells; a told line is read again.
  Parse of any text in one shape, what it tells or nothing; a text of 500 bytes: what it tells is told and read again.
-/
import Derived.Test.YtjhmehmmpfnnkaaDoorM20
import Derived.Test.YtjhmehmmpfnnkaaDoorM25
import Derived.Test.YtjhmehmmpfnnkaaDoorM24
import Derived.Test.YtjhmehmmpfnnkaaDoorM22
namespace Go.Proofs.YtjhmehmmpfnnkaaDoor
open Go.RowKit Utf
set_option maxRecDepth 100000
set_option linter.unusedSimpArgs false
set_option linter.unusedVariables false

/-! ### The error's number -/
theorem rdNum_lt (ws : List (List Nat)) {n : Nat} (h : n < 20) : (rdNum ws n).2.2 < 20 := by
  cases n with
  | succ n => cases ws <;> exact h
  | zero =>
    cases ws with
    | nil => show 2 < 20; decide
    | cons x r => simp only [rdNum]; split <;> simp
theorem rdStr_lt (ws : List (List Nat)) {n : Nat} (h : n < 20) : (rdStr ws n).2.2 < 20 := by
  cases n with
  | succ n => cases ws <;> exact h
  | zero =>
    cases ws with
    | nil => show 2 < 20; decide
    | cons x r => simp only [rdStr]; split <;> simp
theorem rdFlds_lt : ∀ (fs : List Fld) (q : PW) (ws : List (List Nat)) (n : Nat), n < 20 → (rdFlds fs q ws n).2.2 < 20
  | [], _, _, _, h => h
  | f :: fs, q, ws, n, h => by
    simp only [rdFlds]
    split
    · exact rdFlds_lt fs _ _ _ (rdNum_lt ws h)
    · exact rdFlds_lt fs _ _ _ (rdStr_lt ws h)
theorem opF_lt (x : List Nat) (r : List (List Nat)) : (opF x r).2.2 < 20 := by
  unfold opF
  repeat' split
  · exact rdStr_lt _ (rdStr_lt _ (by decide))
  · exact rdStr_lt _ (by decide)
  · exact rdStr_lt _ (rdStr_lt _ (rdStr_lt _ (by decide)))
  · exact rdNum_lt _ (rdStr_lt _ (by decide))
  · show 4 < 20; decide
theorem restO_lt : ∀ (k : Nat) (ws : List (List Nat)) (n : Nat), n < 20 → (restO k ws n).2 < 20
  | k, ws, n + 1, h => by rw [restO_err]; exact h
  | k, [], 0, _ => by cases k <;> (show 0 < 20; decide)
  | 0, x :: r, 0, _ => by show 0 < 20; decide
  | k + 1, x :: r, 0, _ => by
    simp only [restO]
    exact restO_lt k _ _ (opF_lt x r)
theorem restG_lt : ∀ (k : Nat) (ws : List (List Nat)) (n : Nat), n < 20 → (restG k ws n).2 < 20
  | k, ws, n + 1, h => by rw [restG_err]; exact h
  | k, [], 0, _ => by cases k <;> (show 0 < 20; decide)
  | 0, x :: r, 0, _ => by show 0 < 20; decide
  | k + 1, x :: r, 0, _ => by
    simp only [restG]
    exact restG_lt k _ _ (rdNum_lt _ (by decide))
theorem restAny_lt (k : Nat) (ws : List (List Nat)) (n : Nat) (h : n < 20) : (restAny k ws n).2.2 < 20 := by
  unfold restAny
  split
  · exact restO_lt _ _ _ h
  · split
    · exact restG_lt _ _ _ h
    · show restN ws n < 20
      unfold restN
      split
      · split <;> decide
      · exact h
theorem parseW_lt (ws : List (List Nat)) : (parseW ws).1 < 20 ∧ ((parseW ws).2 = none → (parseW ws).1 ≠ 0) ∧ ((parseW ws).2 ≠ none → (parseW ws).1 = 0) := by
  cases ws with
  | nil => exact ⟨by decide, fun _ => by decide, fun h => absurd rfl h⟩
  | cons x r =>
    cases hv : verbs[verbIdx (encAll x)]? with
    | none => simp only [parseW, hv]; exact ⟨by decide, fun _ => by decide, fun h => absurd rfl h⟩
    | some v =>
      simp only [parseW, hv]
      split
      · exact ⟨(show 0 < 20 by decide), fun h => (by cases h), fun _ => rfl⟩
      · rename_i h
        exact ⟨restAny_lt _ _ _ (rdFlds_lt _ _ _ _ (by decide)), fun _ => h, fun h => absurd rfl h⟩
theorem parseR_lt (s : ByteArray) : (parseR s).1 < 20 ∧ ((parseR s).2 = none → (parseR s).1 ≠ 0) ∧ ((parseR s).2 ≠ none → (parseR s).1 = 0) := by
  unfold parseR
  split
  · exact ⟨by decide, fun _ => by decide, fun h => absurd rfl h⟩
  · split
    · exact ⟨by decide, fun _ => by decide, fun h => absurd rfl h⟩
    · exact parseW_lt _

/-! ### Bounds -/
theorem numW_bound {x : List Nat} {v : Int} (h : numW x = some v) : -999999999 ≤ v ∧ v ≤ 999999999 := by
  have h1 := decL_of_num h
  unfold decL at h1
  split at h1
  · cases h1
  · omega
theorem unq_bound {x t : List Nat} (h : unquoteL x = some t) : (encAll t).length ≤ (encAll x).length := by
  have h2 := ((unquoteL_iff x t).1 h).2
  unfold quoteL at h2
  split at h2
  · cases h2
  · obtain rfl := Option.some.inj h2
    rw [encAll_cons, encAll_append, List.length_append, List.length_append]
    have : ∀ l : List Nat, (encAll l).length ≤ (encAll (l.flatMap quo1)).length := by
      intro l
      induction l with
      | nil => exact Nat.le_refl _
      | cons c l ih =>
        rw [List.flatMap_cons, encAll_cons, encAll_append, List.length_append, List.length_append]
        have : (enc c).length ≤ (encAll (quo1 c)).length := by
          unfold quo1
          split
          · rw [encAll_cons, encAll_cons, encAll_nil, List.append_nil, List.length_append]; omega
          · rw [encAll_cons, encAll_nil, List.append_nil]; exact Nat.le_refl _
        omega
    have := this t
    omega
def GB (N : Nat) (ws : List (List Nat)) : Prop := ∀ x ∈ ws, (encAll x).length ≤ N
theorem rdNum_GB {N : Nat} {ws : List (List Nat)} {n : Nat} (h : GB N ws) : GB N (rdNum ws n).2.1 ∧ -999999999 ≤ (rdNum ws n).1.getD 0 ∧ (rdNum ws n).1.getD 0 ≤ 999999999 := by
  cases n with
  | succ n => cases ws <;> exact ⟨h, by simp [rdNum], by simp [rdNum]⟩
  | zero =>
    cases ws with
    | nil => exact ⟨h, by simp [rdNum], by simp [rdNum]⟩
    | cons x r =>
      have hr : GB N r := fun y hy => h y (List.mem_cons_of_mem _ hy)
      simp only [rdNum]
      cases hx : numW x with
      | none => exact ⟨hr, by simp, by simp⟩
      | some v => exact ⟨hr, (numW_bound hx).1, (numW_bound hx).2⟩
theorem rdStr_GB {N : Nat} {ws : List (List Nat)} {n : Nat} (h : GB N ws) : GB N (rdStr ws n).2.1 ∧ (encAll ((rdStr ws n).1.getD [])).length ≤ N := by
  cases n with
  | succ n => cases ws <;> exact ⟨h, Nat.zero_le _⟩
  | zero =>
    cases ws with
    | nil => exact ⟨h, Nat.zero_le _⟩
    | cons x r =>
      have hr : GB N r := fun y hy => h y (List.mem_cons_of_mem _ hy)
      simp only [rdStr]
      cases hx : unquoteL x with
      | none => exact ⟨hr, Nat.zero_le _⟩
      | some t => exact ⟨hr, Nat.le_trans (unq_bound hx) (h x (by simp))⟩
def PB (N : Nat) (p : PW) : Prop := (∀ f, isNum f = true → -999999999 ≤ p.getN f ∧ p.getN f ≤ 999999999) ∧ ∀ f, isNum f = false → (encAll (p.getS f)).length ≤ N
theorem PB.setN {N : Nat} {p : PW} (h : PB N p) (f : Fld) {v : Int} (hv : -999999999 ≤ v ∧ v ≤ 999999999) : PB N (p.setN v f) := by
  refine ⟨fun g hg => ?_, fun g hg => ?_⟩
  · by_cases e : f = g
    · subst e; rw [setN_get _ _ _ hg]; exact hv
    · rw [(setN_other p v e).1]; exact h.1 g hg
  · by_cases e : f = g
    · subst e
      have := h.2 f hg
      cases f <;> first | exact this | cases hg
    · rw [(setN_other p v e).2]; exact h.2 g hg
theorem PB.setS {N : Nat} {p : PW} (h : PB N p) (f : Fld) {v : List Nat} (hv : (encAll v).length ≤ N) : PB N (p.setS v f) := by
  refine ⟨fun g hg => ?_, fun g hg => ?_⟩
  · by_cases e : f = g
    · subst e
      have := h.1 f hg
      cases f <;> first | exact this | cases hg
    · rw [(setS_other p v e).1]; exact h.1 g hg
  · by_cases e : f = g
    · subst e; rw [setS_get _ _ _ hg]; exact hv
    · rw [(setS_other p v e).2]; exact h.2 g hg
theorem rdFlds_PB {N : Nat} : ∀ (fs : List Fld) (q : PW) (ws : List (List Nat)) (n : Nat), PB N q → GB N ws → PB N (rdFlds fs q ws n).1 ∧ GB N (rdFlds fs q ws n).2.1
  | [], _, _, _, h1, h2 => ⟨h1, h2⟩
  | f :: fs, q, ws, n, h1, h2 => by
    simp only [rdFlds]
    split
    · have h3 := rdNum_GB (n := n) h2
      exact rdFlds_PB fs _ _ _ (h1.setN f h3.2) h3.1
    · have h3 := rdStr_GB (n := n) h2
      exact rdFlds_PB fs _ _ _ (h1.setS f h3.2) h3.1
def OB (N : Nat) (o : POp) : Prop := (encAll o.key).length ≤ N ∧ (encAll o.value).length ≤ N ∧ (encAll o.old).length ≤ N ∧ -999999999 ≤ o.version ∧ o.version ≤ 999999999
theorem opF_OB {N : Nat} {x : List Nat} {r : List (List Nat)} (h : GB N r) : OB N (opF x r).1 ∧ GB N (opF x r).2.1 := by
  have a := rdStr_GB (n := 0) h
  have b := rdStr_GB (n := (rdStr r 0).2.2) a.1
  have c := rdStr_GB (n := (rdStr (rdStr r 0).2.1 (rdStr r 0).2.2).2.2) b.1
  have d := rdNum_GB (n := (rdStr r 0).2.2) a.1
  have z0 : (-999999999 : Int) ≤ 0 ∧ (0 : Int) ≤ 999999999 := by decide
  unfold opF
  repeat' split
  · exact ⟨⟨a.2, b.2, Nat.zero_le _, z0.1, z0.2⟩, b.1⟩
  · exact ⟨⟨a.2, Nat.zero_le _, Nat.zero_le _, z0.1, z0.2⟩, a.1⟩
  · exact ⟨⟨a.2, c.2, b.2, z0.1, z0.2⟩, c.1⟩
  · exact ⟨⟨a.2, Nat.zero_le _, Nat.zero_le _, d.2.1, d.2.2⟩, d.1⟩
  · exact ⟨⟨Nat.zero_le _, Nat.zero_le _, Nat.zero_le _, z0.1, z0.2⟩, h⟩
theorem restO_OB {N : Nat} : ∀ (k : Nat) (ws : List (List Nat)) (n : Nat), GB N ws → (∀ o ∈ (restO k ws n).1, OB N o) ∧ (restO k ws n).1.length ≤ ws.length
  | k, ws, n + 1, h => by rw [restO_err]; exact ⟨fun o ho => (by cases ho), Nat.zero_le _⟩
  | k, [], 0, _ => by cases k <;> exact ⟨fun o ho => (by cases ho), Nat.le_refl _⟩
  | 0, x :: r, 0, _ => ⟨fun o ho => (by cases ho), Nat.zero_le _⟩
  | k + 1, x :: r, 0, h => by
    have h1 := opF_OB (x := x) (show GB N r from fun y hy => h y (List.mem_cons_of_mem _ hy))
    have h2 := restO_OB k (opF x r).2.1 (opF x r).2.2 h1.2
    have h3 := opF_len x r
    simp only [restO]
    refine ⟨fun o ho => ?_, by simp only [List.length_cons]; omega⟩
    rcases List.mem_cons.1 ho with rfl | ho
    · exact h1.1
    · exact h2.1 o ho
theorem restG_GB {N : Nat} : ∀ (k : Nat) (ws : List (List Nat)) (n : Nat), GB N ws → (∀ z ∈ (restG k ws n).1, -999999999 ≤ z ∧ z ≤ 999999999) ∧ (restG k ws n).1.length ≤ ws.length
  | k, ws, n + 1, h => by rw [restG_err]; exact ⟨fun o ho => (by cases ho), Nat.zero_le _⟩
  | k, [], 0, _ => by cases k <;> exact ⟨fun o ho => (by cases ho), Nat.le_refl _⟩
  | 0, x :: r, 0, _ => ⟨fun o ho => (by cases ho), Nat.zero_le _⟩
  | k + 1, x :: r, 0, h => by
    have h1 := rdNum_GB (n := 0) h
    have h2 := restG_GB k (rdNum (x :: r) 0).2.1 (rdNum (x :: r) 0).2.2 h1.1
    have h3 := rdNum_cons_len x r
    simp only [restG]
    refine ⟨fun o ho => ?_, by simp only [List.length_cons]; omega⟩
    rcases List.mem_cons.1 ho with rfl | ho
    · exact h1.2
    · exact h2.1 o ho
theorem rdFlds_len : ∀ (fs : List Fld) (q : PW) (ws : List (List Nat)) (n : Nat), (rdFlds fs q ws n).2.1.length ≤ ws.length
  | [], _, _, _ => Nat.le_refl _
  | f :: fs, q, ws, n => by
    simp only [rdFlds]
    split
    · exact Nat.le_trans (rdFlds_len fs _ _ _) (rdNum_len ws n)
    · exact Nat.le_trans (rdFlds_len fs _ _ _) (rdStr_len ws n)
theorem PB_zero (N : Nat) (k e : Int) : PB N { PW.zero with kind := k, ekind := e } := by
  have z0 : (-999999999 : Int) ≤ 0 ∧ (0 : Int) ≤ 999999999 := by decide
  refine ⟨fun f hf => ?_, fun f hf => ?_⟩
  · cases f <;> exact z0
  · cases f <;> exact Nat.zero_le _
/-- What is bounded of what a line tells. -/
structure LB (N M : Nat) (l : PL) : Prop where
  p : PB N l.p
  ops : ∀ o ∈ l.ops, OB N o
  gone : ∀ z ∈ l.gone, -999999999 ≤ z ∧ z ≤ 999999999
  lo : l.ops.length ≤ M
  lg : l.gone.length ≤ M
theorem parseW_LB {N : Nat} {ws : List (List Nat)} {m : Nat} {l : PL} (hg : GB N ws) (h : parseW ws = (m, some l)) : LB N ws.length l := by
  cases ws with
  | nil => cases h
  | cons x r =>
    cases hv : verbs[verbIdx (encAll x)]? with
    | none => simp only [parseW, hv] at h; cases h
    | some v =>
      have hr : GB N r := fun y hy => hg y (List.mem_cons_of_mem _ hy)
      have h0 : PB N { PW.zero with kind := (v.kind : Int), ekind := (v.ekind : Int) } := PB_zero N _ _
      have h1 := rdFlds_PB v.flds _ r 0 h0 hr
      have hl := rdFlds_len v.flds { PW.zero with kind := (v.kind : Int), ekind := (v.ekind : Int) } r 0
      simp only [parseW, hv] at h
      split at h
      · simp only [Prod.mk.injEq, Option.some.injEq] at h
        obtain ⟨-, rfl⟩ := h
        generalize rdFlds v.flds { PW.zero with kind := (v.kind : Int), ekind := (v.ekind : Int) } r 0 = q at *
        have h2 := restO_OB q.2.1.length q.2.1 q.2.2 h1.2
        have h3 := restG_GB q.2.1.length q.2.1 q.2.2 h1.2
        have hll : q.2.1.length ≤ (x :: r).length := by simp; omega
        unfold restAny
        split
        · exact ⟨h1.1, h2.1, fun z hz => (by cases hz), Nat.le_trans h2.2 hll, Nat.zero_le _⟩
        · split
          · exact ⟨h1.1, fun z hz => (by cases hz), h3.1, Nat.zero_le _, Nat.le_trans h3.2 hll⟩
          · exact ⟨h1.1, fun z hz => (by cases hz), fun z hz => (by cases hz), Nat.zero_le _, Nat.zero_le _⟩
      · have := congrArg Prod.snd h
        simp at this
theorem LB.bp {N M : Nat} {l : PL} (h : LB N M l) (hN : N ≤ 100000) : l.b.p.ok ∧ l.b.p.okR := by
  have h1 : ∀ f, isNum f = true → -9223372036854775808 ≤ l.b.p.getN f ∧ l.b.p.getN f ≤ 9223372036854775807 := fun f hf => by
    have := h.p.1 f hf
    rw [show l.b.p.getN f = l.p.getN f from PW.b_getN l.p f]
    omega
  have h2 : ∀ f, isNum f = false → (l.b.p.getS f).size ≤ N := fun f hf => by
    rw [show l.b.p.getS f = mkS (encAll (l.p.getS f)) from PW.b_getS l.p f hf, mkS_size]
    exact h.p.2 f hf
  exact ⟨⟨h1, fun f hf => by have := h2 f hf; omega⟩, ⟨h1, fun f hf => by have := h2 f hf; omega⟩⟩
theorem LB.bops {N M : Nat} {l : PL} (h : LB N M l) (hN : N ≤ 100000) : (∀ o ∈ l.b.ops, BOp.ok o) ∧ ∀ o ∈ l.b.ops, BOp.okR o := by
  have h1 : ∀ o ∈ l.b.ops, o.key.size ≤ N ∧ o.value.size ≤ N ∧ o.old.size ≤ N ∧ -999999999 ≤ o.version ∧ o.version ≤ 999999999 := by
    intro o ho
    obtain ⟨q, hq, rfl⟩ := List.mem_map.1 ho
    obtain ⟨a, b, c, d, e⟩ := h.ops q hq
    exact ⟨by show (mkS _).size ≤ _; rw [mkS_size]; exact a, by show (mkS _).size ≤ _; rw [mkS_size]; exact b, by show (mkS _).size ≤ _; rw [mkS_size]; exact c, d, e⟩
  exact ⟨fun o ho => by obtain ⟨a, b, c, d, e⟩ := h1 o ho; exact ⟨by omega, by omega, by omega, by omega, by omega⟩, fun o ho => by obtain ⟨a, b, c, d, e⟩ := h1 o ho; exact ⟨by omega, by omega, by omega, by omega, by omega⟩⟩

/-! ### Told words -/
theorem told_word {l : BL} {ws : List (List Nat)} (h : textW l = some ws) : ∀ x ∈ ws, IsWord x ∧ allOk x := by
  unfold textW at h
  obtain ⟨v, hv, h'⟩ := Option.bind_eq_some_iff.1 h
  have hm := (verbT_some hv).1
  have h2 := (tellAll_iff _ _).1 h'
  have hnm := verb_ascii v hm
  intro x hx
  have hx2 : some x ∈ lineRow v l := by rw [h2]; exact List.mem_map.2 ⟨x, hx, rfl⟩
  unfold lineRow at hx2
  have hdec : ∀ z : Int, decL z = some x → IsWord x ∧ allOk x := fun z hz => ⟨(decL_word hz).1, (decL_word hz).2.1⟩
  have hstr : ∀ s, tellS s = some x → IsWord x ∧ allOk x := fun s hs => ⟨(tellS_word hs).1, (tellS_word hs).2.1⟩
  have hlit : ∀ y : List Nat, y ≠ [] → (∀ c ∈ y, c < 128 ∧ c ≠ 32 ∧ c ≠ 34) → some y = some x → IsWord x ∧ allOk x := by
    intro y h0 h1 h3
    obtain rfl := Option.some.inj h3
    exact ⟨word_bare h0 (fun c hc => (h1 c hc).2), ok_ascii (fun c hc => (h1 c hc).1)⟩
  rcases List.mem_cons.1 hx2 with hx2 | hx2
  · exact hlit (nameR v) hnm.1 hnm.2 hx2.symm
  · rcases List.mem_append.1 hx2 with hx2 | hx2
    · obtain ⟨f, _, hf⟩ := List.mem_map.1 hx2
      unfold tellFld at hf
      split at hf
      · exact hdec _ hf
      · exact hstr _ hf
    · unfold restRow at hx2
      split at hx2
      · obtain ⟨o, _, ho⟩ := List.mem_flatMap.1 hx2
        unfold opRow at ho
        split at ho
        · simp only [List.mem_cons, List.not_mem_nil, or_false] at ho
          rcases ho with ho | ho | ho
          · exact hlit _ (by decide) (by decide) ho.symm
          · exact hstr _ ho.symm
          · exact hstr _ ho.symm
        · split at ho
          · simp only [List.mem_cons, List.not_mem_nil, or_false] at ho
            rcases ho with ho | ho
            · exact hlit _ (by decide) (by decide) ho.symm
            · exact hstr _ ho.symm
          · split at ho
            · simp only [List.mem_cons, List.not_mem_nil, or_false] at ho
              rcases ho with ho | ho | ho | ho
              · exact hlit _ (by decide) (by decide) ho.symm
              · exact hstr _ ho.symm
              · exact hstr _ ho.symm
              · exact hstr _ ho.symm
            · split at ho
              · simp only [List.mem_cons, List.not_mem_nil, or_false] at ho
                rcases ho with ho | ho | ho
                · exact hlit _ (by decide) (by decide) ho.symm
                · exact hstr _ ho.symm
                · exact hdec _ ho.symm
              · simp at ho
      · split at hx2
        · obtain ⟨z, _, hz⟩ := List.mem_map.1 hx2
          exact hdec _ hz
        · cases hx2
/-- A told line is read as its words tell. -/
theorem parse_told {l : BL} {ws : List (List Nat)} (h : textW l = some ws) : parseR (mkS (encAll (joinW ws))) = parseW ws := by
  have h1 := told_word h
  have hne : ws ≠ [] := by
    intro e
    subst e
    unfold textW at h
    obtain ⟨v, hv, h'⟩ := Option.bind_eq_some_iff.1 h
    have h2 := (tellAll_iff _ _).1 h'
    cases h2
  have hok : allOk (joinW ws) := join_ok (fun x hx => (h1 x hx).2)
  unfold parseR
  rw [mkS_data, dec_encAll hok]
  simp only [join_words hne (fun x hx => (h1 x hx).1)]
theorem join_len {N : Nat} : ∀ {ws : List (List Nat)}, GB N ws → (encAll (joinW ws)).length ≤ ws.length * (N + 1) := by
  intro ws h
  have hr : ∀ r : List (List Nat), GB N r → (encAll (r.flatMap fun x => 32 :: x)).length ≤ r.length * (N + 1) := by
    intro r
    induction r with
    | nil => intro _; exact Nat.zero_le _
    | cons b r ih =>
      intro hb
      have h1 := ih (fun y hy => hb y (List.mem_cons_of_mem _ hy))
      have h2 := hb b (by simp)
      rw [List.flatMap_cons, List.cons_append, encAll_cons, encAll_append, List.length_append, List.length_append, List.length_cons, Nat.succ_mul]
      have h3 : (enc 32).length = 1 := by decide +kernel
      omega
  cases ws with
  | nil => exact Nat.zero_le _
  | cons a r =>
    have h1 := hr r (fun y hy => h y (List.mem_cons_of_mem _ hy))
    have h2 := h a (by simp)
    unfold joinW
    rw [encAll_append, List.length_append, List.length_cons, Nat.succ_mul]
    omega
end Go.Proofs.YtjhmehmmpfnnkaaDoor

namespace Go.Proofs.YtjhmehmmpfnnkaaDoor
open Go.RowKit Utf
set_option maxRecDepth 100000
set_option linter.unusedSimpArgs false
set_option linter.unusedVariables false

theorem own_row_of {w : World} {B sz : Nat} {e : TypeId} {v : Value} {n : Nat} {xs : List Value} (h : w.ownsRow B e sz v n xs) : ∃ ao cap, v = .slice ao n cap ∧ RowAt w ao xs := by
  have hl := h.1
  rcases h.2 with ⟨rfl, rfl⟩ | ⟨g, cap, cur, rfl, _, hg, hnc, hcm, _, _⟩
  · refine ⟨none, 0, rfl, fun i hi => by simp at hl; subst hl; cases hi⟩
  · refine ⟨some ⟨g, 0, none⟩, cap, rfl, fun i hi => ⟨g, 0, rfl, ?_⟩⟩
    have := h.cells (g := g) rfl i xs[i] (List.getElem?_eq_getElem hi)
    rw [Nat.zero_add]
    rw [← this]
    cases i <;> simp [Addr.add]
def PL.zero : PL := ⟨PW.zero, [], []⟩
def plOf (q : Nat × Option PL) : PL := q.2.getD PL.zero
theorem cells_b (l : PL) : l.b.ops.flatMap bCells = l.ops.flatMap opCells := by
  show (l.ops.map POp.b).flatMap bCells = _
  induction l.ops with
  | nil => rfl
  | cons o r ih => rw [List.map_cons, List.flatMap_cons, List.flatMap_cons, ih]; rfl
theorem b_len (l : PL) : l.b.ops.length = l.ops.length := List.length_map ..
/-- A parsed op: its cells, its lists. -/
def ParseU (num : Value) (mk : Value → Value → Array Value) (l : PL) (w : World) (e : Ending) (w' : World) : Prop :=
  ∃ ao ag co cg, e = .returned (.tuple #[.agg (mk (.slice ao l.ops.length co) (.slice ag l.gone.length cg)), num]) ∧ RowAt w' ao (l.ops.flatMap opCells) ∧ RowAt w' ag (zRow l.gone) ∧ Below w.heap.size w w'
theorem rowAt_nil (w : World) (ao : Option Addr) : RowAt w ao [] := fun i hi => by cases hi
theorem wZero_eq : wZero = wCells PW.zero (.slice none 0 0) (.slice none 0 0) := by kernel_rfl
theorem rZero_eq : rZero = rCells PW.zero (.slice none 0 0) (.slice none 0 0) := by kernel_rfl
theorem parse_uni (ea : Nat → Addr) (s : ByteArray) (w : World) (hs : s.size ≤ 1000000) (he : LErr w ea) :
    Calls Tryd.prog 17 #[.string s] w (ParseU (errOf ea (parseR s).1) (fun vo vg => oC (plOf (parseR s)).p.b vo vg XC.zero 0 0 0) (plOf (parseR s)) w) := by
  refine (parse_all ea s w hs he).mono fun e w' ⟨hb, h⟩ => ?_
  rcases h with ⟨m, hq, rfl⟩ | ⟨l, vo, vg, hq, rfl, ho, hg⟩
  · rw [hq]
    refine ⟨none, none, 0, 0, ?_, rowAt_nil _ _, rowAt_nil _ _, hb⟩
    rw [wZero_eq, wCells_oC]
    rfl
  · rw [hq]
    obtain ⟨ao, co, rfl, h1⟩ := own_row_of ho
    obtain ⟨ag, cg, rfl, h2⟩ := own_row_of hg
    refine ⟨ao, ag, co, cg, ?_, h1, h2, hb⟩
    rw [wCells_oC]
    rfl
theorem refParse_uni (s : ByteArray) (w : World) (hs : s.size ≤ 100000) :
    Calls Tryd.prog 18 #[.string s] w (ParseU (.int .i64 ((parseR s).1 : Nat)) (fun vo vg => qC (plOf (parseR s)).p.b vo vg XC.zero) (plOf (parseR s)) w) := by
  refine (refParse_all s w hs).mono fun e w' ⟨hb, h⟩ => ?_
  rcases h with ⟨m, hq, rfl⟩ | ⟨l, vo, vg, hq, rfl, ho, hg⟩
  · rw [hq]
    refine ⟨none, none, 0, 0, ?_, rowAt_nil _ _, rowAt_nil _ _, hb⟩
    rw [rZero_eq, rCells_qC]
    rfl
  · rw [hq]
    obtain ⟨ao, co, rfl, h1⟩ := own_row_of ho
    obtain ⟨ag, cg, rfl, h2⟩ := own_row_of hg
    refine ⟨ao, ag, co, cg, ?_, h1, h2, hb⟩
    rw [rCells_qC]
    rfl

/-! ### A short text -/
theorem words_bound {N : Nat} {rs : List Nat} {ws : List (List Nat)} (ho : allOk rs) (hl : (encAll rs).length ≤ N) (h : wordsL rs = some ws) : OkW ws ∧ GB N ws ∧ ws.length ≤ N + 1 := by
  unfold wordsL at h
  cases hr : wsRun ws0 rs with
  | none => rw [hr] at h; cases h
  | some s =>
    rw [hr] at h
    obtain ⟨h1, h2, h3⟩ := ws_good N rs ws0 s (fun x hx => by cases hx) allOk_nil ho (by simp [ws0, encAll_nil]; exact hl) hr
    have h4 := wsRun_len _ _ _ hr
    have h5 := encAll_len rs
    have hfin : s.fin = some ws := h
    have hout : s.out.length ≤ rs.length := by simpa [ws0] using h4
    have hmem : ∀ l : List (List Nat), l = s.out ∨ l = s.out ++ [s.cur] → OkW l ∧ GB N l := by
      intro l hl
      have : ∀ x ∈ l, allOk x ∧ (encAll x).length ≤ N := by
        intro x hx
        rcases hl with rfl | rfl
        · exact h1 x hx
        · rcases List.mem_append.1 hx with hx | hx
          · exact h1 x hx
          · simp only [List.mem_singleton] at hx
            subst hx
            exact ⟨h2, h3⟩
      exact ⟨fun x hx => (this x hx).1, fun x hx => (this x hx).2⟩
    unfold WS.fin at hfin
    split at hfin
    · cases hfin
      exact ⟨(hmem _ (.inl rfl)).1, (hmem _ (.inl rfl)).2, by omega⟩
    · cases hfin
      exact ⟨(hmem _ (.inr rfl)).1, (hmem _ (.inr rfl)).2, by rw [List.length_append]; simp only [List.length_singleton]; omega⟩
    · cases hfin
      exact ⟨(hmem _ (.inr rfl)).1, (hmem _ (.inr rfl)).2, by rw [List.length_append]; simp only [List.length_singleton]; omega⟩
    · cases hfin
    · cases hfin
theorem LB_zero (N M : Nat) : LB N M PL.zero :=
  ⟨PB_zero N 0 0, fun o ho => (by cases ho), fun z hz => (by cases hz), Nat.zero_le _, Nat.zero_le _⟩
/-- What a short text tells is told in the same words. -/
theorem short_line {N : Nat} {s : ByteArray} (hs : s.size ≤ N) : LB N (N + 1) (plOf (parseR s)) ∧ ((parseR s).1 = 0 → ∃ ws, textW (plOf (parseR s)).b = some ws ∧ (encAll (joinW ws)).length ≤ (N + 1) * (N + 1) ∧ parseR (mkS (encAll (joinW ws))) = (0, some (plOf (parseR s)))) := by
  unfold parseR
  cases hd : dec s.data.toList with
  | none => exact ⟨LB_zero _ _, fun h => by cases h⟩
  | some rs =>
    obtain ⟨ho, h⟩ := dec_some hd
    cases hw : wordsL rs with
    | none => simp only [hw]; exact ⟨LB_zero _ _, fun h => by cases h⟩
    | some ws =>
      simp only [hw]
      obtain ⟨h1, h2, h3⟩ := words_bound ho (by rw [← h, ← Lib.size_eq]; exact hs) hw
      obtain ⟨-, h4, h5⟩ := parseW_lt ws
      cases hp : parseW ws with
      | mk m r =>
        rw [hp] at h4 h5
        cases r with
        | none => exact ⟨LB_zero _ _, fun h => absurd h (h4 rfl)⟩
        | some l =>
          obtain rfl : m = 0 := h5 (fun h => by cases h)
          have hb := parseW_LB h2 hp
          refine ⟨⟨hb.p, hb.ops, hb.gone, Nat.le_trans hb.lo h3, Nat.le_trans hb.lg h3⟩, fun _ => ⟨ws, read_told h1 hp, ?_, ?_⟩⟩
          · exact Nat.le_trans (join_len h2) (Nat.mul_le_mul_right _ h3)
          · have := parse_told (read_told h1 hp)
            rw [hp] at this
            exact this
end Go.Proofs.YtjhmehmmpfnnkaaDoor
