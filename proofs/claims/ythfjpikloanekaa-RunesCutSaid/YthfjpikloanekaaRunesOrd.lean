/-
  Plain facts: the order of texts' bytes is the order of their runes.
-/
import Derived.Test.YthfjpikloanekaaRunesG
namespace Go.Proofs.Ythfjpikloanekaa
open Go.RowKit Utf
set_option maxRecDepth 100000
set_option linter.unusedSimpArgs false
set_option linter.unusedVariables false

theorem less_cons (a b : Nat) (ha : a < 256) (hb : b < 256) (x y : List UInt8) : Op.bytesLess (UInt8.ofNat a :: x) (UInt8.ofNat b :: y) = if a < b then true else if a = b then Op.bytesLess x y else false := by
  have e1 : (UInt8.ofNat a < UInt8.ofNat b) ↔ a < b := by
    rw [UInt8.lt_iff_toNat_lt, u8_of a ha, u8_of b hb]
  have e2 : (UInt8.ofNat a = UInt8.ofNat b) ↔ a = b := by
    constructor
    · intro h; have := congrArg UInt8.toNat h; rwa [u8_of a ha, u8_of b hb] at this
    · intro h; rw [h]
  simp only [Op.bytesLess]
  by_cases h1 : a < b
  · simp [e1, h1]
  · by_cases h2 : a = b
    · subst h2; simp [e1]
    · have e3 : ¬ UInt8.ofNat a = UInt8.ofNat b := fun h => h2 (e2.1 h)
      simp [e1, h1, h2, e3]

theorem less_prefix (p x y : List UInt8) : Op.bytesLess (p ++ x) (p ++ y) = Op.bytesLess x y := by
  induction p with
  | nil => rfl
  | cons c p ih => simp [Op.bytesLess, ih]

/-- A rune's bytes stand ahead of a greater rune's, whatever follows. -/
theorem less_enc {a b : Nat} (ha : okR a = true) (hb : okR b = true) (h : a < b) (x y : List UInt8) : Op.bytesLess (enc a ++ x) (enc b ++ y) = true := by
  have ha' := ha
  have hb' := hb
  rw [okR_def] at ha' hb'
  by_cases a1 : a < 128
  · rw [enc_one a1]
    by_cases b1 : b < 128
    · rw [enc_one b1]; simp only [List.cons_append, List.nil_append]; rw [less_cons _ _ (by omega) (by omega), if_pos h]
    · by_cases b2 : b < 2048
      · rw [enc_two (by omega) b2]; simp only [List.cons_append, List.nil_append]; rw [less_cons _ _ (by omega) (by omega), if_pos (by omega)]
      · by_cases b3 : b < 65536
        · rw [enc_three (by omega) b3 hb]; simp only [List.cons_append, List.nil_append]; rw [less_cons _ _ (by omega) (by omega), if_pos (by omega)]
        · rw [enc_four (by omega) hb]; simp only [List.cons_append, List.nil_append]; rw [less_cons _ _ (by omega) (by omega), if_pos (by omega)]
  · by_cases a2 : a < 2048
    · rw [enc_two (by omega) a2]
      by_cases b2 : b < 2048
      · rw [enc_two (by omega) b2]; simp only [List.cons_append, List.nil_append]
        rw [less_cons _ _ (by omega) (by omega)]
        split
        · rfl
        · rw [if_pos (by omega), less_cons _ _ (by omega) (by omega), if_pos (by omega)]
      · by_cases b3 : b < 65536
        · rw [enc_three (by omega) b3 hb]; simp only [List.cons_append, List.nil_append]; rw [less_cons _ _ (by omega) (by omega), if_pos (by omega)]
        · rw [enc_four (by omega) hb]; simp only [List.cons_append, List.nil_append]; rw [less_cons _ _ (by omega) (by omega), if_pos (by omega)]
    · by_cases a3 : a < 65536
      · rw [enc_three (by omega) a3 ha]
        by_cases b3 : b < 65536
        · rw [enc_three (by omega) b3 hb]; simp only [List.cons_append, List.nil_append]
          rw [less_cons _ _ (by omega) (by omega)]
          split
          · rfl
          · rw [if_pos (by omega), less_cons _ _ (by omega) (by omega)]
            split
            · rfl
            · rw [if_pos (by omega), less_cons _ _ (by omega) (by omega), if_pos (by omega)]
        · rw [enc_four (by omega) hb]; simp only [List.cons_append, List.nil_append]; rw [less_cons _ _ (by omega) (by omega), if_pos (by omega)]
      · rw [enc_four (by omega) ha, enc_four (by omega) hb]; simp only [List.cons_append, List.nil_append]
        rw [less_cons _ _ (by omega) (by omega)]
        split
        · rfl
        · rw [if_pos (by omega), less_cons _ _ (by omega) (by omega)]
          split
          · rfl
          · rw [if_pos (by omega), less_cons _ _ (by omega) (by omega)]
            split
            · rfl
            · rw [if_pos (by omega), less_cons _ _ (by omega) (by omega), if_pos (by omega)]

theorem less_irrefl (l : List UInt8) : Op.bytesLess l l = false := by
  induction l with
  | nil => rfl
  | cons a l ih => simp [Op.bytesLess, ih]
theorem less_asymm : ∀ (l m : List UInt8), Op.bytesLess l m = true → Op.bytesLess m l = false
  | [], [], h => by cases h
  | [], _ :: _, _ => rfl
  | _ :: _, [], h => by cases h
  | a :: l, b :: m, h => by
    simp only [Op.bytesLess, Bool.or_eq_true, Bool.and_eq_true, decide_eq_true_eq, beq_iff_eq] at h
    simp only [Op.bytesLess, Bool.or_eq_false_iff, Bool.and_eq_false_iff, decide_eq_false_iff_not, beq_eq_false_iff_ne]
    rcases h with h | ⟨rfl, h⟩
    · rw [UInt8.lt_iff_toNat_lt] at h
      refine ⟨by rw [UInt8.lt_iff_toNat_lt]; omega, Or.inl (fun e => by rw [e] at h; omega)⟩
    · refine ⟨by rw [UInt8.lt_iff_toNat_lt]; omega, Or.inr (less_asymm l m h)⟩

theorem cmpL_self (a : List Nat) : cmpL a a = 0 := by
  induction a with
  | nil => rfl
  | cons c a ih => simp [cmpL, ih]
theorem cmpL_flip : ∀ (a b : List Nat), cmpL b a = - cmpL a b
  | [], [] => rfl
  | [], _ :: _ => rfl
  | _ :: _, [] => rfl
  | x :: a, y :: b => by
    simp only [cmpL]
    have ih := cmpL_flip a b
    by_cases h1 : x < y
    · have h3 : ¬ y < x := by omega
      simp [h1, h3]
    · by_cases h2 : y < x
      · simp [h1, h2]
      · simp [h1, h2, ih]
theorem cmpL_zero : ∀ {a b : List Nat}, cmpL a b = 0 → a = b
  | [], [], _ => rfl
  | [], _ :: _, h => by cases h
  | _ :: _, [], h => by cases h
  | x :: a, y :: b, h => by
    simp only [cmpL] at h
    split at h
    · cases h
    · split at h
      · cases h
      · obtain rfl : x = y := by omega
        rw [cmpL_zero h]
theorem cmpL_less : ∀ {a b : List Nat}, allOk a → allOk b → cmpL a b < 0 → Op.bytesLess (encAll a) (encAll b) = true
  | [], [], _, _, h => by simp [cmpL] at h
  | [], c :: b, _, _, _ => by
    rw [encAll_nil, encAll_cons]
    have := enc_length c
    cases he : enc c with
    | nil => rw [he] at this; simp at this
    | cons x y => rfl
  | _ :: _, [], _, _, h => by simp [cmpL] at h
  | x :: a, y :: b, ha, hb, h => by
    rw [allOk_cons] at ha hb
    simp only [cmpL] at h
    rw [encAll_cons, encAll_cons]
    split at h
    · rename_i h1
      exact less_enc ha.1 hb.1 h1 _ _
    · split at h
      · simp at h
      · obtain rfl : x = y := by omega
        rw [less_prefix]
        exact cmpL_less ha.2 hb.2 h
theorem cmpL_lt_iff {a b : List Nat} (ha : allOk a) (hb : allOk b) : Op.bytesLess (encAll a) (encAll b) = decide (cmpL a b < 0) := by
  by_cases h : cmpL a b < 0
  · rw [cmpL_less ha hb h, decide_eq_true h]
  · rw [decide_eq_false h]
    by_cases h0 : cmpL a b = 0
    · rw [cmpL_zero h0]; exact less_irrefl _
    · have := cmpL_flip a b
      exact less_asymm _ _ (cmpL_less hb ha (by omega))
theorem cmpL_eq_iff {a b : List Nat} (ha : allOk a) (hb : allOk b) : decide (encAll a = encAll b) = decide (cmpL a b = 0) := by
  rw [decide_eq_decide]
  constructor
  · intro h; rw [encAll_inj ha hb h]; exact cmpL_self _
  · intro h; rw [cmpL_zero h]
theorem cmpL_range : ∀ (a b : List Nat), cmpL a b = -1 ∨ cmpL a b = 0 ∨ cmpL a b = 1
  | [], [] => .inr (.inl rfl)
  | [], _ :: _ => .inl rfl
  | _ :: _, [] => .inr (.inr rfl)
  | x :: a, y :: b => by
    simp only [cmpL]
    split
    · exact .inl rfl
    · split
      · exact .inr (.inr rfl)
      · exact cmpL_range a b

theorem succR_lt (c : Nat) : c < succR c := by unfold succR; split <;> omega
theorem afterAt_shape {rs : List Nat} : ∀ n t, n ≤ rs.length → afterAt rs n = some t → ∃ pre c rest, rs = pre ++ c :: rest ∧ t = pre ++ [succR c] ∧ c ≠ 1114111
  | 0, t, _, h => by cases h
  | n + 1, t, hn, h => by
    simp only [afterAt] at h
    split at h
    · exact afterAt_shape n t (by omega) h
    · rename_i hne
      cases h
      have hlt : n < rs.length := by omega
      rw [List.getElem?_eq_getElem hlt] at hne ⊢
      exact ⟨rs.take n, rs[n], rs.drop (n + 1), by rw [← List.drop_eq_getElem_cons hlt, List.take_append_drop], rfl, hne⟩
/-- A text that begins with a text is less than what is behind all of these. -/
theorem after_less {rs t ms : List Nat} (ho : allOk rs) (h : afterL rs = some t) : Op.bytesLess (encAll (rs ++ ms)) (encAll t) = true := by
  obtain ⟨pre, c, rest, rfl, rfl, hc⟩ := afterAt_shape rs.length t (Nat.le_refl _) h
  have hok := (allOk_cons.1 (allOk_append.1 ho).2).1
  have e1 : encAll (pre ++ c :: rest ++ ms) = encAll pre ++ (enc c ++ (encAll rest ++ encAll ms)) := by
    rw [encAll_append, encAll_append, encAll_cons, List.append_assoc, List.append_assoc]
  have e2 : encAll (pre ++ [succR c]) = encAll pre ++ (enc (succR c) ++ []) := by
    rw [encAll_append, encAll_cons, encAll_nil]
  rw [e1, e2, less_prefix]
  exact less_enc hok (succR_ok hok hc) (succR_lt c) _ _
end Go.Proofs.Ythfjpikloanekaa
