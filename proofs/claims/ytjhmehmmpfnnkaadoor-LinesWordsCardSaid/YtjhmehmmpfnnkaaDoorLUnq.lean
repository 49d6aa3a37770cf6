/-
  Plain: Unquote's reader, rune by rune.
-/
import Derived.Test.YtjhmehmmpfnnkaaDoorLKit
namespace Go.Proofs.YtjhmehmmpfnnkaaDoor
open Go.RowKit Utf
set_option linter.unusedSimpArgs false
set_option linter.unusedVariables false

/-- One rune of what stands between the quotes: is a mark open? what has been read. -/
def uqStep (st : Bool × List Nat) (x : Nat) : Option (Bool × List Nat) :=
  if st.1 = true then (if x = 34 ∨ x = 92 then some (false, st.2 ++ [x]) else none)
  else if x = 34 ∨ badQ x = true then none else if x = 92 then some (true, st.2) else some (false, st.2 ++ [x])
def uqRun : Bool × List Nat → List Nat → Option (Bool × List Nat)
  | s, [] => some s
  | s, x :: l => (uqStep s x).bind fun t => uqRun t l
def uqFin : Option (Bool × List Nat) → Option (List Nat)
  | some (false, l) => some l
  | _ => none

theorem uqRun_append (s : Bool × List Nat) : ∀ (l r : List Nat), uqRun s (l ++ r) = (uqRun s l).bind fun t => uqRun t r := by
  intro l
  induction l generalizing s with
  | nil => intro r; rfl
  | cons x l ih =>
    intro r
    show (uqStep s x).bind (fun t => uqRun t (l ++ r)) = ((uqStep s x).bind fun t => uqRun t l).bind _
    cases uqStep s x with
    | none => rfl
    | some t => exact ih t r

theorem uqRun_take {rs : List Nat} {k : Nat} (hk : k < rs.length) {s : Bool × List Nat} (h : uqRun (false, []) (rs.take k) = some s) :
    uqRun (false, []) (rs.take (k + 1)) = uqStep s rs[k] := by
  rw [List.take_succ_eq_append_getElem hk, uqRun_append, h]
  show (uqStep s rs[k]).bind (fun t => some t) = _
  cases uqStep s rs[k] <;> rfl

theorem unq_run : ∀ (n : Nat) (l acc : List Nat), l.length ≤ n → uqFin (uqRun (false, acc) l) = (unq l).map (acc ++ ·)
  | _, [], acc, _ => by simp [uqRun, uqFin, unq]
  | 0, x :: l, acc, hn => by simp at hn
  | n + 1, x :: l, acc, hn => by
    simp only [List.length_cons] at hn
    by_cases hx : x = 92
    · subst hx
      cases l with
      | nil => simp [uqRun, uqStep, uqFin, unq, badQ]
      | cons y r =>
        by_cases hy : y = 34 ∨ y = 92
        · have ih := unq_run n r (acc ++ [y]) (by simp at hn; omega)
          have h1 : uqRun (false, acc) (92 :: y :: r) = uqRun (false, acc ++ [y]) r := by
            simp [uqRun, uqStep, hy, badQ]
          have h2 : unq (92 :: y :: r) = (unq r).map (y :: ·) := by
            conv => lhs; unfold unq
            rw [if_pos rfl]
            show (if y = 34 ∨ y = 92 then _ else _) = _
            rw [if_pos hy]
          rw [h1, ih, h2, Option.map_map]
          congr 1
          funext t
          simp
        · have h1 : uqRun (false, acc) (92 :: y :: r) = none := by
            simp [uqRun, uqStep, hy, badQ]
          have h2 : unq (92 :: y :: r) = none := by
            unfold unq
            rw [if_pos rfl]
            show (if y = 34 ∨ y = 92 then _ else _) = _
            rw [if_neg hy]
          rw [h1, h2]; rfl
    · by_cases hb : x = 34 ∨ badQ x = true
      · have h1 : uqRun (false, acc) (x :: l) = none := by
          simp only [uqRun, uqStep]
          rw [if_neg (by decide), if_pos hb]
          rfl
        have h2 : unq (x :: l) = none := by
          unfold unq
          rw [if_neg hx, if_pos hb]
        rw [h1, h2]; rfl
      · have ih := unq_run n l (acc ++ [x]) (by omega)
        have h1 : uqRun (false, acc) (x :: l) = uqRun (false, acc ++ [x]) l := by
          simp only [uqRun, uqStep]
          rw [if_neg (by decide), if_neg hb, if_neg hx]
          rfl
        have h2 : unq (x :: l) = (unq l).map (x :: ·) := by
          conv => lhs; unfold unq
          rw [if_neg hx, if_neg hb]
        rw [h1, ih, h2, Option.map_map]
        congr 1
        funext t
        simp

theorem unq_end {l : List Nat} {s : Bool × List Nat} (h : uqRun (false, []) l = some s) : unq l = uqFin (some s) := by
  have := unq_run l.length l [] (Nat.le_refl _)
  rw [h] at this
  rw [this]
  cases unq l <;> simp

theorem unq_stop {l : List Nat} {k : Nat} (hk : k < l.length) {s : Bool × List Nat} (h : uqRun (false, []) (l.take k) = some s) (hs : uqStep s l[k] = none) : unq l = none := by
  have h2 := uqRun_take hk h
  rw [hs] at h2
  have := unq_run l.length l [] (Nat.le_refl _)
  have e : l = l.take (k + 1) ++ l.drop (k + 1) := (List.take_append_drop _ _).symm
  have h3 : uqRun (false, []) l = none := by
    rw [e, uqRun_append, h2]
    rfl
  rw [h3] at this
  cases hu : unq l with
  | none => rfl
  | some t => rw [hu] at this; cases this

theorem uqRun_len (s t : Bool × List Nat) : ∀ l, uqRun s l = some t → t.2.length ≤ s.2.length + l.length := by
  intro l
  induction l generalizing s with
  | nil => intro h; cases h; simp
  | cons x l ih =>
    intro h
    simp only [uqRun] at h
    cases hs : uqStep s x with
    | none => rw [hs] at h; cases h
    | some u =>
      rw [hs] at h
      have h1 := ih u h
      have h2 : u.2.length ≤ s.2.length + 1 := by
        unfold uqStep at hs
        repeat' split at hs
        all_goals (cases hs; try simp)
      simp only [List.length_cons]
      omega

theorem text34 {l : List Nat} (ho : allOk l) : ((mkS (encAll l)).toList == [34]) = decide (l = [34]) := by
  have e : encAll [34] = [34] := by decide +kernel
  have ho34 : allOk [34] := by intro c hc; simp at hc; subst hc; decide +kernel
  rw [Lib.toList_data, mkS_data, Bool.eq_iff_iff]
  simp only [beq_iff_eq, decide_eq_true_eq]
  constructor
  · intro h
    rw [← e] at h
    exact encAll_inj ho ho34 h
  · rintro rfl
    exact e

theorem head34 {rs : List Nat} (h : 2 ≤ rs.length) : rs.take 1 = [34] ↔ rs.head? = some 34 := by
  cases rs with
  | nil => simp at h
  | cons x l => simp

theorem last34 {rs : List Nat} (h : 2 ≤ rs.length) : rs.drop (rs.length - 1) = [34] ↔ rs.getLast? = some 34 := by
  have hne : rs ≠ [] := by rintro rfl; simp at h
  rw [List.getLast?_eq_some_getLast hne]
  have e := List.dropLast_concat_getLast hne
  have e2 : rs.drop (rs.length - 1) = [rs.getLast hne] := by
    have h1 : rs.drop (rs.length - 1) = (rs.dropLast ++ [rs.getLast hne]).drop (rs.length - 1) := by rw [e]
    rw [h1, List.drop_append_of_le_length (by simp), List.drop_of_length_le (by simp)]
    rfl
  rw [e2]
  simp

theorem mid_eq (rs : List Nat) (h : 2 ≤ rs.length) : (rs.drop 1).take (rs.length - 2) = rs.tail.dropLast := by
  rw [List.drop_one, List.dropLast_eq_take, List.length_tail, Nat.sub_sub]

theorem unquoteL_bad {rs : List Nat} (h : rs.length < 2 ∨ rs.head? ≠ some 34 ∨ rs.getLast? ≠ some 34) : unquoteL rs = none := by
  unfold unquoteL
  rw [if_pos h]

theorem unquoteL_mid {rs : List Nat} (h : 2 ≤ rs.length) (h1 : rs.head? = some 34) (h2 : rs.getLast? = some 34) : unquoteL rs = unq ((rs.drop 1).take (rs.length - 2)) := by
  unfold unquoteL
  rw [if_neg, mid_eq rs h]
  rintro (h' | h' | h')
  · omega
  · exact h' h1
  · exact h' h2

theorem allOk_take {l : List Nat} (h : allOk l) (n : Nat) : allOk (l.take n) := fun c hc => h c (List.mem_of_mem_take hc)
theorem allOk_drop {l : List Nat} (h : allOk l) (n : Nat) : allOk (l.drop n) := fun c hc => h c (List.mem_of_mem_drop hc)
theorem encAll_len (rs : List Nat) : rs.length ≤ (encAll rs).length := by
  induction rs with
  | nil => simp
  | cons c l ih => rw [encAll_cons, List.length_append]; have := enc_length c; simp only [List.length_cons]; omega
theorem encAll_take_le (rs : List Nat) (n : Nat) : (encAll (rs.take n)).length ≤ (encAll rs).length := by
  conv => rhs; rw [← List.take_append_drop n rs, encAll_append, List.length_append]
  omega
theorem encAll_drop_le (rs : List Nat) (n : Nat) : (encAll (rs.drop n)).length ≤ (encAll rs).length := by
  conv => rhs; rw [← List.take_append_drop n rs, encAll_append, List.length_append]
  omega
end Go.Proofs.YtjhmehmmpfnnkaaDoor
