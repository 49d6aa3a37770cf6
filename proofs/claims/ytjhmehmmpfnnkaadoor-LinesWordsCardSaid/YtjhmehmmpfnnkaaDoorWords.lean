/-
  Plain: a line's words, a text in quotes, as lists of runes' numbers. No program in sight.
-/
import Derived.Test.YtjhmehmmpfnnkaaDoorUtf
namespace Go.Proofs.YtjhmehmmpfnnkaaDoor
set_option linter.unusedSimpArgs false
set_option linter.unusedVariables false

/-- Where the reader of a line stands: between words, in a bare word, in quotes, behind the mark, behind the quotes. -/
inductive WM | gap | bare | quo | esc | shut
deriving DecidableEq

def WM.step : WM → Nat → Option WM
  | .gap, x => some (if x = 32 then .gap else if x = 34 then .quo else .bare)
  | .bare, x => if x = 32 then some .gap else if x = 34 then none else some .bare
  | .quo, x => some (if x = 92 then .esc else if x = 34 then .shut else .quo)
  | .esc, _ => some .quo
  | .shut, x => if x = 32 then some .gap else none

structure WS where
  out : List (List Nat)
  cur : List Nat
  m : WM

def WS.step (s : WS) (x : Nat) : Option WS :=
  match s.m, s.m.step x with
  | _, none => none
  | .gap, some .gap => some s
  | _, some .gap => some ⟨s.out ++ [s.cur], [], .gap⟩
  | _, some n => some ⟨s.out, s.cur ++ [x], n⟩

def wsRun : WS → List Nat → Option WS
  | s, [] => some s
  | s, x :: l => (s.step x).bind fun t => wsRun t l

def WS.fin (s : WS) : Option (List (List Nat)) :=
  match s.m with
  | .gap => some s.out
  | .bare | .shut => some (s.out ++ [s.cur])
  | .quo | .esc => none

def ws0 : WS := ⟨[], [], .gap⟩
def wordsL (rs : List Nat) : Option (List (List Nat)) := (wsRun ws0 rs).bind WS.fin

theorem wsRun_append (s : WS) : ∀ (l r : List Nat), wsRun s (l ++ r) = (wsRun s l).bind fun t => wsRun t r := by
  intro l
  induction l generalizing s with
  | nil => intro r; rfl
  | cons x l ih =>
    intro r
    show (s.step x).bind (fun t => wsRun t (l ++ r)) = ((s.step x).bind fun t => wsRun t l).bind _
    cases s.step x with
    | none => rfl
    | some t => exact ih t r

theorem wsRun_take {rs : List Nat} {k : Nat} (hk : k < rs.length) {s : WS} (h : wsRun ws0 (rs.take k) = some s) :
    wsRun ws0 (rs.take (k + 1)) = s.step rs[k] := by
  rw [List.take_succ_eq_append_getElem hk, wsRun_append, h]
  show (s.step rs[k]).bind (fun t => some t) = _
  cases s.step rs[k] <;> rfl

theorem wordsL_stop {rs : List Nat} {k : Nat} (hk : k < rs.length) {s : WS} (h : wsRun ws0 (rs.take k) = some s) (hs : s.step rs[k] = none) : wordsL rs = none := by
  unfold wordsL
  have e : rs = rs.take (k + 1) ++ rs.drop (k + 1) := (List.take_append_drop _ _).symm
  have h2 := wsRun_take hk h
  rw [hs] at h2
  rw [e, wsRun_append, h2]
  rfl

theorem wordsL_end {rs : List Nat} {s : WS} (h : wsRun ws0 rs = some s) : wordsL rs = s.fin := by
  unfold wordsL
  rw [h]
  rfl

/-! ### A text in quotes -/
def badQ (c : Nat) : Bool := decide (c < 32) || decide (c = 127)
def quo1 (c : Nat) : List Nat := if c = 34 ∨ c = 92 then [92, c] else [c]
def quoteL (rs : List Nat) : Option (List Nat) := if rs.any badQ then none else some (34 :: (rs.flatMap quo1 ++ [34]))

/-- What stands between the quotes, without the marks. -/
def unmark : List Nat → List Nat
  | [] => []
  | x :: l => if x = 92 then match l with
    | [] => []
    | y :: r => y :: unmark r
    else x :: unmark l

def unq : List Nat → Option (List Nat)
  | [] => some []
  | x :: l =>
    if x = 92 then match l with
      | [] => none
      | y :: r => if y = 34 ∨ y = 92 then (unq r).map (y :: ·) else none
    else if x = 34 ∨ badQ x = true then none else (unq l).map (x :: ·)

theorem unq_quote (rs : List Nat) (h : rs.any badQ = false) : unq (rs.flatMap quo1) = some rs := by
  induction rs with
  | nil => rfl
  | cons c l ih =>
    rw [List.any_cons, Bool.or_eq_false_iff] at h
    rw [List.flatMap_cons]
    unfold quo1
    by_cases hc : c = 34 ∨ c = 92
    · rw [if_pos hc]
      show unq (92 :: c :: (l.flatMap quo1)) = _
      unfold unq
      rw [if_pos rfl]
      show (if c = 34 ∨ c = 92 then _ else _) = _
      rw [if_pos hc, ih h.2]
      rfl
    · rw [if_neg hc]
      show unq (c :: (l.flatMap quo1)) = _
      unfold unq
      rw [if_neg (fun h => hc (Or.inr h)), if_neg (fun h1 => h1.elim (fun h1 => hc (Or.inl h1)) (fun h1 => by rw [h.1] at h1; cases h1)), ih h.2]
      rfl

theorem quote_unq : ∀ (n : Nat) (l t : List Nat), l.length ≤ n → unq l = some t → t.any badQ = false ∧ t.flatMap quo1 = l ∧ unmark l = t
  | _, [], t, _, h => by
    unfold unq at h
    obtain rfl := Option.some.inj h
    exact ⟨rfl, rfl, rfl⟩
  | 0, x :: l, t, hn, h => by simp at hn
  | n + 1, x :: l, t, hn, h => by
    unfold unq at h
    by_cases hx : x = 92
    · subst hx
      rw [if_pos rfl] at h
      cases l with
      | nil => cases h
      | cons y r =>
        simp only at h
        by_cases hy : y = 34 ∨ y = 92
        · rw [if_pos hy, Option.map_eq_some_iff] at h
          obtain ⟨t', ht', rfl⟩ := h
          obtain ⟨h1, h2, h3⟩ := quote_unq n r t' (by simp at hn; omega) ht'
          refine ⟨?_, ?_, ?_⟩
          · rw [List.any_cons, h1, Bool.or_false]
            rcases hy with rfl | rfl <;> rfl
          · rw [List.flatMap_cons, h2, quo1, if_pos hy]
            rfl
          · unfold unmark
            rw [if_pos rfl]
            simp only [h3]
        · rw [if_neg hy] at h
          cases h
    · rw [if_neg hx] at h
      by_cases hb : x = 34 ∨ badQ x = true
      · rw [if_pos hb] at h
        cases h
      · rw [if_neg hb, Option.map_eq_some_iff] at h
        obtain ⟨t', ht', rfl⟩ := h
        obtain ⟨h1, h2, h3⟩ := quote_unq n l t' (by simp at hn; omega) ht'
        have hb1 : ¬ x = 34 := fun h => hb (Or.inl h)
        have hb2 : badQ x = false := by
          cases hq : badQ x with
          | false => rfl
          | true => exact absurd (Or.inr hq) hb
        refine ⟨?_, ?_, ?_⟩
        · rw [List.any_cons, h1, hb2]; rfl
        · rw [List.flatMap_cons, h2, quo1, if_neg (fun h => h.elim hb1 hx)]
          rfl
        · unfold unmark
          rw [if_neg hx, h3]

def unquoteL (rs : List Nat) : Option (List Nat) :=
  if rs.length < 2 ∨ rs.head? ≠ some 34 ∨ rs.getLast? ≠ some 34 then none else unq (rs.tail.dropLast)

theorem split2 {rs : List Nat} (h : 2 ≤ rs.length) (h1 : rs.head? = some 34) (h2 : rs.getLast? = some 34) : rs = 34 :: (rs.tail.dropLast ++ [34]) := by
  cases rs with
  | nil => simp at h
  | cons x l =>
    simp only [List.head?_cons, Option.some.injEq] at h1
    subst h1
    cases l with
    | nil => simp at h
    | cons y r =>
      rw [List.getLast?_cons_cons] at h2
      have hne : (y :: r) ≠ [] := by simp
      rw [List.getLast?_eq_some_getLast hne, Option.some.injEq] at h2
      have := List.dropLast_concat_getLast hne
      rw [h2] at this
      rw [List.tail_cons, this]

/-- Unquote is Quote's other way: as the reference says it. -/
theorem unquoteL_iff (rs : List Nat) (t : List Nat) : unquoteL rs = some t ↔ 2 ≤ rs.length ∧ quoteL t = some rs := by
  unfold unquoteL
  constructor
  · intro h
    by_cases hc : rs.length < 2 ∨ rs.head? ≠ some 34 ∨ rs.getLast? ≠ some 34
    · rw [if_pos hc] at h; cases h
    · rw [if_neg hc] at h
      have h2 : 2 ≤ rs.length := Nat.le_of_not_lt fun h => hc (Or.inl h)
      have hh : rs.head? = some 34 := Classical.byContradiction fun h => hc (Or.inr (Or.inl h))
      have hg : rs.getLast? = some 34 := Classical.byContradiction fun h => hc (Or.inr (Or.inr h))
      obtain ⟨a1, a2, a3⟩ := quote_unq _ _ _ (Nat.le_refl _) h
      refine ⟨h2, ?_⟩
      unfold quoteL
      rw [if_neg (by rw [a1]; decide), a2]
      rw [← split2 h2 hh hg]
  · rintro ⟨h2, hq⟩
    unfold quoteL at hq
    by_cases hb : t.any badQ = true
    · rw [if_pos hb] at hq; cases hq
    · rw [if_neg hb] at hq
      obtain rfl := Option.some.inj hq
      have hb' : t.any badQ = false := by simpa using hb
      rw [if_neg]
      · rw [List.tail_cons, List.dropLast_concat]
        exact unq_quote t hb'
      · rintro (h | h | h)
        · simp at h; omega
        · exact h rfl
        · apply h
          rw [← List.cons_append, List.getLast?_concat]

theorem unquote_quote {rs q : List Nat} (h : quoteL rs = some q) : unquoteL q = some rs := by
  rw [unquoteL_iff]
  refine ⟨?_, h⟩
  unfold quoteL at h
  split at h
  · cases h
  · obtain rfl := Option.some.inj h
    simp

/-- The reference's way: without the marks, quoted again, the same? -/
theorem unquoteL_ref (rs : List Nat) (h : 2 ≤ rs.length) :
    unquoteL rs = if quoteL (unmark rs.tail.dropLast) = some rs then some (unmark rs.tail.dropLast) else none := by
  by_cases hq : quoteL (unmark rs.tail.dropLast) = some rs
  · rw [if_pos hq, unquoteL_iff]
    exact ⟨h, hq⟩
  · rw [if_neg hq]
    cases hu : unquoteL rs with
    | none => rfl
    | some t =>
      exfalso
      have h2 := (unquoteL_iff rs t).1 hu
      apply hq
      have : unmark rs.tail.dropLast = t := by
        unfold unquoteL at hu
        split at hu
        · cases hu
        · exact (quote_unq _ _ _ (Nat.le_refl _) hu).2.2
      rw [this]
      exact h2.2
/-! ### Words that stand by themselves -/
def IsWord (w : List Nat) : Prop := ∃ m, (m = .bare ∨ m = .shut) ∧ ∀ out, wsRun ⟨out, [], .gap⟩ w = some ⟨out, w, m⟩

theorem run_quo (rs : List Nat) : ∀ (out : List (List Nat)) (cur : List Nat), wsRun ⟨out, cur, .quo⟩ (rs.flatMap quo1) = some ⟨out, cur ++ rs.flatMap quo1, .quo⟩ := by
  induction rs with
  | nil => intro out cur; simp [wsRun]
  | cons c l ih =>
    intro out cur
    rw [List.flatMap_cons, wsRun_append]
    have : wsRun ⟨out, cur, .quo⟩ (quo1 c) = some ⟨out, cur ++ quo1 c, .quo⟩ := by
      unfold quo1
      by_cases hc : c = 34 ∨ c = 92
      · rw [if_pos hc]
        simp [wsRun, WS.step, WM.step]
      · rw [if_neg hc]
        have h1 : ¬ c = 34 := fun h => hc (Or.inl h)
        have h2 : ¬ c = 92 := fun h => hc (Or.inr h)
        simp [wsRun, WS.step, WM.step, h1, h2]
    rw [this]
    show wsRun _ _ = _
    rw [ih, List.append_assoc]

theorem word_quote {rs q : List Nat} (h : quoteL rs = some q) : IsWord q := by
  unfold quoteL at h
  split at h
  · cases h
  · obtain rfl := Option.some.inj h
    refine ⟨.shut, Or.inr rfl, fun out => ?_⟩
    have e : wsRun ⟨out, [], .gap⟩ (34 :: (rs.flatMap quo1 ++ [34])) = wsRun ⟨out, [34], .quo⟩ (rs.flatMap quo1 ++ [34]) := by
      simp [wsRun, WS.step, WM.step]
    rw [e, wsRun_append, run_quo]
    simp [wsRun, WS.step, WM.step]

theorem run_bare : ∀ (w : List Nat) (out : List (List Nat)) (cur : List Nat), (∀ c ∈ w, c ≠ 32 ∧ c ≠ 34) → wsRun ⟨out, cur, .bare⟩ w = some ⟨out, cur ++ w, .bare⟩
  | [], out, cur, _ => by simp [wsRun]
  | c :: l, out, cur, h => by
    obtain ⟨h1, h2⟩ := h c (List.mem_cons_self ..)
    have := run_bare l out (cur ++ [c]) (fun x hx => h x (List.mem_cons_of_mem _ hx))
    simp only [wsRun, WS.step, WM.step, h1, h2, if_false, Option.bind_some]
    rw [this, List.append_assoc]
    rfl

theorem word_bare {w : List Nat} (hne : w ≠ []) (h : ∀ c ∈ w, c ≠ 32 ∧ c ≠ 34) : IsWord w := by
  refine ⟨.bare, Or.inl rfl, fun out => ?_⟩
  cases w with
  | nil => exact absurd rfl hne
  | cons c l =>
    obtain ⟨h1, h2⟩ := h c (List.mem_cons_self ..)
    have := run_bare l out [c] (fun x hx => h x (List.mem_cons_of_mem _ hx))
    simp only [wsRun, WS.step, WM.step, h1, h2, if_false, Option.bind_some, List.nil_append]
    rw [this]
    rfl

theorem run_blanks (out : List (List Nat)) : ∀ n, wsRun ⟨out, [], .gap⟩ (List.replicate n 32) = some ⟨out, [], .gap⟩
  | 0 => rfl
  | n + 1 => by
    rw [List.replicate_succ]
    show (WS.step _ 32).bind _ = _
    simp only [WS.step, WM.step, if_true, Option.bind_some]
    exact run_blanks out n

/-- Blanks (one at least) behind a word, or in a gap: the gap. -/
theorem run_word_blank {w : List Nat} (hw : IsWord w) (out : List (List Nat)) : wsRun ⟨out, [], .gap⟩ (w ++ [32]) = some ⟨out ++ [w], [], .gap⟩ := by
  obtain ⟨m, hm, h⟩ := hw
  rw [wsRun_append, h]
  rcases hm with rfl | rfl <;> simp [wsRun, WS.step, WM.step]

theorem words_one {w : List Nat} (hw : IsWord w) : wordsL w = some [w] := by
  obtain ⟨m, hm, h⟩ := hw
  unfold wordsL
  rw [show wsRun ws0 w = _ from h []]
  rcases hm with rfl | rfl <;> rfl
end Go.Proofs.YtjhmehmmpfnnkaaDoor
