/-
  The values of package api's errors: what the listed variables give; errors.Is between two of them.
  Plain: a line's words, a text in quotes, as lists of runes' numbers. No program in sight.
  Plain: a word's number and a number's word, as lists of runes' numbers. No program in sight.
  What the Lines walks share: the errors that package lines gives, by their numbers.
  Plain: Unquote's reader, rune by rune.
  Blocks that are known whole, and frames: which blocks may have turned.
-/
import Derived.Test.YtjhmehmmpfnnkaaDoorM02
import Derived.LaidEql
import Derived.Stop.Asserts
import Derived.RowKitTokens
import Derived.LaidLaws
import Derived.Test.YtjhmehmmpfnnkaaDoorM01
namespace Go.Proofs.YtjhmehmmpfnnkaaDoor
open Go.RowKit Go.Extern.Stop Go.Stop Go.Extern Go.ChangeShapes
set_option maxRecDepth 100000
set_option linter.unusedSimpArgs false
set_option linter.unusedVariables false

/-- The variables' blocks, in the order of the numbers of errors. -/
def errG (i : Nat) : Nat := [2, 3, 4, 1, 5, 0, 6, 7, 8, 9, 10, 11, 12, 13, 14, 15, 16, 17, 18].getD i 0

/-- Error number i + 1, a pointer to an errorString. -/
def errV (ea : Nat → Addr) (i : Nat) : Value := .iface 163 (.pointer (some (ea i)))

/-- What the listed variables give: each holds a pointer of its own. -/
structure ErrsAt (W : World) (ea : Nat → Addr) : Prop where
  cell : ∀ i, i < 19 → W.cell? ⟨errG i, 0, none⟩ = some (errV ea i)
  block : ∀ i, i < 19 → ∃ c t, W.heap[(ea i).block]? = some (.cells c t (0, 0))
  apart : ∀ i j, i < 19 → j < 19 → i ≠ j → ea i ≠ ea j

theorem ErrsAt.below {W W' : World} {ea : Nat → Addr} (h : ErrsAt W ea) (hb : Below W.heap.size W W') : ErrsAt W' ea :=
  ⟨fun i hi => (hb.cell (World.block_lt_of_cell? W _ (h.cell i hi))).trans (h.cell i hi),
   fun i hi => by obtain ⟨c, t, hc⟩ := h.block i hi; exact ⟨c, t, (hb.block _ (Array.getElem?_eq_some_iff.1 hc).1).trans hc⟩, h.apart⟩

/-! ### errors.Is -/
theorem Tryd.isTypeOf (v : Value) (w : World) : (Extern.ReflectliteType.typeOf #[.iface 163 v]).run Tryd.prog w = .ok (.iface 135 (.agg #[.pointer (some ⟨22, 163, none⟩)])) w := by kernel_rfl
def cmpM : Array Value → Sem Value := Extern.ReflectliteType.method fun t => do Extern.Rtype.noPackHeld "Comparable" t; pure (.bool (← typeInfo t).comparable)
theorem Tryd.isComparable (w : World) : (cmpM #[.agg #[.pointer (some ⟨22, 163, none⟩)]]).run Tryd.prog w = .ok (.bool true) w := by kernel_rfl
theorem Tryd.isMethodComparable (v : Value) (w : World) : (Go.method 296 135 v "Comparable").run Tryd.prog w = .ok (107, v) w := by kernel_rfl
theorem Tryd.isComp : (Tryd.prog.info? 163).map (·.comparable) = some true := by kernel_rfl
theorem Tryd.isSize : (Tryd.prog.info? 185).map (·.size) = some 1 := by kernel_rfl
theorem Tryd.noIsE (v : Value) (xT : TypeId) (w : World) : (Instr.typeAssert (.iface 163 v) xT 137 true).run Tryd.prog w = .ok (.tuple #[.nilIface, .bool false]) w := run_typeAssert_lacksB Tryd.underlying137 (by kernel_rfl) (by kernel_rfl) v xT w
theorem Tryd.noUnwrapE (v : Value) (xT : TypeId) (w : World) : (Instr.typeAssert (.iface 163 v) xT 140 true).run Tryd.prog w = .ok (.tuple #[.nilIface, .bool false]) w := run_typeAssert_lacksB Tryd.underlying140 (by kernel_rfl) (by kernel_rfl) v xT w
theorem Tryd.noUnwrapsE (v : Value) (xT : TypeId) (w : World) : (Instr.typeAssert (.iface 163 v) xT 142 true).run Tryd.prog w = .ok (.tuple #[.nilIface, .bool false]) w := run_typeAssert_lacksB Tryd.underlying142 (by kernel_rfl) (by kernel_rfl) v xT w

set_option maxHeartbeats 1000000 in
/-- errors.Is(x, x). -/
theorem is_same (a : Addr) (w : World) :
    Calls Tryd.prog 33 #[.iface 163 (.pointer (some a)), .iface 163 (.pointer (some a))] w fun e w' => e = .returned (.bool true) ∧ w' = w := by
  obtain ⟨i, hi, hcmp⟩ := Option.map_eq_some_iff.1 Tryd.isComp
  obtain ⟨j, hj, hjs⟩ := Option.map_eq_some_iff.1 Tryd.isSize
  have h8 := @run_callFunc_extern Tryd.prog 56 _ Extern.ReflectliteType.typeOf Tryd.func56 (by kernel_rfl) (by kernel_rfl) (by kernel_rfl) (by kernel_rfl)
  have h32 := @run_callFunc_extern Tryd.prog 107 _ cmpM Tryd.func107 (by kernel_rfl) (by kernel_rfl) (by kernel_rfl) (by kernel_rfl)
  have tT := Tryd.isTypeOf
  have cT := Tryd.isComparable
  have mR := Tryd.isMethodComparable
  have heq := run_eql_iface_ptr_same (P := Tryd.prog) w a Tryd.underlying26 Tryd.underlying163 hi hcmp hj
  go_enter Tryd.func33, Tryd.ntmps33
  go_wp2
  refine wp_loop_rounds 1 ?_
  rw [rounds_succ]
  go_wp2
  go_ret
  exact ⟨rfl, rfl⟩

set_option maxHeartbeats 1000000 in
/-- errors.Is(nil, x). -/
theorem is_nil (b : Addr) (w : World) :
    Calls Tryd.prog 33 #[.nilIface, .iface 163 (.pointer (some b))] w fun e w' => e = .returned (.bool false) ∧ w' = w := by
  have hn := run_eql_iface_nil_left (P := Tryd.prog) w 163 (.pointer (some b)) Tryd.underlying26
  go_enter Tryd.func33, Tryd.ntmps33
  go_wp2
  go_ret
  exact ⟨rfl, rfl⟩

set_option maxHeartbeats 1000000 in
/-- errors.Is(x, y), two different ones. -/
theorem is_other (a b : Addr) (ca cb : Array Value) (ta tb : TypeId) (w : World) (hne : a ≠ b) (ha : w.heap[a.block]? = some (.cells ca ta (0, 0))) (hb : w.heap[b.block]? = some (.cells cb tb (0, 0))) :
    Calls Tryd.prog 33 #[.iface 163 (.pointer (some a)), .iface 163 (.pointer (some b))] w fun e w' => e = .returned (.bool false) ∧ w' = w := by
  obtain ⟨i, hi, hcmp⟩ := Option.map_eq_some_iff.1 Tryd.isComp
  obtain ⟨j, hj, hjs⟩ := Option.map_eq_some_iff.1 Tryd.isSize
  have h8 := @run_callFunc_extern Tryd.prog 56 _ Extern.ReflectliteType.typeOf Tryd.func56 (by kernel_rfl) (by kernel_rfl) (by kernel_rfl) (by kernel_rfl)
  have h32 := @run_callFunc_extern Tryd.prog 107 _ cmpM Tryd.func107 (by kernel_rfl) (by kernel_rfl) (by kernel_rfl) (by kernel_rfl)
  have tT := Tryd.isTypeOf
  have cT := Tryd.isComparable
  have mR := Tryd.isMethodComparable
  have nE := Tryd.noIsE
  have uE := Tryd.noUnwrapE
  have vE := Tryd.noUnwrapsE
  have heq := run_eql_iface_ptr_other (P := Tryd.prog) w Tryd.underlying26 Tryd.underlying163 hi hcmp hj (by rw [hjs]; decide) hne ha hb
  go_enter Tryd.func33, Tryd.ntmps33
  go_wp2
  refine wp_loop_rounds 1 ?_
  rw [rounds_succ]
  go_wp2
  go_ret
  exact ⟨rfl, rfl⟩
end Go.Proofs.YtjhmehmmpfnnkaaDoor

namespace Go.Proofs.YtjhmehmmpfnnkaaDoor
set_option linter.unusedSimpArgs false
set_option linter.unusedVariables false

/-- Where the reader of a line stands: between words, in a bare word, in quotes, behind the mark, behind the quotes. -/
inductive WM | gap | bare | quo | esc | shut
deriving DecidableEq

def WM.step : WM → Nat → Option WM
  | .gap, x => some (if x = 32 then .gap else if x = 34 then .quo else .bare)
  | .bare, x => if x = 32 then some .gap else if x = 34 then none else some .bare
  | .quo, x => some (if x = 92 then .esc else if x = 34 then .shut else .quo)
  | .esc, _ => some .quo
  | .shut, x => if x = 32 then some .gap else none

structure WS where
  out : List (List Nat)
  cur : List Nat
  m : WM

def WS.step (s : WS) (x : Nat) : Option WS :=
  match s.m, s.m.step x with
  | _, none => none
  | .gap, some .gap => some s
  | _, some .gap => some ⟨s.out ++ [s.cur], [], .gap⟩
  | _, some n => some ⟨s.out, s.cur ++ [x], n⟩

def wsRun : WS → List Nat → Option WS
  | s, [] => some s
  | s, x :: l => (s.step x).bind fun t => wsRun t l

def WS.fin (s : WS) : Option (List (List Nat)) :=
  match s.m with
  | .gap => some s.out
  | .bare | .shut => some (s.out ++ [s.cur])
  | .quo | .esc => none

def ws0 : WS := ⟨[], [], .gap⟩
def wordsL (rs : List Nat) : Option (List (List Nat)) := (wsRun ws0 rs).bind WS.fin

theorem wsRun_append (s : WS) : ∀ (l r : List Nat), wsRun s (l ++ r) = (wsRun s l).bind fun t => wsRun t r := by
  intro l
  induction l generalizing s with
  | nil => intro r; rfl
  | cons x l ih =>
    intro r
    show (s.step x).bind (fun t => wsRun t (l ++ r)) = ((s.step x).bind fun t => wsRun t l).bind _
    cases s.step x with
    | none => rfl
    | some t => exact ih t r

theorem wsRun_take {rs : List Nat} {k : Nat} (hk : k < rs.length) {s : WS} (h : wsRun ws0 (rs.take k) = some s) :
    wsRun ws0 (rs.take (k + 1)) = s.step rs[k] := by
  rw [List.take_succ_eq_append_getElem hk, wsRun_append, h]
  show (s.step rs[k]).bind (fun t => some t) = _
  cases s.step rs[k] <;> rfl

theorem wordsL_stop {rs : List Nat} {k : Nat} (hk : k < rs.length) {s : WS} (h : wsRun ws0 (rs.take k) = some s) (hs : s.step rs[k] = none) : wordsL rs = none := by
  unfold wordsL
  have e : rs = rs.take (k + 1) ++ rs.drop (k + 1) := (List.take_append_drop _ _).symm
  have h2 := wsRun_take hk h
  rw [hs] at h2
  rw [e, wsRun_append, h2]
  rfl

theorem wordsL_end {rs : List Nat} {s : WS} (h : wsRun ws0 rs = some s) : wordsL rs = s.fin := by
  unfold wordsL
  rw [h]
  rfl

/-! ### A text in quotes -/
def badQ (c : Nat) : Bool := decide (c < 32) || decide (c = 127)
def quo1 (c : Nat) : List Nat := if c = 34 ∨ c = 92 then [92, c] else [c]
def quoteL (rs : List Nat) : Option (List Nat) := if rs.any badQ then none else some (34 :: (rs.flatMap quo1 ++ [34]))

/-- What stands between the quotes, without the marks. -/
def unmark : List Nat → List Nat
  | [] => []
  | x :: l => if x = 92 then match l with
    | [] => []
    | y :: r => y :: unmark r
    else x :: unmark l

def unq : List Nat → Option (List Nat)
  | [] => some []
  | x :: l =>
    if x = 92 then match l with
      | [] => none
      | y :: r => if y = 34 ∨ y = 92 then (unq r).map (y :: ·) else none
    else if x = 34 ∨ badQ x = true then none else (unq l).map (x :: ·)

theorem unq_quote (rs : List Nat) (h : rs.any badQ = false) : unq (rs.flatMap quo1) = some rs := by
  induction rs with
  | nil => rfl
  | cons c l ih =>
    rw [List.any_cons, Bool.or_eq_false_iff] at h
    rw [List.flatMap_cons]
    unfold quo1
    by_cases hc : c = 34 ∨ c = 92
    · rw [if_pos hc]
      show unq (92 :: c :: (l.flatMap quo1)) = _
      unfold unq
      rw [if_pos rfl]
      show (if c = 34 ∨ c = 92 then _ else _) = _
      rw [if_pos hc, ih h.2]
      rfl
    · rw [if_neg hc]
      show unq (c :: (l.flatMap quo1)) = _
      unfold unq
      rw [if_neg (fun h => hc (Or.inr h)), if_neg (fun h1 => h1.elim (fun h1 => hc (Or.inl h1)) (fun h1 => by rw [h.1] at h1; cases h1)), ih h.2]
      rfl

theorem quote_unq : ∀ (n : Nat) (l t : List Nat), l.length ≤ n → unq l = some t → t.any badQ = false ∧ t.flatMap quo1 = l ∧ unmark l = t
  | _, [], t, _, h => by
    unfold unq at h
    obtain rfl := Option.some.inj h
    exact ⟨rfl, rfl, rfl⟩
  | 0, x :: l, t, hn, h => by simp at hn
  | n + 1, x :: l, t, hn, h => by
    unfold unq at h
    by_cases hx : x = 92
    · subst hx
      rw [if_pos rfl] at h
      cases l with
      | nil => cases h
      | cons y r =>
        simp only at h
        by_cases hy : y = 34 ∨ y = 92
        · rw [if_pos hy, Option.map_eq_some_iff] at h
          obtain ⟨t', ht', rfl⟩ := h
          obtain ⟨h1, h2, h3⟩ := quote_unq n r t' (by simp at hn; omega) ht'
          refine ⟨?_, ?_, ?_⟩
          · rw [List.any_cons, h1, Bool.or_false]
            rcases hy with rfl | rfl <;> rfl
          · rw [List.flatMap_cons, h2, quo1, if_pos hy]
            rfl
          · unfold unmark
            rw [if_pos rfl]
            simp only [h3]
        · rw [if_neg hy] at h
          cases h
    · rw [if_neg hx] at h
      by_cases hb : x = 34 ∨ badQ x = true
      · rw [if_pos hb] at h
        cases h
      · rw [if_neg hb, Option.map_eq_some_iff] at h
        obtain ⟨t', ht', rfl⟩ := h
        obtain ⟨h1, h2, h3⟩ := quote_unq n l t' (by simp at hn; omega) ht'
        have hb1 : ¬ x = 34 := fun h => hb (Or.inl h)
        have hb2 : badQ x = false := by
          cases hq : badQ x with
          | false => rfl
          | true => exact absurd (Or.inr hq) hb
        refine ⟨?_, ?_, ?_⟩
        · rw [List.any_cons, h1, hb2]; rfl
        · rw [List.flatMap_cons, h2, quo1, if_neg (fun h => h.elim hb1 hx)]
          rfl
        · unfold unmark
          rw [if_neg hx, h3]

def unquoteL (rs : List Nat) : Option (List Nat) :=
  if rs.length < 2 ∨ rs.head? ≠ some 34 ∨ rs.getLast? ≠ some 34 then none else unq (rs.tail.dropLast)

theorem split2 {rs : List Nat} (h : 2 ≤ rs.length) (h1 : rs.head? = some 34) (h2 : rs.getLast? = some 34) : rs = 34 :: (rs.tail.dropLast ++ [34]) := by
  cases rs with
  | nil => simp at h
  | cons x l =>
    simp only [List.head?_cons, Option.some.injEq] at h1
    subst h1
    cases l with
    | nil => simp at h
    | cons y r =>
      rw [List.getLast?_cons_cons] at h2
      have hne : (y :: r) ≠ [] := by simp
      rw [List.getLast?_eq_some_getLast hne, Option.some.injEq] at h2
      have := List.dropLast_concat_getLast hne
      rw [h2] at this
      rw [List.tail_cons, this]

/-- Unquote is Quote's other way: as the reference says it. -/
theorem unquoteL_iff (rs : List Nat) (t : List Nat) : unquoteL rs = some t ↔ 2 ≤ rs.length ∧ quoteL t = some rs := by
  unfold unquoteL
  constructor
  · intro h
    by_cases hc : rs.length < 2 ∨ rs.head? ≠ some 34 ∨ rs.getLast? ≠ some 34
    · rw [if_pos hc] at h; cases h
    · rw [if_neg hc] at h
      have h2 : 2 ≤ rs.length := Nat.le_of_not_lt fun h => hc (Or.inl h)
      have hh : rs.head? = some 34 := Classical.byContradiction fun h => hc (Or.inr (Or.inl h))
      have hg : rs.getLast? = some 34 := Classical.byContradiction fun h => hc (Or.inr (Or.inr h))
      obtain ⟨a1, a2, a3⟩ := quote_unq _ _ _ (Nat.le_refl _) h
      refine ⟨h2, ?_⟩
      unfold quoteL
      rw [if_neg (by rw [a1]; decide), a2]
      rw [← split2 h2 hh hg]
  · rintro ⟨h2, hq⟩
    unfold quoteL at hq
    by_cases hb : t.any badQ = true
    · rw [if_pos hb] at hq; cases hq
    · rw [if_neg hb] at hq
      obtain rfl := Option.some.inj hq
      have hb' : t.any badQ = false := by simpa using hb
      rw [if_neg]
      · rw [List.tail_cons, List.dropLast_concat]
        exact unq_quote t hb'
      · rintro (h | h | h)
        · simp at h; omega
        · exact h rfl
        · apply h
          rw [← List.cons_append, List.getLast?_concat]

theorem unquote_quote {rs q : List Nat} (h : quoteL rs = some q) : unquoteL q = some rs := by
  rw [unquoteL_iff]
  refine ⟨?_, h⟩
  unfold quoteL at h
  split at h
  · cases h
  · obtain rfl := Option.some.inj h
    simp

/-- The reference's way: without the marks, quoted again, the same? -/
theorem unquoteL_ref (rs : List Nat) (h : 2 ≤ rs.length) :
    unquoteL rs = if quoteL (unmark rs.tail.dropLast) = some rs then some (unmark rs.tail.dropLast) else none := by
  by_cases hq : quoteL (unmark rs.tail.dropLast) = some rs
  · rw [if_pos hq, unquoteL_iff]
    exact ⟨h, hq⟩
  · rw [if_neg hq]
    cases hu : unquoteL rs with
    | none => rfl
    | some t =>
      exfalso
      have h2 := (unquoteL_iff rs t).1 hu
      apply hq
      have : unmark rs.tail.dropLast = t := by
        unfold unquoteL at hu
        split at hu
        · cases hu
        · exact (quote_unq _ _ _ (Nat.le_refl _) hu).2.2
      rw [this]
      exact h2.2
/-! ### Words that stand by themselves -/
def IsWord (w : List Nat) : Prop := ∃ m, (m = .bare ∨ m = .shut) ∧ ∀ out, wsRun ⟨out, [], .gap⟩ w = some ⟨out, w, m⟩

theorem run_quo (rs : List Nat) : ∀ (out : List (List Nat)) (cur : List Nat), wsRun ⟨out, cur, .quo⟩ (rs.flatMap quo1) = some ⟨out, cur ++ rs.flatMap quo1, .quo⟩ := by
  induction rs with
  | nil => intro out cur; simp [wsRun]
  | cons c l ih =>
    intro out cur
    rw [List.flatMap_cons, wsRun_append]
    have : wsRun ⟨out, cur, .quo⟩ (quo1 c) = some ⟨out, cur ++ quo1 c, .quo⟩ := by
      unfold quo1
      by_cases hc : c = 34 ∨ c = 92
      · rw [if_pos hc]
        simp [wsRun, WS.step, WM.step]
      · rw [if_neg hc]
        have h1 : ¬ c = 34 := fun h => hc (Or.inl h)
        have h2 : ¬ c = 92 := fun h => hc (Or.inr h)
        simp [wsRun, WS.step, WM.step, h1, h2]
    rw [this]
    show wsRun _ _ = _
    rw [ih, List.append_assoc]

theorem word_quote {rs q : List Nat} (h : quoteL rs = some q) : IsWord q := by
  unfold quoteL at h
  split at h
  · cases h
  · obtain rfl := Option.some.inj h
    refine ⟨.shut, Or.inr rfl, fun out => ?_⟩
    have e : wsRun ⟨out, [], .gap⟩ (34 :: (rs.flatMap quo1 ++ [34])) = wsRun ⟨out, [34], .quo⟩ (rs.flatMap quo1 ++ [34]) := by
      simp [wsRun, WS.step, WM.step]
    rw [e, wsRun_append, run_quo]
    simp [wsRun, WS.step, WM.step]

theorem run_bare : ∀ (w : List Nat) (out : List (List Nat)) (cur : List Nat), (∀ c ∈ w, c ≠ 32 ∧ c ≠ 34) → wsRun ⟨out, cur, .bare⟩ w = some ⟨out, cur ++ w, .bare⟩
  | [], out, cur, _ => by simp [wsRun]
  | c :: l, out, cur, h => by
    obtain ⟨h1, h2⟩ := h c (List.mem_cons_self ..)
    have := run_bare l out (cur ++ [c]) (fun x hx => h x (List.mem_cons_of_mem _ hx))
    simp only [wsRun, WS.step, WM.step, h1, h2, if_false, Option.bind_some]
    rw [this, List.append_assoc]
    rfl

theorem word_bare {w : List Nat} (hne : w ≠ []) (h : ∀ c ∈ w, c ≠ 32 ∧ c ≠ 34) : IsWord w := by
  refine ⟨.bare, Or.inl rfl, fun out => ?_⟩
  cases w with
  | nil => exact absurd rfl hne
  | cons c l =>
    obtain ⟨h1, h2⟩ := h c (List.mem_cons_self ..)
    have := run_bare l out [c] (fun x hx => h x (List.mem_cons_of_mem _ hx))
    simp only [wsRun, WS.step, WM.step, h1, h2, if_false, Option.bind_some, List.nil_append]
    rw [this]
    rfl

theorem run_blanks (out : List (List Nat)) : ∀ n, wsRun ⟨out, [], .gap⟩ (List.replicate n 32) = some ⟨out, [], .gap⟩
  | 0 => rfl
  | n + 1 => by
    rw [List.replicate_succ]
    show (WS.step _ 32).bind _ = _
    simp only [WS.step, WM.step, if_true, Option.bind_some]
    exact run_blanks out n

/-- Blanks (one at least) behind a word, or in a gap: the gap. -/
theorem run_word_blank {w : List Nat} (hw : IsWord w) (out : List (List Nat)) : wsRun ⟨out, [], .gap⟩ (w ++ [32]) = some ⟨out ++ [w], [], .gap⟩ := by
  obtain ⟨m, hm, h⟩ := hw
  rw [wsRun_append, h]
  rcases hm with rfl | rfl <;> simp [wsRun, WS.step, WM.step]

theorem words_one {w : List Nat} (hw : IsWord w) : wordsL w = some [w] := by
  obtain ⟨m, hm, h⟩ := hw
  unfold wordsL
  rw [show wsRun ws0 w = _ from h []]
  rcases hm with rfl | rfl <;> rfl
end Go.Proofs.YtjhmehmmpfnnkaaDoor

namespace Go.Proofs.YtjhmehmmpfnnkaaDoor
set_option linter.unusedSimpArgs false
set_option linter.unusedVariables false

def isDig (c : Nat) : Bool := decide (48 ≤ c) && decide (c ≤ 57)
def valOf (ds : List Nat) : Nat := ds.foldl (fun n c => 10 * n + (c - 48)) 0
def numN (minus : Bool) (r : List Nat) : Option Int :=
  if r = [] ∨ 9 < r.length ∨ r.any (fun c => !isDig c) = true ∨ (r.head? = some 48 ∧ (1 < r.length ∨ minus = true)) then none
  else some (if minus then -(valOf r : Int) else valOf r)
def numL (rs : List Nat) : Option Int := if rs.head? = some 45 then numN true rs.tail else numN false rs

def digs (n : Nat) : List Nat := if h : n < 10 then [48 + n] else digs (n / 10) ++ [48 + n % 10]
termination_by n
decreasing_by omega
def decL (n : Int) : Option (List Nat) := if 999999999 < n.natAbs then none else some ((if n < 0 then [45] else []) ++ digs n.natAbs)

theorem valOf_concat (l : List Nat) (c : Nat) : valOf (l ++ [c]) = 10 * valOf l + (c - 48) := by
  unfold valOf
  rw [List.foldl_append]
  rfl

theorem digs_ne (n : Nat) : digs n ≠ [] := by
  unfold digs; split <;> simp
theorem digs_val (n : Nat) : valOf (digs n) = n := by
  induction n using Nat.strongRecOn with
  | _ n ih =>
    unfold digs
    split
    · simp [valOf]
    · rw [valOf_concat, ih (n / 10) (by omega)]
      omega
theorem digs_all (n : Nat) : ∀ c ∈ digs n, 48 ≤ c ∧ c ≤ 57 := by
  induction n using Nat.strongRecOn with
  | _ n ih =>
    unfold digs
    split
    · intro c hc
      simp only [List.mem_singleton] at hc
      omega
    · intro c hc
      rw [List.mem_append] at hc
      rcases hc with hc | hc
      · exact ih (n / 10) (by omega) c hc
      · simp only [List.mem_singleton] at hc
        omega
theorem digs_len (n : Nat) : ∀ k, n < 10 ^ (k + 1) → (digs n).length ≤ k + 1 := by
  induction n using Nat.strongRecOn with
  | _ n ih =>
    intro k hk
    unfold digs
    split
    · simp
    · rename_i h10
      rw [List.length_append]
      cases k with
      | zero => simp at hk; omega
      | succ k =>
        have := ih (n / 10) (by omega) k (by rw [Nat.pow_succ] at hk; omega)
        simp only [List.length_singleton]
        omega
theorem digs_head (n : Nat) (hn : 0 < n) : (digs n).head? ≠ some 48 := by
  induction n using Nat.strongRecOn with
  | _ n ih =>
    unfold digs
    split
    · simp; omega
    · rename_i h10
      have := ih (n / 10) (by omega) (by omega)
      have hne := digs_ne (n / 10)
      cases hd : digs (n / 10) with
      | nil => exact absurd hd hne
      | cons a l =>
        rw [hd] at this
        simpa using this
end Go.Proofs.YtjhmehmmpfnnkaaDoor

namespace Go.Proofs.YtjhmehmmpfnnkaaDoor
open Go.RowKit Utf
set_option maxRecDepth 100000
set_option linter.unusedSimpArgs false
set_option linter.unusedVariables false

/-- The listed variables that package lines reads: each holds a pointer to an errorString. -/
def LErr (W : World) (ea : Nat → Addr) : Prop := ∀ i, (i = 1 ∨ i = 3 ∨ i = 5 ∨ i = 6 ∨ i = 15) → W.cell? ⟨errG i, 0, none⟩ = some (errV ea i)

theorem LErr.below {W W' : World} {ea : Nat → Addr} (h : LErr W ea) (hb : Below W.heap.size W W') : LErr W' ea :=
  fun i hi => (hb.cell (World.block_lt_of_cell? W _ (h i hi))).trans (h i hi)

theorem ErrsAt.lerr {W : World} {ea : Nat → Addr} (h : ErrsAt W ea) : LErr W ea := fun i hi => h.cell i (by omega)

section
variable {W : World} {ea : Nat → Addr} (h : LErr W ea)
include h
theorem LErr.short : W.cell? ⟨3, 0, none⟩ = some (.iface 163 (.pointer (some (ea 1)))) := h 1 (by omega)
theorem LErr.form : W.cell? ⟨1, 0, none⟩ = some (.iface 163 (.pointer (some (ea 3)))) := h 3 (by omega)
theorem LErr.rune : W.cell? ⟨0, 0, none⟩ = some (.iface 163 (.pointer (some (ea 5)))) := h 5 (by omega)
theorem LErr.name : W.cell? ⟨6, 0, none⟩ = some (.iface 163 (.pointer (some (ea 6)))) := h 6 (by omega)
theorem LErr.none : W.cell? ⟨15, 0, none⟩ = some (.iface 163 (.pointer (some (ea 15)))) := h 15 (by omega)
end

/-- An error by its number; nil of 0. -/
def errOf (ea : Nat → Addr) (n : Nat) : Value := if n = 0 then .nilIface else errV ea (n - 1)
theorem errOf_zero (ea : Nat → Addr) : errOf ea 0 = .nilIface := rfl
theorem errOf_succ (ea : Nat → Addr) (n : Nat) : errOf ea (n + 1) = .iface 163 (.pointer (some (ea n))) := rfl

/-- The iterator's block and a row of cells are two blocks. -/
theorem OwnE.iter_ne {w : World} {B : Nat} {e : TypeId} {size : Nat} {v : Value} {n : Nat} {xs : List Value} (h : OwnE w B e size v n xs) {b : Nat} {s : ByteArray} {p : Nat} (hb : w.heap[b]? = some (.stringIter s p)) : ownB v ≠ some b := by
  intro hk
  rcases h with ⟨h, _, _⟩ | h
  · rcases h with rfl | ⟨g', rfl⟩ <;> cases hk
  · rcases h.2 with ⟨rfl, _⟩ | ⟨g, cap, cur, rfl, _, hg, _⟩
    · cases hk
    · simp only [ownB] at hk
      split at hk
      · cases hk
      · have : g = b := by simpa using hk
        subst this
        rw [hg] at hb
        cases hb

theorem OwnE.iterAt' {w : World} {B : Nat} {e : TypeId} {size : Nat} {v : Value} {n : Nat} {xs : List Value} (h : OwnE w B e size v n xs) {b : Nat} {s : ByteArray} {p : Nat} (hb : w.heap[b]? = some (.stringIter s p)) (p' : Nat) : OwnE (w.iterAt b s p') B e size v n xs := by
  rcases h with h | h
  · exact .inl h
  · refine .inr ⟨h.1, ?_⟩
    rcases h.2 with h2 | ⟨g, cap, cur, hv, hB, hg, r⟩
    · exact .inl h2
    · refine .inr ⟨g, cap, cur, hv, hB, ?_, r⟩
      rw [Lib.iterAt_other _ _ _ _ _ (fun e => by subst e; rw [hg] at hb; cases hb)]
      exact hg

/-- The iterator's block behind an append to a row of the call's own. -/
theorem iter_grownE {w w' : World} {B : Nat} {e : TypeId} {size : Nat} {v : Value} {n : Nat} {xs : List Value} (h : OwnE w B e size v n xs) {e' : TypeId} {us : Array Value} {b : Nat} {s : ByteArray} {p : Nat} (hg : (w.alloc (.cells us e')).grownBy w' (ownB v)) (hb : w.heap[b]? = some (.stringIter s p)) : w'.heap[b]? = some (.stringIter s p) := by
  have hlt : b < w.heap.size := (Array.getElem?_eq_some_iff.1 hb).1
  rw [hg.block b (by simp; omega) (fun e => h.iter_ne hb e.symm), Below.heap_alloc w _ b hlt]
  exact hb

theorem off_pos_lt {s : ByteArray} {rs : List Nat} (h : s.data.toList = encAll rs) (k : Nat) (hk : k < rs.length) : s.size - off rs (k + 1) < s.size - off rs k := by
  have h1 := off_succ rs k hk
  have h2 := off_lt h k hk
  have h3 := enc_length rs[k]
  omega
end Go.Proofs.YtjhmehmmpfnnkaaDoor

namespace Go.Proofs.YtjhmehmmpfnnkaaDoor
open Go.RowKit Utf
set_option linter.unusedSimpArgs false
set_option linter.unusedVariables false

/-- One rune of what stands between the quotes: is a mark open? what has been read. -/
def uqStep (st : Bool × List Nat) (x : Nat) : Option (Bool × List Nat) :=
  if st.1 = true then (if x = 34 ∨ x = 92 then some (false, st.2 ++ [x]) else none)
  else if x = 34 ∨ badQ x = true then none else if x = 92 then some (true, st.2) else some (false, st.2 ++ [x])
def uqRun : Bool × List Nat → List Nat → Option (Bool × List Nat)
  | s, [] => some s
  | s, x :: l => (uqStep s x).bind fun t => uqRun t l
def uqFin : Option (Bool × List Nat) → Option (List Nat)
  | some (false, l) => some l
  | _ => none

theorem uqRun_append (s : Bool × List Nat) : ∀ (l r : List Nat), uqRun s (l ++ r) = (uqRun s l).bind fun t => uqRun t r := by
  intro l
  induction l generalizing s with
  | nil => intro r; rfl
  | cons x l ih =>
    intro r
    show (uqStep s x).bind (fun t => uqRun t (l ++ r)) = ((uqStep s x).bind fun t => uqRun t l).bind _
    cases uqStep s x with
    | none => rfl
    | some t => exact ih t r

theorem uqRun_take {rs : List Nat} {k : Nat} (hk : k < rs.length) {s : Bool × List Nat} (h : uqRun (false, []) (rs.take k) = some s) :
    uqRun (false, []) (rs.take (k + 1)) = uqStep s rs[k] := by
  rw [List.take_succ_eq_append_getElem hk, uqRun_append, h]
  show (uqStep s rs[k]).bind (fun t => some t) = _
  cases uqStep s rs[k] <;> rfl

theorem unq_run : ∀ (n : Nat) (l acc : List Nat), l.length ≤ n → uqFin (uqRun (false, acc) l) = (unq l).map (acc ++ ·)
  | _, [], acc, _ => by simp [uqRun, uqFin, unq]
  | 0, x :: l, acc, hn => by simp at hn
  | n + 1, x :: l, acc, hn => by
    simp only [List.length_cons] at hn
    by_cases hx : x = 92
    · subst hx
      cases l with
      | nil => simp [uqRun, uqStep, uqFin, unq, badQ]
      | cons y r =>
        by_cases hy : y = 34 ∨ y = 92
        · have ih := unq_run n r (acc ++ [y]) (by simp at hn; omega)
          have h1 : uqRun (false, acc) (92 :: y :: r) = uqRun (false, acc ++ [y]) r := by
            simp [uqRun, uqStep, hy, badQ]
          have h2 : unq (92 :: y :: r) = (unq r).map (y :: ·) := by
            conv => lhs; unfold unq
            rw [if_pos rfl]
            show (if y = 34 ∨ y = 92 then _ else _) = _
            rw [if_pos hy]
          rw [h1, ih, h2, Option.map_map]
          congr 1
          funext t
          simp
        · have h1 : uqRun (false, acc) (92 :: y :: r) = none := by
            simp [uqRun, uqStep, hy, badQ]
          have h2 : unq (92 :: y :: r) = none := by
            unfold unq
            rw [if_pos rfl]
            show (if y = 34 ∨ y = 92 then _ else _) = _
            rw [if_neg hy]
          rw [h1, h2]; rfl
    · by_cases hb : x = 34 ∨ badQ x = true
      · have h1 : uqRun (false, acc) (x :: l) = none := by
          simp only [uqRun, uqStep]
          rw [if_neg (by decide), if_pos hb]
          rfl
        have h2 : unq (x :: l) = none := by
          unfold unq
          rw [if_neg hx, if_pos hb]
        rw [h1, h2]; rfl
      · have ih := unq_run n l (acc ++ [x]) (by omega)
        have h1 : uqRun (false, acc) (x :: l) = uqRun (false, acc ++ [x]) l := by
          simp only [uqRun, uqStep]
          rw [if_neg (by decide), if_neg hb, if_neg hx]
          rfl
        have h2 : unq (x :: l) = (unq l).map (x :: ·) := by
          conv => lhs; unfold unq
          rw [if_neg hx, if_neg hb]
        rw [h1, ih, h2, Option.map_map]
        congr 1
        funext t
        simp

theorem unq_end {l : List Nat} {s : Bool × List Nat} (h : uqRun (false, []) l = some s) : unq l = uqFin (some s) := by
  have := unq_run l.length l [] (Nat.le_refl _)
  rw [h] at this
  rw [this]
  cases unq l <;> simp

theorem unq_stop {l : List Nat} {k : Nat} (hk : k < l.length) {s : Bool × List Nat} (h : uqRun (false, []) (l.take k) = some s) (hs : uqStep s l[k] = none) : unq l = none := by
  have h2 := uqRun_take hk h
  rw [hs] at h2
  have := unq_run l.length l [] (Nat.le_refl _)
  have e : l = l.take (k + 1) ++ l.drop (k + 1) := (List.take_append_drop _ _).symm
  have h3 : uqRun (false, []) l = none := by
    rw [e, uqRun_append, h2]
    rfl
  rw [h3] at this
  cases hu : unq l with
  | none => rfl
  | some t => rw [hu] at this; cases this

theorem uqRun_len (s t : Bool × List Nat) : ∀ l, uqRun s l = some t → t.2.length ≤ s.2.length + l.length := by
  intro l
  induction l generalizing s with
  | nil => intro h; cases h; simp
  | cons x l ih =>
    intro h
    simp only [uqRun] at h
    cases hs : uqStep s x with
    | none => rw [hs] at h; cases h
    | some u =>
      rw [hs] at h
      have h1 := ih u h
      have h2 : u.2.length ≤ s.2.length + 1 := by
        unfold uqStep at hs
        repeat' split at hs
        all_goals (cases hs; try simp)
      simp only [List.length_cons]
      omega

theorem text34 {l : List Nat} (ho : allOk l) : ((mkS (encAll l)).toList == [34]) = decide (l = [34]) := by
  have e : encAll [34] = [34] := by decide +kernel
  have ho34 : allOk [34] := by intro c hc; simp at hc; subst hc; decide +kernel
  rw [Lib.toList_data, mkS_data, Bool.eq_iff_iff]
  simp only [beq_iff_eq, decide_eq_true_eq]
  constructor
  · intro h
    rw [← e] at h
    exact encAll_inj ho ho34 h
  · rintro rfl
    exact e

theorem head34 {rs : List Nat} (h : 2 ≤ rs.length) : rs.take 1 = [34] ↔ rs.head? = some 34 := by
  cases rs with
  | nil => simp at h
  | cons x l => simp

theorem last34 {rs : List Nat} (h : 2 ≤ rs.length) : rs.drop (rs.length - 1) = [34] ↔ rs.getLast? = some 34 := by
  have hne : rs ≠ [] := by rintro rfl; simp at h
  rw [List.getLast?_eq_some_getLast hne]
  have e := List.dropLast_concat_getLast hne
  have e2 : rs.drop (rs.length - 1) = [rs.getLast hne] := by
    have h1 : rs.drop (rs.length - 1) = (rs.dropLast ++ [rs.getLast hne]).drop (rs.length - 1) := by rw [e]
    rw [h1, List.drop_append_of_le_length (by simp), List.drop_of_length_le (by simp)]
    rfl
  rw [e2]
  simp

theorem mid_eq (rs : List Nat) (h : 2 ≤ rs.length) : (rs.drop 1).take (rs.length - 2) = rs.tail.dropLast := by
  rw [List.drop_one, List.dropLast_eq_take, List.length_tail, Nat.sub_sub]

theorem unquoteL_bad {rs : List Nat} (h : rs.length < 2 ∨ rs.head? ≠ some 34 ∨ rs.getLast? ≠ some 34) : unquoteL rs = none := by
  unfold unquoteL
  rw [if_pos h]

theorem unquoteL_mid {rs : List Nat} (h : 2 ≤ rs.length) (h1 : rs.head? = some 34) (h2 : rs.getLast? = some 34) : unquoteL rs = unq ((rs.drop 1).take (rs.length - 2)) := by
  unfold unquoteL
  rw [if_neg, mid_eq rs h]
  rintro (h' | h' | h')
  · omega
  · exact h' h1
  · exact h' h2

theorem allOk_take {l : List Nat} (h : allOk l) (n : Nat) : allOk (l.take n) := fun c hc => h c (List.mem_of_mem_take hc)
theorem allOk_drop {l : List Nat} (h : allOk l) (n : Nat) : allOk (l.drop n) := fun c hc => h c (List.mem_of_mem_drop hc)
theorem encAll_len (rs : List Nat) : rs.length ≤ (encAll rs).length := by
  induction rs with
  | nil => simp
  | cons c l ih => rw [encAll_cons, List.length_append]; have := enc_length c; simp only [List.length_cons]; omega
theorem encAll_take_le (rs : List Nat) (n : Nat) : (encAll (rs.take n)).length ≤ (encAll rs).length := by
  conv => rhs; rw [← List.take_append_drop n rs, encAll_append, List.length_append]
  omega
theorem encAll_drop_le (rs : List Nat) (n : Nat) : (encAll (rs.drop n)).length ≤ (encAll rs).length := by
  conv => rhs; rw [← List.take_append_drop n rs, encAll_append, List.length_append]
  omega
end Go.Proofs.YtjhmehmmpfnnkaaDoor

namespace Go.Proofs.YtjhmehmmpfnnkaaDoor
open Go.RowKit Utf
set_option maxRecDepth 100000
set_option linter.unusedSimpArgs false
set_option linter.unusedVariables false

/-- Block g holds just these cells, none frozen. -/
def Blk (w : World) (g : Nat) (t : TypeId) (cs : Array Value) : Prop := w.heap[g]? = some (.cells cs t (0, 0))

section
variable {w w' : World} {g : Nat} {t : TypeId} {cs : Array Value}
theorem Blk.lt (h : Blk w g t cs) : g < w.heap.size := (Array.getElem?_eq_some_iff.1 h).1
theorem Blk.cell (h : Blk w g t cs) (i : Nat) : w.cell? ⟨g, i, none⟩ = cs[i]? := cell_of_row w g i cs t (0, 0) h
theorem Blk.frozen (h : Blk w g t cs) (i : Nat) : w.frozen? ⟨g, i, none⟩ = false := by unfold Blk at h; simp [World.frozen?, h]
theorem Blk.new (w : World) (t : TypeId) (cs : Array Value) : Blk (w.alloc (.cells cs t)) w.heap.size t cs := heap_alloc_new w _
theorem Blk.drewN (h : Blk w g t cs) (n : Nat) : Blk (w.drewN n) g t cs := h
theorem Blk.alloc (h : Blk w g t cs) (o : Obj) : Blk (w.alloc o) g t cs := (Below.heap_alloc w o g h.lt).trans h
theorem Blk.put (h : Blk w g t cs) (i : Nat) (u : Value) : Blk (w.setCell ⟨g, i, none⟩ u) g t (cs.setIfInBounds i u) := by
  unfold Blk at h ⊢
  simp [World.setCell, Array.getElem?_modify, h]
theorem Blk.far (h : Blk w g t cs) {p : Addr} (hp : g ≠ p.block) (u : Value) : Blk (w.setCell p u) g t cs := (Below.heap_setCell w p u g hp).trans h
theorem Blk.below {B : Nat} (h : Blk w g t cs) (hb : Below B w w') (hg : g < B) : Blk w' g t cs := (hb.block g hg).trans h
end

/-- Of the blocks that lay, only those of S may have turned. -/
structure Only (S : Nat → Prop) (w w' : World) : Prop where
  os : w'.os = w.os
  tape : w'.tape = w.tape
  output : w'.output = w.output
  size : w.heap.size ≤ w'.heap.size
  block : ∀ k, k < w.heap.size → ¬ S k → w'.heap[k]? = w.heap[k]?

section
variable {S T : Nat → Prop} {a w w' : World}
theorem Only.refl (S : Nat → Prop) (w : World) : Only S w w := ⟨rfl, rfl, rfl, Nat.le_refl _, fun _ _ _ => rfl⟩
theorem Only.trans (h : Only S a w) (k : Only S w w') : Only S a w' :=
  ⟨k.os.trans h.os, k.tape.trans h.tape, k.output.trans h.output, Nat.le_trans h.size k.size, fun i hi hs => (k.block i (Nat.lt_of_lt_of_le hi h.size) hs).trans (h.block i hi hs)⟩
theorem Only.mono (h : Only S w w') (hs : ∀ k, S k → T k) : Only T w w' := ⟨h.os, h.tape, h.output, h.size, fun k hk ht => h.block k hk (fun s => ht (hs k s))⟩
/-- What is new may turn too. -/
theorem Only.also (h : Only T a w) (hs : ∀ k, T k → S k ∨ a.heap.size ≤ k) : Only S a w := ⟨h.os, h.tape, h.output, h.size, fun k hk ht => h.block k hk (fun s => (hs k s).elim ht (by omega))⟩
theorem Only.drewN (h : Only S a w) (n : Nat) : Only S a (w.drewN n) := ⟨h.os, h.tape, h.output, h.size, h.block⟩
theorem Only.alloc (h : Only S a w) (o : Obj) : Only S a (w.alloc o) :=
  ⟨h.os, h.tape, h.output, Nat.le_trans h.size (by simp), fun k hk hs => (Below.heap_alloc w o k (Nat.lt_of_lt_of_le hk h.size)).trans (h.block k hk hs)⟩
theorem Only.set (h : Only S a w) {p : Addr} (hp : S p.block ∨ a.heap.size ≤ p.block) (u : Value) : Only S a (w.setCell p u) :=
  ⟨h.os, h.tape, h.output, by simpa [World.setCell] using h.size, fun k hk hs => (Below.heap_setCell w p u k (fun e => by
    subst e
    rcases hp with hp | hp
    · exact hs hp
    · omega)).trans (h.block k hk hs)⟩
theorem Only.of_below {B : Nat} (h : Below B w w') (hs : ∀ k, k < w.heap.size → B ≤ k → S k) : Only S w w' :=
  ⟨h.os, h.tape, h.output, h.size, fun k hk hn => h.block k (Nat.lt_of_not_le fun hb => hn (hs k hk hb))⟩
theorem Only.below_all (h : Below w.heap.size w w') : Only S w w' := Only.of_below h (fun k hk hb => by omega)
theorem Only.to_below (h : Only S w w') {B : Nat} (hB : B ≤ w.heap.size) (hs : ∀ k, k < B → ¬ S k) : Below B w w' :=
  ⟨h.os, h.tape, h.output, h.size, fun k hk => h.block k (by omega) (hs k hk)⟩
/-- A step that may turn blocks of its own, some of which are new to the first world. -/
theorem Only.step (h : Only S a w) (k : Only T w w') (hs : ∀ i, T i → S i ∨ a.heap.size ≤ i) : Only S a w' :=
  ⟨k.os.trans h.os, k.tape.trans h.tape, k.output.trans h.output, Nat.le_trans h.size k.size, fun i hi hn => (k.block i (Nat.lt_of_lt_of_le hi h.size) (fun t => (hs i t).elim hn (by omega))).trans (h.block i hi hn)⟩
theorem Only.cell (h : Only S w w') {p : Addr} {v : Value} (hc : w.cell? p = some v) (hs : ¬ S p.block) : w'.cell? p = some v :=
  (World.cell?_of_block (h.block p.block (World.block_lt_of_cell? w p hc) hs)).trans hc
theorem Blk.only {g : Nat} {t : TypeId} {cs : Array Value} (hb : Blk w g t cs) (h : Only S w w') (hs : ¬ S g) : Blk w' g t cs := (h.block g hb.lt hs).trans hb
end

/-- A row of the call's own, kept. -/
theorem own_only {S : Nat → Prop} {w w' : World} {B : Nat} {e : TypeId} {size : Nat} {v : Value} {n : Nat} {xs : List Value} (h : w.ownsRow B e size v n xs) (ho : Only S w w') (hs : ∀ g, v.ownBlock = some g → ¬ S g) : w'.ownsRow B e size v n xs := by
  refine ⟨h.1, ?_⟩
  rcases h.2 with h2 | ⟨g, cap, cur, hv, hB, hg, r⟩
  · exact .inl h2
  · refine .inr ⟨g, cap, cur, hv, hB, ?_, r⟩
    rw [ho.block g (Array.getElem?_eq_some_iff.1 hg).1 (hs g (by rw [hv]; rfl))]
    exact hg

/-- A row of elements of one type and a block of another. -/
theorem own_ne_blk {w : World} {B : Nat} {e : TypeId} {size : Nat} {v : Value} {n : Nat} {xs : List Value} (h : w.ownsRow B e size v n xs) {c : Nat} {T : TypeId} {cs : Array Value} (hC : Blk w c T cs) (hne : e ≠ T) : v.ownBlock ≠ some c := by
  rcases h.2 with ⟨rfl, _⟩ | ⟨g', cap, cur, rfl, _, hg, _⟩
  · simp [Value.ownBlock]
  · intro hh
    have : g' = c := by simpa [Value.ownBlock] using hh
    subst this
    unfold Blk at hC
    rw [hg] at hC
    simp at hC
    exact hne hC.2

theorem Only.grown {S : Nat → Prop} {a w w' : World} {row : Option Nat} (h : Only S a w) (hg : w.grownBy w' row) (hr : ∀ k, row = some k → S k ∨ a.heap.size ≤ k) : Only S a w' :=
  ⟨hg.os.trans h.os, hg.tape.trans h.tape, hg.output.trans h.output, Nat.le_trans h.size hg.size, fun k hk hs => (hg.block k (Nat.lt_of_lt_of_le hk h.size) (fun e => by
    rcases hr k e.symm with h1 | h1
    · exact hs h1
    · omega)).trans (h.block k hk hs)⟩

/-- Above all blocks of the listed errors. -/
def gTop : Nat := (max (errG 1) (max (errG 3) (max (errG 5) (max (errG 6) (errG 15))))) + 1
theorem errG_top (i : Nat) (hi : i = 1 ∨ i = 3 ∨ i = 5 ∨ i = 6 ∨ i = 15) : errG i < gTop := by
  rcases hi with rfl | rfl | rfl | rfl | rfl <;> decide
theorem LErr.top {W : World} {ea : Nat → Addr} (h : LErr W ea) : gTop ≤ W.heap.size := by
  have h1 := World.block_lt_of_cell? W _ (h 1 (by omega))
  have h2 := World.block_lt_of_cell? W _ (h 3 (by omega))
  have h3 := World.block_lt_of_cell? W _ (h 5 (by omega))
  have h4 := World.block_lt_of_cell? W _ (h 6 (by omega))
  have h5 := World.block_lt_of_cell? W _ (h 15 (by omega))
  simp only at h1 h2 h3 h4 h5
  unfold gTop
  omega
theorem LErr.only {W W' : World} {ea : Nat → Addr} {S : Nat → Prop} (h : LErr W ea) (ho : Only S W W') (hs : ∀ k, S k → gTop ≤ k) : LErr W' ea :=
  fun i hi => ho.cell (h i hi) (fun s => by have := hs _ s; have := errG_top i hi; simp only at *; omega)
theorem LErr.set {W : World} {ea : Nat → Addr} (h : LErr W ea) {p : Addr} (hp : gTop ≤ p.block) (u : Value) : LErr (W.setCell p u) ea :=
  h.only (S := fun k => k = p.block) ((Only.refl (fun k => k = p.block) W).set (.inl rfl) u) (fun k hk => by subst hk; exact hp)
theorem LErr.drewN {W : World} {ea : Nat → Addr} (h : LErr W ea) (n : Nat) : LErr (W.drewN n) ea := h

/-- A row of cells, kept. -/
theorem RowAt.only {S : Nat → Prop} {w w' : World} {ao : Option Addr} {xs : List Value} (h : RowAt w ao xs) (ho : Only S w w') (hs : ∀ ad, ao = some ad → ¬ S ad.block) : RowAt w' ao xs := by
  intro i hi
  obtain ⟨b, o, e, hc⟩ := h i hi
  exact ⟨b, o, e, ho.cell hc (hs ⟨b, o, none⟩ e)⟩

/-- A reader of words: block b; the words that are left; its error's number. The row of words lies in no block of S. -/
def RAt (w : World) (b : Nat) (ea : Nat → Addr) (ws : List (List Nat)) (n : Nat) (K : Nat → Prop) : Prop :=
  ∃ ao cap, Blk w b 83 #[.slice ao ws.length cap, errOf ea n] ∧ RowAt w ao (strRow (fieldTexts ws)) ∧ ws.length ≤ cap ∧ cap ≤ maxLen ∧ (∀ ad, ao = some ad → ad.spot = none) ∧ (ao = none → cap = 0) ∧ (∀ ad, ao = some ad → K ad.block)

theorem RAt.only {S : Nat → Prop} {w w' : World} {b : Nat} {ea : Nat → Addr} {ws : List (List Nat)} {n : Nat} {K : Nat → Prop} (h : RAt w b ea ws n K) (ho : Only S w w') (hs : ¬ S b) (hK : ∀ k, S k → ¬ K k) : RAt w' b ea ws n K := by
  obtain ⟨ao, cap, h1, h2, h3, h4, h5, h6, h7⟩ := h
  exact ⟨ao, cap, h1.only ho hs, h2.only ho (fun ad e s => hK _ s (h7 ad e)), h3, h4, h5, h6, h7⟩
end Go.Proofs.YtjhmehmmpfnnkaaDoor
