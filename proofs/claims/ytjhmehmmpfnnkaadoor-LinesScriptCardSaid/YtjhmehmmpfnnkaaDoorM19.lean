/-
  Plain: the words that tell an op; they are read as what they tell; what was read is told by the same words.
-/
import Derived.Test.YtjhmehmmpfnnkaaDoorM09
import Derived.Test.YtjhmehmmpfnnkaaDoorM05
namespace Go.Proofs.YtjhmehmmpfnnkaaDoor
open Go.RowKit Utf
set_option maxRecDepth 100000
set_option linter.unusedSimpArgs false
set_option linter.unusedVariables false

structure BOp where
  kind : Int
  key : ByteArray
  value : ByteArray
  old : ByteArray
  version : Int
structure BP where
  kind : Int
  who : Int
  n : Int
  fresh : Int
  ekind : Int
  shard : Int
  other : Int
  server : Int
  ekey : ByteArray
  key : ByteArray
  lo : ByteArray
  hi : ByteArray
structure BL where
  p : BP
  ops : List BOp
  gone : List Int
def BP.getN (p : BP) : Fld → Int
  | .who => p.who
  | .n => p.n
  | .fresh => p.fresh
  | .shard => p.shard
  | .other => p.other
  | .server => p.server
  | _ => 0
def BP.getS (p : BP) : Fld → ByteArray
  | .key => p.key
  | .lo => p.lo
  | .hi => p.hi
  | .ekey => p.ekey
  | _ => ByteArray.empty

/-- A text's word; a field's; an operation's; what follows. -/
def tellS (s : ByteArray) : Option (List Nat) := (dec s.data.toList).bind quoteL
def tellFld (p : BP) (f : Fld) : Option (List Nat) := if isNum f = true then decL (p.getN f) else tellS (p.getS f)
def opRow (o : BOp) : List (Option (List Nat)) :=
  if o.kind = 1 then [some [112, 117, 116], tellS o.key, tellS o.value]
  else if o.kind = 2 then [some [100, 101, 108], tellS o.key]
  else if o.kind = 3 then [some [99, 97, 115], tellS o.key, tellS o.old, tellS o.value]
  else if o.kind = 4 then [some [101, 120, 112, 101, 99, 116], tellS o.key, decL o.version]
  else [none]
def restRow (k : Nat) (l : BL) : List (Option (List Nat)) := if k = 111 then l.ops.flatMap opRow else if k = 103 then l.gone.map decL else []
def nameR (v : Verb) : List Nat := v.name.map UInt8.toNat
def lineRow (v : Verb) (l : BL) : List (Option (List Nat)) := some (nameR v) :: (v.flds.map (tellFld l.p) ++ restRow v.rest l)
/-- Is this verb an op's? -/
def verbIs (k e : Int) (v : Verb) : Bool := decide ((v.kind : Int) = k) && (decide ((v.kind : Int) ≠ 3) || decide ((v.ekind : Int) = e))
def verbT (k e : Int) : Option Verb := verbs.find? (verbIs k e)

/-- All words, or none. -/
def tellAll : List (Option (List Nat)) → Option (List (List Nat))
  | [] => some []
  | x :: r => x.bind fun a => (tellAll r).map (a :: ·)
theorem tellAll_iff : ∀ (row : List (Option (List Nat))) (ws : List (List Nat)), tellAll row = some ws ↔ row = ws.map some
  | [], ws => by cases ws <;> simp [tellAll]
  | x :: r, ws => by
    cases x with
    | none => cases ws <;> simp [tellAll]
    | some a =>
      show (Option.bind (some a) fun a => (tellAll r).map (a :: ·)) = some ws ↔ _
      rw [Option.bind_some, Option.map_eq_some_iff]
      constructor
      · rintro ⟨l, hl, rfl⟩
        rw [(tellAll_iff r l).1 hl]
        rfl
      · intro h
        cases ws with
        | nil => cases h
        | cons b l =>
          simp only [List.map_cons, List.cons.injEq, Option.some.injEq] at h
          obtain ⟨rfl, h⟩ := h
          exact ⟨l, (tellAll_iff r l).2 h, rfl⟩
theorem tellAll_snoc : ∀ (a : List (Option (List Nat))) (x : Option (List Nat)), tellAll (a ++ [x]) = (tellAll a).bind fun l => x.map fun y => l ++ [y]
  | [], x => by cases x <;> rfl
  | y :: a, x => by
    cases y with
    | none => rfl
    | some y =>
      show (Option.bind (some y) fun y => (tellAll (a ++ [x])).map (y :: ·)) = Option.bind (Option.bind (some y) fun y => (tellAll a).map (y :: ·)) _
      rw [Option.bind_some, Option.bind_some, tellAll_snoc a x]
      cases tellAll a with
      | none => rfl
      | some l => cases x <;> rfl
theorem tellAll_none_app {a : List (Option (List Nat))} (h : tellAll a = none) : ∀ b, tellAll (a ++ b) = none := by
  intro b
  induction a with
  | nil => cases h
  | cons x a ih =>
    cases x with
    | none => rfl
    | some y =>
      have h2 : (tellAll a).map (y :: ·) = none := h
      have h3 : tellAll a = none := by
        cases h4 : tellAll a with
        | none => rfl
        | some l => rw [h4] at h2; cases h2
      show Option.bind (some y) (fun y => (tellAll (a ++ b)).map (y :: ·)) = none
      rw [Option.bind_some, ih h3]
      rfl

def textW (l : BL) : Option (List (List Nat)) := (verbT l.p.kind l.p.ekind).bind fun v => tellAll (lineRow v l)

/-! ### One number, one text, both ways -/
theorem digs_canon : ∀ (n : Nat) (r : List Nat), r.length ≤ n → r ≠ [] → (∀ c ∈ r, 48 ≤ c ∧ c ≤ 57) → (r.head? = some 48 → r.length = 1) → digs (valOf r) = r
  | 0, r, hn, hr, _, _ => by cases r <;> simp at hn hr
  | n + 1, r, hn, hr, hd, h0 => by
    rcases List.eq_nil_or_concat r with rfl | ⟨l, c, rfl⟩
    · exact absurd rfl hr
    · rw [List.concat_eq_append] at *
      rw [valOf_concat]
      have hc := hd c (by simp)
      cases l with
      | nil =>
        simp only [valOf, List.foldl_nil, List.nil_append, Nat.mul_zero, Nat.zero_add]
        unfold digs
        rw [dif_pos (by omega)]
        congr 1
        omega
      | cons a t =>
        have ha := hd a (by simp)
        have hne : a ≠ 48 := by
          intro e
          subst e
          have := h0 rfl
          simp at this
        have hpos : 0 < valOf (a :: t) := by
          unfold valOf
          simp only [List.foldl_cons]
          have : ∀ (l : List Nat) (m : Nat), m ≤ l.foldl (fun n c => 10 * n + (c - 48)) m := by
            intro l
            induction l with
            | nil => intro m; exact Nat.le_refl _
            | cons c l ih => intro m; have := ih (10 * m + (c - 48)); simp only [List.foldl_cons]; omega
          have := this t (10 * 0 + (a - 48))
          omega
        have ih := digs_canon n (a :: t) (by simp at hn ⊢; omega) (by simp) (fun x hx => hd x (List.mem_append_left _ hx)) (fun e => absurd (by simpa using e) hne)
        generalize valOf (a :: t) = m at *
        unfold digs
        rw [dif_neg (by omega)]
        rw [show (10 * m + (c - 48)) / 10 = m by omega, ih, show 48 + (10 * m + (c - 48)) % 10 = c by omega]

theorem numN_some {m : Bool} {r : List Nat} {v : Int} (h : numN m r = some v) : r ≠ [] ∧ r.length ≤ 9 ∧ (∀ c ∈ r, 48 ≤ c ∧ c ≤ 57) ∧ (r.head? = some 48 → r.length = 1 ∧ m = false) ∧ v = if m then -(valOf r : Int) else valOf r := by
  unfold numN at h
  split at h
  · cases h
  · rename_i hc
    have h1 : r ≠ [] := fun e => hc (.inl e)
    have h2 : r.length ≤ 9 := Nat.le_of_not_lt fun e => hc (.inr (.inl e))
    have h3 : ∀ c ∈ r, 48 ≤ c ∧ c ≤ 57 := by
      intro c hcm
      have : isDig c = true := by
        cases hd : isDig c with
        | true => rfl
        | false => exact absurd (List.any_eq_true.2 ⟨c, hcm, by simp [hd]⟩) (fun e => hc (.inr (.inr (.inl e))))
      simpa [isDig] using this
    refine ⟨h1, h2, h3, ?_, (Option.some.inj h).symm⟩
    intro e
    have h4 : ¬ (1 < r.length ∨ m = true) := fun g => hc (.inr (.inr (.inr ⟨e, g⟩)))
    refine ⟨?_, by cases m <;> simp at h4 ⊢⟩
    have : 1 ≤ r.length := by cases r <;> simp at h1 ⊢
    omega
theorem valOf_lt9 {r : List Nat} (h : ∀ c ∈ r, 48 ≤ c ∧ c ≤ 57) (hl : r.length ≤ 9) : valOf r ≤ 999999999 := by
  have h1 := valOf_lt r (fun c hc => (h c hc).2)
  have h2 : 10 ^ r.length ≤ 10 ^ 9 := Nat.pow_le_pow_right (by omega) hl
  omega
theorem valOf_pos' {r : List Nat} (h : ∀ c ∈ r, 48 ≤ c ∧ c ≤ 57) (hr : r ≠ []) (h0 : r.head? ≠ some 48) : 0 < valOf r := by
  cases r with
  | nil => exact absurd rfl hr
  | cons a t =>
    have := h a (by simp)
    exact valOf_pos (by simp at h0; omega)
/-- What was read as a number is told so. -/
theorem decL_of_num {x : List Nat} {v : Int} (h : numW x = some v) : decL v = some x := by
  unfold numW signed unsign at h
  by_cases hs : x.head? = some 45
  · rw [if_pos hs, decide_eq_true hs] at h
    obtain ⟨h1, h2, h3, h4, rfl⟩ := numN_some h
    have h5 : x.tail.head? ≠ some 48 := fun e => by have := (h4 e).2; cases this
    have hp := valOf_pos' h3 h1 h5
    have hb := valOf_lt9 h3 h2
    have hc := digs_canon _ x.tail (Nat.le_refl _) h1 h3 (fun e => absurd e h5)
    unfold decL
    simp only [if_true]
    rw [if_neg (by omega), if_pos (by omega), show (-(valOf x.tail : Int)).natAbs = valOf x.tail by omega, hc]
    cases x with
    | nil => cases hs
    | cons a t => simp at hs; subst hs; rfl
  · rw [if_neg hs, decide_eq_false hs] at h
    obtain ⟨h1, h2, h3, h4, rfl⟩ := numN_some h
    have hb := valOf_lt9 h3 h2
    have hc := digs_canon _ x (Nat.le_refl _) h1 h3 (fun e => (h4 e).1)
    unfold decL
    simp only [Bool.false_eq_true, if_false]
    rw [if_neg (by omega), if_neg (by omega), show ((valOf x : Int)).natAbs = valOf x by omega, hc]
    rfl
theorem num_of_decL {x : List Nat} {v : Int} (h : decL v = some x) : numW x = some v := by
  unfold decL at h
  split at h
  · cases h
  · rename_i hb
    have hx := Option.some.inj h
    clear h
    have hd := digs_all v.natAbs
    have hne := digs_ne v.natAbs
    have hv := digs_val v.natAbs
    have hl : (digs v.natAbs).length ≤ 9 := digs_len _ 8 (by omega)
    have hany : (digs v.natAbs).any (fun c => !isDig c) = false := by
      rw [Bool.eq_false_iff]
      intro e
      obtain ⟨c, hc, h2⟩ := List.any_eq_true.1 e
      have := hd c hc
      simp [isDig] at h2
      omega
    by_cases hn : v < 0
    · rw [if_pos hn] at hx
      subst hx
      have h48 := digs_head v.natAbs (by omega)
      unfold numW signed unsign
      simp only [List.cons_append, List.nil_append, List.head?_cons, List.tail_cons, if_true, decide_true]
      unfold numN
      rw [if_neg (by
        rintro (e | e | e | e)
        · exact hne e
        · omega
        · rw [hany] at e; cases e
        · exact h48 e.1), hv]
      simp only [if_true]
      congr 1
      omega
    · rw [if_neg hn, List.nil_append] at hx
      subst hx
      have h45 : (digs v.natAbs).head? ≠ some 45 := by
        intro e
        have := hd 45 (List.mem_of_mem_head? e)
        omega
      unfold numW signed unsign
      rw [if_neg h45, decide_eq_false h45]
      unfold numN
      rw [if_neg ?_, hv]
      · simp only [Bool.false_eq_true, if_false]
        congr 1
        omega
      · rintro (e | e | e | ⟨e1, e2⟩)
        · exact hne e
        · omega
        · rw [hany] at e; cases e
        · rcases e2 with e2 | e2
          · by_cases h0 : 0 < v.natAbs
            · exact digs_head _ h0 e1
            · have : v.natAbs = 0 := by omega
              rw [this] at e2
              have h9 : digs 0 = [48] := by unfold digs; rfl
              rw [h9] at e2
              simp at e2
          · cases e2
/-- What was read as a text is told so. -/
theorem tellS_enc {t : List Nat} (h : allOk t) : tellS (mkS (encAll t)) = quoteL t := by
  unfold tellS
  rw [mkS_data, dec_encAll h]
  rfl
theorem quote_allOk {t x : List Nat} (h : quoteL t = some x) (ho : allOk x) : allOk t := by
  unfold quoteL at h
  split at h
  · cases h
  · obtain rfl := Option.some.inj h
    intro c hc
    refine ho c ?_
    have : c ∈ t.flatMap quo1 := List.mem_flatMap.2 ⟨c, hc, by unfold quo1; split <;> simp⟩
    simp [this]
theorem tellS_of_unq {x t : List Nat} (ho : allOk x) (h : unquoteL x = some t) : tellS (mkS (encAll t)) = some x := by
  have h2 := ((unquoteL_iff x t).1 h).2
  rw [tellS_enc (quote_allOk h2 ho)]
  exact h2
theorem unq_of_tellS {s : ByteArray} {x : List Nat} (h : tellS s = some x) : ∃ t, unquoteL x = some t := by
  unfold tellS at h
  obtain ⟨t, _, h2⟩ := Option.bind_eq_some_iff.1 h
  exact ⟨t, unquote_quote h2⟩

/-! ### Told, then read -/
theorem rdNum_told {v : Int} {x : List Nat} (h : decL v = some x) (r : List (List Nat)) : rdNum (x :: r) 0 = (some v, r, 0) := by
  simp [rdNum, num_of_decL h]
theorem rdStr_told {s : ByteArray} {x : List Nat} (h : tellS s = some x) (r : List (List Nat)) : ∃ t, rdStr (x :: r) 0 = (some t, r, 0) := by
  obtain ⟨t, ht⟩ := unq_of_tellS h
  exact ⟨t, by simp [rdStr, ht]⟩
theorem setN_kind (p : PW) (v : Int) (f : Fld) : (p.setN v f).kind = p.kind := by cases f <;> rfl
theorem setS_kind (p : PW) (v : List Nat) (f : Fld) : (p.setS v f).kind = p.kind := by cases f <;> rfl
theorem flds_told (b : BP) : ∀ (fs : List Fld) (q : PW) (ws : List (List Nat)) (R : List (List Nat)), fs.map (tellFld b) = ws.map some → ∃ p', rdFlds fs q (ws ++ R) 0 = (p', R, 0) ∧ p'.kind = q.kind
  | [], q, ws, R, h => by
    have : ws = [] := by cases ws <;> simp at h ⊢
    subst this
    exact ⟨q, rfl, rfl⟩
  | f :: fs, q, ws, R, h => by
    cases ws with
    | nil => simp at h
    | cons x ws =>
      simp only [List.map_cons, List.cons.injEq] at h
      obtain ⟨h1, h2⟩ := h
      unfold tellFld at h1
      by_cases hf : isNum f = true
      · rw [if_pos hf] at h1
        obtain ⟨p', h3, h4⟩ := flds_told b fs (q.setN ((rdNum (x :: (ws ++ R)) 0).1.getD 0) f) ws R h2
        refine ⟨p', ?_, by rw [h4, setN_kind]⟩
        simp only [List.cons_append, rdFlds]
        rw [if_pos hf, ← h3]
        rw [rdNum_told h1]
      · rw [if_neg hf] at h1
        obtain ⟨t, ht⟩ := rdStr_told h1 (ws ++ R)
        obtain ⟨p', h3, h4⟩ := flds_told b fs (q.setS t f) ws R h2
        refine ⟨p', ?_, by rw [h4, setS_kind]⟩
        simp only [List.cons_append, rdFlds]
        rw [if_neg hf, ht]
        exact h3
theorem map_some_append {α : Type} : ∀ {a b : List (Option α)} {ws : List α}, a ++ b = ws.map some → ∃ x y, ws = x ++ y ∧ a = x.map some ∧ b = y.map some
  | [], b, ws, h => ⟨[], ws, rfl, rfl, h⟩
  | u :: a, b, ws, h => by
    cases ws with
    | nil => simp at h
    | cons w ws =>
      simp only [List.cons_append, List.map_cons, List.cons.injEq] at h
      obtain ⟨x, y, h1, h2, h3⟩ := map_some_append h.2
      exact ⟨w :: x, y, by rw [h1]; rfl, by rw [h.1, h2]; rfl, h3⟩
theorem map_len {α : Type} {a : List (Option α)} {ws : List α} (h : a = ws.map some) : ws.length = a.length := by rw [h, List.length_map]
theorem len2 {α : Type} {l : List α} (h : l.length = 2) : ∃ x y, l = [x, y] := by
  rcases l with _ | ⟨x, _ | ⟨y, _ | ⟨z, l⟩⟩⟩ <;> simp at h
  exact ⟨x, y, rfl⟩
theorem len3 {α : Type} {l : List α} (h : l.length = 3) : ∃ x y z, l = [x, y, z] := by
  rcases l with _ | ⟨x, _ | ⟨y, _ | ⟨z, _ | ⟨u, l⟩⟩⟩⟩ <;> simp at h
  exact ⟨x, y, z, rfl⟩
theorem len4 {α : Type} {l : List α} (h : l.length = 4) : ∃ x y z u, l = [x, y, z, u] := by
  rcases l with _ | ⟨x, _ | ⟨y, _ | ⟨z, _ | ⟨u, _ | ⟨t, l⟩⟩⟩⟩⟩ <;> simp at h
  exact ⟨x, y, z, u, rfl⟩
theorem opF_told (o : BOp) (ws R : List (List Nat)) (h : opRow o = ws.map some) : ∃ x r, ws = x :: r ∧ (opF x (r ++ R)).2 = (R, 0) := by
  unfold opRow at h
  split at h
  · obtain ⟨x, y, z, rfl⟩ := len3 (map_len h)
    simp only [List.map_cons, List.map_nil, List.cons.injEq, Option.some.injEq, and_true] at h
    obtain ⟨rfl, h1, h2⟩ := h
    obtain ⟨t1, e1⟩ := rdStr_told h1 (z :: R)
    obtain ⟨t2, e2⟩ := rdStr_told h2 R
    refine ⟨_, _, rfl, ?_⟩
    unfold opF
    rw [if_pos (by kernel_rfl)]
    simp only [List.cons_append, List.nil_append, e1, e2]
  · split at h
    · obtain ⟨x, y, rfl⟩ := len2 (map_len h)
      simp only [List.map_cons, List.map_nil, List.cons.injEq, Option.some.injEq, and_true] at h
      obtain ⟨rfl, h1⟩ := h
      obtain ⟨t1, e1⟩ := rdStr_told h1 R
      refine ⟨_, _, rfl, ?_⟩
      unfold opF
      rw [if_neg (by decide +kernel), if_pos (by kernel_rfl)]
      simp only [List.cons_append, List.nil_append, e1]
    · split at h
      · obtain ⟨x, y, z, u, rfl⟩ := len4 (map_len h)
        simp only [List.map_cons, List.map_nil, List.cons.injEq, Option.some.injEq, and_true] at h
        obtain ⟨rfl, h1, h2, h3⟩ := h
        obtain ⟨t1, e1⟩ := rdStr_told h1 (z :: u :: R)
        obtain ⟨t2, e2⟩ := rdStr_told h2 (u :: R)
        obtain ⟨t3, e3⟩ := rdStr_told h3 R
        refine ⟨_, _, rfl, ?_⟩
        unfold opF
        rw [if_neg (by decide +kernel), if_neg (by decide +kernel), if_pos (by kernel_rfl)]
        simp only [List.cons_append, List.nil_append, e1, e2, e3]
      · split at h
        · obtain ⟨x, y, z, rfl⟩ := len3 (map_len h)
          simp only [List.map_cons, List.map_nil, List.cons.injEq, Option.some.injEq, and_true] at h
          obtain ⟨rfl, h1, h2⟩ := h
          obtain ⟨t1, e1⟩ := rdStr_told h1 (z :: R)
          have e2 := rdNum_told h2 R
          refine ⟨_, _, rfl, ?_⟩
          unfold opF
          rw [if_neg (by decide +kernel), if_neg (by decide +kernel), if_neg (by decide +kernel), if_pos (by kernel_rfl)]
          simp only [List.cons_append, List.nil_append, e1, e2]
        · cases ws <;> simp at h
theorem ops_told : ∀ (ops : List BOp) (ws : List (List Nat)) (k : Nat), ops.flatMap opRow = ws.map some → ws.length ≤ k → ∃ l, restO k ws 0 = (l, 0)
  | [], ws, k, h, _ => by
    have : ws = [] := by cases ws <;> simp at h ⊢
    subst this
    cases k <;> exact ⟨[], rfl⟩
  | o :: ops, ws, k, h, hk => by
    rw [List.flatMap_cons] at h
    obtain ⟨x, y, rfl, h1, h2⟩ := map_some_append h
    obtain ⟨a, r, rfl, h3⟩ := opF_told o x y h1
    obtain ⟨k, rfl⟩ : ∃ m, k = m + 1 := ⟨k - 1, by simp at hk; omega⟩
    obtain ⟨l, h4⟩ := ops_told ops y k h2 (by simp at hk; omega)
    refine ⟨(opF a (r ++ y)).1 :: l, ?_⟩
    simp only [List.cons_append, restO, h3, h4]
theorem gone_told : ∀ (gs : List Int) (ws : List (List Nat)) (k : Nat), gs.map decL = ws.map some → ws.length ≤ k → ∃ l, restG k ws 0 = (l, 0)
  | [], ws, k, h, _ => by
    have : ws = [] := by cases ws <;> simp at h ⊢
    subst this
    cases k <;> exact ⟨[], rfl⟩
  | g :: gs, ws, k, h, hk => by
    cases ws with
    | nil => simp at h
    | cons x ws =>
      simp only [List.map_cons, List.cons.injEq] at h
      obtain ⟨k, rfl⟩ : ∃ m, k = m + 1 := ⟨k - 1, by simp at hk; omega⟩
      obtain ⟨l, h4⟩ := gone_told gs ws k h.2 (by simp at hk; omega)
      refine ⟨g :: l, ?_⟩
      simp only [restG, rdNum_told h.1, h4]
      rfl
theorem verbT_some {k e : Int} {v : Verb} (h : verbT k e = some v) : v ∈ verbs ∧ (v.kind : Int) = k := by
  unfold verbT at h
  refine ⟨List.mem_of_find?_eq_some h, ?_⟩
  have := List.find?_some h
  simp only [verbIs, Bool.and_eq_true, decide_eq_true_eq] at this
  exact this.1
theorem verb_name : ∀ v ∈ verbs, verbs[verbIdx (encAll (nameR v))]? = some v := by
  intro v hv
  simp only [verbs, List.mem_cons, List.not_mem_nil, or_false] at hv
  rcases hv with rfl | rfl | rfl | rfl | rfl | rfl | rfl | rfl | rfl | rfl | rfl | rfl | rfl | rfl | rfl | rfl | rfl <;> kernel_rfl
/-- What is told is read, and the op's kind is what it was. -/
theorem told_read {l : BL} {ws : List (List Nat)} (h : textW l = some ws) : ∃ m, parseW ws = (0, some m) ∧ m.p.kind = l.p.kind := by
  unfold textW at h
  obtain ⟨v, hv, h'⟩ := Option.bind_eq_some_iff.1 h
  clear h
  have h := (tellAll_iff _ _).1 h'
  clear h'
  obtain ⟨hmem, hkind⟩ := verbT_some hv
  unfold lineRow at h
  cases ws with
  | nil => cases h
  | cons x r =>
    simp only [List.map_cons, List.cons.injEq, Option.some.injEq] at h
    obtain ⟨rfl, h⟩ := h
    obtain ⟨a, R, rfl, h1, h2⟩ := map_some_append h
    obtain ⟨p', h3, h4⟩ := flds_told l.p v.flds { PW.zero with kind := v.kind, ekind := v.ekind } a R h1
    have hrest : ∃ o, restAny v.rest R 0 = o ∧ o.2.2 = 0 := by
      unfold restRow at h2
      unfold restAny
      rcases verbs_rest v hmem with hr | hr | hr
      · rw [if_pos hr] at h2 ⊢
        obtain ⟨o, ho⟩ := ops_told l.ops R R.length h2 (Nat.le_refl _)
        exact ⟨_, rfl, by rw [ho]⟩
      · rw [if_neg (by omega), if_pos hr] at h2 ⊢
        obtain ⟨o, ho⟩ := gone_told l.gone R R.length h2 (Nat.le_refl _)
        exact ⟨_, rfl, by rw [ho]⟩
      · rw [if_neg (by omega), if_neg (by omega)] at h2 ⊢
        have : R = [] := by cases R <;> simp at h2 ⊢
        subst this
        exact ⟨_, rfl, rfl⟩
    obtain ⟨o, ho, ho2⟩ := hrest
    refine ⟨⟨p', o.1, o.2.1⟩, ?_, ?_⟩
    · simp only [parseW, verb_name v hmem, h3, ho, ho2, if_true]
    · rw [← hkind]
      exact h4

/-! ### Read, then told -/
def POp.b (o : POp) : BOp := ⟨o.kind, mkS (encAll o.key), mkS (encAll o.value), mkS (encAll o.old), o.version⟩
def PW.b (p : PW) : BP := ⟨p.kind, p.who, p.n, p.fresh, p.ekind, p.shard, p.other, p.server, mkS (encAll p.ekey), mkS (encAll p.key), mkS (encAll p.lo), mkS (encAll p.hi)⟩
def PL.b (l : PL) : BL := ⟨l.p.b, l.ops.map POp.b, l.gone⟩
theorem PW.b_getN (p : PW) (f : Fld) : p.b.getN f = p.getN f := by cases f <;> kernel_rfl
theorem PW.b_getS (p : PW) (f : Fld) (hf : isNum f = false) : p.b.getS f = mkS (encAll (p.getS f)) := by cases f <;> first | rfl | cases hf
def OkW (ws : List (List Nat)) : Prop := ∀ x ∈ ws, allOk x
theorem rdNum_zero {ws : List (List Nat)} {n : Nat} (h : (rdNum ws n).2.2 = 0) : n = 0 ∧ ∃ x r v, ws = x :: r ∧ rdNum ws n = (some v, r, 0) ∧ decL v = some x := by
  cases n with
  | succ n => cases ws <;> cases h
  | zero =>
    cases ws with
    | nil => cases h
    | cons x r =>
      refine ⟨rfl, x, r, ?_⟩
      cases hw : numW x with
      | none => simp [rdNum, hw] at h
      | some v => exact ⟨v, rfl, by simp [rdNum, hw], decL_of_num hw⟩
theorem rdStr_zero {ws : List (List Nat)} {n : Nat} (ho : OkW ws) (h : (rdStr ws n).2.2 = 0) : n = 0 ∧ ∃ x r t, ws = x :: r ∧ rdStr ws n = (some t, r, 0) ∧ tellS (mkS (encAll t)) = some x ∧ OkW r := by
  cases n with
  | succ n => cases ws <;> cases h
  | zero =>
    cases ws with
    | nil => cases h
    | cons x r =>
      refine ⟨rfl, x, r, ?_⟩
      cases hw : unquoteL x with
      | none => simp [rdStr, hw] at h
      | some t => exact ⟨t, rfl, by simp [rdStr, hw], tellS_of_unq (ho x (by simp)) hw, fun y hy => ho y (List.mem_cons_of_mem _ hy)⟩
theorem rdNum_err (ws : List (List Nat)) (n : Nat) : (rdNum ws (n + 1)) = (none, ws, n + 1) := by cases ws <;> kernel_rfl
theorem rdStr_err (ws : List (List Nat)) (n : Nat) : (rdStr ws (n + 1)) = (none, ws, n + 1) := by cases ws <;> kernel_rfl
theorem rdFlds_err : ∀ (fs : List Fld) (q : PW) (ws : List (List Nat)) (n : Nat), (rdFlds fs q ws (n + 1)).2.2 = n + 1
  | [], _, _, _ => rfl
  | f :: fs, q, ws, n => by
    simp only [rdFlds]
    split
    · rw [rdNum_err]; exact rdFlds_err fs _ _ _
    · rw [rdStr_err]; exact rdFlds_err fs _ _ _
theorem rdFlds_other (g : Fld) : ∀ (fs : List Fld) (q : PW) (ws : List (List Nat)) (n : Nat), g ∉ fs → (rdFlds fs q ws n).1.getN g = q.getN g ∧ (rdFlds fs q ws n).1.getS g = q.getS g
  | [], _, _, _, _ => ⟨rfl, rfl⟩
  | f :: fs, q, ws, n, h => by
    have hne : f ≠ g := fun e => h (by rw [e]; exact List.mem_cons_self ..)
    have hg : g ∉ fs := fun e => h (List.mem_cons_of_mem _ e)
    simp only [rdFlds]
    split
    · have := rdFlds_other g fs (q.setN ((rdNum ws n).1.getD 0) f) (rdNum ws n).2.1 (rdNum ws n).2.2 hg
      rw [this.1, this.2]
      exact setN_other q _ hne
    · have := rdFlds_other g fs (q.setS ((rdStr ws n).1.getD []) f) (rdStr ws n).2.1 (rdStr ws n).2.2 hg
      rw [this.1, this.2]
      exact setS_other q _ hne
theorem rdFlds_kind : ∀ (fs : List Fld) (q : PW) (ws : List (List Nat)) (n : Nat), (rdFlds fs q ws n).1.kind = q.kind ∧ (rdFlds fs q ws n).1.ekind = q.ekind
  | [], _, _, _ => ⟨rfl, rfl⟩
  | f :: fs, q, ws, n => by
    simp only [rdFlds]
    split
    · have := rdFlds_kind fs (q.setN ((rdNum ws n).1.getD 0) f) (rdNum ws n).2.1 (rdNum ws n).2.2
      rw [this.1, this.2]
      cases f <;> exact ⟨rfl, rfl⟩
    · have := rdFlds_kind fs (q.setS ((rdStr ws n).1.getD []) f) (rdStr ws n).2.1 (rdStr ws n).2.2
      rw [this.1, this.2]
      cases f <;> exact ⟨rfl, rfl⟩
theorem setN_get (q : PW) (v : Int) (f : Fld) (hf : isNum f = true) : (q.setN v f).getN f = v := by cases f <;> first | rfl | cases hf
theorem setS_get (q : PW) (v : List Nat) (f : Fld) (hf : isNum f = false) : (q.setS v f).getS f = v := by cases f <;> first | rfl | cases hf
theorem flds_read : ∀ (fs : List Fld) (q : PW) (ws : List (List Nat)) (n : Nat), fs.Nodup → OkW ws → (rdFlds fs q ws n).2.2 = 0 → n = 0 ∧ OkW (rdFlds fs q ws n).2.1 ∧ ∃ xs, ws = xs ++ (rdFlds fs q ws n).2.1 ∧ fs.map (tellFld (rdFlds fs q ws n).1.b) = xs.map some
  | [], q, ws, n, _, ho, h => ⟨h, ho, [], rfl, rfl⟩
  | f :: fs, q, ws, n, hnd, ho, h => by
    have hnd2 := List.nodup_cons.1 hnd
    simp only [rdFlds] at h ⊢
    by_cases hf : isNum f = true
    · simp only [if_pos hf] at h ⊢
      have hz : (rdNum ws n).2.2 = 0 := by
        cases hm : (rdNum ws n).2.2 with
        | zero => rfl
        | succ m => rw [hm, rdFlds_err] at h; cases h
      obtain ⟨rfl, x, r, v, rfl, he, hd⟩ := rdNum_zero hz
      rw [he] at h ⊢
      simp only [Option.getD_some] at h ⊢
      obtain ⟨-, h1, xs, h2, h3⟩ := flds_read fs (q.setN v f) r 0 hnd2.2 (fun y hy => ho y (List.mem_cons_of_mem _ hy)) h
      refine ⟨by first | rfl | trivial, h1, x :: xs, by rw [List.cons_append, ← h2], ?_⟩
      simp only [List.map_cons, h3, List.cons.injEq, and_true]
      unfold tellFld
      rw [if_pos hf, PW.b_getN, (rdFlds_other f fs _ r 0 hnd2.1).1, setN_get _ _ _ hf]
      exact hd
    · have hf' : isNum f = false := by simpa using hf
      simp only [if_neg hf] at h ⊢
      have hz : (rdStr ws n).2.2 = 0 := by
        cases hm : (rdStr ws n).2.2 with
        | zero => rfl
        | succ m => rw [hm, rdFlds_err] at h; cases h
      obtain ⟨rfl, x, r, t, rfl, he, hd, hor⟩ := rdStr_zero ho hz
      rw [he] at h ⊢
      simp only [Option.getD_some] at h ⊢
      obtain ⟨-, h1, xs, h2, h3⟩ := flds_read fs (q.setS t f) r 0 hnd2.2 hor h
      refine ⟨by first | rfl | trivial, h1, x :: xs, by rw [List.cons_append, ← h2], ?_⟩
      simp only [List.map_cons, h3, List.cons.injEq, and_true]
      unfold tellFld
      rw [if_neg hf, PW.b_getS _ _ hf', (rdFlds_other f fs _ r 0 hnd2.1).2, setS_get _ _ _ hf']
      exact hd
theorem encAll_name {x : List Nat} {l : List Nat} (h : encAll x = encAll l) (hx : allOk x) (hl : allOk l) : x = l := encAll_inj hx hl h
theorem ok_ascii {l : List Nat} (h : ∀ c ∈ l, c < 128) : allOk l := by
  intro c hc
  have := h c hc
  rw [okR_def]
  omega
theorem opF_read {x : List Nat} {r : List (List Nat)} (ho : OkW (x :: r)) (h : (opF x r).2.2 = 0) : OkW (opF x r).2.1 ∧ ∃ xs, x :: r = xs ++ (opF x r).2.1 ∧ opRow (opF x r).1.b = xs.map some := by
  have hox : allOk x := ho x (by simp)
  have hor : OkW r := fun y hy => ho y (List.mem_cons_of_mem _ hy)
  unfold opF at h ⊢
  by_cases h0 : encAll x = [112, 117, 116]
  · obtain rfl : x = [112, 117, 116] := encAll_name (l := [112, 117, 116]) (by rw [h0]; kernel_rfl) hox (ok_ascii (by decide))
    simp only [if_pos h0] at h ⊢
    have hz : (rdStr r 0).2.2 = 0 := by
      cases hm : (rdStr r 0).2.2 with
      | zero => rfl
      | succ m => rw [hm, rdStr_err] at h; cases h
    obtain ⟨-, a, r1, t1, rfl, e1, d1, o1⟩ := rdStr_zero hor hz
    rw [e1] at h ⊢
    simp only at h ⊢
    obtain ⟨-, b, r2, t2, rfl, e2, d2, o2⟩ := rdStr_zero o1 h
    rw [e2]
    refine ⟨o2, [[112, 117, 116], a, b], rfl, ?_⟩
    simp [opRow, POp.b, d1, d2]
  · by_cases h1 : encAll x = [100, 101, 108]
    · obtain rfl : x = [100, 101, 108] := encAll_name (l := [100, 101, 108]) (by rw [h1]; kernel_rfl) hox (ok_ascii (by decide))
      simp only [if_neg h0, if_pos h1] at h ⊢
      obtain ⟨-, a, r1, t1, rfl, e1, d1, o1⟩ := rdStr_zero hor h
      rw [e1]
      refine ⟨o1, [[100, 101, 108], a], rfl, ?_⟩
      simp [opRow, POp.b, d1]
    · by_cases h2 : encAll x = [99, 97, 115]
      · obtain rfl : x = [99, 97, 115] := encAll_name (l := [99, 97, 115]) (by rw [h2]; kernel_rfl) hox (ok_ascii (by decide))
        simp only [if_neg h0, if_neg h1, if_pos h2] at h ⊢
        have hz : (rdStr r 0).2.2 = 0 := by
          cases hm : (rdStr r 0).2.2 with
          | zero => rfl
          | succ m => rw [hm, rdStr_err, rdStr_err] at h; cases h
        obtain ⟨-, a, r1, t1, rfl, e1, d1, o1⟩ := rdStr_zero hor hz
        rw [e1] at h ⊢
        simp only at h ⊢
        have hz : (rdStr r1 0).2.2 = 0 := by
          cases hm : (rdStr r1 0).2.2 with
          | zero => rfl
          | succ m => rw [hm, rdStr_err] at h; cases h
        obtain ⟨-, b, r2, t2, rfl, e2, d2, o2⟩ := rdStr_zero o1 hz
        rw [e2] at h ⊢
        simp only at h ⊢
        obtain ⟨-, c, r3, t3, rfl, e3, d3, o3⟩ := rdStr_zero o2 h
        rw [e3]
        refine ⟨o3, [[99, 97, 115], a, b, c], rfl, ?_⟩
        simp [opRow, POp.b, d1, d2, d3]
      · by_cases h3 : encAll x = [101, 120, 112, 101, 99, 116]
        · obtain rfl : x = [101, 120, 112, 101, 99, 116] := encAll_name (l := [101, 120, 112, 101, 99, 116]) (by rw [h3]; kernel_rfl) hox (ok_ascii (by decide))
          simp only [if_neg h0, if_neg h1, if_neg h2, if_pos h3] at h ⊢
          have hz : (rdStr r 0).2.2 = 0 := by
            cases hm : (rdStr r 0).2.2 with
            | zero => rfl
            | succ m => rw [hm, rdNum_err] at h; cases h
          obtain ⟨-, a, r1, t1, rfl, e1, d1, o1⟩ := rdStr_zero hor hz
          rw [e1] at h ⊢
          simp only at h ⊢
          obtain ⟨-, b, r2, v2, rfl, e2, d2⟩ := rdNum_zero h
          rw [e2]
          refine ⟨fun y hy => o1 y (List.mem_cons_of_mem _ hy), [[101, 120, 112, 101, 99, 116], a, b], rfl, ?_⟩
          simp [opRow, POp.b, d1, d2]
        · simp only [if_neg h0, if_neg h1, if_neg h2, if_neg h3] at h
          cases h
theorem restO_err (k : Nat) (ws : List (List Nat)) (n : Nat) : restO k ws (n + 1) = ([], n + 1) := by cases k <;> cases ws <;> kernel_rfl
theorem restG_err (k : Nat) (ws : List (List Nat)) (n : Nat) : restG k ws (n + 1) = ([], n + 1) := by cases k <;> cases ws <;> kernel_rfl
theorem ops_read : ∀ (k : Nat) (ws : List (List Nat)), ws.length ≤ k → OkW ws → (restO k ws 0).2 = 0 → ((restO k ws 0).1.map POp.b).flatMap opRow = ws.map some
  | k, [], _, _, _ => by cases k <;> kernel_rfl
  | 0, x :: r, hk, _, _ => by simp at hk
  | k + 1, x :: r, hk, ho, h => by
    simp only [restO] at h ⊢
    have hz : (opF x r).2.2 = 0 := by
      cases hm : (opF x r).2.2 with
      | zero => rfl
      | succ m => rw [hm, restO_err] at h; cases h
    obtain ⟨h1, xs, h2, h3⟩ := opF_read ho hz
    have hl := opF_len x r
    rw [hz] at h ⊢
    have ih := ops_read k (opF x r).2.1 (by simp at hk; omega) h1 h
    rw [List.map_cons, List.flatMap_cons, ih, h3, ← List.map_append, ← h2]
theorem gone_read : ∀ (k : Nat) (ws : List (List Nat)), ws.length ≤ k → (restG k ws 0).2 = 0 → (restG k ws 0).1.map decL = ws.map some
  | k, [], _, _ => by cases k <;> kernel_rfl
  | 0, x :: r, hk, _ => by simp at hk
  | k + 1, x :: r, hk, h => by
    simp only [restG] at h ⊢
    have hz : (rdNum (x :: r) 0).2.2 = 0 := by
      cases hm : (rdNum (x :: r) 0).2.2 with
      | zero => rfl
      | succ m => rw [hm, restG_err] at h; cases h
    obtain ⟨-, a, r1, v, hxr, e1, d1⟩ := rdNum_zero hz
    cases hxr
    rw [e1] at h ⊢
    simp only [Option.getD_some, List.map_cons, d1, List.cons.injEq, true_and] at h ⊢
    exact gone_read k r (by simp at hk; omega) h
theorem verbT_mem : ∀ v ∈ verbs, verbT v.kind v.ekind = some v := by
  intro v hv
  simp only [verbs, List.mem_cons, List.not_mem_nil, or_false] at hv
  rcases hv with rfl | rfl | rfl | rfl | rfl | rfl | rfl | rfl | rfl | rfl | rfl | rfl | rfl | rfl | rfl | rfl | rfl <;> kernel_rfl
theorem verb_enc : ∀ v ∈ verbs, encAll (nameR v) = v.name := by
  intro v hv
  simp only [verbs, List.mem_cons, List.not_mem_nil, or_false] at hv
  rcases hv with rfl | rfl | rfl | rfl | rfl | rfl | rfl | rfl | rfl | rfl | rfl | rfl | rfl | rfl | rfl | rfl | rfl <;> kernel_rfl
theorem verb_ascii : ∀ v ∈ verbs, nameR v ≠ [] ∧ ∀ c ∈ nameR v, c < 128 ∧ c ≠ 32 ∧ c ≠ 34 := by decide +kernel
/-- What was read is told by the words it was read from. -/
theorem read_told {ws : List (List Nat)} {m : PL} (ho : OkW ws) (h : parseW ws = (0, some m)) : textW m.b = some ws := by
  cases ws with
  | nil => cases h
  | cons x r =>
    cases hv : verbs[verbIdx (encAll x)]? with
    | none => simp only [parseW, hv] at h; cases h
    | some v =>
      have hmem : v ∈ verbs := List.mem_of_getElem? hv
      have hname : v.name = encAll x := by
        obtain ⟨hlt, he⟩ := List.getElem?_eq_some_iff.1 hv
        have := List.findIdx_getElem (p := fun v : Verb => v.name == encAll x) (xs := verbs) (w := hlt)
        have e2 : verbs[verbs.findIdx fun v : Verb => v.name == encAll x] = v := he
        rw [e2] at this
        exact eq_of_beq this
      have hx : nameR v = x := encAll_name (by rw [verb_enc v hmem, hname]) (ok_ascii fun c hc => ((verb_ascii v hmem).2 c hc).1) (ho x (by simp))
      simp only [parseW, hv] at h
      split at h
      · rename_i hz
        simp only [Prod.mk.injEq, Option.some.injEq, true_and] at h
        have hf0 : (rdFlds v.flds { PW.zero with kind := v.kind, ekind := v.ekind } r 0).2.2 = 0 := by
          cases hm : (rdFlds v.flds { PW.zero with kind := v.kind, ekind := v.ekind } r 0).2.2 with
          | zero => rfl
          | succ k =>
            rw [hm] at hz
            exfalso
            unfold restAny at hz
            split at hz
            · rw [restO_err] at hz; cases hz
            · split at hz
              · rw [restG_err] at hz; cases hz
              · simp [restN] at hz
        obtain ⟨-, h1, xs, h2, h3⟩ := flds_read v.flds { PW.zero with kind := v.kind, ekind := v.ekind } r 0 (verbs_nodup v hmem) (fun y hy => ho y (List.mem_cons_of_mem _ hy)) hf0
        have hk := rdFlds_kind v.flds { PW.zero with kind := v.kind, ekind := v.ekind } r 0
        rw [hf0] at hz h
        generalize rdFlds v.flds { PW.zero with kind := v.kind, ekind := v.ekind } r 0 = q at *
        subst h
        unfold textW
        have e1 : (PL.b ⟨q.1, (restAny v.rest q.2.1 0).1, (restAny v.rest q.2.1 0).2.1⟩).p.kind = v.kind := hk.1
        have e2 : (PL.b ⟨q.1, (restAny v.rest q.2.1 0).1, (restAny v.rest q.2.1 0).2.1⟩).p.ekind = v.ekind := hk.2
        rw [e1, e2, verbT_mem v hmem, Option.bind_some, tellAll_iff]
        unfold lineRow
        have e3 : restRow v.rest (PL.b ⟨q.1, (restAny v.rest q.2.1 0).1, (restAny v.rest q.2.1 0).2.1⟩) = q.2.1.map some := by
          unfold restAny at hz ⊢
          unfold restRow
          rcases verbs_rest v hmem with hr | hr | hr
          · rw [if_pos hr] at hz ⊢
            rw [if_pos hr]
            exact ops_read _ _ (Nat.le_refl _) h1 hz
          · rw [if_neg (by omega), if_pos hr] at hz ⊢
            rw [if_neg (by omega), if_pos hr]
            exact gone_read _ _ (Nat.le_refl _) hz
          · rw [if_neg (by omega), if_neg (by omega)] at hz ⊢
            try rw [if_neg (by omega), if_neg (by omega)]
            have : q.2.1 = [] := by
              cases hq : q.2.1 with
              | nil => rfl
              | cons a b => rw [hq] at hz; simp [restN] at hz
            rw [this]
            rfl
        rw [e3, hx]
        have e4 : (PL.b ⟨q.1, (restAny v.rest q.2.1 0).1, (restAny v.rest q.2.1 0).2.1⟩).p = q.1.b := rfl
        rw [e4, h3, ← List.map_append, ← h2]
        rfl
      · have := congrArg Prod.snd h
        simp at this

/-! ### The line -/
def joinW : List (List Nat) → List Nat
  | [] => []
  | a :: r => a ++ r.flatMap fun x => 32 :: x
theorem run_words : ∀ (r : List (List Nat)) (a : List Nat) (out : List (List Nat)), IsWord a → (∀ x ∈ r, IsWord x) → (wsRun ⟨out, [], .gap⟩ (a ++ r.flatMap fun x => 32 :: x)).bind WS.fin = some (out ++ a :: r)
  | [], a, out, ha, _ => by
    obtain ⟨m, hm, h⟩ := ha
    rw [List.flatMap_nil, List.append_nil, h]
    rcases hm with rfl | rfl <;> kernel_rfl
  | b :: r, a, out, ha, hr => by
    have e : a ++ (b :: r).flatMap (fun x => 32 :: x) = (a ++ [32]) ++ (b ++ r.flatMap fun x => 32 :: x) := by
      simp [List.flatMap_cons]
    rw [e, wsRun_append, run_word_blank ha, Option.bind_some, run_words r b (out ++ [a]) (hr b (by simp)) (fun x hx => hr x (List.mem_cons_of_mem _ hx))]
    simp
theorem join_words {ws : List (List Nat)} (hne : ws ≠ []) (h : ∀ x ∈ ws, IsWord x) : wordsL (joinW ws) = some ws := by
  cases ws with
  | nil => exact absurd rfl hne
  | cons a r => exact run_words r a [] (h a (by simp)) (fun x hx => h x (List.mem_cons_of_mem _ hx))
theorem join_ok {ws : List (List Nat)} (h : OkW ws) : allOk (joinW ws) := by
  cases ws with
  | nil => exact allOk_nil
  | cons a r =>
    refine allOk_append.2 ⟨h a (by simp), ?_⟩
    intro c hc
    obtain ⟨x, hx, hc⟩ := List.mem_flatMap.1 hc
    rcases List.mem_cons.1 hc with rfl | hc
    · decide +kernel
    · exact h x (List.mem_cons_of_mem _ hx) c hc
theorem decL_word {v : Int} {x : List Nat} (h : decL v = some x) : IsWord x ∧ allOk x ∧ x.length ≤ 10 := by
  unfold decL at h
  split at h
  · cases h
  · rename_i hb
    obtain rfl := Option.some.inj h
    have hd := digs_all v.natAbs
    have hl : (digs v.natAbs).length ≤ 9 := digs_len _ 8 (by omega)
    have hne := digs_ne v.natAbs
    have hall : ∀ c ∈ (if v < 0 then [45] else []) ++ digs v.natAbs, 45 ≤ c ∧ c ≤ 57 := by
      intro c hc
      rcases List.mem_append.1 hc with hc | hc
      · split at hc <;> simp at hc
        omega
      · have := hd c hc; omega
    refine ⟨word_bare ?_ (fun c hc => by have := hall c hc; omega), ok_ascii (fun c hc => by have := hall c hc; omega), ?_⟩
    · intro e
      exact hne (List.append_eq_nil_iff.1 e).2
    · rw [List.length_append]
      split <;> simp <;> omega
theorem tellS_word {s : ByteArray} {x : List Nat} (h : tellS s = some x) : IsWord x ∧ allOk x ∧ x.length ≤ 2 * s.size + 2 := by
  unfold tellS at h
  obtain ⟨t, ht, h2⟩ := Option.bind_eq_some_iff.1 h
  obtain ⟨ho, hs⟩ := dec_some ht
  obtain ⟨h3, h4⟩ := quote_ok h2 ho
  exact ⟨word_quote h2, h3, by have := len_le hs; omega⟩
end Go.Proofs.YtjhmehmmpfnnkaaDoor
