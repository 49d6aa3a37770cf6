/-
  What the Lines walks share: the errors that package lines gives, by their numbers.
  Plain: Unquote's reader, rune by rune.
  Blocks that are known whole, and frames: which blocks may have turned.
  The contract of (*lines.reader).word.
  Contracts: right_any.
-/
import Derived.Test.YtjhmehmmpfnnkaaDoorM02
import Derived.Test.YtjhmehmmpfnnkaaDoorM03
namespace Go.Proofs.YtjhmehmmpfnnkaaDoor
open Go.RowKit Utf
set_option maxRecDepth 100000
set_option linter.unusedSimpArgs false
set_option linter.unusedVariables false

/-- The listed variables that package lines reads: each holds a pointer to an errorString. -/
def LErr (W : World) (ea : Nat → Addr) : Prop := ∀ i, (i = 1 ∨ i = 3 ∨ i = 5 ∨ i = 6 ∨ i = 15) → W.cell? ⟨errG i, 0, none⟩ = some (errV ea i)

theorem LErr.below {W W' : World} {ea : Nat → Addr} (h : LErr W ea) (hb : Below W.heap.size W W') : LErr W' ea :=
  fun i hi => (hb.cell (World.block_lt_of_cell? W _ (h i hi))).trans (h i hi)

theorem ErrsAt.lerr {W : World} {ea : Nat → Addr} (h : ErrsAt W ea) : LErr W ea := fun i hi => h.cell i (by omega)

section
variable {W : World} {ea : Nat → Addr} (h : LErr W ea)
include h
theorem LErr.short : W.cell? ⟨3, 0, none⟩ = some (.iface 163 (.pointer (some (ea 1)))) := h 1 (by omega)
theorem LErr.form : W.cell? ⟨1, 0, none⟩ = some (.iface 163 (.pointer (some (ea 3)))) := h 3 (by omega)
theorem LErr.rune : W.cell? ⟨0, 0, none⟩ = some (.iface 163 (.pointer (some (ea 5)))) := h 5 (by omega)
theorem LErr.name : W.cell? ⟨6, 0, none⟩ = some (.iface 163 (.pointer (some (ea 6)))) := h 6 (by omega)
theorem LErr.none : W.cell? ⟨15, 0, none⟩ = some (.iface 163 (.pointer (some (ea 15)))) := h 15 (by omega)
end

/-- An error by its number; nil of 0. -/
def errOf (ea : Nat → Addr) (n : Nat) : Value := if n = 0 then .nilIface else errV ea (n - 1)
theorem errOf_zero (ea : Nat → Addr) : errOf ea 0 = .nilIface := rfl
theorem errOf_succ (ea : Nat → Addr) (n : Nat) : errOf ea (n + 1) = .iface 163 (.pointer (some (ea n))) := rfl

/-- The iterator's block and a row of cells are two blocks. -/
theorem OwnE.iter_ne {w : World} {B : Nat} {e : TypeId} {size : Nat} {v : Value} {n : Nat} {xs : List Value} (h : OwnE w B e size v n xs) {b : Nat} {s : ByteArray} {p : Nat} (hb : w.heap[b]? = some (.stringIter s p)) : ownB v ≠ some b := by
  intro hk
  rcases h with ⟨h, _, _⟩ | h
  · rcases h with rfl | ⟨g', rfl⟩ <;> cases hk
  · rcases h.2 with ⟨rfl, _⟩ | ⟨g, cap, cur, rfl, _, hg, _⟩
    · cases hk
    · simp only [ownB] at hk
      split at hk
      · cases hk
      · have : g = b := by simpa using hk
        subst this
        rw [hg] at hb
        cases hb

theorem OwnE.iterAt' {w : World} {B : Nat} {e : TypeId} {size : Nat} {v : Value} {n : Nat} {xs : List Value} (h : OwnE w B e size v n xs) {b : Nat} {s : ByteArray} {p : Nat} (hb : w.heap[b]? = some (.stringIter s p)) (p' : Nat) : OwnE (w.iterAt b s p') B e size v n xs := by
  rcases h with h | h
  · exact .inl h
  · refine .inr ⟨h.1, ?_⟩
    rcases h.2 with h2 | ⟨g, cap, cur, hv, hB, hg, r⟩
    · exact .inl h2
    · refine .inr ⟨g, cap, cur, hv, hB, ?_, r⟩
      rw [Lib.iterAt_other _ _ _ _ _ (fun e => by subst e; rw [hg] at hb; cases hb)]
      exact hg

/-- The iterator's block behind an append to a row of the call's own. -/
theorem iter_grownE {w w' : World} {B : Nat} {e : TypeId} {size : Nat} {v : Value} {n : Nat} {xs : List Value} (h : OwnE w B e size v n xs) {e' : TypeId} {us : Array Value} {b : Nat} {s : ByteArray} {p : Nat} (hg : (w.alloc (.cells us e')).grownBy w' (ownB v)) (hb : w.heap[b]? = some (.stringIter s p)) : w'.heap[b]? = some (.stringIter s p) := by
  have hlt : b < w.heap.size := (Array.getElem?_eq_some_iff.1 hb).1
  rw [hg.block b (by simp; omega) (fun e => h.iter_ne hb e.symm), Below.heap_alloc w _ b hlt]
  exact hb

theorem off_pos_lt {s : ByteArray} {rs : List Nat} (h : s.data.toList = encAll rs) (k : Nat) (hk : k < rs.length) : s.size - off rs (k + 1) < s.size - off rs k := by
  have h1 := off_succ rs k hk
  have h2 := off_lt h k hk
  have h3 := enc_length rs[k]
  omega
end Go.Proofs.YtjhmehmmpfnnkaaDoor

namespace Go.Proofs.YtjhmehmmpfnnkaaDoor
open Go.RowKit Utf
set_option linter.unusedSimpArgs false
set_option linter.unusedVariables false

/-- One rune of what stands between the quotes: is a mark open? what has been read. -/
def uqStep (st : Bool × List Nat) (x : Nat) : Option (Bool × List Nat) :=
  if st.1 = true then (if x = 34 ∨ x = 92 then some (false, st.2 ++ [x]) else none)
  else if x = 34 ∨ badQ x = true then none else if x = 92 then some (true, st.2) else some (false, st.2 ++ [x])
def uqRun : Bool × List Nat → List Nat → Option (Bool × List Nat)
  | s, [] => some s
  | s, x :: l => (uqStep s x).bind fun t => uqRun t l
def uqFin : Option (Bool × List Nat) → Option (List Nat)
  | some (false, l) => some l
  | _ => none

theorem uqRun_append (s : Bool × List Nat) : ∀ (l r : List Nat), uqRun s (l ++ r) = (uqRun s l).bind fun t => uqRun t r := by
  intro l
  induction l generalizing s with
  | nil => intro r; rfl
  | cons x l ih =>
    intro r
    show (uqStep s x).bind (fun t => uqRun t (l ++ r)) = ((uqStep s x).bind fun t => uqRun t l).bind _
    cases uqStep s x with
    | none => rfl
    | some t => exact ih t r

theorem uqRun_take {rs : List Nat} {k : Nat} (hk : k < rs.length) {s : Bool × List Nat} (h : uqRun (false, []) (rs.take k) = some s) :
    uqRun (false, []) (rs.take (k + 1)) = uqStep s rs[k] := by
  rw [List.take_succ_eq_append_getElem hk, uqRun_append, h]
  show (uqStep s rs[k]).bind (fun t => some t) = _
  cases uqStep s rs[k] <;> rfl

theorem unq_run : ∀ (n : Nat) (l acc : List Nat), l.length ≤ n → uqFin (uqRun (false, acc) l) = (unq l).map (acc ++ ·)
  | _, [], acc, _ => by simp [uqRun, uqFin, unq]
  | 0, x :: l, acc, hn => by simp at hn
  | n + 1, x :: l, acc, hn => by
    simp only [List.length_cons] at hn
    by_cases hx : x = 92
    · subst hx
      cases l with
      | nil => simp [uqRun, uqStep, uqFin, unq, badQ]
      | cons y r =>
        by_cases hy : y = 34 ∨ y = 92
        · have ih := unq_run n r (acc ++ [y]) (by simp at hn; omega)
          have h1 : uqRun (false, acc) (92 :: y :: r) = uqRun (false, acc ++ [y]) r := by
            simp [uqRun, uqStep, hy, badQ]
          have h2 : unq (92 :: y :: r) = (unq r).map (y :: ·) := by
            conv => lhs; unfold unq
            rw [if_pos rfl]
            show (if y = 34 ∨ y = 92 then _ else _) = _
            rw [if_pos hy]
          rw [h1, ih, h2, Option.map_map]
          congr 1
          funext t
          simp
        · have h1 : uqRun (false, acc) (92 :: y :: r) = none := by
            simp [uqRun, uqStep, hy, badQ]
          have h2 : unq (92 :: y :: r) = none := by
            unfold unq
            rw [if_pos rfl]
            show (if y = 34 ∨ y = 92 then _ else _) = _
            rw [if_neg hy]
          rw [h1, h2]; rfl
    · by_cases hb : x = 34 ∨ badQ x = true
      · have h1 : uqRun (false, acc) (x :: l) = none := by
          simp only [uqRun, uqStep]
          rw [if_neg (by decide), if_pos hb]
          rfl
        have h2 : unq (x :: l) = none := by
          unfold unq
          rw [if_neg hx, if_pos hb]
        rw [h1, h2]; rfl
      · have ih := unq_run n l (acc ++ [x]) (by omega)
        have h1 : uqRun (false, acc) (x :: l) = uqRun (false, acc ++ [x]) l := by
          simp only [uqRun, uqStep]
          rw [if_neg (by decide), if_neg hb, if_neg hx]
          rfl
        have h2 : unq (x :: l) = (unq l).map (x :: ·) := by
          conv => lhs; unfold unq
          rw [if_neg hx, if_neg hb]
        rw [h1, ih, h2, Option.map_map]
        congr 1
        funext t
        simp

theorem unq_end {l : List Nat} {s : Bool × List Nat} (h : uqRun (false, []) l = some s) : unq l = uqFin (some s) := by
  have := unq_run l.length l [] (Nat.le_refl _)
  rw [h] at this
  rw [this]
  cases unq l <;> simp

theorem unq_stop {l : List Nat} {k : Nat} (hk : k < l.length) {s : Bool × List Nat} (h : uqRun (false, []) (l.take k) = some s) (hs : uqStep s l[k] = none) : unq l = none := by
  have h2 := uqRun_take hk h
  rw [hs] at h2
  have := unq_run l.length l [] (Nat.le_refl _)
  have e : l = l.take (k + 1) ++ l.drop (k + 1) := (List.take_append_drop _ _).symm
  have h3 : uqRun (false, []) l = none := by
    rw [e, uqRun_append, h2]
    rfl
  rw [h3] at this
  cases hu : unq l with
  | none => rfl
  | some t => rw [hu] at this; cases this

theorem uqRun_len (s t : Bool × List Nat) : ∀ l, uqRun s l = some t → t.2.length ≤ s.2.length + l.length := by
  intro l
  induction l generalizing s with
  | nil => intro h; cases h; simp
  | cons x l ih =>
    intro h
    simp only [uqRun] at h
    cases hs : uqStep s x with
    | none => rw [hs] at h; cases h
    | some u =>
      rw [hs] at h
      have h1 := ih u h
      have h2 : u.2.length ≤ s.2.length + 1 := by
        unfold uqStep at hs
        repeat' split at hs
        all_goals (cases hs; try simp)
      simp only [List.length_cons]
      omega

theorem text34 {l : List Nat} (ho : allOk l) : ((mkS (encAll l)).toList == [34]) = decide (l = [34]) := by
  have e : encAll [34] = [34] := by decide +kernel
  have ho34 : allOk [34] := by intro c hc; simp at hc; subst hc; decide +kernel
  rw [Lib.toList_data, mkS_data, Bool.eq_iff_iff]
  simp only [beq_iff_eq, decide_eq_true_eq]
  constructor
  · intro h
    rw [← e] at h
    exact encAll_inj ho ho34 h
  · rintro rfl
    exact e

theorem head34 {rs : List Nat} (h : 2 ≤ rs.length) : rs.take 1 = [34] ↔ rs.head? = some 34 := by
  cases rs with
  | nil => simp at h
  | cons x l => simp

theorem last34 {rs : List Nat} (h : 2 ≤ rs.length) : rs.drop (rs.length - 1) = [34] ↔ rs.getLast? = some 34 := by
  have hne : rs ≠ [] := by rintro rfl; simp at h
  rw [List.getLast?_eq_some_getLast hne]
  have e := List.dropLast_concat_getLast hne
  have e2 : rs.drop (rs.length - 1) = [rs.getLast hne] := by
    have h1 : rs.drop (rs.length - 1) = (rs.dropLast ++ [rs.getLast hne]).drop (rs.length - 1) := by rw [e]
    rw [h1, List.drop_append_of_le_length (by simp), List.drop_of_length_le (by simp)]
    rfl
  rw [e2]
  simp

theorem mid_eq (rs : List Nat) (h : 2 ≤ rs.length) : (rs.drop 1).take (rs.length - 2) = rs.tail.dropLast := by
  rw [List.drop_one, List.dropLast_eq_take, List.length_tail, Nat.sub_sub]

theorem unquoteL_bad {rs : List Nat} (h : rs.length < 2 ∨ rs.head? ≠ some 34 ∨ rs.getLast? ≠ some 34) : unquoteL rs = none := by
  unfold unquoteL
  rw [if_pos h]

theorem unquoteL_mid {rs : List Nat} (h : 2 ≤ rs.length) (h1 : rs.head? = some 34) (h2 : rs.getLast? = some 34) : unquoteL rs = unq ((rs.drop 1).take (rs.length - 2)) := by
  unfold unquoteL
  rw [if_neg, mid_eq rs h]
  rintro (h' | h' | h')
  · omega
  · exact h' h1
  · exact h' h2

theorem allOk_take {l : List Nat} (h : allOk l) (n : Nat) : allOk (l.take n) := fun c hc => h c (List.mem_of_mem_take hc)
theorem allOk_drop {l : List Nat} (h : allOk l) (n : Nat) : allOk (l.drop n) := fun c hc => h c (List.mem_of_mem_drop hc)
theorem encAll_len (rs : List Nat) : rs.length ≤ (encAll rs).length := by
  induction rs with
  | nil => simp
  | cons c l ih => rw [encAll_cons, List.length_append]; have := enc_length c; simp only [List.length_cons]; omega
theorem encAll_take_le (rs : List Nat) (n : Nat) : (encAll (rs.take n)).length ≤ (encAll rs).length := by
  conv => rhs; rw [← List.take_append_drop n rs, encAll_append, List.length_append]
  omega
theorem encAll_drop_le (rs : List Nat) (n : Nat) : (encAll (rs.drop n)).length ≤ (encAll rs).length := by
  conv => rhs; rw [← List.take_append_drop n rs, encAll_append, List.length_append]
  omega
end Go.Proofs.YtjhmehmmpfnnkaaDoor

namespace Go.Proofs.YtjhmehmmpfnnkaaDoor
open Go.RowKit Utf
set_option maxRecDepth 100000
set_option linter.unusedSimpArgs false
set_option linter.unusedVariables false

/-- Block g holds just these cells, none frozen. -/
def Blk (w : World) (g : Nat) (t : TypeId) (cs : Array Value) : Prop := w.heap[g]? = some (.cells cs t (0, 0))

section
variable {w w' : World} {g : Nat} {t : TypeId} {cs : Array Value}
theorem Blk.lt (h : Blk w g t cs) : g < w.heap.size := (Array.getElem?_eq_some_iff.1 h).1
theorem Blk.cell (h : Blk w g t cs) (i : Nat) : w.cell? ⟨g, i, none⟩ = cs[i]? := cell_of_row w g i cs t (0, 0) h
theorem Blk.frozen (h : Blk w g t cs) (i : Nat) : w.frozen? ⟨g, i, none⟩ = false := by unfold Blk at h; simp [World.frozen?, h]
theorem Blk.new (w : World) (t : TypeId) (cs : Array Value) : Blk (w.alloc (.cells cs t)) w.heap.size t cs := heap_alloc_new w _
theorem Blk.drewN (h : Blk w g t cs) (n : Nat) : Blk (w.drewN n) g t cs := h
theorem Blk.alloc (h : Blk w g t cs) (o : Obj) : Blk (w.alloc o) g t cs := (Below.heap_alloc w o g h.lt).trans h
theorem Blk.put (h : Blk w g t cs) (i : Nat) (u : Value) : Blk (w.setCell ⟨g, i, none⟩ u) g t (cs.setIfInBounds i u) := by
  unfold Blk at h ⊢
  simp [World.setCell, Array.getElem?_modify, h]
theorem Blk.far (h : Blk w g t cs) {p : Addr} (hp : g ≠ p.block) (u : Value) : Blk (w.setCell p u) g t cs := (Below.heap_setCell w p u g hp).trans h
theorem Blk.below {B : Nat} (h : Blk w g t cs) (hb : Below B w w') (hg : g < B) : Blk w' g t cs := (hb.block g hg).trans h
end

/-- Of the blocks that lay, only those of S may have turned. -/
structure Only (S : Nat → Prop) (w w' : World) : Prop where
  os : w'.os = w.os
  tape : w'.tape = w.tape
  output : w'.output = w.output
  size : w.heap.size ≤ w'.heap.size
  block : ∀ k, k < w.heap.size → ¬ S k → w'.heap[k]? = w.heap[k]?

section
variable {S T : Nat → Prop} {a w w' : World}
theorem Only.refl (S : Nat → Prop) (w : World) : Only S w w := ⟨rfl, rfl, rfl, Nat.le_refl _, fun _ _ _ => rfl⟩
theorem Only.trans (h : Only S a w) (k : Only S w w') : Only S a w' :=
  ⟨k.os.trans h.os, k.tape.trans h.tape, k.output.trans h.output, Nat.le_trans h.size k.size, fun i hi hs => (k.block i (Nat.lt_of_lt_of_le hi h.size) hs).trans (h.block i hi hs)⟩
theorem Only.mono (h : Only S w w') (hs : ∀ k, S k → T k) : Only T w w' := ⟨h.os, h.tape, h.output, h.size, fun k hk ht => h.block k hk (fun s => ht (hs k s))⟩
/-- What is new may turn too. -/
theorem Only.also (h : Only T a w) (hs : ∀ k, T k → S k ∨ a.heap.size ≤ k) : Only S a w := ⟨h.os, h.tape, h.output, h.size, fun k hk ht => h.block k hk (fun s => (hs k s).elim ht (by omega))⟩
theorem Only.drewN (h : Only S a w) (n : Nat) : Only S a (w.drewN n) := ⟨h.os, h.tape, h.output, h.size, h.block⟩
theorem Only.alloc (h : Only S a w) (o : Obj) : Only S a (w.alloc o) :=
  ⟨h.os, h.tape, h.output, Nat.le_trans h.size (by simp), fun k hk hs => (Below.heap_alloc w o k (Nat.lt_of_lt_of_le hk h.size)).trans (h.block k hk hs)⟩
theorem Only.set (h : Only S a w) {p : Addr} (hp : S p.block ∨ a.heap.size ≤ p.block) (u : Value) : Only S a (w.setCell p u) :=
  ⟨h.os, h.tape, h.output, by simpa [World.setCell] using h.size, fun k hk hs => (Below.heap_setCell w p u k (fun e => by
    subst e
    rcases hp with hp | hp
    · exact hs hp
    · omega)).trans (h.block k hk hs)⟩
theorem Only.of_below {B : Nat} (h : Below B w w') (hs : ∀ k, k < w.heap.size → B ≤ k → S k) : Only S w w' :=
  ⟨h.os, h.tape, h.output, h.size, fun k hk hn => h.block k (Nat.lt_of_not_le fun hb => hn (hs k hk hb))⟩
theorem Only.below_all (h : Below w.heap.size w w') : Only S w w' := Only.of_below h (fun k hk hb => by omega)
theorem Only.to_below (h : Only S w w') {B : Nat} (hB : B ≤ w.heap.size) (hs : ∀ k, k < B → ¬ S k) : Below B w w' :=
  ⟨h.os, h.tape, h.output, h.size, fun k hk => h.block k (by omega) (hs k hk)⟩
/-- A step that may turn blocks of its own, some of which are new to the first world. -/
theorem Only.step (h : Only S a w) (k : Only T w w') (hs : ∀ i, T i → S i ∨ a.heap.size ≤ i) : Only S a w' :=
  ⟨k.os.trans h.os, k.tape.trans h.tape, k.output.trans h.output, Nat.le_trans h.size k.size, fun i hi hn => (k.block i (Nat.lt_of_lt_of_le hi h.size) (fun t => (hs i t).elim hn (by omega))).trans (h.block i hi hn)⟩
theorem Only.cell (h : Only S w w') {p : Addr} {v : Value} (hc : w.cell? p = some v) (hs : ¬ S p.block) : w'.cell? p = some v :=
  (World.cell?_of_block (h.block p.block (World.block_lt_of_cell? w p hc) hs)).trans hc
theorem Blk.only {g : Nat} {t : TypeId} {cs : Array Value} (hb : Blk w g t cs) (h : Only S w w') (hs : ¬ S g) : Blk w' g t cs := (h.block g hb.lt hs).trans hb
end

/-- A row of the call's own, kept. -/
theorem own_only {S : Nat → Prop} {w w' : World} {B : Nat} {e : TypeId} {size : Nat} {v : Value} {n : Nat} {xs : List Value} (h : w.ownsRow B e size v n xs) (ho : Only S w w') (hs : ∀ g, v.ownBlock = some g → ¬ S g) : w'.ownsRow B e size v n xs := by
  refine ⟨h.1, ?_⟩
  rcases h.2 with h2 | ⟨g, cap, cur, hv, hB, hg, r⟩
  · exact .inl h2
  · refine .inr ⟨g, cap, cur, hv, hB, ?_, r⟩
    rw [ho.block g (Array.getElem?_eq_some_iff.1 hg).1 (hs g (by rw [hv]; rfl))]
    exact hg

/-- A row of elements of one type and a block of another. -/
theorem own_ne_blk {w : World} {B : Nat} {e : TypeId} {size : Nat} {v : Value} {n : Nat} {xs : List Value} (h : w.ownsRow B e size v n xs) {c : Nat} {T : TypeId} {cs : Array Value} (hC : Blk w c T cs) (hne : e ≠ T) : v.ownBlock ≠ some c := by
  rcases h.2 with ⟨rfl, _⟩ | ⟨g', cap, cur, rfl, _, hg, _⟩
  · simp [Value.ownBlock]
  · intro hh
    have : g' = c := by simpa [Value.ownBlock] using hh
    subst this
    unfold Blk at hC
    rw [hg] at hC
    simp at hC
    exact hne hC.2

theorem Only.grown {S : Nat → Prop} {a w w' : World} {row : Option Nat} (h : Only S a w) (hg : w.grownBy w' row) (hr : ∀ k, row = some k → S k ∨ a.heap.size ≤ k) : Only S a w' :=
  ⟨hg.os.trans h.os, hg.tape.trans h.tape, hg.output.trans h.output, Nat.le_trans h.size hg.size, fun k hk hs => (hg.block k (Nat.lt_of_lt_of_le hk h.size) (fun e => by
    rcases hr k e.symm with h1 | h1
    · exact hs h1
    · omega)).trans (h.block k hk hs)⟩

/-- Above all blocks of the listed errors. -/
def gTop : Nat := (max (errG 1) (max (errG 3) (max (errG 5) (max (errG 6) (errG 15))))) + 1
theorem errG_top (i : Nat) (hi : i = 1 ∨ i = 3 ∨ i = 5 ∨ i = 6 ∨ i = 15) : errG i < gTop := by
  rcases hi with rfl | rfl | rfl | rfl | rfl <;> decide
theorem LErr.top {W : World} {ea : Nat → Addr} (h : LErr W ea) : gTop ≤ W.heap.size := by
  have h1 := World.block_lt_of_cell? W _ (h 1 (by omega))
  have h2 := World.block_lt_of_cell? W _ (h 3 (by omega))
  have h3 := World.block_lt_of_cell? W _ (h 5 (by omega))
  have h4 := World.block_lt_of_cell? W _ (h 6 (by omega))
  have h5 := World.block_lt_of_cell? W _ (h 15 (by omega))
  simp only at h1 h2 h3 h4 h5
  unfold gTop
  omega
theorem LErr.only {W W' : World} {ea : Nat → Addr} {S : Nat → Prop} (h : LErr W ea) (ho : Only S W W') (hs : ∀ k, S k → gTop ≤ k) : LErr W' ea :=
  fun i hi => ho.cell (h i hi) (fun s => by have := hs _ s; have := errG_top i hi; simp only at *; omega)
theorem LErr.set {W : World} {ea : Nat → Addr} (h : LErr W ea) {p : Addr} (hp : gTop ≤ p.block) (u : Value) : LErr (W.setCell p u) ea :=
  h.only (S := fun k => k = p.block) ((Only.refl (fun k => k = p.block) W).set (.inl rfl) u) (fun k hk => by subst hk; exact hp)
theorem LErr.drewN {W : World} {ea : Nat → Addr} (h : LErr W ea) (n : Nat) : LErr (W.drewN n) ea := h

/-- A row of cells, kept. -/
theorem RowAt.only {S : Nat → Prop} {w w' : World} {ao : Option Addr} {xs : List Value} (h : RowAt w ao xs) (ho : Only S w w') (hs : ∀ ad, ao = some ad → ¬ S ad.block) : RowAt w' ao xs := by
  intro i hi
  obtain ⟨b, o, e, hc⟩ := h i hi
  exact ⟨b, o, e, ho.cell hc (hs ⟨b, o, none⟩ e)⟩

/-- A reader of words: block b; the words that are left; its error's number. The row of words lies in no block of S. -/
def RAt (w : World) (b : Nat) (ea : Nat → Addr) (ws : List (List Nat)) (n : Nat) (K : Nat → Prop) : Prop :=
  ∃ ao cap, Blk w b 83 #[.slice ao ws.length cap, errOf ea n] ∧ RowAt w ao (strRow (fieldTexts ws)) ∧ ws.length ≤ cap ∧ cap ≤ maxLen ∧ (∀ ad, ao = some ad → ad.spot = none) ∧ (ao = none → cap = 0) ∧ (∀ ad, ao = some ad → K ad.block)

theorem RAt.only {S : Nat → Prop} {w w' : World} {b : Nat} {ea : Nat → Addr} {ws : List (List Nat)} {n : Nat} {K : Nat → Prop} (h : RAt w b ea ws n K) (ho : Only S w w') (hs : ¬ S b) (hK : ∀ k, S k → ¬ K k) : RAt w' b ea ws n K := by
  obtain ⟨ao, cap, h1, h2, h3, h4, h5, h6, h7⟩ := h
  exact ⟨ao, cap, h1.only ho hs, h2.only ho (fun ad e s => hK _ s (h7 ad e)), h3, h4, h5, h6, h7⟩
end Go.Proofs.YtjhmehmmpfnnkaaDoor

namespace Go.Proofs.YtjhmehmmpfnnkaaDoor
open Go.RowKit Utf
set_option maxRecDepth 100000
set_option linter.unusedSimpArgs false
set_option linter.unusedVariables false

theorem RowAt.rest {w : World} {ao : Option Addr} {x : Value} {xs : List Value} (h : RowAt w ao (x :: xs)) (b o : Nat) (e : ao = some ⟨b, o, none⟩) : RowAt w (some ⟨b, o + 1, none⟩) xs := by
  subst e
  intro i hi
  obtain ⟨b', o', e', hc⟩ := h (i + 1) (by simp; omega)
  cases e'
  refine ⟨b, o + 1, rfl, ?_⟩
  rw [Nat.add_assoc, Nat.add_comm 1 i]
  exact hc

theorem word_err (b : Nat) (ea : Nat → Addr) (ws : List (List Nat)) (n : Nat) (K : Nat → Prop) (w : World) (h : RAt w b ea ws (n + 1) K) :
    Calls Tryd.prog 58 #[.pointer (some ⟨b, 0, none⟩)] w fun e w' => e = .returned (.string ByteArray.empty) ∧ w = w' := by
  obtain ⟨ao, cap, hb, -⟩ := h
  rw [errOf_succ] at hb
  have hc := hb.cell 1
  clear hb
  go_enter Tryd.func58, Tryd.ntmps58
  go_wp2_with fail
  go_ret
  exact ⟨rfl, rfl⟩

theorem word_short (b : Nat) (ea : Nat → Addr) (K : Nat → Prop) (w : World) (h : RAt w b ea [] 0 K) (he : LErr w ea) :
    Calls Tryd.prog 58 #[.pointer (some ⟨b, 0, none⟩)] w fun e w' => e = .returned (.string ByteArray.empty) ∧ Only (fun k => k = b) w w' ∧ RAt w' b ea [] 2 K := by
  have HR := Lib.hid h
  obtain ⟨ao, cap, hb, -⟩ := h
  rw [errOf_zero] at hb
  have hc := hb.cell 1
  have hc0 := hb.cell 0
  have hf := hb.frozen 1
  have c1 := he.short
  clear hb he
  go_enter Tryd.func58, Tryd.ntmps58
  go_wp2_with fail
  go_ret
  refine ⟨rfl, (Only.refl (fun k => k = b) _).set (.inl rfl) _, ?_⟩
  obtain ⟨ao, cap, h1, h2, h3, h4, h5, h6, h7⟩ := HR.out
  exact ⟨ao, cap, h1.put 1 _, fun i hi => by simp [strRow, fieldTexts] at hi, h3, h4, h5, h6, h7⟩

theorem word_cons (b : Nat) (ea : Nat → Addr) (x : List Nat) (ws : List (List Nat)) (K : Nat → Prop) (w : World) (h : RAt w b ea (x :: ws) 0 K) (hK : ¬ K b) :
    Calls Tryd.prog 58 #[.pointer (some ⟨b, 0, none⟩)] w fun e w' => e = .returned (.string (mkS (encAll x))) ∧ Only (fun k => k = b) w w' ∧ RAt w' b ea ws 0 K := by
  obtain ⟨ao, cap, hb, hr, hlc, hcm, hsp, hno, hk⟩ := h
  have hlen : 0 < (strRow (fieldTexts (x :: ws))).length := by simp [strRow, fieldTexts]
  obtain ⟨bb, oo, rfl, hx⟩ := hr 0 hlen
  have hrs := hr.rest bb oo rfl
  have hx' : w.cell? ⟨bb, oo, none⟩ = some (.string (mkS (encAll x))) := hx
  have hbb : bb ≠ b := fun e => hK (by have := hk _ rfl; simp only at this; rwa [e] at this)
  have HB := Lib.hid hb
  have HRS := Lib.hid hrs
  have HK := Lib.hid (show K bb from hk _ rfl)
  have HBB := Lib.hid hbb
  have hc := hb.cell 1
  have hc0 := hb.cell 0
  have hf := hb.frozen 0
  rw [errOf_zero] at hc
  have hlc' : (ws.length : Int) + 1 ≤ (cap : Int) := by simp at hlc; omega
  have hlw : ws.length + 1 ≤ cap := by simpa using hlc
  have hnz : (((ws.length : Int) + 1) == 0) = false := by simp; omega
  simp only [List.length_cons] at hc0
  unfold maxLen at hcm
  clear hb hr hsp hno hk hx hrs hlc hbb hlen
  by_cases hcap : cap = 1
  · have hw0 : ws = [] := List.length_eq_zero_iff.1 (by omega)
    subst hw0
    subst hcap
    clear hlc' hlw
    go_enter Tryd.func58, Tryd.ntmps58
    go_wp2_with fail
    go_ret
    refine ⟨rfl, (Only.refl (fun k => k = b) _).set (.inl rfl) _, ⟨_, _, HB.out.put 0 _, (fun i hi => by simp [strRow, fieldTexts] at hi), by simp, by simp [maxLen], (fun ad e => by cases e; rfl), (fun e => by cases e), (fun ad e => by cases e; exact HK.out)⟩⟩
  · go_enter Tryd.func58, Tryd.ntmps58
    go_wp2_with fail
    go_ret
    refine ⟨rfl, (Only.refl (fun k => k = b) _).set (.inl rfl) _, ⟨_, _, HB.out.put 0 _, ?_, by omega, by unfold maxLen; omega, (fun ad e => by cases e; rfl), (fun e => by cases e), (fun ad e => by cases e; exact HK.out)⟩⟩
    exact HRS.out.only ((Only.refl (fun k => k = b) _).set (.inl rfl) _) (fun ad e s => by cases e; exact HBB.out s)
end Go.Proofs.YtjhmehmmpfnnkaaDoor

namespace Go.Proofs.YtjhmehmmpfnnkaaDoor
open Go.RowKit Utf
set_option maxRecDepth 100000
set_option linter.unusedSimpArgs false
set_option linter.unusedVariables false

set_option maxHeartbeats 400000 in
theorem right_any (s : ByteArray) (w : World) (hs : s.size ≤ maxLen) :
    Calls Tryd.prog 26 #[.string s] w fun e w' => e = .returned (.bool (dec s.data.toList).isSome) ∧ Below w.heap.size w w' := by
  unfold maxLen at hs
  have key : Calls Tryd.prog 26 #[.string s] w fun e w' => e = .returned (.bool (dec s.data.toList).isSome) ∧ ∃ pos, w' = w.iter s pos := by
    go_enter Tryd.func26, Tryd.ntmps26
    go_wp2
    go_loopw [3] (fun n w' => ∃ (rs : List Nat), w' = w.iter s (encAll rs).length ∧ allOk rs ∧ s.data.toList = encAll rs ++ s.data.toList.drop (encAll rs).length) (fun _ w' => s.size - w'.iterPos w.heap.size)
    case atStart => exact ⟨[], rfl, allOk_nil, rfl⟩
    case round =>
      obtain ⟨rs, rfl, ho, hx⟩ := hrel
      by_cases hp : (encAll rs).length < s.size
      · have hdec := decode_dec1 s (encAll rs).length hp
        have hl := drop_len s (encAll rs).length
        have hb := ext_drop s (encAll rs).length 3
        cases hd : dec1 (s.data.toList.drop (encAll rs).length) with
        | none =>
          rw [hd] at hdec
          have hnx : ∀ ty, (Instr.next (.pointer (some ⟨w.heap.size, 0, none⟩)) true ty).run Tryd.prog (w.iter s (encAll rs).length) = .ok (.tuple #[.bool true, .int .i64 (encAll rs).length, .int .i32 (65533 : Int)]) (w.iter s ((encAll rs).length + 1)) := fun ty => by
            rw [run_next_any w s (encAll rs).length ty hp, hdec]; rfl
          have hno : dec s.data.toList = none := by
            rw [hx, dec_append ho]
            cases ht : dec (s.data.toList.drop (encAll rs).length) with
            | none => rfl
            | some ts =>
              obtain ⟨h1, h2⟩ := dec_some ht
              cases ts with
              | nil => rw [h2] at hl; simp [encAll_nil] at hl; omega
              | cons c ts => rw [h2, encAll_cons, dec1_enc c (allOk_cons.1 h1).1] at hd; cases hd
          by_cases h3 : (s.size : Int) - ((encAll rs).length : Int) < 3
          · clear hb hl hd hdec
            have H := Lib.hid hx
            clear hx
            have HN := Lib.hid hno
            clear hno
            go_wp2
            go_ret
            rw [HN.out]
            exact ⟨rfl, _, rfl⟩
          · have hne : (!(s.extract (encAll rs).length ((encAll rs).length + 3)).toList == [239, 191, 189]) = true := by
              rw [hb]
              cases he : (List.take 3 (s.data.toList.drop (encAll rs).length) == [239, 191, 189]) with
              | false => rfl
              | true =>
                exfalso
                rw [beq_iff_eq] at he
                have := dec1_enc 65533 (by decide +kernel) ((s.data.toList.drop (encAll rs).length).drop 3)
                rw [enc_mark, ← he, List.take_append_drop, hd] at this
                cases this
            clear hb hl hd hdec
            have H := Lib.hid hx
            clear hx
            have HN := Lib.hid hno
            clear hno
            go_wp2
            go_ret
            rw [HN.out]
            exact ⟨rfl, _, rfl⟩
        | some cn =>
          obtain ⟨c, n⟩ := cn
          rw [hd] at hdec
          have hnx : ∀ ty, (Instr.next (.pointer (some ⟨w.heap.size, 0, none⟩)) true ty).run Tryd.prog (w.iter s (encAll rs).length) = .ok (.tuple #[.bool true, .int .i64 (encAll rs).length, .int .i32 (c : Int)]) (w.iter s ((encAll rs).length + n)) := fun ty => by
            rw [run_next_any w s (encAll rs).length ty hp, hdec]; rfl
          obtain ⟨d1, d2, d3⟩ := dec1_some hd
          have hn := enc_length c
          have hst := dec_step ho hx hd
          have hq : c = 65533 → (3 : Int) ≤ (s.size : Int) - ((encAll rs).length : Int) ∧ (!(s.extract (encAll rs).length ((encAll rs).length + 3)).toList == [239, 191, 189]) = false := by
            rintro rfl
            rw [d3, List.length_append, enc_mark] at hl
            simp at hl
            refine ⟨by omega, ?_⟩
            rw [hb, d3, enc_mark]
            rfl
          clear hb hl hd hdec d3
          have H := Lib.hid hx
          clear hx
          have HS := Lib.hid hst
          clear hst
          rw [← d2] at hn
          clear d2
          by_cases hc : c = 65533
          · obtain ⟨h3, hne⟩ := hq hc
            have hc' : ((c : Int) == 65533) = true := by simp; omega
            clear hq
            have HC := Lib.hid hc
            clear hc
            go_wp2
            go_roundw
            case rel => exact ⟨rs ++ [c], by rw [HS.out.2.1], HS.out.1, HS.out.2.2⟩
            case measure => simp; omega
          · have hc' : ((c : Int) == 65533) = false := by simp; omega
            clear hq hc
            go_wp2
            go_roundw
            case rel => exact ⟨rs ++ [c], by rw [HS.out.2.1], HS.out.1, HS.out.2.2⟩
            case measure => simp; omega
      · have hnx : ∀ ty, (Instr.next (.pointer (some ⟨w.heap.size, 0, none⟩)) true ty).run Tryd.prog (w.iter s (encAll rs).length) = _ := fun ty => run_next_end w s (encAll rs).length ty hp
        have hd : dec s.data.toList = some rs := by
          have : s.data.toList.drop (encAll rs).length = [] := by
            rw [List.drop_eq_nil_iff]
            simp
            exact Nat.not_lt.1 hp
          rw [hx, this, List.append_nil]
          exact dec_encAll ho
        have H := Lib.hid hx
        clear hx
        have HD := Lib.hid hd
        clear hd
        go_wp2
        go_ret
        rw [HD.out]
        exact ⟨rfl, _, rfl⟩
  refine key.mono ?_
  rintro e w' ⟨rfl, pos, rfl⟩
  exact ⟨rfl, (Below.refl _ _).alloc (Nat.le_refl _) _⟩
end Go.Proofs.YtjhmehmmpfnnkaaDoor
