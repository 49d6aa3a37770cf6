/-
  Plain facts and small laws on worlds that all walks of this seat use: texts, rows, appends, iterators.
-/
import Derived.Test.YthjmfcdhpdiehaaGreatDoorRows
import Derived.Test.YthjmfcdhpdiehaaGreatDoorM01
import Derived.WalkKit
import Derived.WalkSpells
import Derived.WalkLawsBesides
import Derived.ArgAppend
import Derived.Laws.AppendOwnNone
import Derived.Laws.IdiomStrings
import Derived.Laws.Cover4
import Derived.Lib.Hide
import Derived.Lib.Strings
import Derived.Deep.QuietTactic
import Derived.BigQuiet
import Derived.OwnWalkIn
import Derived.RangeFuncBox
import Derived.RangeFuncNested
namespace Go.Proofs.YthjmfcdhpdiehaaGreatDoor
open Go.RowKit Utf
set_option maxRecDepth 100000
set_option linter.unusedSimpArgs false
set_option linter.unusedVariables false

/-- What a call owned stays owned behind a call that turns nothing that lay. -/
theorem own_below {w w' : World} {base : Nat} {e : TypeId} {size : Nat} {v : Value} {n : Nat} {xs : List Value} (h : w.ownsRow base e size v n xs) (hb : Below w.heap.size w w') : w'.ownsRow base e size v n xs := by
  obtain ⟨h1, h2⟩ := h
  refine ⟨h1, ?_⟩
  rcases h2 with h2 | ⟨g, cap, cur, hv, hg, hh, r⟩
  · exact .inl h2
  · refine .inr ⟨g, cap, cur, hv, hg, ?_, r⟩
    rw [hb.block g (Array.getElem?_eq_some_iff.1 hh).1]
    exact hh

theorem own_base {w : World} {base base' : Nat} {e : TypeId} {size : Nat} {v : Value} {n : Nat} {xs : List Value} (h : w.ownsRow base e size v n xs) (hb : base' ≤ base) : w.ownsRow base' e size v n xs := by
  obtain ⟨h1, h2⟩ := h
  refine ⟨h1, ?_⟩
  rcases h2 with h2 | ⟨g, cap, cur, hv, hg, r⟩
  · exact .inl h2
  · exact .inr ⟨g, cap, cur, hv, by omega, r⟩

theorem str_ext {a b : ByteArray} (h : a.data.toList = b.data.toList) : a = b := by
  cases a; cases b; simp at h; rw [h]

/-- What stands at a place of a text: its bytes. -/
theorem ext_drop (s : ByteArray) (p k : Nat) : (s.extract p (p + k)).toList = (s.data.toList.drop p).take k := by
  rw [Lib.extract_toList]; congr 1; omega

theorem drop_len (s : ByteArray) (p : Nat) : (s.data.toList.drop p).length = s.size - p := by
  simp

theorem one_cell (v : Value) (w : World) (t : TypeId) : ∀ (j : Nat) (u : Value), [v][j]? = some u → (w.alloc (.cells #[v] t)).cell? (Addr.add ⟨w.heap.size, 0, none⟩ j) = some u := by
  intro j u hj
  match j, hj with
  | 0, hj => simp at hj; subst hj; simp [Addr.add]

theorem ret_int {k : IntKind} {a b : Int} (h : a = b) : Ending.returned (.int k a) = .returned (.int k b) := by rw [h]

theorem int_val {k : IntKind} {a b : Int} (h : a = b) : Value.int k a = Value.int k b := by rw [h]

theorem Tryz.infoInt : (Tryz.prog.info? 3).map (fun i => (i.zero, i.size, i.bytes)) = some (some (.int .i64 0), 1, 8) := by kernel_rfl

theorem Tryz.infoByte : (Tryz.prog.info? 5).map (fun i => (i.zero, i.size, i.bytes)) = some (some (.int .u8 0), 1, 1) := by kernel_rfl

def natRow (rs : List Nat) : List Value := rs.map fun (c : Nat) => Value.int .i64 (c : Int)

theorem natRow_len (rs : List Nat) : (natRow rs).length = rs.length := by simp [natRow]

theorem natRow_snoc (rs : List Nat) (c : Nat) (x : Int) (h : x = (c : Int)) : natRow rs ++ [Value.int .i64 x] = natRow (rs ++ [c]) := by simp [natRow, h]

theorem dec_step {s : ByteArray} {rs : List Nat} {c n : Nat} (ho : allOk rs) (hs : s.data.toList = encAll rs ++ s.data.toList.drop (encAll rs).length)
    (hd : dec1 (s.data.toList.drop (encAll rs).length) = some (c, n)) :
    allOk (rs ++ [c]) ∧ (encAll (rs ++ [c])).length = (encAll rs).length + n ∧ s.data.toList = encAll (rs ++ [c]) ++ s.data.toList.drop (encAll (rs ++ [c])).length := by
  obtain ⟨h1, h2, h3⟩ := dec1_some hd
  have e1 : encAll (rs ++ [c]) = encAll rs ++ enc c := by rw [encAll_append]; simp [encAll]
  have e2 : (encAll (rs ++ [c])).length = (encAll rs).length + n := by rw [e1, List.length_append, h2]
  refine ⟨allOk_append.2 ⟨ho, allOk_cons.2 ⟨h1, allOk_nil⟩⟩, e2, ?_⟩
  rw [List.drop_drop] at h3
  rw [e2, e1, List.append_assoc, ← h3]
  exact hs

theorem dec_stuck {s : ByteArray} {rs : List Nat} (ho : allOk rs) (hs : s.data.toList = encAll rs ++ s.data.toList.drop (encAll rs).length) (hp : (encAll rs).length < s.size)
    (hd : dec1 (s.data.toList.drop (encAll rs).length) = none) : dec s.data.toList = none := by
  have hl := drop_len s (encAll rs).length
  rw [hs, dec_append ho]
  cases ht : dec (s.data.toList.drop (encAll rs).length) with
  | none => rfl
  | some ts =>
    obtain ⟨h1, h2⟩ := dec_some ht
    cases ts with
    | nil => rw [h2] at hl; simp [encAll_nil] at hl; omega
    | cons c ts => rw [h2, encAll_cons, dec1_enc c (allOk_cons.1 h1).1] at hd; cases hd

theorem dec_done {s : ByteArray} {rs : List Nat} (ho : allOk rs) (hs : s.data.toList = encAll rs ++ s.data.toList.drop (encAll rs).length) (hp : ¬ (encAll rs).length < s.size) :
    dec s.data.toList = some rs := by
  have : s.data.toList.drop (encAll rs).length = [] := by
    rw [List.drop_eq_nil_iff]
    simp
    exact Nat.not_lt.1 hp
  rw [hs, this, List.append_nil]
  exact dec_encAll ho

theorem drop_cons (s : ByteArray) (p : Nat) (h : p < s.size) : s.data.toList.drop p = s[p] :: s.data.toList.drop (p + 1) := by
  rw [List.drop_eq_getElem_cons (by simpa using h)]
  rfl

theorem drop_nil (s : ByteArray) (p : Nat) (h : ¬ p < s.size) : s.data.toList.drop p = [] := by
  rw [List.drop_eq_nil_iff]; simp; exact Nat.not_lt.1 h

section
variable {s : ByteArray} {p : Nat} (h : p < s.size)
include h
theorem dec1_at1 (hb : s[p].toNat < 128) : dec1 (s.data.toList.drop p) = some (s[p].toNat, 1) := by
  rw [drop_cons s p h]; simp [dec1, hb]
theorem dec1_at0 (hb : 128 ≤ s[p].toNat) (hb' : s[p].toNat < 192 ∨ 248 ≤ s[p].toNat) : dec1 (s.data.toList.drop p) = none := by
  rw [drop_cons s p h]; simp only [dec1]
  rw [if_neg (by omega), if_neg (by omega), if_neg (by omega), if_neg (by omega)]
theorem dec1_short2 (hb : 192 ≤ s[p].toNat) (hs : ¬ p + 1 < s.size) : dec1 (s.data.toList.drop p) = none := by
  rw [drop_cons s p h, drop_nil s _ hs]; simp only [dec1]
  rw [if_neg (by omega)]
  repeat' split
  all_goals rfl
theorem dec1_short3 (hb : 224 ≤ s[p].toNat) (hs : ¬ p + 2 < s.size) : dec1 (s.data.toList.drop p) = none := by
  by_cases h1 : p + 1 < s.size
  · rw [drop_cons s p h, drop_cons s (p + 1) h1, drop_nil s _ hs]; simp only [dec1]
    rw [if_neg (by omega), if_neg (by omega)]
    repeat' split
    all_goals rfl
  · exact dec1_short2 h (by omega) h1
theorem dec1_short4 (hb : 240 ≤ s[p].toNat) (hs : ¬ p + 3 < s.size) : dec1 (s.data.toList.drop p) = none := by
  by_cases h1 : p + 1 < s.size
  · by_cases h2 : p + 2 < s.size
    · rw [drop_cons s p h, drop_cons s (p + 1) h1, drop_cons s (p + 2) h2, drop_nil s _ hs]; simp only [dec1]
      rw [if_neg (by omega), if_neg (by omega), if_neg (by omega)]
      repeat' split
      all_goals rfl
    · exact dec1_short3 h (by omega) h2
  · exact dec1_short2 h (by omega) h1
theorem dec1_at2 (hb : 192 ≤ s[p].toNat ∧ s[p].toNat < 224) (h1 : p + 1 < s.size) : dec1 (s.data.toList.drop p) =
    if cont s[p + 1] = true ∧ 128 ≤ (s[p].toNat - 192) * 64 + (s[p + 1].toNat - 128) then some ((s[p].toNat - 192) * 64 + (s[p + 1].toNat - 128), 2) else none := by
  rw [drop_cons s p h, drop_cons s (p + 1) h1]; simp only [dec1]
  rw [if_neg (by omega), if_pos hb]
theorem dec1_at3 (hb : 224 ≤ s[p].toNat ∧ s[p].toNat < 240) (h1 : p + 1 < s.size) (h2 : p + 2 < s.size) : dec1 (s.data.toList.drop p) =
    if cont s[p + 1] = true ∧ cont s[p + 2] = true ∧ 2048 ≤ ((s[p].toNat - 224) * 64 + (s[p + 1].toNat - 128)) * 64 + (s[p + 2].toNat - 128) ∧ okR (((s[p].toNat - 224) * 64 + (s[p + 1].toNat - 128)) * 64 + (s[p + 2].toNat - 128)) = true then
      some (((s[p].toNat - 224) * 64 + (s[p + 1].toNat - 128)) * 64 + (s[p + 2].toNat - 128), 3) else none := by
  rw [drop_cons s p h, drop_cons s (p + 1) h1, drop_cons s (p + 2) h2]; simp only [dec1]
  rw [if_neg (by omega), if_neg (by omega), if_pos hb]
theorem dec1_at4 (hb : 240 ≤ s[p].toNat ∧ s[p].toNat < 248) (h1 : p + 1 < s.size) (h2 : p + 2 < s.size) (h3 : p + 3 < s.size) : dec1 (s.data.toList.drop p) =
    if cont s[p + 1] = true ∧ cont s[p + 2] = true ∧ cont s[p + 3] = true ∧ 65536 ≤ (((s[p].toNat - 240) * 64 + (s[p + 1].toNat - 128)) * 64 + (s[p + 2].toNat - 128)) * 64 + (s[p + 3].toNat - 128) ∧ okR ((((s[p].toNat - 240) * 64 + (s[p + 1].toNat - 128)) * 64 + (s[p + 2].toNat - 128)) * 64 + (s[p + 3].toNat - 128)) = true then
      some ((((s[p].toNat - 240) * 64 + (s[p + 1].toNat - 128)) * 64 + (s[p + 2].toNat - 128)) * 64 + (s[p + 3].toNat - 128), 4) else none := by
  rw [drop_cons s p h, drop_cons s (p + 1) h1, drop_cons s (p + 2) h2, drop_cons s (p + 3) h3]; simp only [dec1]
  rw [if_neg (by omega), if_neg (by omega), if_neg (by omega), if_pos hb]
end

theorem app_nat {w : World} {B : Nat} {e : TypeId} {v : Value} {rs : List Nat} {c : Nat} (h : w.ownsRow B e 1 v (rs.length + 1) (natRow rs ++ [.int .i64 (c : Int)])) : w.ownsRow B e 1 v (rs ++ [c]).length (natRow (rs ++ [c])) := by
  rw [← natRow_snoc rs c _ rfl, List.length_append]; exact h

/-- A text's byte. -/
def byteAt (s : ByteArray) (i : Nat) : Nat := (s.data.toList[i]?.getD 0).toNat

/-- What the bytes read so far come to: the lead byte's part, and then six bits of each further byte. -/
def part (s : ByteArray) (p : Nat) (c0 : Nat) : Nat → Nat
  | 0 => c0
  | 1 => c0
  | j + 2 => part s p c0 (j + 1) * 64 + (byteAt s (p + (j + 1)) - 128)

theorem byteAt_eq (s : ByteArray) (i : Nat) (h : i < s.size) : byteAt s i = (s[i]'h).toNat := by
  have h' : i < s.data.toList.length := by simpa using h
  unfold byteAt
  rw [List.getElem?_eq_getElem h']
  rfl

def conts (s : ByteArray) (p n : Nat) : Prop := ∀ i, 1 ≤ i → i < n → 128 ≤ byteAt s (p + i) ∧ byteAt s (p + i) ≤ 191

/-- The four lead bytes' kinds. -/
theorem dec1_kind {s : ByteArray} {p n least c0 : Nat} (h : p + n ≤ s.size)
    (hk : (n = 1 ∧ least = 0 ∧ c0 = byteAt s p ∧ c0 < 128) ∨ (n = 2 ∧ least = 128 ∧ c0 + 192 = byteAt s p ∧ c0 < 32) ∨ (n = 3 ∧ least = 2048 ∧ c0 + 224 = byteAt s p ∧ c0 < 16) ∨ (n = 4 ∧ least = 65536 ∧ c0 + 240 = byteAt s p ∧ c0 < 8)) :
    (conts s p n ∧ least ≤ part s p c0 n ∧ okR (part s p c0 n) = true → dec1 (s.data.toList.drop p) = some (part s p c0 n, n)) ∧
    (¬ (conts s p n ∧ least ≤ part s p c0 n ∧ okR (part s p c0 n) = true) → dec1 (s.data.toList.drop p) = none) := by
  have hp : p < s.size := by omega
  have e0 := byteAt_eq s p hp
  rcases hk with ⟨rfl, rfl, h0, hb⟩ | ⟨rfl, rfl, h0, hb⟩ | ⟨rfl, rfl, h0, hb⟩ | ⟨rfl, rfl, h0, hb⟩
  · rw [e0] at h0
    subst h0
    have := dec1_at1 hp hb
    refine ⟨fun _ => this, fun hno => absurd ⟨fun i h1 h2 => by omega, Nat.zero_le _, ?_⟩ hno⟩
    rw [okR_def]; simp only [part]; omega
  · rw [e0] at h0
    have e1 := byteAt_eq s (p + 1) (by omega)
    obtain rfl : c0 = s[p].toNat - 192 := by omega
    have ec : part s p (s[p].toNat - 192) 2 = (s[p].toNat - 192) * 64 + (s[p + 1].toNat - 128) := by simp only [part, e1]
    have hd := dec1_at2 hp (by omega) (show p + 1 < s.size by omega)
    have hc : conts s p 2 ↔ cont s[p + 1] = true := by
      rw [cont_def]
      refine ⟨fun h => by rw [← e1]; exact h 1 (by omega) (by omega), fun h i h1 h2 => ?_⟩
      obtain rfl : i = 1 := by omega
      rw [e1]; exact h
    rw [ec, hc, hd]
    have hok : cont s[p + 1] = true → okR ((s[p].toNat - 192) * 64 + (s[p + 1].toNat - 128)) = true := by
      rw [cont_def, okR_def]; omega
    exact ⟨fun h => if_pos ⟨h.1, h.2.1⟩, fun h => if_neg (fun h' => h ⟨h'.1, h'.2, hok h'.1⟩)⟩
  · rw [e0] at h0
    have e1 := byteAt_eq s (p + 1) (by omega)
    have e2 := byteAt_eq s (p + 2) (by omega)
    obtain rfl : c0 = s[p].toNat - 224 := by omega
    have ec : part s p (s[p].toNat - 224) 3 = ((s[p].toNat - 224) * 64 + (s[p + 1].toNat - 128)) * 64 + (s[p + 2].toNat - 128) := by simp only [part, e1, e2]
    have hd := dec1_at3 hp (by omega) (show p + 1 < s.size by omega) (show p + 2 < s.size by omega)
    have hc : conts s p 3 ↔ cont s[p + 1] = true ∧ cont s[p + 2] = true := by
      rw [cont_def, cont_def]
      refine ⟨fun h => by rw [← e1, ← e2]; exact ⟨h 1 (by omega) (by omega), h 2 (by omega) (by omega)⟩, fun h i h1 h2 => ?_⟩
      rcases (show i = 1 ∨ i = 2 by omega) with rfl | rfl
      · rw [e1]; exact h.1
      · rw [e2]; exact h.2
    rw [ec, hc, hd]
    exact ⟨fun h => if_pos ⟨h.1.1, h.1.2, h.2⟩, fun h => if_neg (fun h' => h ⟨⟨h'.1, h'.2.1⟩, h'.2.2⟩)⟩
  · rw [e0] at h0
    have e1 := byteAt_eq s (p + 1) (by omega)
    have e2 := byteAt_eq s (p + 2) (by omega)
    have e3 := byteAt_eq s (p + 3) (by omega)
    obtain rfl : c0 = s[p].toNat - 240 := by omega
    have ec : part s p (s[p].toNat - 240) 4 = (((s[p].toNat - 240) * 64 + (s[p + 1].toNat - 128)) * 64 + (s[p + 2].toNat - 128)) * 64 + (s[p + 3].toNat - 128) := by simp only [part, e1, e2, e3]
    have hd := dec1_at4 hp (by omega) (show p + 1 < s.size by omega) (show p + 2 < s.size by omega) (show p + 3 < s.size by omega)
    have hc : conts s p 4 ↔ cont s[p + 1] = true ∧ cont s[p + 2] = true ∧ cont s[p + 3] = true := by
      rw [cont_def, cont_def, cont_def]
      refine ⟨fun h => by rw [← e1, ← e2, ← e3]; exact ⟨h 1 (by omega) (by omega), h 2 (by omega) (by omega), h 3 (by omega) (by omega)⟩, fun h i h1 h2 => ?_⟩
      rcases (show i = 1 ∨ i = 2 ∨ i = 3 by omega) with rfl | rfl | rfl
      · rw [e1]; exact h.1
      · rw [e2]; exact h.2.1
      · rw [e3]; exact h.2.2
    rw [ec, hc, hd]
    exact ⟨fun h => if_pos ⟨h.1.1, h.1.2.1, h.1.2.2, h.2⟩, fun h => if_neg (fun h' => h ⟨⟨h'.1, h'.2.1, h'.2.2.1⟩, h'.2.2.2⟩)⟩

theorem part_bound {s : ByteArray} {p c0 : Nat} (h : c0 < 128) : ∀ n, n ≤ 4 → conts s p n → part s p c0 n < 33554432
  | 0, _, _ => by simp only [part]; omega
  | 1, _, _ => by simp only [part]; omega
  | 2, _, hc => by
    have h1 := hc 1 (by omega) (by omega)
    simp only [part, Nat.zero_add, Nat.reduceAdd]; omega
  | 3, _, hc => by
    have h1 := hc 1 (by omega) (by omega)
    have h2 := hc 2 (by omega) (by omega)
    simp only [part, Nat.zero_add, Nat.reduceAdd]; omega
  | 4, _, hc => by
    have h1 := hc 1 (by omega) (by omega)
    have h2 := hc 2 (by omega) (by omega)
    have h3 := hc 3 (by omega) (by omega)
    simp only [part, Nat.zero_add, Nat.reduceAdd]; omega
  | n + 5, hn, _ => by omega

theorem conts_succ {s : ByteArray} {p j : Nat} (h : conts s p j) (hj : 128 ≤ byteAt s (p + j) ∧ byteAt s (p + j) ≤ 191) : conts s p (j + 1) := by
  intro i h1 h2
  by_cases e : i = j
  · subst e; exact hj
  · exact h i h1 (by omega)

theorem part_succ {s : ByteArray} {p c0 j : Nat} (h : 1 ≤ j) : part s p c0 (j + 1) = part s p c0 j * 64 + (byteAt s (p + j) - 128) := by
  cases j with
  | zero => omega
  | succ j => rfl

theorem enc_mark : enc 65533 = [239, 191, 189] := by decide +kernel

/-- Where the k-th rune begins. -/
def off (rs : List Nat) (k : Nat) : Nat := (encAll (rs.take k)).length

theorem off_zero (rs : List Nat) : off rs 0 = 0 := rfl

theorem off_all {s : ByteArray} {rs : List Nat} (h : s.data.toList = encAll rs) : off rs rs.length = s.size := by
  unfold off
  rw [List.take_length, ← h, ← Lib.size_eq]

theorem off_succ (rs : List Nat) (k : Nat) (hk : k < rs.length) : off rs (k + 1) = off rs k + (enc rs[k]).length := by
  unfold off
  rw [List.take_succ_eq_append_getElem hk, encAll_append, List.length_append, encAll_cons, encAll_nil, List.append_nil]

theorem off_lt {s : ByteArray} {rs : List Nat} (h : s.data.toList = encAll rs) (k : Nat) (hk : k < rs.length) : off rs k < s.size := by
  have h2 := enc_length rs[k]
  have h3 : s.size = (encAll rs).length := by rw [← h, ← Lib.size_eq]
  have h4 : encAll rs = encAll (rs.take k) ++ encAll (rs.drop k) := by rw [← encAll_append, List.take_append_drop]
  rw [h3, h4, List.length_append, List.drop_eq_getElem_cons hk, encAll_cons, List.length_append, off]
  omega

theorem off_le {s : ByteArray} {rs : List Nat} (h : s.data.toList = encAll rs) (k : Nat) : off rs k ≤ s.size := by
  have h3 : s.size = (encAll rs).length := by rw [← h, ← Lib.size_eq]
  have h4 : encAll rs = encAll (rs.take k) ++ encAll (rs.drop k) := by rw [← encAll_append, List.take_append_drop]
  rw [h3, h4, List.length_append]
  exact Nat.le_add_right _ _

theorem off_drop {s : ByteArray} {rs : List Nat} (h : s.data.toList = encAll rs) (k : Nat) : s.data.toList.drop (off rs k) = encAll (rs.drop k) := by
  have h4 : encAll rs = encAll (rs.take k) ++ encAll (rs.drop k) := by rw [← encAll_append, List.take_append_drop]
  rw [h, h4, off, List.drop_left]

theorem len_le {s : ByteArray} {rs : List Nat} (h : s.data.toList = encAll rs) : rs.length ≤ s.size := by
  have := encAll_length rs
  rw [← h, ← Lib.size_eq] at this
  exact this

theorem decode_off {s : ByteArray} {rs : List Nat} (ho : allOk rs) (h : s.data.toList = encAll rs) (k : Nat) (hk : k < rs.length) : Utf8.decode s (off rs k) = (rs[k], (enc rs[k]).length) := by
  rw [decode_dec1 s _ (off_lt h k hk), off_drop h k, List.drop_eq_getElem_cons hk, encAll_cons, dec1_enc _ (ho _ (List.getElem_mem hk))]
  rfl

/-- 'next' on the iterator of a right text. -/
theorem next_off {P : Program} {s : ByteArray} {rs : List Nat} (ho : allOk rs) (h : s.data.toList = encAll rs) (w : World) (k : Nat) (hk : k < rs.length) (ty : TypeId) :
    (Instr.next (.pointer (some ⟨w.heap.size, 0, none⟩)) true ty).run P (w.iter s (off rs k)) = .ok (.tuple #[.bool true, .int .i64 (off rs k), .int .i32 (rs[k] : Int)]) (w.iter s (off rs (k + 1))) := by
  rw [run_next_any w s _ ty (off_lt h k hk), decode_off ho h k hk, off_succ rs k hk]

theorem next_off_end {P : Program} {s : ByteArray} {rs : List Nat} (h : s.data.toList = encAll rs) (w : World) (ty : TypeId) :
    (Instr.next (.pointer (some ⟨w.heap.size, 0, none⟩)) true ty).run P (w.iter s (off rs rs.length)) = .ok (.tuple #[.bool false]) (w.iter s (off rs rs.length)) :=
  run_next_end w s _ ty (by rw [off_all h]; omega)

def runeRow (rs : List Nat) : List Value := rs.map fun (c : Nat) => Value.int .i32 (c : Int)

theorem runeRow_len (rs : List Nat) : (runeRow rs).length = rs.length := by simp [runeRow]

theorem runesFrom_off {s : ByteArray} {rs : List Nat} (ho : allOk rs) (h : s.data.toList = encAll rs) : ∀ (m bound k : Nat) (acc : Array Value), m = rs.length - k → k ≤ rs.length → m ≤ bound →
    Conv.runesFrom s bound (off rs k) acc = acc ++ (runeRow (rs.drop k)).toArray := by
  intro m
  induction m with
  | zero =>
    intro bound k acc hm hk hb
    obtain rfl : k = rs.length := by omega
    rw [off_all h]
    cases bound <;> simp [Conv.runesFrom, runeRow]
  | succ m ih =>
    intro bound k acc hm hk hb
    have hlt : k < rs.length := by omega
    cases bound with
    | zero => omega
    | succ bound =>
      unfold Conv.runesFrom
      rw [if_pos (off_lt h k hlt), decode_off ho h k hlt]
      have := ih bound (k + 1) (acc.push (.int .i32 (Int.ofNat rs[k]))) (by omega) (by omega) (by omega)
      rw [off_succ rs k hlt] at this
      simp only
      have e : List.drop k rs = rs[k] :: List.drop (k + 1) rs := List.drop_eq_getElem_cons hlt
      rw [this, e]
      generalize List.drop (k + 1) rs = t
      simp [runeRow]

theorem runesFrom_all {s : ByteArray} {rs : List Nat} (ho : allOk rs) (h : s.data.toList = encAll rs) : Conv.runesFrom s s.size 0 #[] = (runeRow rs).toArray := by
  have := runesFrom_off ho h rs.length s.size 0 #[] (by omega) (Nat.zero_le _) (len_le h)
  rw [off_zero] at this
  rw [this]; simp

/-- The text of a row of bytes. -/
def mkS (l : List UInt8) : ByteArray := ⟨l.toArray⟩

def cmp2 (a b : Nat) : Int := if a < b then -1 else if b < a then 1 else 0

def cmpL : List Nat → List Nat → Int
  | [], [] => 0
  | [], _ :: _ => -1
  | _ :: _, [] => 1
  | a :: l, b :: m => if a < b then -1 else if b < a then 1 else cmpL l m

theorem cmpL_skip (a b : List Nat) (k : Nat) (ha : k < a.length) (hb : k < b.length) (h : a[k] = b[k]) : cmpL (a.drop k) (b.drop k) = cmpL (a.drop (k + 1)) (b.drop (k + 1)) := by
  rw [List.drop_eq_getElem_cons ha, List.drop_eq_getElem_cons hb, h]
  simp [cmpL]

theorem cmpL_at (a b : List Nat) (k : Nat) (ha : k < a.length) (hb : k < b.length) (h : cmp2 a[k] b[k] ≠ 0) : cmpL (a.drop k) (b.drop k) = cmp2 a[k] b[k] := by
  rw [List.drop_eq_getElem_cons ha, List.drop_eq_getElem_cons hb]
  simp only [cmpL, cmp2] at h ⊢
  split
  · rfl
  · split
    · rfl
    · rename_i h1 h2; rw [if_neg h1, if_neg h2] at h; exact absurd rfl h

theorem cmp2_zero {a b : Nat} (h : cmp2 a b = 0) : a = b := by
  simp only [cmp2] at h
  split at h
  · cases h
  · split at h
    · cases h
    · omega

/-- A row of one-cell elements, whatever its address: each element's cell. -/
def RowAt (w : World) (ao : Option Addr) (xs : List Value) : Prop := ∀ i (h : i < xs.length), ∃ b o, ao = some ⟨b, o, none⟩ ∧ w.cell? ⟨b, o + i, none⟩ = some xs[i]

theorem RowAt.below {w w' : World} {ao : Option Addr} {xs : List Value} (h : RowAt w ao xs) (hb : Below w.heap.size w w') : RowAt w' ao xs := by
  intro i hi
  obtain ⟨b, o, e, hc⟩ := h i hi
  exact ⟨b, o, e, (hb.cell (World.block_lt_of_cell? w _ hc)).trans hc⟩

theorem own_row {w : World} {B : Nat} {e : TypeId} {v : Value} {n : Nat} {xs : List Value} (h : w.ownsRow B e 1 v n xs) : ∃ ao cap, v = .slice ao n cap ∧ RowAt w ao xs ∧ n = xs.length ∧ n ≤ cap ∧ cap ≤ maxLen ∧ (ao = none → n = 0 ∧ cap = 0) ∧ (∀ ad, ao = some ad → ad.spot = none) := by
  have hl := h.1
  rw [Nat.mul_one] at hl
  rcases h.2 with ⟨rfl, rfl⟩ | ⟨g, cap, cur, rfl, _, hg, hnc, hcm, _, _⟩
  · refine ⟨none, 0, rfl, fun i hi => by omega, hl.symm, Nat.le_refl _, Nat.zero_le _, fun _ => ⟨rfl, rfl⟩, fun _ h => by cases h⟩
  · refine ⟨some ⟨g, 0, none⟩, cap, rfl, fun i hi => ⟨g, 0, rfl, ?_⟩, hl.symm, hnc, hcm, fun h => (by cases h), fun _ h => by cases h; rfl⟩
    have := h.cellAt i (by omega)
    rw [Nat.zero_add, this, List.getElem?_eq_getElem hi]

theorem runeRow_at (rs : List Nat) (k : Nat) (h : k < (runeRow rs).length) : (runeRow rs)[k] = .int .i32 ((rs[k]'(by rw [← runeRow_len]; exact h) : Nat) : Int) := by simp [runeRow]

theorem natRow_at (rs : List Nat) (k : Nat) (h : k < (natRow rs).length) : (natRow rs)[k] = .int .i64 ((rs[k]'(by rw [← natRow_len]; exact h) : Nat) : Int) := by simp [natRow]

theorem okR_lt {rs : List Nat} (h : allOk rs) : ∀ c ∈ rs, c < 2147483648 := by
  intro c hc
  have := h c hc
  rw [okR_def] at this
  omega

theorem str_beq (a b : ByteArray) : (a.toList == b.toList) = decide (a = b) := by
  rw [Bool.eq_iff_iff]
  simp only [beq_iff_eq, decide_eq_true_eq, Lib.toList_data]
  exact ⟨str_ext, fun h => by rw [h]⟩

section
variable {P : Program} {ops : Array Oper} {rest : List Oper} {o : Oper} {a : Act} {Q : Exit → Act → World → Prop} {wp w0 : World}

end

theorem addr_add (b o j : Nat) : Addr.add ⟨b, o, none⟩ j = ⟨b, o + j, none⟩ := by
  unfold Addr.add
  by_cases h : j = 0 <;> simp [h]

theorem new_cells (l : List Value) (w : World) (t : TypeId) : ∀ (j : Nat) (u : Value), l[j]? = some u → (w.alloc (.cells l.toArray t)).cell? (Addr.add ⟨w.heap.size, 0, none⟩ j) = some u := by
  intro j u hj
  have hh := heap_alloc_new w (.cells l.toArray t)
  rw [addr_add, Nat.zero_add]
  unfold World.cell?
  rw [hh]
  simpa using hj

def byteRow (l : List UInt8) : List Value := l.map fun b => Value.int .u8 (b.toNat : Int)

theorem byteRow_len (l : List UInt8) : (byteRow l).length = l.length := by simp [byteRow]

theorem conv_bytes {w : World} {B : Nat} {e src dst : TypeId} {v : Value} {l : List UInt8} {P : Program} (h : w.ownsRow B e 1 v l.length (byteRow l)) (hs : P.underlying src = some (.slice e)) (he : P.underlying e = some (.int .u8)) (hd : P.underlying dst = some .string) :
    (convert src dst v).run P w = .ok (.string (mkS l)) w := by
  rcases h.2 with ⟨rfl, hl⟩ | ⟨g, cap, cur, rfl, _, hg, hnc, hcm, _, _⟩
  · obtain rfl : l = [] := List.length_eq_zero_iff.1 hl
    rw [run_convert_bytes_string w src dst e _ _ _ hs he hd]
    rfl
  · refine run_convert_bytes_back w src dst e _ cap l hs he hd ?_
    intro j hj
    have := h.cellAt j (by omega)
    rw [addr_add, Nat.zero_add, this]
    simp [byteRow, hj]

theorem byteRow_app (a b : List UInt8) : byteRow (a ++ b) = byteRow a ++ byteRow b := by simp [byteRow]

section
variable {P : Program} {ops : Array Oper} {rest : List Oper} {o : Oper} {a : Act} {Q : Exit → Act → World → Prop} {wp w0 : World}
end

section
variable {P : Program} {ops : Array Oper} {rest : List Oper} {o : Oper} {a : Act} {Q : Exit → Act → World → Prop} {wp w0 : World}
end

/-- A slice value that is empty, or owns a row from block B on. -/
def OwnE (w : World) (B : Nat) (e : TypeId) (size : Nat) (v : Value) (n : Nat) (xs : List Value) : Prop :=
  ((v = .slice none 0 0 ∨ ∃ g, v = .slice (some ⟨g, 0, none⟩) 0 0) ∧ n = 0 ∧ xs = []) ∨ w.ownsRow B e size v n xs

theorem OwnE.nil {w : World} {B : Nat} {e : TypeId} {size : Nat} : OwnE w B e size (.slice none 0 0) 0 [] := .inl ⟨.inl rfl, rfl, rfl⟩

theorem OwnE.new {w : World} {B : Nat} {e : TypeId} {size g : Nat} : OwnE w B e size (.slice (some ⟨g, 0, none⟩) 0 0) 0 [] := .inl ⟨.inr ⟨g, rfl⟩, rfl, rfl⟩

theorem OwnE.alloc {w : World} {B : Nat} {e : TypeId} {size : Nat} {v : Value} {n : Nat} {xs : List Value} (h : OwnE w B e size v n xs) (o : Obj) : OwnE (w.alloc o) B e size v n xs :=
  h.imp id (fun h => h.alloc o)

theorem OwnE.below {w w' : World} {B : Nat} {e : TypeId} {size : Nat} {v : Value} {n : Nat} {xs : List Value} (h : OwnE w B e size v n xs) (hb : Below w.heap.size w w') : OwnE w' B e size v n xs :=
  h.imp id (fun h => own_below h hb)

theorem OwnE.base {w : World} {B B' : Nat} {e : TypeId} {size : Nat} {v : Value} {n : Nat} {xs : List Value} (h : OwnE w B e size v n xs) (hb : B' ≤ B) : OwnE w B' e size v n xs :=
  h.imp id (fun h => own_base h hb)

/-- The block that an append to a slice may write. -/
def ownB : Value → Option Nat
  | .slice (some a) _ cap => if cap = 0 then none else some a.block
  | _ => none

/-- Behind an append to another row. -/
theorem OwnE.other {w w' : World} {B B' : Nat} {e e' : TypeId} {size size' : Nat} {v v' : Value} {n n' : Nat} {xs xs' : List Value} (h : OwnE w B e size v n xs) (h' : OwnE w B' e' size' v' n' xs') (hne : e ≠ e') (hg : w.grownBy w' (ownB v')) : OwnE w' B e size v n xs := by
  rcases h with h | h
  · exact .inl h
  · refine .inr ⟨h.1, ?_⟩
    rcases h.2 with h2 | ⟨g, cap, cur, rfl, hb, hgg, r⟩
    · exact .inl h2
    · refine .inr ⟨g, cap, cur, rfl, hb, ?_, r⟩
      have hlt : g < w.heap.size := (Array.getElem?_eq_some_iff.1 hgg).1
      by_cases hq : some g = ownB v'
      · rcases h' with ⟨h', _, _⟩ | h'
        · rcases h' with rfl | ⟨g', rfl⟩ <;> cases hq
        · rcases h'.2 with ⟨rfl, _⟩ | ⟨g', cap', cur', rfl, _, hg', _⟩
          · cases hq
          · simp only [ownB] at hq
            split at hq
            · cases hq
            · simp at hq
              subst hq
              rw [hgg] at hg'
              simp at hg'
              exact absurd hg'.2 hne
      · rw [hg.block g hlt hq]; exact hgg

theorem OwnE.lt {w : World} {B : Nat} {e : TypeId} {size : Nat} {v : Value} {n : Nat} {xs : List Value} (h : OwnE w B e size v n xs) : ∀ k, ownB v = some k → B ≤ k ∧ k < w.heap.size := by
  intro k hk
  rcases h with ⟨h, _, _⟩ | h
  · rcases h with rfl | ⟨g', rfl⟩ <;> cases hk
  · refine h.lt k ?_
    rcases h.2 with ⟨rfl, _⟩ | ⟨g, cap, cur, rfl, _⟩
    · cases hk
    · simp only [ownB] at hk
      split at hk
      · cases hk
      · exact hk

theorem OwnE.row {w : World} {B : Nat} {e : TypeId} {v : Value} {n : Nat} {xs : List Value} (h : OwnE w B e 1 v n xs) : ∃ ao cap, v = .slice ao n cap ∧ RowAt w ao xs ∧ n = xs.length ∧ n ≤ cap ∧ cap ≤ maxLen ∧ (ao = none → n = 0 ∧ cap = 0) ∧ (∀ ad, ao = some ad → ad.spot = none) := by
  rcases h with ⟨h, rfl, rfl⟩ | h
  · rcases h with rfl | ⟨g, rfl⟩
    · exact ⟨none, 0, rfl, fun i hi => absurd hi (Nat.not_lt_zero i), rfl, Nat.le_refl _, Nat.zero_le _, fun _ => ⟨rfl, rfl⟩, fun _ h => by cases h⟩
    · exact ⟨some ⟨g, 0, none⟩, 0, rfl, fun i hi => absurd hi (Nat.not_lt_zero i), rfl, Nat.le_refl _, Nat.zero_le _, fun _ => ⟨rfl, rfl⟩, fun _ h => by cases h; rfl⟩
  · exact own_row h

section
variable {P : Program} {ops : Array Oper} {rest : List Oper} {o : Oper} {a : Act} {Q : Exit → Act → World → Prop} {wp w0 : World}
/-- Elements, written out, are appended to a slice that is empty or the call's own. -/
theorem appE (hgd : o.guard = none) (s x : Operand) (t : TypeId)
    (ho : o.op = .call { callee := .builtin .append, args := #[s, x], argTypes := #[t, t] })
    (e : TypeId) (i : TypeInfo) (z : Value) (size bytes : Nat) (ht : P.underlying t = some (.slice e)) (hi : P.info? e = some i) (hz : i.zero = some z)
    (hsize : i.size = size) (hby : i.bytes = bytes) (hzs : z.cells.size = size) (hsz : 0 < size)
    (B : Nat) (v : Value) (n : Nat) (xs : List Value) (hs : a.eval s = v) (hown : OwnE wp B e size v n xs) (D : Nat) (hDB : D ≤ B) (hbel : Below D w0 wp) (hB : B ≤ wp.heap.size)
    (us : List Value) (m : Nat) (hm : us.length = m * size) (hm1 : 1 ≤ m) (hu : ∀ u ∈ us, u.oneCell' = true) (hx : a.eval x = .slice (some ⟨wp.heap.size, 0, none⟩) m m) (hn : n + m ≤ 1000000000) (hby2 : bytes ≤ 1000)
    (h : Hid (∀ v' w', w'.ownsRow B e size v' (n + m) (xs ++ us) → Below D w0 w' → (wp.alloc (.cells us.toArray e)).grownBy w' (ownB v) → wpList P ops Q rest (a.put o.dst v') w')) :
    wpList P ops Q (o :: rest) a (wp.alloc (.cells us.toArray e)) := by
  have hb2 : (n + m) * bytes ≤ 140737488355328 := by
    have : (n + m) * bytes ≤ 1000000000 * 1000 := Nat.mul_le_mul hn hby2
    omega
  have hml : n + m ≤ maxLen := by unfold maxLen; omega
  have grow : ∀ ao, v = .slice ao 0 0 → n = 0 → xs = [] → wpList P ops Q (o :: rest) a (wp.alloc (.cells us.toArray e)) := by
    intro ao hv hn0 hxs
    subst hn0; subst hxs
    refine wpList_append_grows _ hgd s x t ho e i z size bytes ht hi hz hsize hby hzs hsz ao 0 0 [] (hs.trans hv) (fun _ => ⟨rfl, rfl⟩) (by simp) (fun _ _ j u hj => by simp at hj) ⟨wp.heap.size, 0, none⟩ m m us hx hm (new_cells _ _ _) hu (by omega) hml hb2 ?_
    intro v' w' h1 h2
    refine h.out v' w' (own_base h1 (by simp; omega)) ((hbel.alloc (by omega) _).grown h2 (by simp; omega) (fun k hk => by cases hk)) ?_
    exact ⟨h2.os, h2.tape, h2.output, h2.size, fun k hk _ => h2.block k hk (by simp)⟩
  rcases hown with ⟨hv, hn0, hxs⟩ | hown
  · rcases hv with hv | ⟨g, hv⟩
    · exact grow _ hv hn0 hxs
    · exact grow _ hv hn0 hxs
  · rcases hown.2 with ⟨hv, hn0⟩ | ⟨g, cap, cur, hv, hg⟩
    · exact grow _ hv hn0 (List.length_eq_zero_iff.1 (by rw [hown.1, hn0, Nat.zero_mul]))
    · by_cases hc0 : cap = 0
      · have hn0 : n = 0 := by have := hg.2.2.1; omega
        exact grow (some ⟨g, 0, none⟩) (by rw [hv, hc0, hn0]) hn0 (List.length_eq_zero_iff.1 (by rw [hown.1, hn0, Nat.zero_mul]))
      · refine wpList_append_own _ hgd s x t ho B e i z size bytes ht hi hz hsize hby hzs hsz v n xs hs (hown.alloc _) ⟨wp.heap.size, 0, none⟩ m m us hx hm (new_cells _ _ _) hu hml hb2 (by simp; omega) ?_
        intro v' w' h1 h2 _
        have e1 : ownB v = v.ownBlock := by rw [hv]; simp [ownB, Value.ownBlock, hc0]
        exact h.out v' w' h1 ((hbel.alloc (by omega) _).grown h2 (by simp; omega) (fun k hk => by have := (hown.lt k hk).1; omega)) (by rw [e1]; exact h2)
end

theorem encAll_le (rs : List Nat) : (encAll rs).length ≤ 4 * rs.length := by
  induction rs with
  | nil => simp [encAll_nil]
  | cons c rs ih => rw [encAll_cons, List.length_append, List.length_cons]; have := enc_length c; omega

section
variable {F : Fence} {n : Nat} {P : Program} {ops : Array Oper} {rest : List Oper} {o : Oper} {a : Act} {Q : Exit → Act → World → Prop} {wp W : World}
end

theorem less_cons (a b : Nat) (ha : a < 256) (hb : b < 256) (x y : List UInt8) : Op.bytesLess (UInt8.ofNat a :: x) (UInt8.ofNat b :: y) = if a < b then true else if a = b then Op.bytesLess x y else false := by
  have e1 : (UInt8.ofNat a < UInt8.ofNat b) ↔ a < b := by
    rw [UInt8.lt_iff_toNat_lt, u8_of a ha, u8_of b hb]
  have e2 : (UInt8.ofNat a = UInt8.ofNat b) ↔ a = b := by
    constructor
    · intro h; have := congrArg UInt8.toNat h; rwa [u8_of a ha, u8_of b hb] at this
    · intro h; rw [h]
  simp only [Op.bytesLess]
  by_cases h1 : a < b
  · simp [e1, h1]
  · by_cases h2 : a = b
    · subst h2; simp [e1]
    · have e3 : ¬ UInt8.ofNat a = UInt8.ofNat b := fun h => h2 (e2.1 h)
      simp [e1, h1, h2, e3]

theorem less_prefix (p x y : List UInt8) : Op.bytesLess (p ++ x) (p ++ y) = Op.bytesLess x y := by
  induction p with
  | nil => rfl
  | cons c p ih => simp [Op.bytesLess, ih]

/-- A rune's bytes stand ahead of a greater rune's, whatever follows. -/
theorem less_enc {a b : Nat} (ha : okR a = true) (hb : okR b = true) (h : a < b) (x y : List UInt8) : Op.bytesLess (enc a ++ x) (enc b ++ y) = true := by
  have ha' := ha
  have hb' := hb
  rw [okR_def] at ha' hb'
  by_cases a1 : a < 128
  · rw [enc_one a1]
    by_cases b1 : b < 128
    · rw [enc_one b1]; simp only [List.cons_append, List.nil_append]; rw [less_cons _ _ (by omega) (by omega), if_pos h]
    · by_cases b2 : b < 2048
      · rw [enc_two (by omega) b2]; simp only [List.cons_append, List.nil_append]; rw [less_cons _ _ (by omega) (by omega), if_pos (by omega)]
      · by_cases b3 : b < 65536
        · rw [enc_three (by omega) b3 hb]; simp only [List.cons_append, List.nil_append]; rw [less_cons _ _ (by omega) (by omega), if_pos (by omega)]
        · rw [enc_four (by omega) hb]; simp only [List.cons_append, List.nil_append]; rw [less_cons _ _ (by omega) (by omega), if_pos (by omega)]
  · by_cases a2 : a < 2048
    · rw [enc_two (by omega) a2]
      by_cases b2 : b < 2048
      · rw [enc_two (by omega) b2]; simp only [List.cons_append, List.nil_append]
        rw [less_cons _ _ (by omega) (by omega)]
        split
        · rfl
        · rw [if_pos (by omega), less_cons _ _ (by omega) (by omega), if_pos (by omega)]
      · by_cases b3 : b < 65536
        · rw [enc_three (by omega) b3 hb]; simp only [List.cons_append, List.nil_append]; rw [less_cons _ _ (by omega) (by omega), if_pos (by omega)]
        · rw [enc_four (by omega) hb]; simp only [List.cons_append, List.nil_append]; rw [less_cons _ _ (by omega) (by omega), if_pos (by omega)]
    · by_cases a3 : a < 65536
      · rw [enc_three (by omega) a3 ha]
        by_cases b3 : b < 65536
        · rw [enc_three (by omega) b3 hb]; simp only [List.cons_append, List.nil_append]
          rw [less_cons _ _ (by omega) (by omega)]
          split
          · rfl
          · rw [if_pos (by omega), less_cons _ _ (by omega) (by omega)]
            split
            · rfl
            · rw [if_pos (by omega), less_cons _ _ (by omega) (by omega), if_pos (by omega)]
        · rw [enc_four (by omega) hb]; simp only [List.cons_append, List.nil_append]; rw [less_cons _ _ (by omega) (by omega), if_pos (by omega)]
      · rw [enc_four (by omega) ha, enc_four (by omega) hb]; simp only [List.cons_append, List.nil_append]
        rw [less_cons _ _ (by omega) (by omega)]
        split
        · rfl
        · rw [if_pos (by omega), less_cons _ _ (by omega) (by omega)]
          split
          · rfl
          · rw [if_pos (by omega), less_cons _ _ (by omega) (by omega)]
            split
            · rfl
            · rw [if_pos (by omega), less_cons _ _ (by omega) (by omega), if_pos (by omega)]

theorem less_irrefl (l : List UInt8) : Op.bytesLess l l = false := by
  induction l with
  | nil => rfl
  | cons a l ih => simp [Op.bytesLess, ih]

theorem less_asymm : ∀ (l m : List UInt8), Op.bytesLess l m = true → Op.bytesLess m l = false
  | [], [], h => by cases h
  | [], _ :: _, _ => rfl
  | _ :: _, [], h => by cases h
  | a :: l, b :: m, h => by
    simp only [Op.bytesLess, Bool.or_eq_true, Bool.and_eq_true, decide_eq_true_eq, beq_iff_eq] at h
    simp only [Op.bytesLess, Bool.or_eq_false_iff, Bool.and_eq_false_iff, decide_eq_false_iff_not, beq_eq_false_iff_ne]
    rcases h with h | ⟨rfl, h⟩
    · rw [UInt8.lt_iff_toNat_lt] at h
      refine ⟨by rw [UInt8.lt_iff_toNat_lt]; omega, Or.inl (fun e => by rw [e] at h; omega)⟩
    · refine ⟨by rw [UInt8.lt_iff_toNat_lt]; omega, Or.inr (less_asymm l m h)⟩

theorem cmpL_flip : ∀ (a b : List Nat), cmpL b a = - cmpL a b
  | [], [] => rfl
  | [], _ :: _ => rfl
  | _ :: _, [] => rfl
  | x :: a, y :: b => by
    simp only [cmpL]
    have ih := cmpL_flip a b
    by_cases h1 : x < y
    · have h3 : ¬ y < x := by omega
      simp [h1, h3]
    · by_cases h2 : y < x
      · simp [h1, h2]
      · simp [h1, h2, ih]

theorem cmpL_zero : ∀ {a b : List Nat}, cmpL a b = 0 → a = b
  | [], [], _ => rfl
  | [], _ :: _, h => by cases h
  | _ :: _, [], h => by cases h
  | x :: a, y :: b, h => by
    simp only [cmpL] at h
    split at h
    · cases h
    · split at h
      · cases h
      · obtain rfl : x = y := by omega
        rw [cmpL_zero h]

theorem cmpL_less : ∀ {a b : List Nat}, allOk a → allOk b → cmpL a b < 0 → Op.bytesLess (encAll a) (encAll b) = true
  | [], [], _, _, h => by simp [cmpL] at h
  | [], c :: b, _, _, _ => by
    rw [encAll_nil, encAll_cons]
    have := enc_length c
    cases he : enc c with
    | nil => rw [he] at this; simp at this
    | cons x y => rfl
  | _ :: _, [], _, _, h => by simp [cmpL] at h
  | x :: a, y :: b, ha, hb, h => by
    rw [allOk_cons] at ha hb
    simp only [cmpL] at h
    rw [encAll_cons, encAll_cons]
    split at h
    · rename_i h1
      exact less_enc ha.1 hb.1 h1 _ _
    · split at h
      · simp at h
      · obtain rfl : x = y := by omega
        rw [less_prefix]
        exact cmpL_less ha.2 hb.2 h

theorem cmpL_lt_iff {a b : List Nat} (ha : allOk a) (hb : allOk b) : Op.bytesLess (encAll a) (encAll b) = decide (cmpL a b < 0) := by
  by_cases h : cmpL a b < 0
  · rw [cmpL_less ha hb h, decide_eq_true h]
  · rw [decide_eq_false h]
    by_cases h0 : cmpL a b = 0
    · rw [cmpL_zero h0]; exact less_irrefl _
    · have := cmpL_flip a b
      exact less_asymm _ _ (cmpL_less hb ha (by omega))

theorem cmpL_range : ∀ (a b : List Nat), cmpL a b = -1 ∨ cmpL a b = 0 ∨ cmpL a b = 1
  | [], [] => .inr (.inl rfl)
  | [], _ :: _ => .inl rfl
  | _ :: _, [] => .inr (.inr rfl)
  | x :: a, y :: b => by
    simp only [cmpL]
    split
    · exact .inl rfl
    · split
      · exact .inr (.inr rfl)
      · exact cmpL_range a b

end Go.Proofs.YthjmfcdhpdiehaaGreatDoor
