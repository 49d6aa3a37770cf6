/-
  Plain facts on UTF-8: reading a row of bytes rune by rune, and the rows of bytes of rows of runes. No program in sight.
-/
import GoSem.Core.Utf8
import Derived.Laws.RangeAny
namespace Go.Proofs.YthjmfcdhpdiehaaGreatDoor.Utf
open Go
set_option maxRecDepth 100000
set_option linter.unusedSimpArgs false

/-- A rune's number. -/
def okR (c : Nat) : Bool := decide (c < 55296) || (decide (57344 ≤ c) && decide (c ≤ 1114111))

def cont (d : UInt8) : Bool := decide (128 ≤ d.toNat) && decide (d.toNat ≤ 191)

/-- The first rune of a row of bytes, and how many bytes it has. -/
def dec1 : List UInt8 → Option (Nat × Nat)
  | [] => none
  | b :: t =>
    if b.toNat < 128 then some (b.toNat, 1)
    else if 192 ≤ b.toNat ∧ b.toNat < 224 then
      match t with
      | d1 :: _ =>
        if cont d1 = true ∧ 128 ≤ (b.toNat - 192) * 64 + (d1.toNat - 128) then some ((b.toNat - 192) * 64 + (d1.toNat - 128), 2) else none
      | _ => none
    else if 224 ≤ b.toNat ∧ b.toNat < 240 then
      match t with
      | d1 :: d2 :: _ =>
        if cont d1 = true ∧ cont d2 = true ∧ 2048 ≤ ((b.toNat - 224) * 64 + (d1.toNat - 128)) * 64 + (d2.toNat - 128) ∧ okR (((b.toNat - 224) * 64 + (d1.toNat - 128)) * 64 + (d2.toNat - 128)) = true then
          some (((b.toNat - 224) * 64 + (d1.toNat - 128)) * 64 + (d2.toNat - 128), 3) else none
      | _ => none
    else if 240 ≤ b.toNat ∧ b.toNat < 248 then
      match t with
      | d1 :: d2 :: d3 :: _ =>
        if cont d1 = true ∧ cont d2 = true ∧ cont d3 = true ∧ 65536 ≤ (((b.toNat - 240) * 64 + (d1.toNat - 128)) * 64 + (d2.toNat - 128)) * 64 + (d3.toNat - 128) ∧ okR ((((b.toNat - 240) * 64 + (d1.toNat - 128)) * 64 + (d2.toNat - 128)) * 64 + (d3.toNat - 128)) = true then
          some ((((b.toNat - 240) * 64 + (d1.toNat - 128)) * 64 + (d2.toNat - 128)) * 64 + (d3.toNat - 128), 4) else none
      | _ => none
    else none

/-- The bytes of a rune. -/
def enc (c : Nat) : List UInt8 := (Utf8.encode (c : Int)).data.toList

theorem okR_valid {c : Nat} (h : okR c = true) : Utf8.valid (c : Int) = true := by
  simp [okR] at h
  simp [Utf8.valid]
  omega

theorem okR_def (c : Nat) : okR c = true ↔ c < 55296 ∨ (57344 ≤ c ∧ c ≤ 1114111) := by simp [okR]

theorem enc_one {c : Nat} (h : c < 128) : enc c = [UInt8.ofNat c] := by
  have hv := okR_valid (c := c) (by rw [okR_def]; omega)
  simp [enc, Utf8.encode, hv, h]
theorem enc_two {c : Nat} (h1 : 128 ≤ c) (h2 : c < 2048) : enc c = [UInt8.ofNat (192 + c / 64), UInt8.ofNat (128 + c % 64)] := by
  have hv := okR_valid (c := c) (by rw [okR_def]; omega)
  simp [enc, Utf8.encode, hv, Nat.not_lt.2 h1, h2]
theorem enc_three {c : Nat} (h1 : 2048 ≤ c) (h2 : c < 65536) (hk : okR c = true) : enc c = [UInt8.ofNat (224 + c / 4096), UInt8.ofNat (128 + c / 64 % 64), UInt8.ofNat (128 + c % 64)] := by
  have hv := okR_valid hk
  have h3 : ¬ c < 128 := by omega
  simp [enc, Utf8.encode, hv, h3, Nat.not_lt.2 h1, h2]
theorem enc_four {c : Nat} (h1 : 65536 ≤ c) (hk : okR c = true) : enc c = [UInt8.ofNat (240 + c / 262144), UInt8.ofNat (128 + c / 4096 % 64), UInt8.ofNat (128 + c / 64 % 64), UInt8.ofNat (128 + c % 64)] := by
  have hv := okR_valid hk
  have h3 : ¬ c < 128 := by omega
  have h4 : ¬ c < 2048 := by omega
  simp [enc, Utf8.encode, hv, h3, h4, Nat.not_lt.2 h1]

theorem u8_of (n : Nat) (h : n < 256) : (UInt8.ofNat n).toNat = n := by
  simp [UInt8.toNat_ofNat']; omega

theorem u8_ext {a b : UInt8} (h : a.toNat = b.toNat) : a = b := UInt8.toNat_inj.1 h

theorem cont_def (d : UInt8) : cont d = true ↔ 128 ≤ d.toNat ∧ d.toNat ≤ 191 := by simp [cont]

/-- A rune's bytes are read back. -/
theorem dec1_enc (c : Nat) (h : okR c = true) (t : List UInt8) : dec1 (enc c ++ t) = some (c, (enc c).length) := by
  have hk := h
  rw [okR_def] at h
  by_cases h1 : c < 128
  · rw [enc_one h1]
    simp [dec1, u8_of c (by omega), h1]
  · by_cases h2 : c < 2048
    · rw [enc_two (by omega) h2]
      have e0 := u8_of (192 + c / 64) (by omega)
      have e1 := u8_of (128 + c % 64) (by omega)
      simp only [List.cons_append, List.nil_append, dec1, e0, e1, cont_def]
      rw [if_neg (by omega), if_pos (by omega), if_pos (by omega)]
      simp; omega
    · by_cases h3 : c < 65536
      · rw [enc_three (by omega) h3 hk]
        have e0 := u8_of (224 + c / 4096) (by omega)
        have e1 := u8_of (128 + c / 64 % 64) (by omega)
        have e2 := u8_of (128 + c % 64) (by omega)
        have ec : ((224 + c / 4096 - 224) * 64 + (128 + c / 64 % 64 - 128)) * 64 + (128 + c % 64 - 128) = c := by omega
        simp only [List.cons_append, List.nil_append, dec1, e0, e1, e2, cont_def, ec, hk]
        rw [if_neg (by omega), if_neg (by omega), if_pos (by omega), if_pos (by simp; omega)]
        simp
      · rw [enc_four (by omega) hk]
        have e0 := u8_of (240 + c / 262144) (by omega)
        have e1 := u8_of (128 + c / 4096 % 64) (by omega)
        have e2 := u8_of (128 + c / 64 % 64) (by omega)
        have e3 := u8_of (128 + c % 64) (by omega)
        have ec : (((240 + c / 262144 - 240) * 64 + (128 + c / 4096 % 64 - 128)) * 64 + (128 + c / 64 % 64 - 128)) * 64 + (128 + c % 64 - 128) = c := by omega
        simp only [List.cons_append, List.nil_append, dec1, e0, e1, e2, e3, cont_def, ec, hk]
        rw [if_neg (by omega), if_neg (by omega), if_neg (by omega), if_pos (by omega), if_pos (by simp; omega)]
        simp

/-- What is read is a rune's bytes. -/
theorem dec1_some {l : List UInt8} {c n : Nat} (h : dec1 l = some (c, n)) : okR c = true ∧ n = (enc c).length ∧ l = enc c ++ l.drop n := by
  cases l with
  | nil => simp [dec1] at h
  | cons b t =>
    simp only [dec1] at h
    have hb := b.toNat_lt
    split at h
    · rename_i h1
      simp at h
      obtain ⟨rfl, rfl⟩ := h
      rw [enc_one h1]
      exact ⟨by rw [okR_def]; omega, rfl, by simp⟩
    · split at h
      · split at h
        · rename_i d1 t'
          split at h
          · rename_i h3
            rw [cont_def] at h3
            simp at h
            obtain ⟨hc, rfl⟩ := h
            have h4 : c < 2048 := by omega
            rw [enc_two (by omega) h4]
            refine ⟨by rw [okR_def]; omega, rfl, ?_⟩
            have e0 : UInt8.ofNat (192 + c / 64) = b := u8_ext (by rw [u8_of _ (by omega)]; omega)
            have e1 : UInt8.ofNat (128 + c % 64) = d1 := u8_ext (by rw [u8_of _ (by omega)]; omega)
            rw [e0, e1]; simp
          · cases h
        · cases h
      · split at h
        · split at h
          · rename_i d1 d2 t'
            split at h
            · rename_i h3
              rw [cont_def, cont_def] at h3
              simp at h
              obtain ⟨hc, rfl⟩ := h
              rw [hc] at h3
              have h4 : c < 65536 := by omega
              rw [enc_three (by omega) h4 h3.2.2.2]
              refine ⟨h3.2.2.2, rfl, ?_⟩
              have e0 : UInt8.ofNat (224 + c / 4096) = b := u8_ext (by rw [u8_of _ (by omega)]; omega)
              have e1 : UInt8.ofNat (128 + c / 64 % 64) = d1 := u8_ext (by rw [u8_of _ (by omega)]; omega)
              have e2 : UInt8.ofNat (128 + c % 64) = d2 := u8_ext (by rw [u8_of _ (by omega)]; omega)
              rw [e0, e1, e2]; simp
            · cases h
          · cases h
        · split at h
          · split at h
            · rename_i d1 d2 d3 t'
              split at h
              · rename_i h3
                rw [cont_def, cont_def, cont_def] at h3
                simp at h
                obtain ⟨hc, rfl⟩ := h
                rw [hc] at h3
                have hk := h3.2.2.2.2
                rw [okR_def] at hk
                rw [enc_four (by omega) h3.2.2.2.2]
                refine ⟨h3.2.2.2.2, rfl, ?_⟩
                have e0 : UInt8.ofNat (240 + c / 262144) = b := u8_ext (by rw [u8_of _ (by omega)]; omega)
                have e1 : UInt8.ofNat (128 + c / 4096 % 64) = d1 := u8_ext (by rw [u8_of _ (by omega)]; omega)
                have e2 : UInt8.ofNat (128 + c / 64 % 64) = d2 := u8_ext (by rw [u8_of _ (by omega)]; omega)
                have e3 : UInt8.ofNat (128 + c % 64) = d3 := u8_ext (by rw [u8_of _ (by omega)]; omega)
                rw [e0, e1, e2, e3]; simp
              · cases h
            · cases h
          · cases h

theorem enc_length (c : Nat) : 1 ≤ (enc c).length ∧ (enc c).length ≤ 4 := by
  simp only [enc, Utf8.encode]
  split
  · split <;> (try split) <;> (try split) <;> simp
  · simp [Utf8.runeError]

/-- All runes of a row of bytes. -/
def decF : Nat → List UInt8 → Option (List Nat)
  | _, [] => some []
  | 0, _ => none
  | f + 1, b :: t => match dec1 (b :: t) with
    | none => none
    | some (c, n) => (decF f ((b :: t).drop n)).map (c :: ·)
def dec (l : List UInt8) : Option (List Nat) := decF l.length l

def encAll (rs : List Nat) : List UInt8 := rs.flatMap enc
def allOk (rs : List Nat) : Prop := ∀ c ∈ rs, okR c = true

theorem encAll_cons (c : Nat) (rs : List Nat) : encAll (c :: rs) = enc c ++ encAll rs := rfl
theorem encAll_nil : encAll [] = [] := rfl
theorem encAll_append (a b : List Nat) : encAll (a ++ b) = encAll a ++ encAll b := by simp [encAll]
theorem allOk_nil : allOk [] := fun _ h => by cases h
theorem allOk_cons {c : Nat} {rs : List Nat} : allOk (c :: rs) ↔ okR c = true ∧ allOk rs := by
  simp [allOk]
theorem allOk_append {a b : List Nat} : allOk (a ++ b) ↔ allOk a ∧ allOk b := by
  simp [allOk, or_imp, forall_and]
theorem encAll_length (rs : List Nat) : rs.length ≤ (encAll rs).length := by
  induction rs with
  | nil => simp
  | cons c rs ih => rw [encAll_cons]; have := enc_length c; simp only [List.length_cons, List.length_append]; omega

theorem decF_encAll (rs : List Nat) (h : allOk rs) : ∀ f, (encAll rs).length ≤ f → decF f (encAll rs) = some rs := by
  induction rs with
  | nil => intro f _; cases f <;> rfl
  | cons c rs ih =>
    intro f hf
    rw [allOk_cons] at h
    have hl := enc_length c
    rw [encAll_cons] at hf ⊢
    cases f with
    | zero => rw [List.length_append] at hf; omega
    | succ f =>
      have hd := dec1_enc c h.1 (encAll rs)
      cases he : enc c ++ encAll rs with
      | nil => simp at he; rw [he.1] at hl; simp at hl
      | cons b t =>
        simp only [decF]
        rw [← he, hd]
        simp only [List.drop_left]
        rw [ih h.2 f (by rw [List.length_append] at hf; omega)]
        rfl

theorem decF_some : ∀ (f : Nat) {l : List UInt8} {rs : List Nat}, decF f l = some rs → allOk rs ∧ l = encAll rs
  | f, [], rs, h => by
    have : rs = [] := by cases f <;> (simp [decF] at h; exact h)
    subst this
    exact ⟨allOk_nil, rfl⟩
  | 0, b :: t, rs, h => by simp [decF] at h
  | f + 1, b :: t, rs, h => by
    simp only [decF] at h
    split at h
    · cases h
    · rename_i c n hd
      obtain ⟨h1, h2, h3⟩ := dec1_some hd
      rw [Option.map_eq_some_iff] at h
      obtain ⟨rs', h4, rfl⟩ := h
      obtain ⟨h5, h6⟩ := decF_some f h4
      rw [allOk_cons]
      refine ⟨⟨h1, h5⟩, ?_⟩
      rw [encAll_cons, ← h6]
      exact h3

theorem dec_encAll {rs : List Nat} (h : allOk rs) : dec (encAll rs) = some rs := decF_encAll rs h _ (Nat.le_refl _)
theorem dec_some {l : List UInt8} {rs : List Nat} (h : dec l = some rs) : allOk rs ∧ l = encAll rs := decF_some _ h

/-- A right row, and what stands behind it. -/
theorem dec_append {rs : List Nat} (h : allOk rs) (t : List UInt8) : dec (encAll rs ++ t) = (dec t).map (rs ++ ·) := by
  cases ht : dec t with
  | some ts =>
    obtain ⟨h1, rfl⟩ := dec_some ht
    rw [← encAll_append, dec_encAll (allOk_append.2 ⟨h, h1⟩)]
    rfl
  | none =>
    cases hd : dec (encAll rs ++ t) with
    | none => rfl
    | some us =>
      exfalso
      obtain ⟨h1, h2⟩ := dec_some hd
      clear hd
      induction rs generalizing us with
      | nil => simp [encAll_nil] at h2; rw [h2, dec_encAll h1] at ht; cases ht
      | cons c rs ih =>
        rw [allOk_cons] at h
        rw [encAll_cons, List.append_assoc] at h2
        cases us with
        | nil => have := enc_length c; rw [encAll_nil] at h2; simp at h2; rw [h2.1] at this; simp at this
        | cons u us =>
          rw [allOk_cons] at h1
          rw [encAll_cons] at h2
          have e1 := dec1_enc c h.1 (encAll rs ++ t)
          have e2 := dec1_enc u h1.1 (encAll us)
          rw [h2, e2] at e1
          simp at e1
          obtain ⟨rfl, _⟩ := e1
          exact ih h.2 us h1.2 (List.append_cancel_left h2)

/-! ### The model's own reading -/
theorem get_drop (s : ByteArray) (pos k : Nat) (h : pos + k < s.size) : s.get! (pos + k) = (s.data.toList.drop pos)[k]'(by simp; exact (by have : s.data.size = s.size := rfl; omega)) := by
  have := get_at s (pos + k) h
  simp only [Nat.add_zero] at this
  rw [this, List.getElem_drop]
  simp
  rfl

/-- Where the bytes are a rune's, the model reads it; else it reads the mark. -/
theorem decode_dec1 (s : ByteArray) (pos : Nat) (h : pos < s.size) : Utf8.decode s pos = (dec1 (s.data.toList.drop pos)).getD (65533, 1) := by
  have hsz : s.data.size = s.size := rfl
  have hlen : (s.data.toList.drop pos).length = s.size - pos := by simp [hsz]
  generalize hl : s.data.toList.drop pos = l at hlen
  have hg : ∀ k (hk : k < l.length), s.get! (pos + k) = l[k] := by
    intro k hk
    rw [get_drop s pos k (by omega)]
    simp [hl]
  cases l with
  | nil => simp at hlen; omega
  | cons b t =>
    have g0 : s.get! (pos + 0) = b := hg 0 (by simp)
    simp only [Utf8.decode, dec1, g0]
    have hb := b.toNat_lt
    simp at hlen
    have q1 : (b.toNat / 32 == 6) = decide (192 ≤ b.toNat ∧ b.toNat < 224) := by rw [Bool.eq_iff_iff]; simp; omega
    have q2 : (b.toNat / 16 == 14) = decide (224 ≤ b.toNat ∧ b.toNat < 240) := by rw [Bool.eq_iff_iff]; simp; omega
    have q3 : (b.toNat / 8 == 30) = decide (240 ≤ b.toNat ∧ b.toNat < 248) := by rw [Bool.eq_iff_iff]; simp; omega
    have qc : ∀ d : UInt8, (d.toNat / 64 == 2) = cont d := by
      intro d; have := d.toNat_lt; rw [Bool.eq_iff_iff, cont_def]; simp; omega
    have qok : ∀ c : Nat, Utf8.valid (c : Int) = okR c := by
      intro c; rw [Bool.eq_iff_iff, okR_def]; simp [Utf8.valid]; omega
    rw [q1, q2, q3]
    by_cases c1 : b.toNat < 128
    · simp [c1]
    · rw [if_neg c1, if_neg c1]
      by_cases c2 : 192 ≤ b.toNat ∧ b.toNat < 224
      · have c3 : ¬ (224 ≤ b.toNat ∧ b.toNat < 240) := by omega
        have c4 : ¬ (240 ≤ b.toNat ∧ b.toNat < 248) := by omega
        rw [decide_eq_true c2, decide_eq_false c3, decide_eq_false c4, if_pos c2]
        simp only [Bool.true_and, Bool.false_and, Bool.false_eq_true, if_false]
        match t, hg, hlen with
        | [], hg, hlen =>
          have e1 : ¬ pos + 1 < s.size := by simp at hlen; omega
          simp [e1, Utf8.runeError]
        | d1 :: t', hg, hlen =>
          have e1 : pos + 1 < s.size := by simp at hlen; omega
          have g1 : s.get! (pos + 1) = d1 := hg 1 (by simp)
          rw [g1, qc, decide_eq_true e1]
          simp only [Bool.true_and]
          cases hc1 : cont d1
          · simp [Utf8.runeError]
          · rw [cont_def] at hc1
            have ee : b.toNat % 32 * 64 + d1.toNat % 64 = (b.toNat - 192) * 64 + (d1.toNat - 128) := by omega
            rw [ee]
            generalize (b.toNat - 192) * 64 + (d1.toNat - 128) = c
            by_cases hc : 128 ≤ c
            · simp [hc]
            · simp [hc, Utf8.runeError]
      · by_cases c3 : 224 ≤ b.toNat ∧ b.toNat < 240
        · have c4 : ¬ (240 ≤ b.toNat ∧ b.toNat < 248) := by omega
          rw [decide_eq_false c2, decide_eq_true c3, decide_eq_false c4, if_neg c2, if_pos c3]
          simp only [Bool.true_and, Bool.false_and, Bool.false_eq_true, if_false]
          match t, hg, hlen with
          | [], hg, hlen =>
            have e1 : ¬ pos + 1 < s.size := by simp at hlen; omega
            simp [e1, Utf8.runeError]
          | [d1], hg, hlen =>
            have e1 : ¬ pos + 2 < s.size := by simp at hlen; omega
            simp [e1, Utf8.runeError]
          | d1 :: d2 :: t', hg, hlen =>
            have e1 : pos + 1 < s.size := by simp at hlen; omega
            have e2 : pos + 2 < s.size := by simp at hlen; omega
            have g1 : s.get! (pos + 1) = d1 := hg 1 (by simp)
            have g2 : s.get! (pos + 2) = d2 := hg 2 (by simp)
            rw [g1, g2, qc, qc, decide_eq_true e1, decide_eq_true e2]
            simp only [Bool.true_and]
            cases hc1 : cont d1
            · simp [Utf8.runeError]
            · cases hc2 : cont d2
              · simp [Utf8.runeError]
              · rw [cont_def] at hc1 hc2
                have ee : b.toNat % 16 * 4096 + d1.toNat % 64 * 64 + d2.toNat % 64 = ((b.toNat - 224) * 64 + (d1.toNat - 128)) * 64 + (d2.toNat - 128) := by omega
                rw [ee]
                generalize ((b.toNat - 224) * 64 + (d1.toNat - 128)) * 64 + (d2.toNat - 128) = c
                rw [qok]
                by_cases hc : 2048 ≤ c
                · cases hk : okR c <;> simp [hc, Utf8.runeError]
                · simp [hc, Utf8.runeError]
        · by_cases c4 : 240 ≤ b.toNat ∧ b.toNat < 248
          · rw [decide_eq_false c2, decide_eq_false c3, decide_eq_true c4, if_neg c2, if_neg c3, if_pos c4]
            simp only [Bool.true_and, Bool.false_and, Bool.false_eq_true, if_false]
            match t, hg, hlen with
            | [], hg, hlen =>
              have e1 : ¬ pos + 1 < s.size := by simp at hlen; omega
              simp [e1, Utf8.runeError]
            | [d1], hg, hlen =>
              have e1 : ¬ pos + 2 < s.size := by simp at hlen; omega
              simp [e1, Utf8.runeError]
            | [d1, d2], hg, hlen =>
              have e1 : ¬ pos + 3 < s.size := by simp at hlen; omega
              simp [e1, Utf8.runeError]
            | d1 :: d2 :: d3 :: t', hg, hlen =>
              have e1 : pos + 1 < s.size := by simp at hlen; omega
              have e2 : pos + 2 < s.size := by simp at hlen; omega
              have e3 : pos + 3 < s.size := by simp at hlen; omega
              have g1 : s.get! (pos + 1) = d1 := hg 1 (by simp)
              have g2 : s.get! (pos + 2) = d2 := hg 2 (by simp)
              have g3 : s.get! (pos + 3) = d3 := hg 3 (by simp)
              rw [g1, g2, g3, qc, qc, qc, decide_eq_true e1, decide_eq_true e2, decide_eq_true e3]
              simp only [Bool.true_and]
              cases hc1 : cont d1
              · simp [Utf8.runeError]
              · cases hc2 : cont d2
                · simp [Utf8.runeError]
                · cases hc3 : cont d3
                  · simp [Utf8.runeError]
                  · rw [cont_def] at hc1 hc2 hc3
                    have ee : b.toNat % 8 * 262144 + d1.toNat % 64 * 4096 + d2.toNat % 64 * 64 + d3.toNat % 64 = (((b.toNat - 240) * 64 + (d1.toNat - 128)) * 64 + (d2.toNat - 128)) * 64 + (d3.toNat - 128) := by omega
                    rw [ee]
                    generalize (((b.toNat - 240) * 64 + (d1.toNat - 128)) * 64 + (d2.toNat - 128)) * 64 + (d3.toNat - 128) = c
                    rw [qok]
                    by_cases hc : 65536 ≤ c
                    · cases hk : okR c <;> simp [hc, Utf8.runeError]
                    · simp [hc, Utf8.runeError]
          · rw [decide_eq_false c2, decide_eq_false c3, decide_eq_false c4, if_neg c2, if_neg c3, if_neg c4]
            simp [Utf8.runeError]

end Go.Proofs.YthjmfcdhpdiehaaGreatDoor.Utf
