/-
  Words, Quote and Unquote of any text: the program's contracts and the reference's by the same answers.
-/
import Derived.Test.YtjhmehmmpfnnkaaDoorLRefUnq
import Derived.Test.YtjhmehmmpfnnkaaDoorLWords
import Derived.Test.YtjhmehmmpfnnkaaDoorLUnquote
import Derived.Test.YtjhmehmmpfnnkaaDoorFNum
namespace Go.Proofs.YtjhmehmmpfnnkaaDoor
open Go.RowKit Utf
set_option maxRecDepth 100000
set_option linter.unusedSimpArgs false
set_option linter.unusedVariables false

theorem num_of (ea : Nat → Addr) (n : Nat) (w : World) (hn : n < 20) (h : ErrsAt w ea) :
    Calls Tryd.prog 14 #[errOf ea n] w fun e w' => e = .returned (.int .i64 (n : Nat)) ∧ Below w.heap.size w w' := by
  unfold errOf
  by_cases h0 : n = 0
  · subst h0
    exact num_nil w
  · rw [if_neg h0]
    have := num_err ea (n - 1) w (by omega) h
    rw [show (((n - 1 : Nat) : Int) + 1) = (n : Int) by omega] at this
    exact this

/-- Words of any text: the words (none of a bad text), the error's number. -/
def wordsR (s : ByteArray) : List (List Nat) × Nat := match dec s.data.toList with
  | none => ([], 6)
  | some rs => match wordsL rs with
    | none => ([], 4)
    | some ws => (ws, 0)
def quoteR (s : ByteArray) : ByteArray × Nat := match dec s.data.toList with
  | none => (ByteArray.empty, 6)
  | some rs => match quoteL rs with
    | none => (ByteArray.empty, 4)
    | some q => (mkS (encAll q), 0)
def unqR (s : ByteArray) : ByteArray × Nat := match dec s.data.toList with
  | none => (ByteArray.empty, 6)
  | some rs => match unquoteL rs with
    | none => (ByteArray.empty, 4)
    | some t => (mkS (encAll t), 0)
theorem wordsR_lt (s : ByteArray) : (wordsR s).2 < 20 := by
  unfold wordsR; split
  · decide
  · split <;> simp
theorem quoteR_lt (s : ByteArray) : (quoteR s).2 < 20 := by
  unfold quoteR; split
  · decide
  · split <;> simp
theorem unqR_lt (s : ByteArray) : (unqR s).2 < 20 := by
  unfold unqR; split
  · decide
  · split <;> simp

theorem words_all (ea : Nat → Addr) (s : ByteArray) (w : World) (hs : s.size ≤ 1000000) (he : LErr w ea) :
    Calls Tryd.prog 10 #[.string s] w fun e w' => ∃ v, e = .returned (.tuple #[v, errOf ea (wordsR s).2]) ∧ OwnE w' w.heap.size 9 1 v (wordsR s).1.length (strRow (fieldTexts (wordsR s).1)) ∧ Below w.heap.size w w' := by
  unfold wordsR
  cases hd : dec s.data.toList with
  | none => exact (words_none ea s w (by unfold maxLen; omega) hd he).mono fun e w' ⟨h1, h2⟩ => ⟨_, h1, .nil, h2⟩
  | some rs =>
    obtain ⟨ho, h⟩ := dec_some hd
    refine (words_some ea s rs w hs ho h he).mono fun e w' ⟨hb, hr⟩ => ?_
    rcases hr with ⟨ws, v, h1, h2, h3⟩ | ⟨h1, h2⟩
    · simp only [h1]; exact ⟨v, h2, h3, hb⟩
    · simp only [h1]; exact ⟨_, h2, .nil, hb⟩
theorem refWords_all (s : ByteArray) (w : World) (hs : s.size ≤ 1000000) :
    Calls Tryd.prog 13 #[.string s] w fun e w' => ∃ v, e = .returned (.tuple #[v, .int .i64 ((wordsR s).2 : Nat)]) ∧ OwnE w' w.heap.size 9 1 v (wordsR s).1.length (strRow (fieldTexts (wordsR s).1)) ∧ Below w.heap.size w w' := by
  unfold wordsR
  cases hd : dec s.data.toList with
  | none => exact (refWords_none s w hs hd).mono fun e w' ⟨h1, h2⟩ => ⟨_, h1, .nil, h2⟩
  | some rs =>
    obtain ⟨ho, h⟩ := dec_some hd
    refine (refWords_some s rs w hs ho h).mono fun e w' ⟨hb, hr⟩ => ?_
    rcases hr with ⟨ws, v, h1, h2, h3⟩ | ⟨h1, h2⟩
    · simp only [h1]; exact ⟨v, h2, h3, hb⟩
    · simp only [h1]; exact ⟨_, h2, .nil, hb⟩
theorem quote_all (ea : Nat → Addr) (s : ByteArray) (w : World) (hs : s.size ≤ 1000000) (he : LErr w ea) :
    Calls Tryd.prog 9 #[.string s] w fun e w' => e = .returned (.tuple #[.string (quoteR s).1, errOf ea (quoteR s).2]) ∧ Below w.heap.size w w' := by
  unfold quoteR
  cases hd : dec s.data.toList with
  | none => exact quote_none ea s w (by unfold maxLen; omega) hd he
  | some rs =>
    obtain ⟨ho, h⟩ := dec_some hd
    refine (quote_some ea s rs w hs ho h he).mono fun e w' ⟨hb, hr⟩ => ?_
    rcases hr with ⟨q, h1, h2⟩ | ⟨h1, h2⟩
    · simp only [h1]; exact ⟨h2, hb⟩
    · simp only [h1]; exact ⟨h2, hb⟩
theorem refQuote_all (s : ByteArray) (w : World) (hs : s.size ≤ 400000) :
    Calls Tryd.prog 15 #[.string s] w fun e w' => e = .returned (.tuple #[.string (quoteR s).1, .int .i64 ((quoteR s).2 : Nat)]) ∧ Below w.heap.size w w' := by
  unfold quoteR
  cases hd : dec s.data.toList with
  | none => exact refQuote_none s w (by omega) hd
  | some rs =>
    obtain ⟨ho, h⟩ := dec_some hd
    refine (refQuote_some s rs w hs ho h).mono fun e w' ⟨hb, hr⟩ => ?_
    rcases hr with ⟨q, h1, h2⟩ | ⟨h1, h2⟩
    · simp only [h1]; exact ⟨h2, hb⟩
    · simp only [h1]; exact ⟨h2, hb⟩
theorem unquote_all (ea : Nat → Addr) (s : ByteArray) (w : World) (hs : s.size ≤ 1000000) (he : LErr w ea) :
    Calls Tryd.prog 12 #[.string s] w fun e w' => e = .returned (.tuple #[.string (unqR s).1, errOf ea (unqR s).2]) ∧ Below w.heap.size w w' := by
  unfold unqR
  cases hd : dec s.data.toList with
  | none => exact unquote_none ea s w (by unfold maxLen; omega) hd he
  | some rs =>
    obtain ⟨ho, h⟩ := dec_some hd
    refine (unquote_some ea s rs w hs ho h he).mono fun e w' ⟨hb, hr⟩ => ?_
    rcases hr with ⟨q, h1, h2⟩ | ⟨h1, h2⟩
    · simp only [h1]; exact ⟨h2, hb⟩
    · simp only [h1]; exact ⟨h2, hb⟩
theorem refUnq_all (s : ByteArray) (w : World) (hs : s.size ≤ 100000) :
    Calls Tryd.prog 16 #[.string s] w fun e w' => e = .returned (.tuple #[.string (unqR s).1, .int .i64 ((unqR s).2 : Nat)]) ∧ Below w.heap.size w w' := by
  unfold unqR
  cases hd : dec s.data.toList with
  | none => exact refUnq_none s w (by omega) hd
  | some rs =>
    obtain ⟨ho, h⟩ := dec_some hd
    refine (refUnq_some s rs w hs ho h).mono fun e w' ⟨hb, hr⟩ => ?_
    rcases hr with ⟨q, h1, h2⟩ | ⟨h1, h2⟩
    · simp only [h1]; exact ⟨h2, hb⟩
    · simp only [h1]; exact ⟨h2, hb⟩

/-- A text in quotes is one word, and reads as the text. -/
theorem quoteR_back {s : ByteArray} (h : (quoteR s).2 = 0) : unqR (quoteR s).1 = (s, 0) ∧ ∃ q, wordsR (quoteR s).1 = ([q], 0) ∧ mkS (encAll q) = (quoteR s).1 ∧ (quoteR s).1.size ≤ 8 * s.size + 8 := by
  unfold quoteR at h ⊢
  cases hd : dec s.data.toList with
  | none => rw [hd] at h; cases h
  | some rs =>
    obtain ⟨ho, hs⟩ := dec_some hd
    rw [hd] at h
    cases hq : quoteL rs with
    | none => simp [hq] at h
    | some q =>
      simp only [hq]
      obtain ⟨hqo, hql⟩ := quote_ok hq ho
      have hdq : dec (mkS (encAll q)).data.toList = some q := dec_encAll hqo
      refine ⟨?_, q, ?_, rfl, ?_⟩
      · unfold unqR
        simp only [hdq, unquote_quote hq]
        rw [show mkS (encAll rs) = s from str_ext hs.symm]
      · unfold wordsR
        simp only [hdq, words_one (word_quote hq)]
      · rw [mkS_size]
        have := encAll_le q
        have := len_le hs
        omega
end Go.Proofs.YtjhmehmmpfnnkaaDoor
