/-
  The contract of lines.number.
  The contracts of lines.plain and lines.Quote.
  Contracts: count_none, count_some.
  Contracts: cut_some, first_none, rest_none, first_some, rest_some.
-/
import Derived.Test.YtjhmehmmpfnnkaaDoorM04
namespace Go.Proofs.YtjhmehmmpfnnkaaDoor
open Go.RowKit Utf
set_option maxRecDepth 100000
set_option linter.unusedSimpArgs false
set_option linter.unusedVariables false

theorem fold_ge (l : List Nat) : ∀ m, m ≤ l.foldl (fun n c => 10 * n + (c - 48)) m := by
  induction l with
  | nil => intro m; exact Nat.le_refl _
  | cons c l ih => intro m; have := ih (10 * m + (c - 48)); simp only [List.foldl_cons]; omega
theorem valOf_pos {c : Nat} {l : List Nat} (h : 48 < c) : 0 < valOf (c :: l) := by
  have := fold_ge l (10 * 0 + (c - 48))
  unfold valOf
  simp only [List.foldl_cons]
  omega
theorem valOf_lt (l : List Nat) (h : ∀ c ∈ l, c ≤ 57) : valOf l < 10 ^ l.length := by
  have key : ∀ (l : List Nat) m, (∀ c ∈ l, c ≤ 57) → l.foldl (fun n c => 10 * n + (c - 48)) m < (m + 1) * 10 ^ l.length := by
    intro l
    induction l with
    | nil => intro m _; simp
    | cons c l ih =>
      intro m h
      have h1 := ih (10 * m + (c - 48)) (fun x hx => h x (List.mem_cons_of_mem _ hx))
      have h2 := h c (List.mem_cons_self ..)
      simp only [List.foldl_cons, List.length_cons, Nat.pow_succ]
      have h3 : (10 * m + (c - 48) + 1) ≤ (m + 1) * 10 := by omega
      have h4 := Nat.mul_le_mul_right (10 ^ l.length) h3
      refine Nat.lt_of_lt_of_le h1 ?_
      rw [Nat.mul_comm (10 ^ l.length) 10, ← Nat.mul_assoc]
      exact h4
  have := key l 0 h
  rwa [Nat.zero_add, Nat.one_mul] at this
theorem isDig_iff (c : Nat) : isDig c = true ↔ 48 ≤ c ∧ c ≤ 57 := by simp [isDig]

/-- How the reader of a number stands behind k runes. -/
def NumAt (r : List Nat) (k : Nat) : Prop := (∀ c ∈ r.take k, 48 ≤ c ∧ c ≤ 57) ∧ k ≤ 9 ∧ (2 ≤ k → r.head? ≠ some 48)

theorem NumAt.zero (r : List Nat) : NumAt r 0 := ⟨by simp, by omega, by omega⟩
theorem NumAt.off {r : List Nat} {k : Nat} (h : NumAt r k) (hk : k ≤ r.length) : off r k = k := by
  unfold Go.Proofs.YtjhmehmmpfnnkaaDoor.off
  have key : ∀ l : List Nat, (∀ c ∈ l, 48 ≤ c ∧ c ≤ 57) → (encAll l).length = l.length := by
    intro l
    induction l with
    | nil => intro _; rfl
    | cons c l ih =>
      intro h
      rw [encAll_cons, List.length_append, ih (fun x hx => h x (List.mem_cons_of_mem _ hx)), enc_one (by have := h c (List.mem_cons_self ..); omega)]
      simp; omega
  rw [key _ h.1, List.length_take]
  omega
theorem NumAt.lt {r : List Nat} {k : Nat} (h : NumAt r k) : valOf (r.take k) < 10 ^ k := by
  have h1 := valOf_lt (r.take k) (fun c hc => (h.1 c hc).2)
  have h2 : (r.take k).length ≤ k := List.length_take_le _ _
  exact Nat.lt_of_lt_of_le h1 (Nat.pow_le_pow_right (by omega) h2)
theorem NumAt.bound {r : List Nat} {k : Nat} (h : NumAt r k) : valOf (r.take k) ≤ 999999999 := by
  have h1 := h.lt
  have h2 : 10 ^ k ≤ 10 ^ 9 := Nat.pow_le_pow_right (by omega) h.2.1
  have h3 : (10 : Nat) ^ 9 = 1000000000 := by decide
  omega
theorem NumAt.bound8 {r : List Nat} {k : Nat} (h : NumAt r k) (hk : k < 9) : valOf (r.take k) ≤ 99999999 := by
  have h1 := h.lt
  have h2 : 10 ^ k ≤ 10 ^ 8 := Nat.pow_le_pow_right (by omega) (by omega)
  have h3 : (10 : Nat) ^ 8 = 100000000 := by decide
  omega
theorem NumAt.zero_head {r : List Nat} {k : Nat} (h : NumAt r k) (hk : 1 ≤ k) (hk2 : k ≤ r.length) (h0 : valOf (r.take k) = 0) : r.head? = some 48 := by
  cases r with
  | nil => simp at hk2; omega
  | cons c l =>
    obtain ⟨k, rfl⟩ : ∃ j, k = j + 1 := ⟨k - 1, by omega⟩
    rw [List.take_succ_cons] at h0
    have hc := h.1 c (by rw [List.take_succ_cons]; exact List.mem_cons_self ..)
    by_cases h48 : c = 48
    · rw [h48]; rfl
    · have := valOf_pos (c := c) (l := l.take k) (by omega)
      omega
theorem NumAt.step {r : List Nat} {k : Nat} (h : NumAt r k) (hk : k < r.length) (hc : 48 ≤ r[k] ∧ r[k] ≤ 57) (h9 : k < 9) (h0 : ¬ (1 ≤ k ∧ valOf (r.take k) = 0)) :
    NumAt r (k + 1) ∧ valOf (r.take (k + 1)) = 10 * valOf (r.take k) + (r[k] - 48) := by
  refine ⟨⟨?_, by omega, ?_⟩, ?_⟩
  · intro c hc'
    rw [List.take_succ_eq_append_getElem hk, List.mem_append] at hc'
    rcases hc' with h1 | h1
    · exact h.1 c h1
    · simp at h1; subst h1; exact hc
  · intro h2 hh
    apply h0
    refine ⟨by omega, ?_⟩
    by_cases hk2 : 2 ≤ k
    · exact absurd hh (h.2.2 hk2)
    · obtain rfl : k = 1 := by omega
      cases r with
      | nil => simp at hk
      | cons c l =>
        simp at hh
        subst hh
        rfl
  · rw [List.take_succ_eq_append_getElem hk, valOf_concat]

theorem numN_dig {m : Bool} {r : List Nat} {k : Nat} (hk : k < r.length) (hc : ¬ (48 ≤ r[k] ∧ r[k] ≤ 57)) : numN m r = none := by
  unfold numN
  rw [if_pos]
  refine .inr (.inr (.inl ?_))
  rw [List.any_eq_true]
  refine ⟨_, List.getElem_mem hk, ?_⟩
  have : ¬ isDig r[k] = true := fun h => hc ((isDig_iff _).1 h)
  simpa using this
theorem numN_long {m : Bool} {r : List Nat} (h : 9 < r.length) : numN m r = none := by
  unfold numN; rw [if_pos (.inr (.inl h))]
theorem numN_zero {m : Bool} {r : List Nat} {k : Nat} (h : NumAt r k) (hk : k < r.length) (h1 : 1 ≤ k) (h0 : valOf (r.take k) = 0) : numN m r = none := by
  unfold numN
  rw [if_pos]
  exact .inr (.inr (.inr ⟨h.zero_head h1 (by omega) h0, .inl (by omega)⟩))
theorem numN_nil (m : Bool) : numN m [] = none := rfl
theorem numN_minus0 {r : List Nat} (h : NumAt r r.length) (hr : r ≠ []) (h0 : valOf r = 0) : numN true r = none := by
  unfold numN
  rw [if_pos]
  have hl := List.length_pos_iff.2 hr
  exact .inr (.inr (.inr ⟨h.zero_head hl (Nat.le_refl _) (by rwa [List.take_length]), .inr rfl⟩))
theorem numN_done {m : Bool} {r : List Nat} (h : NumAt r r.length) (hr : r ≠ []) (hm : m = true → valOf r ≠ 0) : numN m r = some (if m then -(valOf r : Int) else valOf r) := by
  unfold numN
  have hl := List.length_pos_iff.2 hr
  rw [if_neg]
  rintro (h1 | h1 | h1 | ⟨h1, h2⟩)
  · exact hr h1
  · have := h.2.1; omega
  · rw [List.any_eq_true] at h1
    obtain ⟨c, hc, h1⟩ := h1
    have := h.1 c (by rwa [List.take_length])
    rw [(isDig_iff c).2 this] at h1
    cases h1
  · by_cases h3 : 1 < r.length
    · exact h.2.2 h3 h1
    · rcases h2 with h2 | h2
      · exact h3 h2
      · have hone : r.length = 1 := by omega
        obtain ⟨c, rfl⟩ := List.length_eq_one_iff.1 hone
        simp at h1
        subst h1
        exact hm h2 rfl

theorem enc_head {c : Nat} (hc : okR c = true) (rest : List UInt8) : ((enc c ++ rest).take 1 == [45]) = decide (c = 45) := by
  have hc' := hc
  rw [okR_def] at hc'
  have key : ∀ n : Nat, n < 256 → (([UInt8.ofNat n] : List UInt8) == [45]) = decide (n = 45) := by
    intro n hn
    rw [Bool.eq_iff_iff]
    simp only [beq_iff_eq, decide_eq_true_eq, List.cons.injEq, and_true]
    constructor
    · intro h
      have := congrArg UInt8.toNat h
      rw [u8_of n hn] at this
      simpa using this
    · rintro rfl; rfl
  by_cases h1 : c < 128
  · rw [enc_one h1]
    exact key c (by omega)
  · have hne : decide (c = 45) = false := decide_eq_false (by omega)
    rw [hne]
    by_cases h2 : c < 2048
    · rw [enc_two (by omega) h2]
      refine (key (192 + c / 64) (by omega)).trans (decide_eq_false (by omega))
    · by_cases h3 : c < 65536
      · rw [enc_three (by omega) h3 hc]
        refine (key (224 + c / 4096) (by omega)).trans (decide_eq_false (by omega))
      · rw [enc_four (by omega) hc]
        refine (key (240 + c / 262144) (by omega)).trans (decide_eq_false (by omega))

/-- What a text is behind its sign. -/
def unsign (rs : List Nat) : List Nat := if rs.head? = some 45 then rs.tail else rs
def signed (rs : List Nat) : Bool := decide (rs.head? = some 45)

theorem minus_some (s : ByteArray) (rs : List Nat) (w : World) (hs : s.size ≤ 1000000) (ho : allOk rs) (h : s.data.toList = encAll rs) :
    Calls Tryd.prog 81 #[.string s, .string ⟨#[45]⟩] w fun e w' => e = .returned (.bool (signed rs)) ∧ w' = w := by
  by_cases hz : s.size < 1
  · have hr : rs = [] := by
      have := len_le h
      exact List.length_eq_zero_iff.1 (by omega)
    have HS := Lib.hid (show signed rs = false by rw [hr]; rfl)
    have e1 : ¬ (1 : Int) ≤ (s.size : Int) := by omega
    have e2 : decide ((1 : Int) ≤ (s.size : Int)) = false := decide_eq_false e1
    have e3 : ¬ 1 ≤ s.size := by omega
    clear hr h
    go_enter Tryd.func81, Tryd.ntmps81
    go_wp2_with fail
    go_ret
    exact ⟨by rw [HS.out]; rfl, rfl⟩
  · have e1 : (1 : Int) ≤ (s.size : Int) := by omega
    have e2 : decide ((1 : Int) ≤ (s.size : Int)) = true := decide_eq_true e1
    have e3 : 1 ≤ s.size := by omega
    have hx : ((s.extract 0 1).toList == [45]) = signed rs := by
      have e : (s.extract 0 1).toList = (encAll rs).take 1 := by
        rw [Lib.extract_toList, h]; simp
      rw [e]
      cases rs with
      | nil => rw [Lib.size_eq, h] at e3; simp [encAll_nil] at e3
      | cons c l =>
        rw [encAll_cons, enc_head (ho c (List.mem_cons_self ..))]
        simp [signed]
    generalize signed rs = b at *
    clear h
    go_enter Tryd.func81, Tryd.ntmps81
    go_wp2_with fail
    go_ret
    exact ⟨rfl, rfl⟩

theorem unsign_data {s : ByteArray} {rs : List Nat} (h : s.data.toList = encAll rs) (hs : signed rs = true) : (s.extract 1 s.size).data.toList = encAll (unsign rs) ∧ 1 ≤ s.size := by
  have hh : rs.head? = some 45 := of_decide_eq_true hs
  cases rs with
  | nil => cases hh
  | cons c l =>
    simp at hh
    subst hh
    have e1 : enc 45 = [45] := by decide +kernel
    constructor
    · rw [Lib.extract_data, h, encAll_cons, e1, List.take_of_length_le]
      · simp [unsign]
      · rw [Lib.size_eq, h, encAll_cons, e1]; simp
    · rw [Lib.size_eq, h, encAll_cons, e1]; simp

theorem lcut_some (s : ByteArray) (rs : List Nat) (w : World) (hs : s.size ≤ 1000000) (ho : allOk rs) (h : s.data.toList = encAll rs) :
    Calls Tryd.prog 76 #[.string s, .string ⟨#[45]⟩] w fun e w' => ∃ x, x.data.toList = encAll (unsign rs) ∧ x.size ≤ 1000000 ∧ e = .returned (.tuple #[.string x, .bool (signed rs)]) ∧ w' = w := by
  have HM := Lib.hid (fun W => minus_some s rs W hs ho h)
  cases hsg : signed rs with
  | true =>
    have HU := Lib.hid (unsign_data h hsg).1
    have h1 := (unsign_data h hsg).2
    rw [hsg] at HM
    clear h hsg
    go_enter Tryd.func76, Tryd.ntmps76
    go_wp2_with fail
    refine (HM.out _).mono ?_
    rintro e w1 ⟨rfl, rfl⟩
    go_wp2_with fail
    go_ret2
    refine ⟨_, HU.out, ?_, rfl, rfl⟩
    rw [Lib.size_eq, Lib.extract_data, List.length_take]
    omega
  | false =>
    have HU := Lib.hid (show unsign rs = rs from if_neg (of_decide_eq_false hsg))
    have HH := Lib.hid h
    rw [hsg] at HM
    clear h hsg
    go_enter Tryd.func76, Tryd.ntmps76
    go_wp2_with fail
    refine (HM.out _).mono ?_
    rintro e w1 ⟨rfl, rfl⟩
    go_wp2_with fail
    go_ret2
    exact ⟨s, by rw [HU.out]; exact HH.out, hs, rfl, rfl⟩

theorem scut_some (s : ByteArray) (rs : List Nat) (w : World) (hs : s.size ≤ 1000000) (ho : allOk rs) (h : s.data.toList = encAll rs) :
    Calls Tryd.prog 69 #[.string s, .string ⟨#[45]⟩] w fun e w' => ∃ x, x.data.toList = encAll (unsign rs) ∧ x.size ≤ 1000000 ∧ e = .returned (.tuple #[.string x, .bool (signed rs)]) ∧ w = w' := by
  have HM := Lib.hid (fun W => lcut_some s rs W hs ho h)
  clear h
  go_enter Tryd.func69, Tryd.ntmps69
  go_wp2_with fail
  refine (HM.out _).mono ?_
  rintro e w1 ⟨x, hx, hxs, rfl, rfl⟩
  have HX := Lib.hid hx
  clear hx
  go_wp2_with fail
  go_ret2
  exact ⟨x, HX.out, hxs, rfl, rfl⟩

/-- What lines.number answers. -/
def NumberPost (ea : Nat → Addr) (rs : List Nat) (w : World) (e : Ending) (w' : World) : Prop :=
  Below w.heap.size w w' ∧ ((∃ n, numN (signed rs) (unsign rs) = some n ∧ e = .returned (.tuple #[.int .i64 n, .nilIface])) ∨
    (numN (signed rs) (unsign rs) = none ∧ e = .returned (.tuple #[.int .i64 0, .iface 163 (.pointer (some (ea 3)))])))

theorem unsign_ok {rs : List Nat} (h : allOk rs) : allOk (unsign rs) := by
  unfold unsign; split
  · exact fun c hc => h c (List.mem_of_mem_tail hc)
  · exact h

set_option maxHeartbeats 4000000 in
theorem number_some (ea : Nat → Addr) (s : ByteArray) (rs : List Nat) (w : World) (hs : s.size ≤ 1000000) (ho : allOk rs) (h : s.data.toList = encAll rs) (he : LErr w ea) :
    Calls Tryd.prog 59 #[.string s] w (NumberPost ea rs w) := by
  have HM := Lib.hid (fun W => scut_some s rs W hs ho h)
  have hor := unsign_ok ho
  have HEA := Lib.hid he
  clear h he ho
  unfold NumberPost
  generalize unsign rs = r at *
  generalize signed rs = m at *
  go_enter Tryd.func59, Tryd.ntmps59
  go_wp2_with fail
  refine (HM.out _).mono ?_
  rintro e w1 ⟨x, hx, hxs, rfl, rfl⟩
  have hl := len_le hx
  have HN := Lib.hid (fun (w : World) k hk ty => next_off (P := Tryd.prog) hor hx w k hk ty)
  have HE := Lib.hid (fun (w : World) ty => next_off_end (P := Tryd.prog) hx w ty)
  have HME0 := Lib.hid (off_pos_lt hx)
  have HX := Lib.hid hx
  clear hx hor
  go_wp2_with fail
  go_loopw [6] (fun v wr => ∃ (k : Nat), k ≤ r.length ∧ v = .int .i64 (valOf (r.take k) : Nat) ∧ wr = w.iter x (off r k) ∧ Hid (NumAt r k)) (fun _ wr => x.size - wr.iterPos w.heap.size)
  case atStart => exact ⟨0, Nat.zero_le _, rfl, rfl, NumAt.zero r⟩
  case round =>
    obtain ⟨k, hk, rfl, rfl, HC⟩ := hrel
    have hoff := HC.out.off hk
    have HBE := Lib.hid (show Below w.heap.size w (w.iter x (off r k)) from (Below.refl w.heap.size w).alloc (Nat.le_refl _) (.stringIter x (off r k)))
    by_cases hlt : k < r.length
    · have hnx := HN.out w k hlt
      have HME := Lib.hid (HME0.out k hlt)
      have HST := Lib.hid (fun a b c => HC.out.step hlt a b c)
      have HND := Lib.hid (fun a => numN_dig (m := m) hlt a)
      have HNZ := Lib.hid (fun a b => numN_zero (m := m) HC.out hlt a b)
      have HB8 := Lib.hid (fun a => HC.out.bound8 a)
      have hb9 := HC.out.bound
      generalize hcc : r[k] = c at *
      clear hcc
      generalize hvv : valOf (r.take k) = n at *
      have HVV := Lib.hid hvv
      clear hvv
      generalize hoff1 : off r (k + 1) = p1 at *
      have HOF1 := Lib.hid hoff1
      clear hoff1
      generalize hoff0 : off r k = p0 at *
      subst hoff
      have HOF0 := Lib.hid hoff0
      clear hoff0
      have hw2 : Below w.heap.size w (w.iter x p1) := (Below.refl w.heap.size w).alloc (Nat.le_refl _) _
      have HW2 := Lib.hid hw2
      have HLE := Lib.hid (HEA.out.below hw2)
      clear hw2
      generalize hwi : w.iter x p1 = w2 at *
      have HWI := Lib.hid hwi
      clear hwi
      by_cases hd : 48 ≤ c ∧ c ≤ 57
      · have d1 : ¬ (c : Int) < 48 := by omega
        have d2 : ¬ (57 : Int) < (c : Int) := by omega
        have d1' : decide ((c : Int) < 48) = false := decide_eq_false d1
        have d2' : decide ((57 : Int) < (c : Int)) = false := decide_eq_false d2
        by_cases h9 : p0 < 9
        · have d3 : ¬ (9 : Int) ≤ (p0 : Int) := by omega
          have d3' : decide ((9 : Int) ≤ (p0 : Int)) = false := decide_eq_false d3
          by_cases hz : 1 ≤ p0 ∧ n = 0
          · have HNO := Lib.hid (HNZ.out hz.1 hz.2)
            have d4 : (0 : Int) < (p0 : Int) := by omega
            have d4' : decide ((0 : Int) < (p0 : Int)) = true := decide_eq_true d4
            have d4'' : 0 < p0 := hz.1
            obtain rfl : n = 0 := hz.2
            clear hz
            have c3 := HLE.out.form
            go_wp2_with fail
            go_quiet (fail)
            go_wp2_with fail
            go_ret2
            exact ⟨below_drewN HW2.out _, .inr ⟨HNO.out, rfl⟩⟩
          · have HS1 := Lib.hid (HST.out hd h9 hz)
            have hb8 := HB8.out h9
            have hz' : (p0 = 0) ∨ (1 ≤ p0 ∧ ¬ n = 0) := by omega
            clear hz
            rcases hz' with rfl | ⟨z1, z2⟩
            · go_wp2_with fail
              go_roundw
              case rel => exact ⟨0 + 1, by omega, int_val (by rw [HS1.out.2]; omega), HWI.out.symm.trans (by rw [HOF1.out]), HS1.out.1⟩
              case measure => have := HME.out; have h2 := HOF0.out; rw [← HWI.out]; simp; omega
            · have d4 : (0 : Int) < (p0 : Int) := by omega
              have d4' : decide ((0 : Int) < (p0 : Int)) = true := decide_eq_true d4
              have d4'' : 0 < p0 := z1
              have d5 : ((n : Int) == 0) = false := by simp; omega
              clear z2
              go_wp2_with fail
              go_roundw
              case rel => exact ⟨p0 + 1, by omega, int_val (by rw [HS1.out.2]; omega), HWI.out.symm.trans (by rw [HOF1.out]), HS1.out.1⟩
              case measure => have := HME.out; have h2 := HOF0.out; rw [← HWI.out]; simp; omega
        · have HNO := Lib.hid (numN_long (m := m) (r := r) (by omega))
          have d3 : (9 : Int) ≤ (p0 : Int) := by omega
          have d3' : decide ((9 : Int) ≤ (p0 : Int)) = true := decide_eq_true d3
          have c3 := HLE.out.form
          go_wp2_with fail
          go_quiet (fail)
          go_wp2_with fail
          go_ret2
          exact ⟨below_drewN HW2.out _, .inr ⟨HNO.out, rfl⟩⟩
      · have HNO := Lib.hid (HND.out hd)
        have hd' : (c : Int) < 48 ∨ (¬ (c : Int) < 48 ∧ (57 : Int) < (c : Int)) := by omega
        clear hd
        have c3 := HLE.out.form
        rcases hd' with d1 | ⟨d1, d2⟩
        · have d1' : decide ((c : Int) < 48) = true := decide_eq_true d1
          go_wp2_with fail
          go_quiet (fail)
          go_wp2_with fail
          go_ret2
          exact ⟨below_drewN HW2.out _, .inr ⟨HNO.out, rfl⟩⟩
        · have d1' : decide ((c : Int) < 48) = false := decide_eq_false d1
          have d2' : decide ((57 : Int) < (c : Int)) = true := decide_eq_true d2
          go_wp2_with fail
          go_quiet (fail)
          go_wp2_with fail
          go_ret2
          exact ⟨below_drewN HW2.out _, .inr ⟨HNO.out, rfl⟩⟩
    · obtain rfl : k = r.length := by omega
      clear hoff
      have hnx := HE.out w
      have hb9 := HC.out.bound
      rw [List.take_length] at hb9 ⊢
      have c3 := (HEA.out.below HBE.out).form
      by_cases hr : r = []
      · have HNO := Lib.hid (show numN m r = none by rw [hr]; exact numN_nil m)
        have hxe : x.toList = [] := by rw [Lib.toList_data, HX.out, hr]; rfl
        have hxe2 : x.toList.isEmpty = true := by rw [hxe]; rfl
        clear hr
        have HXE := Lib.hid hxe
        clear hxe
        generalize valOf r = n at *
        go_wp2_with fail
        go_quiet (fail)
        go_wp2_with fail
        go_ret2
        exact ⟨below_drewN HBE.out _, .inr ⟨HNO.out, rfl⟩⟩
      · have hxe : ¬ x.toList = [] := by
          rw [Lib.toList_data, HX.out]
          intro h
          have := encAll_len r
          rw [h] at this
          exact hr (List.length_eq_zero_iff.1 (by simpa using this))
        have hxe2 : x.toList.isEmpty = false := by
          cases hh : x.toList with
          | nil => exact absurd hh hxe
          | cons a b => rfl
        have HDN := Lib.hid (fun hm => numN_done (m := m) HC.out hr hm)
        have HM0 := Lib.hid (fun h0 => numN_minus0 HC.out hr h0)
        clear hr
        have HXE := Lib.hid hxe
        clear hxe
        generalize valOf r = n at *
        cases m with
        | false =>
          have HND := Lib.hid (HDN.out (fun h => by cases h))
          go_wp2_with fail
          go_ret2
          exact ⟨HBE.out, .inl ⟨_, HND.out, rfl⟩⟩
        | true =>
          by_cases h0 : n = 0
          · have HNO := Lib.hid (HM0.out h0)
            subst h0
            go_wp2_with fail
            go_quiet (fail)
            go_wp2_with fail
            go_ret2
            exact ⟨below_drewN HBE.out _, .inr ⟨HNO.out, rfl⟩⟩
          · have HND := Lib.hid (HDN.out (fun _ => h0))
            have d5 : ((n : Int) == 0) = false := by simp; omega
            clear h0
            go_wp2_with fail
            go_ret2
            exact ⟨HBE.out, .inl ⟨_, HND.out, rfl⟩⟩
end Go.Proofs.YtjhmehmmpfnnkaaDoor

namespace Go.Proofs.YtjhmehmmpfnnkaaDoor
open Go.RowKit Utf
set_option maxRecDepth 100000
set_option linter.unusedSimpArgs false
set_option linter.unusedVariables false

theorem plain_of (c : Nat) (b : Bool) (w : World) (h : badQ c = b) :
    Calls Tryd.prog 27 #[.int .i32 (c : Int)] w fun e w' => e = .returned (.bool (!b)) ∧ w' = w := by
  subst h
  by_cases h1 : c < 32
  · have e1 : ¬ (32 : Int) ≤ (c : Int) := by omega
    have e2 : decide ((32 : Int) ≤ (c : Int)) = false := decide_eq_false e1
    have hb : badQ c = true := by simp [badQ, h1]
    have HB := Lib.hid hb
    clear hb h1
    go_enter Tryd.func27, Tryd.ntmps27
    go_wp2_with fail
    go_ret
    exact ⟨by rw [HB.out]; rfl, rfl⟩
  · have e1 : (32 : Int) ≤ (c : Int) := by omega
    have e2 : decide ((32 : Int) ≤ (c : Int)) = true := decide_eq_true e1
    by_cases h2 : c = 127
    · have e3 : ((c : Int) != 127) = false := by simp [h2]
      have hb : badQ c = true := by simp [badQ, h2]
      have HB := Lib.hid hb
      clear hb h2 h1
      go_enter Tryd.func27, Tryd.ntmps27
      go_wp2_with fail
      go_ret
      exact ⟨by rw [HB.out]; rfl, rfl⟩
    · have e3 : ((c : Int) != 127) = true := by simp; omega
      have hb : badQ c = false := by simp [badQ, h1, h2]
      have HB := Lib.hid hb
      clear hb h2 h1
      go_enter Tryd.func27, Tryd.ntmps27
      go_wp2_with fail
      go_ret
      exact ⟨by rw [HB.out]; rfl, rfl⟩

theorem anyQ_step {rs : List Nat} {k : Nat} (hk : k < rs.length) (h : (rs.take k).any badQ = false) (hb : badQ rs[k] = false) : (rs.take (k + 1)).any badQ = false := by
  rw [List.take_succ_eq_append_getElem hk, List.any_append, h]
  simp [hb]
theorem anyQ_hit {rs : List Nat} {k : Nat} (hk : k < rs.length) (hb : badQ rs[k] = true) : quoteL rs = none := by
  unfold quoteL
  rw [if_pos]
  rw [List.any_eq_true]
  exact ⟨_, List.getElem_mem hk, hb⟩

/-- What stands in the row behind k runes. -/
def qrow (rs : List Nat) (k : Nat) : List Nat := 34 :: (rs.take k).flatMap quo1
theorem qrow_succ {rs : List Nat} {k : Nat} (hk : k < rs.length) : qrow rs (k + 1) = qrow rs k ++ quo1 rs[k] := by
  unfold qrow
  rw [List.take_succ_eq_append_getElem hk, List.flatMap_append]
  simp
theorem quo1_len (c : Nat) : 1 ≤ (quo1 c).length ∧ (quo1 c).length ≤ 2 := by unfold quo1; split <;> simp
theorem flat_quo1_len (l : List Nat) : (l.flatMap quo1).length ≤ 2 * l.length := by
  induction l with
  | nil => simp
  | cons c l ih => have := quo1_len c; rw [List.flatMap_cons, List.length_append]; simp only [List.length_cons]; omega
theorem qrow_len (rs : List Nat) (k : Nat) : (qrow rs k).length ≤ 2 * rs.length + 1 := by
  unfold qrow
  have := flat_quo1_len (rs.take k)
  rw [List.length_take] at this
  simp only [List.length_cons]
  omega
theorem quote_done {rs : List Nat} (h : (rs.take rs.length).any badQ = false) : quoteL rs = some (qrow rs rs.length ++ [34]) := by
  rw [List.take_length] at h
  unfold quoteL qrow
  rw [if_neg (by rw [h]; decide), List.take_length]
  rfl
theorem own_rune1 {w : World} {B : Nat} {e : TypeId} {v : Value} {l : List Nat} {n : Nat} {xs : List Value} {c : Nat} {x : Int} (hx : x = (c : Int)) (hn : n = l.length) (he : xs = runeRow l) (h : w.ownsRow B e 1 v (n + 1) (xs ++ [.int .i32 x])) : w.ownsRow B e 1 v (l ++ [c]).length (runeRow (l ++ [c])) := by
  subst hx hn he
  rw [List.length_append]
  simpa [runeRow] using h

theorem convE_runes {w : World} {B : Nat} {e src dst : TypeId} {v : Value} {rs : List Nat} {P : Program} (h : OwnE w B e 1 v rs.length (runeRow rs)) (hs : P.underlying src = some (.slice e)) (he : P.underlying e = some (.int .i32)) (hd : P.underlying dst = some .string) :
    (convert src dst v).run P w = .ok (.string (mkS (encAll rs))) w := by
  rcases h with ⟨hv, hn, _⟩ | h
  · obtain rfl : rs = [] := List.length_eq_zero_iff.1 hn
    rcases hv with rfl | ⟨g, rfl⟩
    · exact conv_runes (B := B) (e := e) (w.ownsRow_nil B e 1) hs he hd
    · have := run_convert_runes w src dst e ⟨g, 0, none⟩ 0 0 [] (Nat.le_refl _) hs he hd (fun j hj => absurd hj (Nat.not_lt_zero j))
      exact this
  · exact conv_runes h hs he hd

/-- What lines.Quote answers for a right text. -/
def QuotePost (ea : Nat → Addr) (rs : List Nat) (w : World) (e : Ending) (w' : World) : Prop :=
  Below w.heap.size w w' ∧ ((∃ q, quoteL rs = some q ∧ e = .returned (.tuple #[.string (mkS (encAll q)), .nilIface])) ∨
    (quoteL rs = none ∧ e = .returned (.tuple #[.string ByteArray.empty, .iface 163 (.pointer (some (ea 3)))])))

theorem quote_none (ea : Nat → Addr) (s : ByteArray) (w : World) (hs : s.size ≤ maxLen) (hd : dec s.data.toList = none) (he : LErr w ea) :
    Calls Tryd.prog 9 #[.string s] w fun e w' => e = .returned (.tuple #[.string ByteArray.empty, .iface 163 (.pointer (some (ea 5)))]) ∧ Below w.heap.size w w' := by
  have HD := Lib.hid hd
  have HE := Lib.hid he
  clear hd he
  go_enter Tryd.func9, Tryd.ntmps9
  go_wp2_with fail
  refine (right_any _ _ hs).mono ?_
  rintro e w1 ⟨rfl, hb1⟩
  rw [HD.out]
  have c5 := (HE.out.below hb1).rune
  go_wp2_with fail
  go_quiet (fail)
  go_wp2_with fail
  go_ret2
  exact ⟨rfl, below_drewN hb1 _⟩

set_option maxHeartbeats 4000000 in
theorem quote_some (ea : Nat → Addr) (s : ByteArray) (rs : List Nat) (w : World) (hs : s.size ≤ 1000000) (ho : allOk rs) (h : s.data.toList = encAll rs) (he : LErr w ea) :
    Calls Tryd.prog 9 #[.string s] w (QuotePost ea rs w) := by
  obtain ⟨i1, hj, hy0, hy1, hy2⟩ := info_parts Tryd.infoRune
  have hs' : s.size ≤ maxLen := by unfold maxLen; omega
  have hd := dec_encAll ho
  rw [← h] at hd
  have hl := len_le h
  have hrl : rs.length ≤ 1000000 := by omega
  have HN := Lib.hid (fun (w : World) b k hb hk ty => next_at (P := Tryd.prog) ho h w b k hb hk ty)
  have HE := Lib.hid (fun (w : World) b hb ty => next_at_end (P := Tryd.prog) h w b hb ty)
  have HME0 := Lib.hid (off_pos_lt h)
  have HEA := Lib.hid he
  have HD := Lib.hid hd
  clear hd h he hl ho
  go_enter Tryd.func9, Tryd.ntmps9
  go_wp2_with fail
  refine (right_any _ _ hs').mono ?_
  rintro e w1 ⟨rfl, hb1⟩
  rw [HD.out]
  have HB1 := Lib.hid hb1
  have HE1 := Lib.hid (HEA.out.below hb1)
  clear hb1 HEA
  go_wp2_with fail
  go_loopw [4] (fun vo wr => ∃ (k : Nat), k ≤ rs.length ∧ wr.heap[w1.heap.size + 1]? = some (.stringIter s (off rs k)) ∧ Below w1.heap.size w1 wr ∧ OwnE wr w1.heap.size 21 1 vo (qrow rs k).length (runeRow (qrow rs k)) ∧ Hid ((rs.take k).any badQ = false)) (fun _ wr => s.size - wr.iterPos (w1.heap.size + 1))
  case atStart =>
    refine ⟨0, Nat.zero_le _, ?_, ((Below.refl _ _).alloc (Nat.le_refl _) _).alloc (by simp) _, .inr ((World.ownsRow_lit w1 #[.int .i32 34] 1 (Nat.le_refl _) (by simp [maxLen]) rfl).alloc _), rfl⟩
    have := iter_new (w1.alloc (.cells #[.int .i32 34] 21)) s 0
    rw [World.size_alloc] at this
    exact this
  case round =>
    obtain ⟨k, hk, hit, hbel, hout, HC⟩ := hrel
    have HQL := Lib.hid (qrow_len rs k)
    have HOU := Lib.hid hout
    have HBE := Lib.hid hbel
    have HIT := Lib.hid hit
    have HIL := Lib.hid ((Array.getElem?_eq_some_iff.1 hit).1)
    have HPO := Lib.hid (show wr.iterPos (w1.heap.size + 1) = off rs k by simp [World.iterPos, hit])
    clear hout hbel hit
    by_cases hlt : k < rs.length
    · have hnx := HN.out wr (w1.heap.size + 1) k HIT.out hlt
      have HQS := Lib.hid (qrow_succ hlt)
      have HAS := Lib.hid (fun h => anyQ_step hlt HC.out h)
      have HAH := Lib.hid (fun h => anyQ_hit hlt h)
      have HME := Lib.hid (HME0.out k hlt)
      generalize rs[k] = c at *
      generalize hoff1 : off rs (k + 1) = p1 at *
      have HOF1 := Lib.hid hoff1
      clear hoff1
      have HIT2 := Lib.hid (Lib.iterAt_heap wr (w1.heap.size + 1) s (off rs k) p1 HIT.out)
      have HBE2 := Lib.hid (below_iter HBE.out (Nat.le_succ _) s p1)
      have HOU2 := Lib.hid (HOU.out.iterAt' HIT.out p1)
      have HIS := Lib.hid (Lib.iterAt_size wr (w1.heap.size + 1) s p1)
      generalize hw2 : wr.iterAt (w1.heap.size + 1) s p1 = w2 at *
      have HW2 := Lib.hid hw2
      clear hw2
      have HER2 := Lib.hid (HE1.out.below HBE2.out)
      have HSZ2 := Lib.hid (show w1.heap.size ≤ w2.heap.size by have := HIS.out; have := HIL.out; omega)
      cases hbq : badQ c with
      | true =>
        have HNO := Lib.hid (HAH.out hbq)
        have HBQ := Lib.hid hbq
        clear hbq
        go_wp2_with fail
        refine (plain_of c true _ HBQ.out).mono ?_
        rintro e w3 ⟨rfl, rfl⟩
        have c3 := HER2.out.form
        go_wp2_with fail
        go_quiet (fail)
        go_wp2_with fail
        go_ret2
        exact ⟨below_drewN (HB1.out.trans (HBE2.out.mono HB1.out.size)) _, .inr ⟨HNO.out, rfl⟩⟩
      | false =>
        have HCS := Lib.hid (HAS.out hbq)
        have HBQ := Lib.hid hbq
        clear hbq
        by_cases hq : c = 34 ∨ c = 92
        · have HQ1 := Lib.hid (show quo1 c = [92, c] by unfold quo1; rw [if_pos hq])
          have hb0 : (c : Int) = 34 ∨ (c : Int) = 92 := by omega
          have HQ2 := Lib.hid hq
          clear hq
          have hgo : (((c : Int) == 34) = true) ∨ (((c : Int) == 34) = false ∧ ((c : Int) == 92) = true) := by
            rcases hb0 with h | h <;> simp [h]
          clear hb0
          rcases hgo with e34 | ⟨e34, e92⟩
          all_goals
            go_wp2_with fail
            refine (plain_of c false _ HBQ.out).mono ?_
            rintro e w3 ⟨rfl, rfl⟩
            go_wp2_with (at_builtin; refine appE rfl _ _ 66 rfl 21 i1 (.int .i32 0) 1 4 Tryd.underlying66 hj hy0 hy1 hy2 rfl (by omega) w1.heap.size _ _ _ rfl HOU2.out w1.heap.size (by omega) HBE2.out HSZ2.out [.int .i32 92] 1 rfl (by omega) (by intro u hu; simp at hu; subst hu; rfl) rfl (by have := HQL.out; omega) (by omega) ?_)
            refine Lib.hid ?_
            intro v4 w4 hown4 hbel4 hgrow4
            have HB4 := Lib.hid hbel4
            have HO4 := Lib.hid (own_rune1 (c := 92) rfl rfl rfl hown4)
            have HI4 := Lib.hid (iter_grownE HOU2.out hgrow4 HIT2.out)
            clear hown4 hbel4 hgrow4
            have HSZ4 := Lib.hid (show w1.heap.size ≤ w4.heap.size from HB4.out.size)
            go_wp2_with (at_builtin; refine appE rfl _ _ 66 rfl 21 i1 (.int .i32 0) 1 4 Tryd.underlying66 hj hy0 hy1 hy2 rfl (by omega) w1.heap.size _ _ _ rfl (.inr HO4.out) w1.heap.size (by omega) HB4.out HSZ4.out [.int .i32 (c : Int)] 1 rfl (by omega) (by intro u hu; simp at hu; subst hu; rfl) rfl (by have := HQL.out; rw [List.length_append]; simp only [List.length_singleton]; omega) (by omega) ?_)
            refine Lib.hid ?_
            intro v5 w5 hown5 hbel5 hgrow5
            have HB5 := Lib.hid hbel5
            have HO5 := Lib.hid (own_rune1 (l := qrow rs k ++ [92]) (c := c) rfl (by simp) rfl hown5)
            have HI5 := Lib.hid (iter_grownE (.inr HO4.out) hgrow5 HI4.out)
            clear hown5 hbel5 hgrow5
            go_wp2_with fail
            go_roundw
            case rel =>
              refine ⟨k + 1, by omega, by rw [HOF1.out]; exact HI5.out, HB5.out, ?_, HCS.out⟩
              have := HO5.out
              rw [HQS.out, HQ1.out]
              rw [List.append_assoc] at this
              exact .inr this
            case measure => rw [HPO.out]; have := HI5.out; simp only [World.iterPos, this]; exact HME.out
        · have HQ1 := Lib.hid (show quo1 c = [c] by unfold quo1; rw [if_neg hq])
          have e34 : ((c : Int) == 34) = false := by simp; omega
          have e92 : ((c : Int) == 92) = false := by simp; omega
          clear hq
          go_wp2_with fail
          refine (plain_of c false _ HBQ.out).mono ?_
          rintro e w3 ⟨rfl, rfl⟩
          go_wp2_with (at_builtin; refine appE rfl _ _ 66 rfl 21 i1 (.int .i32 0) 1 4 Tryd.underlying66 hj hy0 hy1 hy2 rfl (by omega) w1.heap.size _ _ _ rfl HOU2.out w1.heap.size (by omega) HBE2.out HSZ2.out [.int .i32 (c : Int)] 1 rfl (by omega) (by intro u hu; simp at hu; subst hu; rfl) rfl (by have := HQL.out; omega) (by omega) ?_)
          refine Lib.hid ?_
          intro v5 w5 hown5 hbel5 hgrow5
          have HB5 := Lib.hid hbel5
          have HO5 := Lib.hid (own_rune1 (c := c) rfl rfl rfl hown5)
          have HI5 := Lib.hid (iter_grownE HOU2.out hgrow5 HIT2.out)
          clear hown5 hbel5 hgrow5
          go_wp2_with fail
          go_roundw
          case rel =>
            refine ⟨k + 1, by omega, by rw [HOF1.out]; exact HI5.out, HB5.out, ?_, HCS.out⟩
            have := HO5.out
            rw [HQS.out, HQ1.out]
            exact .inr this
          case measure => rw [HPO.out]; have := HI5.out; simp only [World.iterPos, this]; exact HME.out
    · obtain rfl : k = rs.length := by omega
      have hnx := HE.out wr (w1.heap.size + 1) HIT.out
      have HQD := Lib.hid (quote_done HC.out)
      have HSZ2 := Lib.hid (show w1.heap.size ≤ wr.heap.size by have := HIL.out; omega)
      go_wp2_with (at_builtin; refine appE rfl _ _ 66 rfl 21 i1 (.int .i32 0) 1 4 Tryd.underlying66 hj hy0 hy1 hy2 rfl (by omega) w1.heap.size _ _ _ rfl HOU.out w1.heap.size (by omega) HBE.out HSZ2.out [.int .i32 34] 1 rfl (by omega) (by intro u hu; simp at hu; subst hu; rfl) rfl (by have := HQL.out; omega) (by omega) ?_)
      refine Lib.hid ?_
      intro v5 w5 hown5 hbel5 hgrow5
      have HB5 := Lib.hid hbel5
      have hown6 := own_rune1 (c := 34) rfl rfl rfl hown5
      have hcv := conv_runes (P := Tryd.prog) (src := 66) (dst := 9) hown6 Tryd.underlying66 Tryd.underlying21 Tryd.underlying9
      clear hown5 hbel5 hgrow5 hown6
      go_wp2_with fail
      go_ret2
      exact ⟨HB1.out.trans (HB5.out.mono HB1.out.size), .inl ⟨_, HQD.out, rfl⟩⟩
theorem quote_ok {rs q : List Nat} (h : quoteL rs = some q) (ho : allOk rs) : allOk q ∧ q.length ≤ 2 * rs.length + 2 := by
  unfold quoteL at h
  split at h
  · cases h
  · obtain rfl := Option.some.inj h
    have e34 : okR 34 = true := by decide +kernel
    have e92 : okR 92 = true := by decide +kernel
    refine ⟨?_, ?_⟩
    · intro c hc
      simp only [List.mem_cons, List.mem_append, List.mem_flatMap, List.not_mem_nil, or_false] at hc
      rcases hc with rfl | ⟨x, hx, hc⟩ | rfl
      · exact e34
      · unfold quo1 at hc
        split at hc
        · simp at hc
          rcases hc with rfl | rfl
          · exact e92
          · exact ho _ hx
        · simp at hc
          subst hc
          exact ho _ hx
      · exact e34
    · have := flat_quo1_len rs
      simp only [List.length_cons, List.length_append, List.length_nil]
      omega
end Go.Proofs.YtjhmehmmpfnnkaaDoor

namespace Go.Proofs.YtjhmehmmpfnnkaaDoor
open Go.RowKit Utf
set_option maxRecDepth 100000
set_option linter.unusedSimpArgs false
set_option linter.unusedVariables false

set_option maxHeartbeats 400000 in
theorem count_none (s : ByteArray) (w : World) (hs : s.size ≤ maxLen) (hd : dec s.data.toList = none) :
    Calls Tryd.prog 28 #[.string s] w fun e w' => e = .returned (.int .i64 (-1)) ∧ Below w.heap.size w w' := by
  have HD := Lib.hid hd
  clear hd
  go_enter Tryd.func28, Tryd.ntmps28
  go_wp2_with fail
  refine (right_any _ _ hs).mono ?_
  rintro e w1 ⟨rfl, hb1⟩
  rw [HD.out]
  go_wp2_with fail
  go_ret
  exact ⟨rfl, hb1⟩

set_option maxHeartbeats 400000 in
theorem count_some (s : ByteArray) (rs : List Nat) (w : World) (hs : s.size ≤ 1000000) (ho : allOk rs) (h : s.data.toList = encAll rs) :
    Calls Tryd.prog 28 #[.string s] w fun e w' => e = .returned (.int .i64 rs.length) ∧ Below w.heap.size w w' := by
  have hs' : s.size ≤ maxLen := by unfold maxLen; omega
  have hd := dec_encAll ho
  rw [← h] at hd
  have hl := len_le h
  have HN := Lib.hid (fun (w : World) k hk ty => next_off (P := Tryd.prog) ho h w k hk ty)
  have HE := Lib.hid (fun (w : World) ty => next_off_end (P := Tryd.prog) h w ty)
  have HLE := Lib.hid (fun k => off_le h k)
  have HLT := Lib.hid (fun k hk => off_lt h k hk)
  have HS := Lib.hid (off_succ rs)
  have HP := Lib.hid (fun c => enc_length c)
  have HD := Lib.hid hd
  clear hd h
  go_enter Tryd.func28, Tryd.ntmps28
  go_wp2_with fail
  refine (right_any _ _ hs').mono ?_
  rintro e w1 ⟨rfl, hb1⟩
  rw [HD.out]
  go_wp2_with fail
  go_loopw [3] (fun n w2 => ∃ k : Nat, k ≤ rs.length ∧ n = .int .i64 k ∧ w2 = w1.iter s (off rs k)) (fun _ w2 => s.size - w2.iterPos w1.heap.size)
  case atStart => exact ⟨0, Nat.zero_le _, rfl, rfl⟩
  case round =>
    obtain ⟨k, hk, rfl, rfl⟩ := hrel
    by_cases hlt : k < rs.length
    · have hnx := HN.out w1 k hlt
      go_wp2_with fail
      go_roundw
      case rel => exact ⟨k + 1, by omega, by go_num, rfl⟩
      case measure => have := HLT.out k hlt; have := HS.out k hlt; have := HP.out rs[k]; simp; omega
    · obtain rfl : k = rs.length := by omega
      have hnx := HE.out w1
      go_wp2_with fail
      go_ret
      exact ⟨rfl, hb1.alloc hb1.size _⟩
end Go.Proofs.YtjhmehmmpfnnkaaDoor

namespace Go.Proofs.YtjhmehmmpfnnkaaDoor
open Go.RowKit Utf
set_option maxRecDepth 100000
set_option linter.unusedSimpArgs false
set_option linter.unusedVariables false

set_option maxHeartbeats 400000 in
theorem cut_some (s : ByteArray) (rs : List Nat) (n : Int) (w : World) (hs : s.size ≤ 1000000) (ho : allOk rs) (h : s.data.toList = encAll rs) (hn : -9223372036854775808 ≤ n ∧ n ≤ 9223372036854775807) :
    Calls Tryd.prog 55 #[.string s, .int .i64 n] w fun e w' => e = .returned (.int .i64 (off rs (min n.toNat rs.length) : Nat)) ∧ Below w.heap.size w w' := by
  have hl := len_le h
  have HN := Lib.hid (fun (w : World) k hk ty => next_off (P := Tryd.prog) ho h w k hk ty)
  have HE := Lib.hid (fun (w : World) ty => next_off_end (P := Tryd.prog) h w ty)
  have HLT := Lib.hid (fun k hk => off_lt h k hk)
  have HA := Lib.hid (off_all h)
  have HS := Lib.hid (off_succ rs)
  have HP := Lib.hid (fun c => enc_length c)
  clear h
  obtain ⟨hn1, hn2⟩ := hn
  go_enter Tryd.func55, Tryd.ntmps55
  go_wp2_with fail
  go_loopw [1] (fun v w2 => ∃ (k : Nat) (m : Int), k ≤ rs.length ∧ v = .int .i64 m ∧ w2 = w.iter s (off rs k) ∧ m = n - k ∧ (0 ≤ m ∨ k = 0)) (fun _ w2 => s.size - w2.iterPos w.heap.size)
  case atStart => exact ⟨0, n, Nat.zero_le _, rfl, rfl, by simp, Or.inr rfl⟩
  case round =>
    obtain ⟨k, m, hk, rfl, rfl, hm, hm0⟩ := hrel
    have HM := Lib.hid hm
    clear hm
    have HM0 := Lib.hid hm0
    clear hm0
    by_cases hlt : k < rs.length
    · have hnx := HN.out w k hlt
      by_cases hz : m ≤ 0
      · go_wp2_with fail
        go_ret
        refine ⟨ret_int ?_, (Below.refl _ _).alloc (Nat.le_refl _) _⟩
        have := HM.out
        have := HM0.out
        have e : min n.toNat rs.length = k := by omega
        rw [e]
      · have hm1 : 1 ≤ m := by omega
        have hm2 : m ≤ 9223372036854775807 := by have := HM.out; omega
        go_wp2_with fail
        go_roundw
        case rel => exact ⟨k + 1, m - 1, by omega, by go_num, rfl, by have := HM.out; omega, by omega⟩
        case measure => have := HLT.out k hlt; have := HS.out k hlt; have := HP.out rs[k]; simp; omega
    · obtain rfl : k = rs.length := by omega
      have hnx := HE.out w
      go_wp2_with fail
      go_ret
      refine ⟨ret_int ?_, (Below.refl _ _).alloc (Nat.le_refl _) _⟩
      have := HM.out
      have := HM0.out
      have e : min n.toNat rs.length = rs.length := by omega
      rw [e, HA.out]

set_option maxHeartbeats 400000 in
theorem first_none (s : ByteArray) (n : Int) (w : World) (hs : s.size ≤ maxLen) (hd : dec s.data.toList = none) :
    Calls Tryd.prog 29 #[.string s, .int .i64 n] w fun e w' => e = .returned (.string ByteArray.empty) ∧ Below w.heap.size w w' := by
  have HD := Lib.hid hd
  clear hd
  go_enter Tryd.func29, Tryd.ntmps29
  go_wp2_with fail
  refine (right_any _ _ hs).mono ?_
  rintro e w1 ⟨rfl, hb1⟩
  rw [HD.out]
  go_wp2_with fail
  go_ret
  exact ⟨rfl, hb1⟩

set_option maxHeartbeats 400000 in
theorem rest_none (s : ByteArray) (n : Int) (w : World) (hs : s.size ≤ maxLen) (hd : dec s.data.toList = none) :
    Calls Tryd.prog 30 #[.string s, .int .i64 n] w fun e w' => e = .returned (.string ByteArray.empty) ∧ Below w.heap.size w w' := by
  have HD := Lib.hid hd
  clear hd
  go_enter Tryd.func30, Tryd.ntmps30
  go_wp2_with fail
  refine (right_any _ _ hs).mono ?_
  rintro e w1 ⟨rfl, hb1⟩
  rw [HD.out]
  go_wp2_with fail
  go_ret
  exact ⟨rfl, hb1⟩

set_option maxHeartbeats 400000 in
theorem first_some (s : ByteArray) (rs : List Nat) (n : Int) (w : World) (hs : s.size ≤ 1000000) (ho : allOk rs) (h : s.data.toList = encAll rs) (hn : -9223372036854775808 ≤ n ∧ n ≤ 9223372036854775807) :
    Calls Tryd.prog 29 #[.string s, .int .i64 n] w fun e w' => e = .returned (.string (mkS (encAll (rs.take n.toNat)))) ∧ Below w.heap.size w w' := by
  have hs' : s.size ≤ maxLen := by unfold maxLen; omega
  have hd := dec_encAll ho
  rw [← h] at hd
  have hle := off_le h (min n.toNat rs.length)
  have HT := Lib.hid (off_take h (min n.toNat rs.length))
  have HC := Lib.hid (fun (W : World) => cut_some s rs n W hs ho h hn)
  have HD := Lib.hid hd
  clear hd h hn
  go_enter Tryd.func29, Tryd.ntmps29
  go_wp2_with fail
  refine (right_any _ _ hs').mono ?_
  rintro e w1 ⟨rfl, hb1⟩
  rw [HD.out]
  go_wp2_with fail
  refine (HC.out _).mono ?_
  rintro e w2 ⟨rfl, hb2⟩
  generalize hp : off rs (min n.toNat rs.length) = p at *
  have HPp := Lib.hid hp
  clear hp
  have hp2 : p ≤ 9223372036854775807 := by omega
  go_wp2_with fail
  go_ret
  refine ⟨?_, hb1.trans (hb2.mono hb1.size)⟩
  refine ret_str ?_
  rw [mkS_data, Lib.extract_data, List.drop_zero, Nat.sub_zero, HT.out]
  congr 1
  rw [List.take_eq_take_iff]
  omega

set_option maxHeartbeats 400000 in
theorem rest_some (s : ByteArray) (rs : List Nat) (n : Int) (w : World) (hs : s.size ≤ 1000000) (ho : allOk rs) (h : s.data.toList = encAll rs) (hn : -9223372036854775808 ≤ n ∧ n ≤ 9223372036854775807) :
    Calls Tryd.prog 30 #[.string s, .int .i64 n] w fun e w' => e = .returned (.string (mkS (encAll (rs.drop n.toNat)))) ∧ Below w.heap.size w w' := by
  have hs' : s.size ≤ maxLen := by unfold maxLen; omega
  have hd := dec_encAll ho
  rw [← h] at hd
  have hle := off_le h (min n.toNat rs.length)
  have HT := Lib.hid (off_drop h (min n.toNat rs.length))
  have HC := Lib.hid (fun (W : World) => cut_some s rs n W hs ho h hn)
  have HD := Lib.hid hd
  clear hd h hn
  go_enter Tryd.func30, Tryd.ntmps30
  go_wp2_with fail
  refine (right_any _ _ hs').mono ?_
  rintro e w1 ⟨rfl, hb1⟩
  rw [HD.out]
  go_wp2_with fail
  refine (HC.out _).mono ?_
  rintro e w2 ⟨rfl, hb2⟩
  generalize hp : off rs (min n.toNat rs.length) = p at *
  have HPp := Lib.hid hp
  clear hp
  have hp2 : p ≤ 9223372036854775807 := by omega
  go_wp2_with fail
  go_ret
  refine ⟨?_, hb1.trans (hb2.mono hb1.size)⟩
  refine ret_str ?_
  rw [mkS_data, Lib.extract_data, HT.out, List.take_of_length_le]
  · congr 1
    by_cases hle2 : n.toNat ≤ rs.length
    · rw [Nat.min_eq_left hle2]
    · rw [Nat.min_eq_right (by omega), List.drop_length, List.drop_of_length_le (by omega)]
  · rw [← HT.out, List.length_drop, ← Lib.size_eq]
    omega
end Go.Proofs.YtjhmehmmpfnnkaaDoor
