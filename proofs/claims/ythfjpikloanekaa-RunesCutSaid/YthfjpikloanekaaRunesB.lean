/-
  runes.Compare, runes.Common, and what they call.
-/
import Derived.Test.YthfjpikloanekaaRunesA
import Derived.Deep.QuietTactic
import Derived.BigQuiet
namespace Go.Proofs.Ythfjpikloanekaa
open Go.RowKit Utf
set_option maxRecDepth 100000
set_option linter.unusedSimpArgs false
set_option linter.unusedVariables false

def cmp2 (a b : Nat) : Int := if a < b then -1 else if b < a then 1 else 0
def cmpL : List Nat → List Nat → Int
  | [], [] => 0
  | [], _ :: _ => -1
  | _ :: _, [] => 1
  | a :: l, b :: m => if a < b then -1 else if b < a then 1 else cmpL l m
def commonL : List Nat → List Nat → Nat
  | a :: l, b :: m => if a = b then commonL l m + 1 else 0
  | _, _ => 0

theorem cmpL_skip (a b : List Nat) (k : Nat) (ha : k < a.length) (hb : k < b.length) (h : a[k] = b[k]) : cmpL (a.drop k) (b.drop k) = cmpL (a.drop (k + 1)) (b.drop (k + 1)) := by
  rw [List.drop_eq_getElem_cons ha, List.drop_eq_getElem_cons hb, h]
  simp [cmpL]
theorem cmpL_at (a b : List Nat) (k : Nat) (ha : k < a.length) (hb : k < b.length) (h : cmp2 a[k] b[k] ≠ 0) : cmpL (a.drop k) (b.drop k) = cmp2 a[k] b[k] := by
  rw [List.drop_eq_getElem_cons ha, List.drop_eq_getElem_cons hb]
  simp only [cmpL, cmp2] at h ⊢
  split
  · rfl
  · split
    · rfl
    · rename_i h1 h2; rw [if_neg h1, if_neg h2] at h; exact absurd rfl h
theorem cmp2_zero {a b : Nat} (h : cmp2 a b = 0) : a = b := by
  simp only [cmp2] at h
  split at h
  · cases h
  · split at h
    · cases h
    · omega

/-- A row of one-cell elements, whatever its address: each element's cell. -/
def RowAt (w : World) (ao : Option Addr) (xs : List Value) : Prop := ∀ i (h : i < xs.length), ∃ b o, ao = some ⟨b, o, none⟩ ∧ w.cell? ⟨b, o + i, none⟩ = some xs[i]

theorem RowAt.below {w w' : World} {ao : Option Addr} {xs : List Value} (h : RowAt w ao xs) (hb : Below w.heap.size w w') : RowAt w' ao xs := by
  intro i hi
  obtain ⟨b, o, e, hc⟩ := h i hi
  exact ⟨b, o, e, (hb.cell (World.block_lt_of_cell? w _ hc)).trans hc⟩

theorem own_row {w : World} {B : Nat} {e : TypeId} {v : Value} {n : Nat} {xs : List Value} (h : w.ownsRow B e 1 v n xs) : ∃ ao cap, v = .slice ao n cap ∧ RowAt w ao xs ∧ n = xs.length ∧ n ≤ cap ∧ cap ≤ maxLen ∧ (ao = none → n = 0 ∧ cap = 0) ∧ (∀ ad, ao = some ad → ad.spot = none) := by
  have hl := h.1
  rw [Nat.mul_one] at hl
  rcases h.2 with ⟨rfl, rfl⟩ | ⟨g, cap, cur, rfl, _, hg, hnc, hcm, _, _⟩
  · refine ⟨none, 0, rfl, fun i hi => by omega, hl.symm, Nat.le_refl _, Nat.zero_le _, fun _ => ⟨rfl, rfl⟩, fun _ h => by cases h⟩
  · refine ⟨some ⟨g, 0, none⟩, cap, rfl, fun i hi => ⟨g, 0, rfl, ?_⟩, hl.symm, hnc, hcm, fun h => (by cases h), fun _ h => by cases h; rfl⟩
    have := h.cellAt i (by omega)
    rw [Nat.zero_add, this, List.getElem?_eq_getElem hi]

theorem runeRow_at (rs : List Nat) (k : Nat) (h : k < (runeRow rs).length) : (runeRow rs)[k] = .int .i32 ((rs[k]'(by rw [← runeRow_len]; exact h) : Nat) : Int) := by simp [runeRow]
theorem natRow_at (rs : List Nat) (k : Nat) (h : k < (natRow rs).length) : (natRow rs)[k] = .int .i64 ((rs[k]'(by rw [← natRow_len]; exact h) : Nat) : Int) := by simp [natRow]

set_option maxHeartbeats 400000 in
theorem cmp_any (a b : Nat) (w : World) (ha : a < 2147483648) (hb : b < 2147483648) :
    Calls Try.prog 27 #[.int .i32 (a : Int), .int .i32 (b : Int)] w fun e w' => e = .returned (.int .i64 (cmp2 a b)) ∧ w' = w := by
  have ea : ((a : Int) != a) = false := by simp
  have eb : ((b : Int) != b) = false := by simp
  by_cases h1 : (a : Int) < b
  · go_enter Try.func27, Try.ntmps27
    go_wp2
    go_ret
    exact ⟨ret_int (by rw [cmp2, if_pos (by omega)]), rfl⟩
  · by_cases h2 : (b : Int) < a
    · go_enter Try.func27, Try.ntmps27
      go_wp2
      go_ret
      exact ⟨ret_int (by rw [cmp2, if_neg (by omega), if_pos (by omega)]), rfl⟩
    · go_enter Try.func27, Try.ntmps27
      go_wp2
      go_ret
      exact ⟨ret_int (by rw [cmp2, if_neg (by omega), if_neg (by omega)]), rfl⟩

set_option maxHeartbeats 1000000 in
theorem cmpFunc_any (a b : List Nat) (aa ab : Option Addr) (ca cb : Nat) (w : World) (hla : a.length ≤ 1000000) (hlb : b.length ≤ 1000000) (ho : ∀ c ∈ a, c < 2147483648) (hp : ∀ c ∈ b, c < 2147483648)
    (hra : RowAt w aa (runeRow a)) (hrb : RowAt w ab (runeRow b)) :
    Calls Try.prog 26 #[.slice aa a.length ca, .slice ab b.length cb, .func (.func 27) #[] #[]] w fun e w' => e = .returned (.int .i64 (cmpL a b)) ∧ w' = w := by
  have HO := Lib.hid ho
  have HP := Lib.hid hp
  have HA := Lib.hid hra
  have HB := Lib.hid hrb
  clear ho hp hra hrb
  go_enter Try.func26, Try.ntmps26
  go_wp2_with fail
  go_loop [13] (fun i => ∃ k : Nat, k ≤ a.length ∧ k ≤ b.length ∧ i = .int .i64 k ∧ Hid (cmpL a b = cmpL (a.drop k) (b.drop k))) (fun i => a.length - (intOf i).toNat)
  case atStart => exact ⟨0, Nat.zero_le _, Nat.zero_le _, rfl, rfl⟩
  case round =>
    obtain ⟨k, hka, hkb, rfl, HC⟩ := hrel
    by_cases hlt : k < a.length
    · obtain ⟨ba, oa, rfl, hca⟩ := HA.out k (by rw [runeRow_len]; exact hlt)
      rw [runeRow_at] at hca
      by_cases hltb : k < b.length
      · obtain ⟨bb, ob, rfl, hcb⟩ := HB.out k (by rw [runeRow_len]; exact hltb)
        rw [runeRow_at] at hcb
        have hx := HO.out a[k] (List.getElem_mem hlt)
        have hy := HP.out b[k] (List.getElem_mem hltb)
        have HK := Lib.hid (cmpL_skip a b k hlt hltb)
        have HT := Lib.hid (cmpL_at a b k hlt hltb)
        generalize a[k] = x at *
        generalize b[k] = y at *
        by_cases hz : cmp2 x y = 0
        · have hz' : (cmp2 x y != 0) = false := by simp [hz]
          have HZ := Lib.hid (HC.out.trans (HK.out (cmp2_zero hz)))
          clear hz
          go_wp2_with fail
          refine (cmp_any x y _ hx hy).mono ?_
          rintro e w' ⟨rfl, rfl⟩
          generalize cmp2 x y = z at *
          go_wp2_with fail
          go_round
          case rel => exact ⟨k + 1, by omega, by omega, by go_num, HZ.out⟩
          case measure => simp [intOf]; omega
        · have hz' : (cmp2 x y != 0) = true := by simp [hz]
          have HZ := Lib.hid hz
          clear hz
          go_wp2_with fail
          refine (cmp_any x y _ hx hy).mono ?_
          rintro e w' ⟨rfl, rfl⟩
          generalize hz : cmp2 x y = z at *
          have HZ2 := Lib.hid hz
          clear hz
          go_wp2_with fail
          go_ret
          exact ⟨ret_int ((HC.out.trans (HT.out HZ.out)).symm), rfl⟩
      · obtain rfl : k = b.length := by omega
        go_wp2_with fail
        go_ret
        refine ⟨ret_int ?_, rfl⟩
        rw [HC.out, List.drop_length, List.drop_eq_getElem_cons hlt]
        rfl
    · obtain rfl : k = a.length := by omega
      by_cases hltb : a.length < b.length
      · go_wp2_with fail
        go_ret
        refine ⟨ret_int ?_, rfl⟩
        rw [HC.out, List.drop_length, List.drop_eq_getElem_cons hltb]
        rfl
      · go_wp2_with fail
        go_ret
        refine ⟨ret_int ?_, rfl⟩
        rw [HC.out, List.drop_length, List.drop_of_length_le (by omega)]
        rfl

theorem okR_lt {rs : List Nat} (h : allOk rs) : ∀ c ∈ rs, c < 2147483648 := by
  intro c hc
  have := h c hc
  rw [okR_def] at this
  omega

set_option maxHeartbeats 400000 in
theorem compare_some (s t : ByteArray) (a b : List Nat) (w : World) (hs : s.size ≤ 1000000) (ht : t.size ≤ 1000000) (ho : allOk a) (hp : allOk b) (h1 : s.data.toList = encAll a) (h2 : t.data.toList = encAll b) :
    Calls Try.prog 18 #[.string s, .string t] w fun e w' => e = .returned (.int .i64 (cmpL a b)) ∧ Below w.heap.size w w' := by
  have hs' : s.size ≤ maxLen := by unfold maxLen; omega
  have ht' : t.size ≤ maxLen := by unfold maxLen; omega
  have HA := Lib.hid (fun W => list_some s a W hs ho h1)
  have HB := Lib.hid (fun W => list_some t b W ht hp h2)
  have hla : a.length ≤ 1000000 := by have := len_le h1; omega
  have hlb : b.length ≤ 1000000 := by have := len_le h2; omega
  have hd := dec_encAll ho
  rw [← h1] at hd
  have hd2 := dec_encAll hp
  rw [← h2] at hd2
  have HD := Lib.hid hd
  have HD2 := Lib.hid hd2
  clear hd hd2 h1 h2
  go_enter Try.func18, Try.ntmps18
  go_wp2_with fail
  refine (right_any _ _ hs').mono ?_
  rintro e w1 ⟨rfl, hb1⟩
  rw [HD.out]
  go_wp2_with fail
  refine (right_any _ _ ht').mono ?_
  rintro e w2 ⟨rfl, hb2⟩
  rw [HD2.out]
  go_wp2_with fail
  refine (HA.out _).mono ?_
  rintro e w3 ⟨v3, rfl, hb3, hown3⟩
  obtain ⟨a3, c3, rfl, hr3, -⟩ := own_row hown3
  have R3 := Lib.hid hr3
  clear hr3 hown3
  go_wp2_with fail
  refine (HB.out _).mono ?_
  rintro e w4 ⟨v4, rfl, hb4, hown4⟩
  obtain ⟨a4, c4, rfl, hr4, -⟩ := own_row hown4
  have R4 := Lib.hid hr4
  clear hr4 hown4
  go_wp2_with fail
  refine (cmpFunc_any a b a3 a4 c3 c4 _ hla hlb (okR_lt ho) (okR_lt hp) (R3.out.below hb4) R4.out).mono ?_
  rintro e w5 ⟨rfl, rfl⟩
  go_wp2_with fail
  go_ret
  have z1 := hb1.size
  have z2 := hb2.size
  have z3 := hb3.size
  exact ⟨rfl, ((hb1.trans (hb2.mono z1)).trans (hb3.mono (by omega))).trans (hb4.mono (by omega))⟩

set_option maxHeartbeats 400000 in
theorem compare_none (s t : ByteArray) (w : World) (hs : s.size ≤ maxLen) (ht : t.size ≤ maxLen) (h : dec s.data.toList = none ∨ dec t.data.toList = none) :
    Calls Try.prog 18 #[.string s, .string t] w fun e w' => e = .returned (.int .i64 0) ∧ Below w.heap.size w w' := by
  cases hd : dec s.data.toList with
  | none =>
    have HD := Lib.hid hd
    clear hd h
    go_enter Try.func18, Try.ntmps18
    go_wp2_with fail
    refine (right_any _ _ hs).mono ?_
    rintro e w1 ⟨rfl, hb1⟩
    rw [HD.out]
    go_wp2_with fail
    go_ret
    exact ⟨rfl, hb1⟩
  | some rs =>
    have HE := Lib.hid (h.resolve_left (by rw [hd]; simp))
    have HD := Lib.hid hd
    clear hd h
    go_enter Try.func18, Try.ntmps18
    go_wp2_with fail
    refine (right_any _ _ hs).mono ?_
    rintro e w1 ⟨rfl, hb1⟩
    rw [HD.out]
    go_wp2_with fail
    refine (right_any _ _ ht).mono ?_
    rintro e w2 ⟨rfl, hb2⟩
    rw [HE.out]
    go_wp2_with fail
    go_ret
    exact ⟨rfl, hb1.trans (hb2.mono hb1.size)⟩
end Go.Proofs.Ythfjpikloanekaa
