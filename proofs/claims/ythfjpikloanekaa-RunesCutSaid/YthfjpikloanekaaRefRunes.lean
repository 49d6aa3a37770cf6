/-
  tidewaterref02.Runes: the runes of a text, read byte by byte.
-/
import Derived.Test.YthfjpikloanekaaKit
import Derived.Deep.QuietTactic
import Derived.BigQuiet
namespace Go.Proofs.Ythfjpikloanekaa
open Go.RowKit Utf
set_option maxRecDepth 100000
set_option linter.unusedSimpArgs false
set_option linter.unusedVariables false

def natRow (rs : List Nat) : List Value := rs.map fun (c : Nat) => Value.int .i64 (c : Int)
theorem natRow_len (rs : List Nat) : (natRow rs).length = rs.length := by simp [natRow]
theorem natRow_snoc (rs : List Nat) (c : Nat) (x : Int) (h : x = (c : Int)) : natRow rs ++ [Value.int .i64 x] = natRow (rs ++ [c]) := by simp [natRow, h]

theorem dec_step {s : ByteArray} {rs : List Nat} {c n : Nat} (ho : allOk rs) (hs : s.data.toList = encAll rs ++ s.data.toList.drop (encAll rs).length)
    (hd : dec1 (s.data.toList.drop (encAll rs).length) = some (c, n)) :
    allOk (rs ++ [c]) ∧ (encAll (rs ++ [c])).length = (encAll rs).length + n ∧ s.data.toList = encAll (rs ++ [c]) ++ s.data.toList.drop (encAll (rs ++ [c])).length := by
  obtain ⟨h1, h2, h3⟩ := dec1_some hd
  have e1 : encAll (rs ++ [c]) = encAll rs ++ enc c := by rw [encAll_append]; simp [encAll]
  have e2 : (encAll (rs ++ [c])).length = (encAll rs).length + n := by rw [e1, List.length_append, h2]
  refine ⟨allOk_append.2 ⟨ho, allOk_cons.2 ⟨h1, allOk_nil⟩⟩, e2, ?_⟩
  rw [List.drop_drop] at h3
  rw [e2, e1, List.append_assoc, ← h3]
  exact hs
theorem dec_stuck {s : ByteArray} {rs : List Nat} (ho : allOk rs) (hs : s.data.toList = encAll rs ++ s.data.toList.drop (encAll rs).length) (hp : (encAll rs).length < s.size)
    (hd : dec1 (s.data.toList.drop (encAll rs).length) = none) : dec s.data.toList = none := by
  have hl := drop_len s (encAll rs).length
  rw [hs, dec_append ho]
  cases ht : dec (s.data.toList.drop (encAll rs).length) with
  | none => rfl
  | some ts =>
    obtain ⟨h1, h2⟩ := dec_some ht
    cases ts with
    | nil => rw [h2] at hl; simp [encAll_nil] at hl; omega
    | cons c ts => rw [h2, encAll_cons, dec1_enc c (allOk_cons.1 h1).1] at hd; cases hd
theorem dec_done {s : ByteArray} {rs : List Nat} (ho : allOk rs) (hs : s.data.toList = encAll rs ++ s.data.toList.drop (encAll rs).length) (hp : ¬ (encAll rs).length < s.size) :
    dec s.data.toList = some rs := by
  have : s.data.toList.drop (encAll rs).length = [] := by
    rw [List.drop_eq_nil_iff]
    simp
    exact Nat.not_lt.1 hp
  rw [hs, this, List.append_nil]
  exact dec_encAll ho

theorem drop_cons (s : ByteArray) (p : Nat) (h : p < s.size) : s.data.toList.drop p = s[p] :: s.data.toList.drop (p + 1) := by
  rw [List.drop_eq_getElem_cons (by simpa using h)]
  rfl
theorem drop_nil (s : ByteArray) (p : Nat) (h : ¬ p < s.size) : s.data.toList.drop p = [] := by
  rw [List.drop_eq_nil_iff]; simp; exact Nat.not_lt.1 h

section
variable {s : ByteArray} {p : Nat} (h : p < s.size)
include h
theorem dec1_at1 (hb : s[p].toNat < 128) : dec1 (s.data.toList.drop p) = some (s[p].toNat, 1) := by
  rw [drop_cons s p h]; simp [dec1, hb]
theorem dec1_at0 (hb : 128 ≤ s[p].toNat) (hb' : s[p].toNat < 192 ∨ 248 ≤ s[p].toNat) : dec1 (s.data.toList.drop p) = none := by
  rw [drop_cons s p h]; simp only [dec1]
  rw [if_neg (by omega), if_neg (by omega), if_neg (by omega), if_neg (by omega)]
theorem dec1_short2 (hb : 192 ≤ s[p].toNat) (hs : ¬ p + 1 < s.size) : dec1 (s.data.toList.drop p) = none := by
  rw [drop_cons s p h, drop_nil s _ hs]; simp only [dec1]
  rw [if_neg (by omega)]
  repeat' split
  all_goals rfl
theorem dec1_short3 (hb : 224 ≤ s[p].toNat) (hs : ¬ p + 2 < s.size) : dec1 (s.data.toList.drop p) = none := by
  by_cases h1 : p + 1 < s.size
  · rw [drop_cons s p h, drop_cons s (p + 1) h1, drop_nil s _ hs]; simp only [dec1]
    rw [if_neg (by omega), if_neg (by omega)]
    repeat' split
    all_goals rfl
  · exact dec1_short2 h (by omega) h1
theorem dec1_short4 (hb : 240 ≤ s[p].toNat) (hs : ¬ p + 3 < s.size) : dec1 (s.data.toList.drop p) = none := by
  by_cases h1 : p + 1 < s.size
  · by_cases h2 : p + 2 < s.size
    · rw [drop_cons s p h, drop_cons s (p + 1) h1, drop_cons s (p + 2) h2, drop_nil s _ hs]; simp only [dec1]
      rw [if_neg (by omega), if_neg (by omega), if_neg (by omega)]
      repeat' split
      all_goals rfl
    · exact dec1_short3 h (by omega) h2
  · exact dec1_short2 h (by omega) h1
theorem dec1_at2 (hb : 192 ≤ s[p].toNat ∧ s[p].toNat < 224) (h1 : p + 1 < s.size) : dec1 (s.data.toList.drop p) =
    if cont s[p + 1] = true ∧ 128 ≤ (s[p].toNat - 192) * 64 + (s[p + 1].toNat - 128) then some ((s[p].toNat - 192) * 64 + (s[p + 1].toNat - 128), 2) else none := by
  rw [drop_cons s p h, drop_cons s (p + 1) h1]; simp only [dec1]
  rw [if_neg (by omega), if_pos hb]
theorem dec1_at3 (hb : 224 ≤ s[p].toNat ∧ s[p].toNat < 240) (h1 : p + 1 < s.size) (h2 : p + 2 < s.size) : dec1 (s.data.toList.drop p) =
    if cont s[p + 1] = true ∧ cont s[p + 2] = true ∧ 2048 ≤ ((s[p].toNat - 224) * 64 + (s[p + 1].toNat - 128)) * 64 + (s[p + 2].toNat - 128) ∧ okR (((s[p].toNat - 224) * 64 + (s[p + 1].toNat - 128)) * 64 + (s[p + 2].toNat - 128)) = true then
      some (((s[p].toNat - 224) * 64 + (s[p + 1].toNat - 128)) * 64 + (s[p + 2].toNat - 128), 3) else none := by
  rw [drop_cons s p h, drop_cons s (p + 1) h1, drop_cons s (p + 2) h2]; simp only [dec1]
  rw [if_neg (by omega), if_neg (by omega), if_pos hb]
theorem dec1_at4 (hb : 240 ≤ s[p].toNat ∧ s[p].toNat < 248) (h1 : p + 1 < s.size) (h2 : p + 2 < s.size) (h3 : p + 3 < s.size) : dec1 (s.data.toList.drop p) =
    if cont s[p + 1] = true ∧ cont s[p + 2] = true ∧ cont s[p + 3] = true ∧ 65536 ≤ (((s[p].toNat - 240) * 64 + (s[p + 1].toNat - 128)) * 64 + (s[p + 2].toNat - 128)) * 64 + (s[p + 3].toNat - 128) ∧ okR ((((s[p].toNat - 240) * 64 + (s[p + 1].toNat - 128)) * 64 + (s[p + 2].toNat - 128)) * 64 + (s[p + 3].toNat - 128)) = true then
      some ((((s[p].toNat - 240) * 64 + (s[p + 1].toNat - 128)) * 64 + (s[p + 2].toNat - 128)) * 64 + (s[p + 3].toNat - 128), 4) else none := by
  rw [drop_cons s p h, drop_cons s (p + 1) h1, drop_cons s (p + 2) h2, drop_cons s (p + 3) h3]; simp only [dec1]
  rw [if_neg (by omega), if_neg (by omega), if_neg (by omega), if_pos hb]
end

theorem app_nat {w : World} {B : Nat} {e : TypeId} {v : Value} {rs : List Nat} {c : Nat} (h : w.ownsRow B e 1 v (rs.length + 1) (natRow rs ++ [.int .i64 (c : Int)])) : w.ownsRow B e 1 v (rs ++ [c]).length (natRow (rs ++ [c])) := by
  rw [← natRow_snoc rs c _ rfl, List.length_append]; exact h

/-- A text's byte. -/
def byteAt (s : ByteArray) (i : Nat) : Nat := (s.data.toList[i]?.getD 0).toNat

/-- What the bytes read so far come to: the lead byte's part, and then six bits of each further byte. -/
def part (s : ByteArray) (p : Nat) (c0 : Nat) : Nat → Nat
  | 0 => c0
  | 1 => c0
  | j + 2 => part s p c0 (j + 1) * 64 + (byteAt s (p + (j + 1)) - 128)

theorem byteAt_eq (s : ByteArray) (i : Nat) (h : i < s.size) : byteAt s i = (s[i]'h).toNat := by
  have h' : i < s.data.toList.length := by simpa using h
  unfold byteAt
  rw [List.getElem?_eq_getElem h']
  rfl

def conts (s : ByteArray) (p n : Nat) : Prop := ∀ i, 1 ≤ i → i < n → 128 ≤ byteAt s (p + i) ∧ byteAt s (p + i) ≤ 191

/-- The four lead bytes' kinds. -/
theorem dec1_kind {s : ByteArray} {p n least c0 : Nat} (h : p + n ≤ s.size)
    (hk : (n = 1 ∧ least = 0 ∧ c0 = byteAt s p ∧ c0 < 128) ∨ (n = 2 ∧ least = 128 ∧ c0 + 192 = byteAt s p ∧ c0 < 32) ∨ (n = 3 ∧ least = 2048 ∧ c0 + 224 = byteAt s p ∧ c0 < 16) ∨ (n = 4 ∧ least = 65536 ∧ c0 + 240 = byteAt s p ∧ c0 < 8)) :
    (conts s p n ∧ least ≤ part s p c0 n ∧ okR (part s p c0 n) = true → dec1 (s.data.toList.drop p) = some (part s p c0 n, n)) ∧
    (¬ (conts s p n ∧ least ≤ part s p c0 n ∧ okR (part s p c0 n) = true) → dec1 (s.data.toList.drop p) = none) := by
  have hp : p < s.size := by omega
  have e0 := byteAt_eq s p hp
  rcases hk with ⟨rfl, rfl, h0, hb⟩ | ⟨rfl, rfl, h0, hb⟩ | ⟨rfl, rfl, h0, hb⟩ | ⟨rfl, rfl, h0, hb⟩
  · rw [e0] at h0
    subst h0
    have := dec1_at1 hp hb
    refine ⟨fun _ => this, fun hno => absurd ⟨fun i h1 h2 => by omega, Nat.zero_le _, ?_⟩ hno⟩
    rw [okR_def]; simp only [part]; omega
  · rw [e0] at h0
    have e1 := byteAt_eq s (p + 1) (by omega)
    obtain rfl : c0 = s[p].toNat - 192 := by omega
    have ec : part s p (s[p].toNat - 192) 2 = (s[p].toNat - 192) * 64 + (s[p + 1].toNat - 128) := by simp only [part, e1]
    have hd := dec1_at2 hp (by omega) (show p + 1 < s.size by omega)
    have hc : conts s p 2 ↔ cont s[p + 1] = true := by
      rw [cont_def]
      refine ⟨fun h => by rw [← e1]; exact h 1 (by omega) (by omega), fun h i h1 h2 => ?_⟩
      obtain rfl : i = 1 := by omega
      rw [e1]; exact h
    rw [ec, hc, hd]
    have hok : cont s[p + 1] = true → okR ((s[p].toNat - 192) * 64 + (s[p + 1].toNat - 128)) = true := by
      rw [cont_def, okR_def]; omega
    exact ⟨fun h => if_pos ⟨h.1, h.2.1⟩, fun h => if_neg (fun h' => h ⟨h'.1, h'.2, hok h'.1⟩)⟩
  · rw [e0] at h0
    have e1 := byteAt_eq s (p + 1) (by omega)
    have e2 := byteAt_eq s (p + 2) (by omega)
    obtain rfl : c0 = s[p].toNat - 224 := by omega
    have ec : part s p (s[p].toNat - 224) 3 = ((s[p].toNat - 224) * 64 + (s[p + 1].toNat - 128)) * 64 + (s[p + 2].toNat - 128) := by simp only [part, e1, e2]
    have hd := dec1_at3 hp (by omega) (show p + 1 < s.size by omega) (show p + 2 < s.size by omega)
    have hc : conts s p 3 ↔ cont s[p + 1] = true ∧ cont s[p + 2] = true := by
      rw [cont_def, cont_def]
      refine ⟨fun h => by rw [← e1, ← e2]; exact ⟨h 1 (by omega) (by omega), h 2 (by omega) (by omega)⟩, fun h i h1 h2 => ?_⟩
      rcases (show i = 1 ∨ i = 2 by omega) with rfl | rfl
      · rw [e1]; exact h.1
      · rw [e2]; exact h.2
    rw [ec, hc, hd]
    exact ⟨fun h => if_pos ⟨h.1.1, h.1.2, h.2⟩, fun h => if_neg (fun h' => h ⟨⟨h'.1, h'.2.1⟩, h'.2.2⟩)⟩
  · rw [e0] at h0
    have e1 := byteAt_eq s (p + 1) (by omega)
    have e2 := byteAt_eq s (p + 2) (by omega)
    have e3 := byteAt_eq s (p + 3) (by omega)
    obtain rfl : c0 = s[p].toNat - 240 := by omega
    have ec : part s p (s[p].toNat - 240) 4 = (((s[p].toNat - 240) * 64 + (s[p + 1].toNat - 128)) * 64 + (s[p + 2].toNat - 128)) * 64 + (s[p + 3].toNat - 128) := by simp only [part, e1, e2, e3]
    have hd := dec1_at4 hp (by omega) (show p + 1 < s.size by omega) (show p + 2 < s.size by omega) (show p + 3 < s.size by omega)
    have hc : conts s p 4 ↔ cont s[p + 1] = true ∧ cont s[p + 2] = true ∧ cont s[p + 3] = true := by
      rw [cont_def, cont_def, cont_def]
      refine ⟨fun h => by rw [← e1, ← e2, ← e3]; exact ⟨h 1 (by omega) (by omega), h 2 (by omega) (by omega), h 3 (by omega) (by omega)⟩, fun h i h1 h2 => ?_⟩
      rcases (show i = 1 ∨ i = 2 ∨ i = 3 by omega) with rfl | rfl | rfl
      · rw [e1]; exact h.1
      · rw [e2]; exact h.2.1
      · rw [e3]; exact h.2.2
    rw [ec, hc, hd]
    exact ⟨fun h => if_pos ⟨h.1.1, h.1.2.1, h.1.2.2, h.2⟩, fun h => if_neg (fun h' => h ⟨⟨h'.1, h'.2.1, h'.2.2.1⟩, h'.2.2.2⟩)⟩

theorem part_bound {s : ByteArray} {p c0 : Nat} (h : c0 < 128) : ∀ n, n ≤ 4 → conts s p n → part s p c0 n < 33554432
  | 0, _, _ => by simp only [part]; omega
  | 1, _, _ => by simp only [part]; omega
  | 2, _, hc => by
    have h1 := hc 1 (by omega) (by omega)
    simp only [part, Nat.zero_add, Nat.reduceAdd]; omega
  | 3, _, hc => by
    have h1 := hc 1 (by omega) (by omega)
    have h2 := hc 2 (by omega) (by omega)
    simp only [part, Nat.zero_add, Nat.reduceAdd]; omega
  | 4, _, hc => by
    have h1 := hc 1 (by omega) (by omega)
    have h2 := hc 2 (by omega) (by omega)
    have h3 := hc 3 (by omega) (by omega)
    simp only [part, Nat.zero_add, Nat.reduceAdd]; omega
  | n + 5, hn, _ => by omega
theorem conts_succ {s : ByteArray} {p j : Nat} (h : conts s p j) (hj : 128 ≤ byteAt s (p + j) ∧ byteAt s (p + j) ≤ 191) : conts s p (j + 1) := by
  intro i h1 h2
  by_cases e : i = j
  · subst e; exact hj
  · exact h i h1 (by omega)
theorem part_succ {s : ByteArray} {p c0 j : Nat} (h : 1 ≤ j) : part s p c0 (j + 1) = part s p c0 j * 64 + (byteAt s (p + j) - 128) := by
  cases j with
  | zero => omega
  | succ j => rfl

set_option maxHeartbeats 4000000 in
theorem refRunes_any (s : ByteArray) (w : World) (hs : s.size ≤ 1000000) :
    Calls Try.prog 9 #[.string s] w fun e w' =>
      ∃ v, e = .returned (.tuple #[v, .bool (dec s.data.toList).isSome]) ∧ Below w.heap.size w w' ∧
        (∀ rs, dec s.data.toList = some rs → w'.ownsRow w.heap.size 3 1 v rs.length (natRow rs)) ∧ (dec s.data.toList = none → v = .slice none 0 0) := by
  obtain ⟨i0, hi, hz0, hz1, hz2⟩ := info_parts Try.infoInt
  go_enter Try.func9, Try.ntmps9
  go_wp2
  go_loopw [4, 5] (fun v i wr => ∃ (rs : List Nat), i = .int .i64 (encAll rs).length ∧ allOk rs ∧ s.data.toList = encAll rs ++ s.data.toList.drop (encAll rs).length ∧ Below w.heap.size w wr ∧ wr.ownsRow w.heap.size 3 1 v rs.length (natRow rs))
    (fun _ i _ => s.size - (intOf i).toNat)
  case atStart =>
    exact ⟨[], rfl, allOk_nil, rfl, (Below.refl _ _).alloc (Nat.le_refl _) _, World.ownsRow_made w #[] 0 (Nat.le_refl _) (by simp [maxLen]) rfl⟩
  case round =>
    obtain ⟨rs, rfl, ho, hx, hbel, hown⟩ := hrel
    have hlen : rs.length ≤ s.size := by
      have h1 := encAll_length rs
      have h2 := congrArg List.length hx
      simp only [List.length_append, ← Lib.size_eq] at h2
      omega
    have hstep := fun c n => dec_step (c := c) (n := n) ho hx
    have hstuck := dec_stuck ho hx
    have hdone := dec_done ho hx
    clear hx ho
    generalize hpos : (encAll rs).length = pos at *
    clear hpos
    by_cases hp : pos < s.size
    · replace hstuck := hstuck hp
      clear hdone
      have e0 := byteAt_eq s pos hp
      have hb256 : s[pos].toNat < 256 := s[pos].toNat_lt
      have hstuck2 := dec1_short2 hp
      have hstuck3 := dec1_short3 hp
      have hstuck4 := dec1_short4 hp
      have hstuck0 := dec1_at0 hp
      rcases (show (s[pos].toNat < 128) ∨ (128 ≤ s[pos].toNat ∧ s[pos].toNat < 192 ∨ 248 ≤ s[pos].toNat) ∨ (192 ≤ s[pos].toNat ∧ s[pos].toNat < 224) ∨ (224 ≤ s[pos].toNat ∧ s[pos].toNat < 240) ∨ (240 ≤ s[pos].toNat ∧ s[pos].toNat < 248) by omega) with hb | hb | hb | hb | hb
      · have hshort : pos + 1 ≤ s.size ∨ ¬ pos + 0 < s.size := by omega
        rcases hshort with hshort | hshort
        · obtain ⟨c0, hc0⟩ : ∃ c0, c0 + 0 = s[pos].toNat := ⟨s[pos].toNat - 0, by omega⟩
          have hkind := dec1_kind (s := s) (p := pos) (n := 1) (least := 0) (c0 := c0) hshort (by omega)
          have HP := Lib.hid (part_bound (s := s) (p := pos) (c0 := c0) (by omega))
          have HOK := Lib.hid (fun h => hstep _ _ (hkind.1 h))
          have HNO := Lib.hid (fun h => hstuck (hkind.2 h))
          have hq : decide ((s.size : Int) - (pos : Int) < 1) = false := by simp; omega
          have hsub : ((s[pos].toNat : Nat) : Int) = (c0 : Int) := by omega
          have HS := Lib.hid hsub
          have hc0b : c0 < 128 := by omega
          clear hstuck hstep hstuck2 hstuck3 hstuck4 hstuck0 e0 hc0 hkind hsub
          go_wp2_with fail
          go_quiet (fail)
          generalize hbb : s[pos].toNat = b at *
          clear hbb
          have hT0 : (b : Int) < 128 := by omega
          go_wp2_with fail
          rw [HS.out]
          have hbel2 := below_drewN hbel nq
          have hown2 : (wr.drewN nq).ownsRow w.heap.size 3 1 u4 rs.length (natRow rs) := hown
          clear hbel hown
          generalize wr.drewN nq = w1 at *
          go_loopw [8, 9] (fun c k w2 => ∃ j : Nat, k = .int .i64 j ∧ 1 ≤ j ∧ j ≤ 1 ∧ conts s pos j ∧ c = .int .i64 (part s pos c0 j : Nat) ∧ w2 = w1) (fun _ k _ => (4 - intOf k).toNat)
          case atStart => exact ⟨1, rfl, by omega, by omega, fun i h1 h2 => by omega, rfl, rfl⟩
          case round =>
            obtain ⟨j, rfl, hj1, hj2, hcs, rfl, rfl⟩ := hrel
            have hpb := HP.out j (by omega) hcs
            by_cases hjn : j < 1
            · omega
            · obtain rfl : j = 1 := by omega
              have hc1 : part s pos c0 1 < 128 := by simp only [part]; omega
              generalize hcc : part s pos c0 1 = c at *
              have HCC := Lib.hid hcc
              clear hcc
              by_cases h1 : (c : Int) < 0
              · have HN := Lib.hid (HNO.out (fun hc => by omega))
                first
                  | (exfalso; omega)
                  | (go_wp2_with fail
                     go_ret2
                     rw [HN.out]
                     exact ⟨_, rfl, hbel2, fun _ h => (by cases h), fun _ => rfl⟩)
              · by_cases h2 : (1114111 : Int) < (c : Int)
                · have HN := Lib.hid (HNO.out (fun hc => by have := hc.2.2; rw [okR_def] at this; omega))
                  first
                    | (exfalso; omega)
                    | (go_wp2_with fail
                       go_ret2
                       rw [HN.out]
                       exact ⟨_, rfl, hbel2, fun _ h => (by cases h), fun _ => rfl⟩)
                · by_cases h3 : (55296 : Int) ≤ (c : Int) ∧ (c : Int) ≤ 57343
                  · have HN := Lib.hid (HNO.out (fun hc => by have := hc.2.2; rw [okR_def] at this; omega))
                    obtain ⟨h3, h4⟩ := h3
                    first
                      | (exfalso; omega)
                      | (go_wp2_with fail
                         go_ret2
                         rw [HN.out]
                         exact ⟨_, rfl, hbel2, fun _ h => (by cases h), fun _ => rfl⟩)
                  · have HOK2 := Lib.hid (HOK.out ⟨hcs, by omega, by rw [okR_def]; omega⟩)
                    have HBS := Lib.hid hbel2.size
                    have h3' : (¬ (55296 : Int) ≤ (c : Int)) ∨ ((55296 : Int) ≤ (c : Int) ∧ ¬ (c : Int) ≤ 57343) := by omega
                    clear h3
                    rcases h3' with h3 | ⟨h3, h4⟩
                    all_goals (try (exfalso; omega))
                    all_goals
                      go_wp2_with (at_builtin; refine wpList_append_own _ rfl _ _ 24 rfl w.heap.size 3 i0 (.int .i64 0) 1 8 Try.underlying24 hi hz0 hz1 hz2 rfl (by decide) _ _ _ rfl (hown2.alloc _) ⟨wr.heap.size, 0, none⟩ 1 1 [.int .i64 (c : Int)] rfl rfl (one_cell _ _ _) (by intro u hu; simp at hu; subst hu; rfl) (by unfold maxLen; omega) (by omega) (by have := HBS.out; simp; omega) ?_; intro v' w2 hown' hgrow _; have hown3 := app_nat hown'; have hbel3 : Below w.heap.size w w2 := (hbel2.alloc HBS.out _).grown hgrow (by have := HBS.out; simp; omega) (fun k hk => (hown2.lt k hk).1); clear hown' hgrow hown2 hbel2)
                      go_roundw
                      case rel => exact ⟨rs ++ [c], by rw [HOK2.out.2.1]; go_num, HOK2.out.1, HOK2.out.2.2, by assumption, by assumption⟩
                      case measure => simp [intOf]; omega
        · omega
      · have HN := Lib.hid (hstuck (hstuck0 (by omega) (by omega)))
        clear hstuck hstep hstuck2 hstuck3 hstuck4 hstuck0 e0
        go_wp2_with fail
        go_quiet (fail)
        rcases hb with hb | hb
        all_goals
          go_wp2_with fail
          go_ret2
          rw [HN.out]
          exact ⟨_, rfl, below_drewN hbel _, fun _ h => (by cases h), fun _ => rfl⟩
      · have hshort : pos + 2 ≤ s.size ∨ ¬ pos + 1 < s.size := by omega
        rcases hshort with hshort | hshort
        · obtain ⟨c0, hc0⟩ : ∃ c0, c0 + 192 = s[pos].toNat := ⟨s[pos].toNat - 192, by omega⟩
          have hkind := dec1_kind (s := s) (p := pos) (n := 2) (least := 128) (c0 := c0) hshort (by omega)
          have HP := Lib.hid (part_bound (s := s) (p := pos) (c0 := c0) (by omega))
          have HOK := Lib.hid (fun h => hstep _ _ (hkind.1 h))
          have HNO := Lib.hid (fun h => hstuck (hkind.2 h))
          have hq : decide ((s.size : Int) - (pos : Int) < 2) = false := by simp; omega
          have hsub : ((s[pos].toNat : Nat) : Int) - 192 = (c0 : Int) := by omega
          have HS := Lib.hid hsub
          have hc0b : c0 < 128 := by omega
          clear hstuck hstep hstuck2 hstuck3 hstuck4 hstuck0 e0 hc0 hkind hsub
          go_wp2_with fail
          go_quiet (fail)
          generalize hbb : s[pos].toNat = b at *
          clear hbb
          have hT0 : ¬ (b : Int) < 128 := by omega
          have hT1 : (192 : Int) ≤ (b : Int) := by omega
          have hT2 : (b : Int) < 224 := by omega
          go_wp2_with fail
          rw [HS.out]
          have hbel2 := below_drewN hbel nq
          have hown2 : (wr.drewN nq).ownsRow w.heap.size 3 1 u4 rs.length (natRow rs) := hown
          clear hbel hown
          generalize wr.drewN nq = w1 at *
          go_loopw [8, 9] (fun c k w2 => ∃ j : Nat, k = .int .i64 j ∧ 1 ≤ j ∧ j ≤ 2 ∧ conts s pos j ∧ c = .int .i64 (part s pos c0 j : Nat) ∧ w2 = w1) (fun _ k _ => (4 - intOf k).toNat)
          case atStart => exact ⟨1, rfl, by omega, by omega, fun i h1 h2 => by omega, rfl, rfl⟩
          case round =>
            obtain ⟨j, rfl, hj1, hj2, hcs, rfl, rfl⟩ := hrel
            have hpb := HP.out j (by omega) hcs
            by_cases hjn : j < 2
            · have hidx : pos + j < s.size := by omega
              have EB := Lib.hid (byteAt_eq s (pos + j) hidx)
              have PS := Lib.hid (part_succ (s := s) (p := pos) (c0 := c0) hj1)
              have hd256 : s[pos + j].toNat < 256 := s[pos + j].toNat_lt
              by_cases h1 : ((s[pos + j].toNat : Nat) : Int) < 128
              · have HN := Lib.hid (HNO.out (fun hc => by have := hc.1 j hj1 hjn; rw [EB.out] at this; omega))
                first
                  | (exfalso; omega)
                  | (go_wp2_with fail
                     go_ret2
                     rw [HN.out]
                     exact ⟨_, rfl, hbel2, fun _ h => (by cases h), fun _ => rfl⟩)
              · by_cases h2 : 191 < ((s[pos + j].toNat : Nat) : Int)
                · have HN := Lib.hid (HNO.out (fun hc => by have := hc.1 j hj1 hjn; rw [EB.out] at this; omega))
                  first
                    | (exfalso; omega)
                    | (go_wp2_with fail
                       go_ret2
                       rw [HN.out]
                       exact ⟨_, rfl, hbel2, fun _ h => (by cases h), fun _ => rfl⟩)
                · have HC := Lib.hid (conts_succ hcs (by rw [EB.out]; omega))
                  go_wp2_with fail
                  go_roundw
                  case rel => exact ⟨j + 1, by go_num, by omega, by omega, HC.out, by rw [PS.out, EB.out]; go_num, by first | rfl | trivial⟩
                  case measure => simp [intOf]; omega
            · obtain rfl : j = 2 := by omega
              generalize hcc : part s pos c0 2 = c at *
              have HCC := Lib.hid hcc
              clear hcc
              by_cases h1 : (c : Int) < 128
              · have HN := Lib.hid (HNO.out (fun hc => by omega))
                first
                  | (exfalso; omega)
                  | (go_wp2_with fail
                     go_ret2
                     rw [HN.out]
                     exact ⟨_, rfl, hbel2, fun _ h => (by cases h), fun _ => rfl⟩)
              · by_cases h2 : (1114111 : Int) < (c : Int)
                · have HN := Lib.hid (HNO.out (fun hc => by have := hc.2.2; rw [okR_def] at this; omega))
                  first
                    | (exfalso; omega)
                    | (go_wp2_with fail
                       go_ret2
                       rw [HN.out]
                       exact ⟨_, rfl, hbel2, fun _ h => (by cases h), fun _ => rfl⟩)
                · by_cases h3 : (55296 : Int) ≤ (c : Int) ∧ (c : Int) ≤ 57343
                  · have HN := Lib.hid (HNO.out (fun hc => by have := hc.2.2; rw [okR_def] at this; omega))
                    obtain ⟨h3, h4⟩ := h3
                    first
                      | (exfalso; omega)
                      | (go_wp2_with fail
                         go_ret2
                         rw [HN.out]
                         exact ⟨_, rfl, hbel2, fun _ h => (by cases h), fun _ => rfl⟩)
                  · have HOK2 := Lib.hid (HOK.out ⟨hcs, by omega, by rw [okR_def]; omega⟩)
                    have HBS := Lib.hid hbel2.size
                    have h3' : (¬ (55296 : Int) ≤ (c : Int)) ∨ ((55296 : Int) ≤ (c : Int) ∧ ¬ (c : Int) ≤ 57343) := by omega
                    clear h3
                    rcases h3' with h3 | ⟨h3, h4⟩
                    all_goals (try (exfalso; omega))
                    all_goals
                      go_wp2_with (at_builtin; refine wpList_append_own _ rfl _ _ 24 rfl w.heap.size 3 i0 (.int .i64 0) 1 8 Try.underlying24 hi hz0 hz1 hz2 rfl (by decide) _ _ _ rfl (hown2.alloc _) ⟨wr.heap.size, 0, none⟩ 1 1 [.int .i64 (c : Int)] rfl rfl (one_cell _ _ _) (by intro u hu; simp at hu; subst hu; rfl) (by unfold maxLen; omega) (by omega) (by have := HBS.out; simp; omega) ?_; intro v' w2 hown' hgrow _; have hown3 := app_nat hown'; have hbel3 : Below w.heap.size w w2 := (hbel2.alloc HBS.out _).grown hgrow (by have := HBS.out; simp; omega) (fun k hk => (hown2.lt k hk).1); clear hown' hgrow hown2 hbel2)
                      go_roundw
                      case rel => exact ⟨rs ++ [c], by rw [HOK2.out.2.1]; go_num, HOK2.out.1, HOK2.out.2.2, by assumption, by assumption⟩
                      case measure => simp [intOf]; omega
        · have HN := Lib.hid (hstuck (hstuck2 (by omega) hshort))
          have hq : (s.size : Int) - (pos : Int) < 2 := by omega
          clear hstuck hstep hstuck2 hstuck3 hstuck4 hstuck0 e0
          go_wp2_with fail
          go_quiet (fail)
          go_wp2_with fail
          go_ret2
          rw [HN.out]
          exact ⟨_, rfl, below_drewN hbel _, fun _ h => (by cases h), fun _ => rfl⟩
      · have hshort : pos + 3 ≤ s.size ∨ ¬ pos + 2 < s.size := by omega
        rcases hshort with hshort | hshort
        · obtain ⟨c0, hc0⟩ : ∃ c0, c0 + 224 = s[pos].toNat := ⟨s[pos].toNat - 224, by omega⟩
          have hkind := dec1_kind (s := s) (p := pos) (n := 3) (least := 2048) (c0 := c0) hshort (by omega)
          have HP := Lib.hid (part_bound (s := s) (p := pos) (c0 := c0) (by omega))
          have HOK := Lib.hid (fun h => hstep _ _ (hkind.1 h))
          have HNO := Lib.hid (fun h => hstuck (hkind.2 h))
          have hq : decide ((s.size : Int) - (pos : Int) < 3) = false := by simp; omega
          have hsub : ((s[pos].toNat : Nat) : Int) - 224 = (c0 : Int) := by omega
          have HS := Lib.hid hsub
          have hc0b : c0 < 128 := by omega
          clear hstuck hstep hstuck2 hstuck3 hstuck4 hstuck0 e0 hc0 hkind hsub
          go_wp2_with fail
          go_quiet (fail)
          generalize hbb : s[pos].toNat = b at *
          clear hbb
          have hT0 : ¬ (b : Int) < 128 := by omega
          have hT1 : (192 : Int) ≤ (b : Int) := by omega
          have hT2 : ¬ (b : Int) < 224 := by omega
          have hT3 : (224 : Int) ≤ (b : Int) := by omega
          have hT4 : (b : Int) < 240 := by omega
          go_wp2_with fail
          rw [HS.out]
          have hbel2 := below_drewN hbel nq
          have hown2 : (wr.drewN nq).ownsRow w.heap.size 3 1 u4 rs.length (natRow rs) := hown
          clear hbel hown
          generalize wr.drewN nq = w1 at *
          go_loopw [8, 9] (fun c k w2 => ∃ j : Nat, k = .int .i64 j ∧ 1 ≤ j ∧ j ≤ 3 ∧ conts s pos j ∧ c = .int .i64 (part s pos c0 j : Nat) ∧ w2 = w1) (fun _ k _ => (4 - intOf k).toNat)
          case atStart => exact ⟨1, rfl, by omega, by omega, fun i h1 h2 => by omega, rfl, rfl⟩
          case round =>
            obtain ⟨j, rfl, hj1, hj2, hcs, rfl, rfl⟩ := hrel
            have hpb := HP.out j (by omega) hcs
            by_cases hjn : j < 3
            · have hidx : pos + j < s.size := by omega
              have EB := Lib.hid (byteAt_eq s (pos + j) hidx)
              have PS := Lib.hid (part_succ (s := s) (p := pos) (c0 := c0) hj1)
              have hd256 : s[pos + j].toNat < 256 := s[pos + j].toNat_lt
              by_cases h1 : ((s[pos + j].toNat : Nat) : Int) < 128
              · have HN := Lib.hid (HNO.out (fun hc => by have := hc.1 j hj1 hjn; rw [EB.out] at this; omega))
                first
                  | (exfalso; omega)
                  | (go_wp2_with fail
                     go_ret2
                     rw [HN.out]
                     exact ⟨_, rfl, hbel2, fun _ h => (by cases h), fun _ => rfl⟩)
              · by_cases h2 : 191 < ((s[pos + j].toNat : Nat) : Int)
                · have HN := Lib.hid (HNO.out (fun hc => by have := hc.1 j hj1 hjn; rw [EB.out] at this; omega))
                  first
                    | (exfalso; omega)
                    | (go_wp2_with fail
                       go_ret2
                       rw [HN.out]
                       exact ⟨_, rfl, hbel2, fun _ h => (by cases h), fun _ => rfl⟩)
                · have HC := Lib.hid (conts_succ hcs (by rw [EB.out]; omega))
                  go_wp2_with fail
                  go_roundw
                  case rel => exact ⟨j + 1, by go_num, by omega, by omega, HC.out, by rw [PS.out, EB.out]; go_num, by first | rfl | trivial⟩
                  case measure => simp [intOf]; omega
            · obtain rfl : j = 3 := by omega
              generalize hcc : part s pos c0 3 = c at *
              have HCC := Lib.hid hcc
              clear hcc
              by_cases h1 : (c : Int) < 2048
              · have HN := Lib.hid (HNO.out (fun hc => by omega))
                first
                  | (exfalso; omega)
                  | (go_wp2_with fail
                     go_ret2
                     rw [HN.out]
                     exact ⟨_, rfl, hbel2, fun _ h => (by cases h), fun _ => rfl⟩)
              · by_cases h2 : (1114111 : Int) < (c : Int)
                · have HN := Lib.hid (HNO.out (fun hc => by have := hc.2.2; rw [okR_def] at this; omega))
                  first
                    | (exfalso; omega)
                    | (go_wp2_with fail
                       go_ret2
                       rw [HN.out]
                       exact ⟨_, rfl, hbel2, fun _ h => (by cases h), fun _ => rfl⟩)
                · by_cases h3 : (55296 : Int) ≤ (c : Int) ∧ (c : Int) ≤ 57343
                  · have HN := Lib.hid (HNO.out (fun hc => by have := hc.2.2; rw [okR_def] at this; omega))
                    obtain ⟨h3, h4⟩ := h3
                    first
                      | (exfalso; omega)
                      | (go_wp2_with fail
                         go_ret2
                         rw [HN.out]
                         exact ⟨_, rfl, hbel2, fun _ h => (by cases h), fun _ => rfl⟩)
                  · have HOK2 := Lib.hid (HOK.out ⟨hcs, by omega, by rw [okR_def]; omega⟩)
                    have HBS := Lib.hid hbel2.size
                    have h3' : (¬ (55296 : Int) ≤ (c : Int)) ∨ ((55296 : Int) ≤ (c : Int) ∧ ¬ (c : Int) ≤ 57343) := by omega
                    clear h3
                    rcases h3' with h3 | ⟨h3, h4⟩
                    all_goals (try (exfalso; omega))
                    all_goals
                      go_wp2_with (at_builtin; refine wpList_append_own _ rfl _ _ 24 rfl w.heap.size 3 i0 (.int .i64 0) 1 8 Try.underlying24 hi hz0 hz1 hz2 rfl (by decide) _ _ _ rfl (hown2.alloc _) ⟨wr.heap.size, 0, none⟩ 1 1 [.int .i64 (c : Int)] rfl rfl (one_cell _ _ _) (by intro u hu; simp at hu; subst hu; rfl) (by unfold maxLen; omega) (by omega) (by have := HBS.out; simp; omega) ?_; intro v' w2 hown' hgrow _; have hown3 := app_nat hown'; have hbel3 : Below w.heap.size w w2 := (hbel2.alloc HBS.out _).grown hgrow (by have := HBS.out; simp; omega) (fun k hk => (hown2.lt k hk).1); clear hown' hgrow hown2 hbel2)
                      go_roundw
                      case rel => exact ⟨rs ++ [c], by rw [HOK2.out.2.1]; go_num, HOK2.out.1, HOK2.out.2.2, by assumption, by assumption⟩
                      case measure => simp [intOf]; omega
        · have HN := Lib.hid (hstuck (hstuck3 (by omega) hshort))
          have hq : (s.size : Int) - (pos : Int) < 3 := by omega
          clear hstuck hstep hstuck2 hstuck3 hstuck4 hstuck0 e0
          go_wp2_with fail
          go_quiet (fail)
          go_wp2_with fail
          go_ret2
          rw [HN.out]
          exact ⟨_, rfl, below_drewN hbel _, fun _ h => (by cases h), fun _ => rfl⟩
      · have hshort : pos + 4 ≤ s.size ∨ ¬ pos + 3 < s.size := by omega
        rcases hshort with hshort | hshort
        · obtain ⟨c0, hc0⟩ : ∃ c0, c0 + 240 = s[pos].toNat := ⟨s[pos].toNat - 240, by omega⟩
          have hkind := dec1_kind (s := s) (p := pos) (n := 4) (least := 65536) (c0 := c0) hshort (by omega)
          have HP := Lib.hid (part_bound (s := s) (p := pos) (c0 := c0) (by omega))
          have HOK := Lib.hid (fun h => hstep _ _ (hkind.1 h))
          have HNO := Lib.hid (fun h => hstuck (hkind.2 h))
          have hq : decide ((s.size : Int) - (pos : Int) < 4) = false := by simp; omega
          have hsub : ((s[pos].toNat : Nat) : Int) - 240 = (c0 : Int) := by omega
          have HS := Lib.hid hsub
          have hc0b : c0 < 128 := by omega
          clear hstuck hstep hstuck2 hstuck3 hstuck4 hstuck0 e0 hc0 hkind hsub
          go_wp2_with fail
          go_quiet (fail)
          generalize hbb : s[pos].toNat = b at *
          clear hbb
          have hT0 : ¬ (b : Int) < 128 := by omega
          have hT1 : (192 : Int) ≤ (b : Int) := by omega
          have hT2 : ¬ (b : Int) < 224 := by omega
          have hT3 : (224 : Int) ≤ (b : Int) := by omega
          have hT4 : ¬ (b : Int) < 240 := by omega
          have hT5 : (240 : Int) ≤ (b : Int) := by omega
          have hT6 : (b : Int) < 248 := by omega
          go_wp2_with fail
          rw [HS.out]
          have hbel2 := below_drewN hbel nq
          have hown2 : (wr.drewN nq).ownsRow w.heap.size 3 1 u4 rs.length (natRow rs) := hown
          clear hbel hown
          generalize wr.drewN nq = w1 at *
          go_loopw [8, 9] (fun c k w2 => ∃ j : Nat, k = .int .i64 j ∧ 1 ≤ j ∧ j ≤ 4 ∧ conts s pos j ∧ c = .int .i64 (part s pos c0 j : Nat) ∧ w2 = w1) (fun _ k _ => (4 - intOf k).toNat)
          case atStart => exact ⟨1, rfl, by omega, by omega, fun i h1 h2 => by omega, rfl, rfl⟩
          case round =>
            obtain ⟨j, rfl, hj1, hj2, hcs, rfl, rfl⟩ := hrel
            have hpb := HP.out j (by omega) hcs
            by_cases hjn : j < 4
            · have hidx : pos + j < s.size := by omega
              have EB := Lib.hid (byteAt_eq s (pos + j) hidx)
              have PS := Lib.hid (part_succ (s := s) (p := pos) (c0 := c0) hj1)
              have hd256 : s[pos + j].toNat < 256 := s[pos + j].toNat_lt
              by_cases h1 : ((s[pos + j].toNat : Nat) : Int) < 128
              · have HN := Lib.hid (HNO.out (fun hc => by have := hc.1 j hj1 hjn; rw [EB.out] at this; omega))
                first
                  | (exfalso; omega)
                  | (go_wp2_with fail
                     go_ret2
                     rw [HN.out]
                     exact ⟨_, rfl, hbel2, fun _ h => (by cases h), fun _ => rfl⟩)
              · by_cases h2 : 191 < ((s[pos + j].toNat : Nat) : Int)
                · have HN := Lib.hid (HNO.out (fun hc => by have := hc.1 j hj1 hjn; rw [EB.out] at this; omega))
                  first
                    | (exfalso; omega)
                    | (go_wp2_with fail
                       go_ret2
                       rw [HN.out]
                       exact ⟨_, rfl, hbel2, fun _ h => (by cases h), fun _ => rfl⟩)
                · have HC := Lib.hid (conts_succ hcs (by rw [EB.out]; omega))
                  go_wp2_with fail
                  go_roundw
                  case rel => exact ⟨j + 1, by go_num, by omega, by omega, HC.out, by rw [PS.out, EB.out]; go_num, by first | rfl | trivial⟩
                  case measure => simp [intOf]; omega
            · obtain rfl : j = 4 := by omega
              generalize hcc : part s pos c0 4 = c at *
              have HCC := Lib.hid hcc
              clear hcc
              by_cases h1 : (c : Int) < 65536
              · have HN := Lib.hid (HNO.out (fun hc => by omega))
                first
                  | (exfalso; omega)
                  | (go_wp2_with fail
                     go_ret2
                     rw [HN.out]
                     exact ⟨_, rfl, hbel2, fun _ h => (by cases h), fun _ => rfl⟩)
              · by_cases h2 : (1114111 : Int) < (c : Int)
                · have HN := Lib.hid (HNO.out (fun hc => by have := hc.2.2; rw [okR_def] at this; omega))
                  first
                    | (exfalso; omega)
                    | (go_wp2_with fail
                       go_ret2
                       rw [HN.out]
                       exact ⟨_, rfl, hbel2, fun _ h => (by cases h), fun _ => rfl⟩)
                · by_cases h3 : (55296 : Int) ≤ (c : Int) ∧ (c : Int) ≤ 57343
                  · have HN := Lib.hid (HNO.out (fun hc => by have := hc.2.2; rw [okR_def] at this; omega))
                    obtain ⟨h3, h4⟩ := h3
                    first
                      | (exfalso; omega)
                      | (go_wp2_with fail
                         go_ret2
                         rw [HN.out]
                         exact ⟨_, rfl, hbel2, fun _ h => (by cases h), fun _ => rfl⟩)
                  · have HOK2 := Lib.hid (HOK.out ⟨hcs, by omega, by rw [okR_def]; omega⟩)
                    have HBS := Lib.hid hbel2.size
                    have h3' : (¬ (55296 : Int) ≤ (c : Int)) ∨ ((55296 : Int) ≤ (c : Int) ∧ ¬ (c : Int) ≤ 57343) := by omega
                    clear h3
                    rcases h3' with h3 | ⟨h3, h4⟩
                    all_goals (try (exfalso; omega))
                    all_goals
                      go_wp2_with (at_builtin; refine wpList_append_own _ rfl _ _ 24 rfl w.heap.size 3 i0 (.int .i64 0) 1 8 Try.underlying24 hi hz0 hz1 hz2 rfl (by decide) _ _ _ rfl (hown2.alloc _) ⟨wr.heap.size, 0, none⟩ 1 1 [.int .i64 (c : Int)] rfl rfl (one_cell _ _ _) (by intro u hu; simp at hu; subst hu; rfl) (by unfold maxLen; omega) (by omega) (by have := HBS.out; simp; omega) ?_; intro v' w2 hown' hgrow _; have hown3 := app_nat hown'; have hbel3 : Below w.heap.size w w2 := (hbel2.alloc HBS.out _).grown hgrow (by have := HBS.out; simp; omega) (fun k hk => (hown2.lt k hk).1); clear hown' hgrow hown2 hbel2)
                      go_roundw
                      case rel => exact ⟨rs ++ [c], by rw [HOK2.out.2.1]; go_num, HOK2.out.1, HOK2.out.2.2, by assumption, by assumption⟩
                      case measure => simp [intOf]; omega
        · have HN := Lib.hid (hstuck (hstuck4 (by omega) hshort))
          have hq : (s.size : Int) - (pos : Int) < 4 := by omega
          clear hstuck hstep hstuck2 hstuck3 hstuck4 hstuck0 e0
          go_wp2_with fail
          go_quiet (fail)
          go_wp2_with fail
          go_ret2
          rw [HN.out]
          exact ⟨_, rfl, below_drewN hbel _, fun _ h => (by cases h), fun _ => rfl⟩
    · have HN := Lib.hid (hdone hp)
      clear hstuck hstep hdone
      go_wp2_with fail
      go_ret2
      rw [HN.out]
      exact ⟨_, rfl, hbel, fun _ h => (by cases h; exact hown), fun h => (by cases h)⟩
end Go.Proofs.Ythfjpikloanekaa
