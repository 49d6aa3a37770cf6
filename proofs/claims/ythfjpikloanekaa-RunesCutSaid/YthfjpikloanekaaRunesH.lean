/-
  runes.After: a range over slices.Backward.
-/
import Derived.Test.YthfjpikloanekaaRunesG
namespace Go.Proofs.Ythfjpikloanekaa
open Go.RowKit Utf Go.Shelf
set_option maxRecDepth 100000
set_option linter.unusedSimpArgs false
set_option linter.unusedVariables false
attribute [local go_sem] Oper.semAt_some

/-- What a round of the range is handed: an index, and the rune that stands there. -/
abbrev AtRune (rs : List Nat) := { x : Nat × Nat // (rs ≠ [] → x.1 < rs.length) ∧ okR x.2 = true }

/-- What has come when k rounds are over, from the end. -/
def fromEnd {rs : List Nat} (f : Nat → AtRune rs) (k : Nat) : List (AtRune rs) := (List.range k).map f
theorem fromEnd_succ {rs : List Nat} (f : Nat → AtRune rs) (k : Nat) : fromEnd f (k + 1) = fromEnd f k ++ [f k] := by simp [fromEnd, List.range_succ]
theorem fromEnd_length {rs : List Nat} (f : Nat → AtRune rs) (k : Nat) : (fromEnd f k).length = k := by simp [fromEnd]

def encAt {rs : List Nat} (x : AtRune rs) : Array Value := #[Value.int .i64 (x.1.1 : Int), Value.int .i32 (x.1.2 : Int)]

set_option maxHeartbeats 2000000 in
theorem backward1_in (F : Fence) (n : Nat) (hF : F.fn 29) (hro : F.round = none) (hn : 1 ≤ n) (l Bs n₀ : Nat) (rs : List Nat) (ao : Option Addr) (cap : Nat) (hl : rs.length ≤ 1000000) (hBs : Bs < n₀) (f : Nat → AtRune rs)
    (hf : ∀ k, k < rs.length → (f k).1 = (rs.length - 1 - k, rs[rs.length - 1 - k]?.getD 0)) (J Jx : List (AtRune rs) → World → Prop)
    (hY : ∀ pre x W, J pre W → pre.length < rs.length → YieldAt F (n - 1) Try.prog l (encAt x) W fun e W' =>
      (e = .returned (.bool true) ∧ J (pre ++ [x]) W' ∧ Below n₀ W W') ∨ (e = .returned (.bool false) ∧ Jx (pre ++ [x]) W'))
    (W : World) (hc : W.cell? ⟨Bs, 0, none⟩ = some (.slice ao rs.length cap)) (hr : RowAt W ao (runeRow rs)) (hrb : ∀ ad, ao = some ad → ad.block < n₀) (h0 : J [] W) :
    CallsIn F n Try.prog 29 #[.func (.yield l) #[] #[], .pointer (some ⟨Bs, 0, none⟩)] W fun e W' => (∃ v, e = .returned v) ∧
      ((∃ ys, ys = fromEnd f rs.length ∧ J ys W') ∨ (∃ pre, (∃ k, k ≤ rs.length ∧ pre = fromEnd f k) ∧ Jx pre W')) := by
  have HR := Lib.hid hr
  have HRB := Lib.hid hrb
  have HC := Lib.hid hc
  have HF := Lib.hid hf
  have HY := Lib.hid hY
  clear hr hrb hf hY
  refine callsIn_of_wp Try.func29 rfl hF ?_ hro
  simp only [Try.ntmps29, List.size_toArray, List.length_cons, List.length_nil, Nat.reduceAdd, Nat.reduceSub, Array.replicate_succ, Array.replicate_zero, List.push_toArray, List.append_toArray, List.nil_append, List.cons_append]
  gi_wp2
  clear hc
  gi_loopw [3] (fun i wr => ∃ k : Nat, k ≤ rs.length ∧ i = .int .i64 ((rs.length : Int) - 1 - k) ∧ J (fromEnd f k) wr ∧ Below n₀ W wr)
    (fun i _ => (intOf i + 1).toNat)
  case atStart => exact ⟨0, Nat.zero_le _, by go_num, h0, Below.refl _ _⟩
  case round =>
    obtain ⟨k, hk, rfl, hJs, hnx⟩ := hrel
    have HNX := Lib.hid hnx
    clear hnx
    by_cases hlt : k < rs.length
    · have hmlt : rs.length - 1 - k < rs.length := by omega
      have hcx := (HNX.out.cell (p := ⟨Bs, 0, none⟩) hBs).trans HC.out
      obtain ⟨b, of, rfl, hce⟩ := HR.out (rs.length - 1 - k) (by rw [runeRow_len]; exact hmlt)
      rw [runeRow_at] at hce
      have hce2 := (HNX.out.cell (p := ⟨b, of + (rs.length - 1 - k), none⟩) (show b < n₀ from HRB.out ⟨b, of, none⟩ rfl)).trans hce
      clear hce
      have hfk := HF.out k hlt
      rw [List.getElem?_eq_getElem hmlt] at hfk
      obtain ⟨fn, tmps, assign, body, hy, hR⟩ := HY.out _ (f k) wr hJs (by rw [fromEnd_length]; exact hlt)
      simp only [encAt, hfk, Option.getD_some] at hy
      have HFK := Lib.hid hfk
      clear hfk
      generalize rs[rs.length - 1 - k] = c at *
      have hcast : (rs.length : Int) - 1 - (k : Int) = ((rs.length - 1 - k : Nat) : Int) := by omega
      rw [hcast]
      have HCA := Lib.hid hcast
      clear hcast
      generalize hm : rs.length - 1 - k = m at *
      have HM := Lib.hid hm
      clear hm
      have hmi : (m : Int) < (rs.length : Int) := by omega
      gi_wp2
      refine hR.mono ?_
      rintro e W3 (⟨rfl, hJ3, hk3⟩ | ⟨rfl, hJx3⟩)
      · gi_wp2
        go_roundw
        case rel => exact ⟨k + 1, by omega, by have := HCA.out; go_num, by rw [fromEnd_succ]; exact hJ3, HNX.out.trans hk3⟩
        case measure => have := HCA.out; simp [intOf] <;> omega
      · gi_wp2
        refine bodyPost_ret (results_none rfl _ _ _) rfl ?_
        exact ⟨⟨_, rfl⟩, .inr ⟨_, ⟨k + 1, by omega, (fromEnd_succ _ _).symm⟩, hJx3⟩⟩
    · obtain rfl : k = rs.length := by omega
      have hneg : ¬ (0 : Int) ≤ (rs.length : Int) - 1 - (rs.length : Int) := by omega
      gi_wp2
      go_end0
      exact ⟨⟨_, rfl⟩, .inl (by first | exact hJs | exact ⟨_, rfl, hJs⟩)⟩

set_option maxHeartbeats 1000000 in
theorem backward_in (F : Fence) (n : Nat) (hF : F.fn 23) (hro : F.round = none) (a : Option Addr) (len cap : Nat) (w : World) :
    CallsIn F n Try.prog 23 #[.slice a len cap] w fun e w' => e = .returned (.func (.func 29) #[] #[.pointer (some ⟨w.heap.size, 0, none⟩)]) ∧ w' = w.alloc (.cells #[.slice a len cap] 40) := by
  refine callsIn_of_wp Try.func23 rfl hF ?_ hro
  simp only [Try.ntmps23, List.size_toArray, List.length_cons, List.length_nil, Nat.reduceAdd, Nat.reduceSub, Array.replicate_succ, Array.replicate_zero, List.push_toArray, List.append_toArray, List.nil_append, List.cons_append]
  gi_wp2
  go_ret
  exact ⟨rfl, rfl⟩

theorem backward_stops (F : Fence) (n : Nat) (hF : F.fn 29) (hro : F.round = none) (hn : 1 ≤ n) (Bs n₀ : Nat) (rs : List Nat) (ao : Option Addr) (cap : Nat) (hl : rs.length ≤ 1000000) (w : World) (hBs : Bs < n₀) (hn₀ : n₀ ≤ w.heap.size) (f : Nat → AtRune rs)
    (hf : ∀ k, k < rs.length → (f k).1 = (rs.length - 1 - k, rs[rs.length - 1 - k]?.getD 0))
    (hc : w.cell? ⟨Bs, 0, none⟩ = some (.slice ao rs.length cap)) (hr : RowAt w ao (runeRow rs)) (hrb : ∀ ad, ao = some ad → ad.block < n₀) :
    SeqStopsK F n Try.prog 29 #[.pointer (some ⟨Bs, 0, none⟩)] (encAt (rs := rs)) (Below n₀) (fun ys => ys = fromEnd f rs.length) (fun pre => ∃ k, k ≤ rs.length ∧ pre = fromEnd f k) rs.length w := fun l J Jx W hW _ _ hY h0 => by
  have hc' := (hW.cell (p := ⟨Bs, 0, none⟩) (by show Bs < w.heap.size; omega)).trans hc
  exact backward1_in F n hF hro hn l Bs n₀ rs ao cap hl hBs f hf J Jx hY W hc' (hr.below hW) hrb h0
end Go.Proofs.Ythfjpikloanekaa
