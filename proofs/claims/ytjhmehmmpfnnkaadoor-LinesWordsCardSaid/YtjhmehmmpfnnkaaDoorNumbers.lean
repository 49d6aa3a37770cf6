/-
  Plain: a word's number and a number's word, as lists of runes' numbers. No program in sight.
-/
import Derived.Test.YtjhmehmmpfnnkaaDoorUtf
namespace Go.Proofs.YtjhmehmmpfnnkaaDoor
set_option linter.unusedSimpArgs false
set_option linter.unusedVariables false

def isDig (c : Nat) : Bool := decide (48 ≤ c) && decide (c ≤ 57)
def valOf (ds : List Nat) : Nat := ds.foldl (fun n c => 10 * n + (c - 48)) 0
def numN (minus : Bool) (r : List Nat) : Option Int :=
  if r = [] ∨ 9 < r.length ∨ r.any (fun c => !isDig c) = true ∨ (r.head? = some 48 ∧ (1 < r.length ∨ minus = true)) then none
  else some (if minus then -(valOf r : Int) else valOf r)
def numL (rs : List Nat) : Option Int := if rs.head? = some 45 then numN true rs.tail else numN false rs

def digs (n : Nat) : List Nat := if h : n < 10 then [48 + n] else digs (n / 10) ++ [48 + n % 10]
termination_by n
decreasing_by omega
def decL (n : Int) : Option (List Nat) := if 999999999 < n.natAbs then none else some ((if n < 0 then [45] else []) ++ digs n.natAbs)

theorem valOf_concat (l : List Nat) (c : Nat) : valOf (l ++ [c]) = 10 * valOf l + (c - 48) := by
  unfold valOf
  rw [List.foldl_append]
  rfl

theorem digs_ne (n : Nat) : digs n ≠ [] := by
  unfold digs; split <;> simp
theorem digs_val (n : Nat) : valOf (digs n) = n := by
  induction n using Nat.strongRecOn with
  | _ n ih =>
    unfold digs
    split
    · simp [valOf]
    · rw [valOf_concat, ih (n / 10) (by omega)]
      omega
theorem digs_all (n : Nat) : ∀ c ∈ digs n, 48 ≤ c ∧ c ≤ 57 := by
  induction n using Nat.strongRecOn with
  | _ n ih =>
    unfold digs
    split
    · intro c hc
      simp only [List.mem_singleton] at hc
      omega
    · intro c hc
      rw [List.mem_append] at hc
      rcases hc with hc | hc
      · exact ih (n / 10) (by omega) c hc
      · simp only [List.mem_singleton] at hc
        omega
theorem digs_len (n : Nat) : ∀ k, n < 10 ^ (k + 1) → (digs n).length ≤ k + 1 := by
  induction n using Nat.strongRecOn with
  | _ n ih =>
    intro k hk
    unfold digs
    split
    · simp
    · rename_i h10
      rw [List.length_append]
      cases k with
      | zero => simp at hk; omega
      | succ k =>
        have := ih (n / 10) (by omega) k (by rw [Nat.pow_succ] at hk; omega)
        simp only [List.length_singleton]
        omega
theorem digs_head (n : Nat) (hn : 0 < n) : (digs n).head? ≠ some 48 := by
  induction n using Nat.strongRecOn with
  | _ n ih =>
    unfold digs
    split
    · simp; omega
    · rename_i h10
      have := ih (n / 10) (by omega) (by omega)
      have hne := digs_ne (n / 10)
      cases hd : digs (n / 10) with
      | nil => exact absurd hd hne
      | cons a l =>
        rw [hd] at this
        simpa using this
end Go.Proofs.YtjhmehmmpfnnkaaDoor
