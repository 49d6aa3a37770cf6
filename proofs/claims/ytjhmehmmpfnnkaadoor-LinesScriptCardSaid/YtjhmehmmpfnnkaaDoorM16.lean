/-
  Plain: the reference's table of verbs; the contracts of its Rows, number, text.
  tidewaternum.Num: the number of an error.
  Words, Quote and Unquote of any text: the program's contracts and the reference's by the same answers.
  tidewaterref31.Parse: what it answers; the ways without words.
  How the reference's reading of a line stands.
-/
import Derived.Test.YtjhmehmmpfnnkaaDoorM06
import Derived.Test.YtjhmehmmpfnnkaaDoorM08
import Derived.Test.YtjhmehmmpfnnkaaDoorM03
import Derived.Test.YtjhmehmmpfnnkaaDoorM13
import Derived.Test.YtjhmehmmpfnnkaaDoorM09
import Derived.Test.YtjhmehmmpfnnkaaDoorM10
import Derived.Test.YtjhmehmmpfnnkaaDoorM15
namespace Go.Proofs.YtjhmehmmpfnnkaaDoor
open Go.RowKit Utf
set_option maxRecDepth 100000
set_option linter.unusedSimpArgs false
set_option linter.unusedVariables false

def refVerbs : List Verb := [
  ⟨[98, 101, 103, 105, 110], 1, 0, [.who], 111⟩,
  ⟨[115, 116, 101, 112], 2, 0, [.who, .n], 0⟩,
  ⟨[109, 111, 118, 101], 3, 2, [.shard, .server], 0⟩,
  ⟨[115, 112, 108, 105, 116], 3, 3, [.shard, .other, .server, .ekey], 0⟩,
  ⟨[109, 101, 114, 103, 101], 3, 4, [.shard, .other], 0⟩,
  ⟨[103, 101, 116], 4, 0, [.n, .key], 0⟩,
  ⟨[115, 99, 97, 110], 5, 0, [.n, .who, .lo, .hi], 0⟩,
  ⟨[99, 114, 97, 115, 104], 6, 0, [.n], 0⟩,
  ⟨[115, 116, 111, 112], 7, 0, [.n, .who], 0⟩,
  ⟨[117, 112], 8, 0, [.n], 0⟩,
  ⟨[108, 111, 115, 101], 9, 0, [], 0⟩,
  ⟨[114, 101, 99, 111, 110], 10, 0, [.who, .fresh], 103⟩,
  ⟨[99, 104, 97, 110, 103, 101], 11, 0, [], 0⟩,
  ⟨[99, 104, 101, 99, 107], 12, 0, [.n, .who], 0⟩,
  ⟨[116, 114, 105, 109], 13, 0, [], 0⟩,
  ⟨[118, 111, 116, 101, 114], 14, 0, [.n, .who], 0⟩,
  ⟨[114, 101, 115, 116, 97, 114, 116], 15, 0, [.n], 0⟩]
/-- The reference's letter of a field. -/
def letR : Fld → Nat
  | .who => 49 | .n => 50 | .fresh => 51 | .shard => 52 | .other => 53 | .server => 54 | .key => 97 | .lo => 98 | .hi => 99 | .ekey => 100
def restR (k : Nat) : List Nat := if k = 111 then [43] else if k = 103 then [42] else []
/-- A verb's fields, as the reference spells them. -/
def fldsR (v : Verb) : List Nat := v.flds.map letR ++ restR v.rest
def rowOf (v : Verb) : List Value := [.string (mkS v.name), .int .i64 (v.kind : Int), .int .i64 (v.ekind : Int), .string (mkS ((fldsR v).map UInt8.ofNat))]
def rowCells : Array Value := (refVerbs.flatMap rowOf).toArray

theorem flat4 {α β : Type} (f : α → List β) (hf : ∀ x, (f x).length = 4) : ∀ (l : List α) (k : Nat) (hk : k < l.length) (j : Nat), j < 4 → (l.flatMap f)[4 * k + j]? = (f l[k])[j]?
  | [], k, hk, _, _ => by simp at hk
  | x :: l, 0, _, j, hj => by
    rw [List.flatMap_cons, Nat.mul_zero, Nat.zero_add, List.getElem?_append_left (by rw [hf]; exact hj)]
    rfl
  | x :: l, k + 1, hk, j, hj => by
    rw [List.flatMap_cons, List.getElem?_append_right (by rw [hf]; omega), hf]
    have e : 4 * (k + 1) + j - 4 = 4 * k + j := by omega
    rw [e, flat4 f hf l k (by simpa using hk) j hj]
    rfl
theorem row_at (k : Nat) (hk : k < refVerbs.length) (j : Nat) (hj : j < 4) : rowCells[4 * k + j]? = (rowOf refVerbs[k])[j]? := by
  unfold rowCells
  rw [List.getElem?_toArray]
  exact flat4 rowOf (fun _ => rfl) refVerbs k hk j hj

/-! ### One verb by its name, in both tables -/
def refIdx (x : List UInt8) : Nat := refVerbs.findIdx fun v => v.name == x
theorem refIdx_step {x : List UInt8} {k : Nat} (hk : k < refVerbs.length) (h : k ≤ refIdx x) (hne : (refVerbs[k].name == x) = false) : k + 1 ≤ refIdx x := by
  rcases Nat.lt_or_ge k (refIdx x) with h1 | h1
  · exact h1
  · exfalso
    have e : refVerbs.findIdx (fun v => v.name == x) = k := Nat.le_antisymm h1 h
    have := List.findIdx_getElem (p := fun v : Verb => v.name == x) (xs := refVerbs) (w := by rw [e]; exact hk)
    have h2 : refVerbs[refVerbs.findIdx (fun v : Verb => v.name == x)]'(by rw [e]; exact hk) = refVerbs[k] := getElem_congr_idx e
    rw [h2] at this
    rw [hne] at this
    cases this
theorem refIdx_hit {x : List UInt8} {k : Nat} (hk : k < refVerbs.length) (h : k ≤ refIdx x) (he : (refVerbs[k].name == x) = true) : refIdx x = k := by
  refine Nat.le_antisymm (Nat.le_of_not_lt fun h1 => ?_) h
  have := List.not_of_lt_findIdx (p := fun v : Verb => v.name == x) (xs := refVerbs) (i := k) h1
  rw [he] at this
  cases this
theorem refVerb_mem : ∀ v ∈ refVerbs, verbs[verbIdx v.name]? = some v := by
  intro v hv
  simp only [refVerbs, List.mem_cons, List.not_mem_nil, or_false] at hv
  rcases hv with rfl | rfl | rfl | rfl | rfl | rfl | rfl | rfl | rfl | rfl | rfl | rfl | rfl | rfl | rfl | rfl | rfl <;> rfl
theorem verb_ref : ∀ v ∈ verbs, refIdx v.name < 17 := by decide
/-- The verb that is found, by either table. -/
theorem refIdx_verb {x : List UInt8} (h : refIdx x < 17) : verbs[verbIdx x]? = some (refVerbs[refIdx x]'h) := by
  have h1 : (refVerbs[refIdx x]'h).name = x := by
    have := List.findIdx_getElem (p := fun v : Verb => v.name == x) (xs := refVerbs) (w := h)
    exact eq_of_beq this
  have := refVerb_mem _ (List.getElem_mem (l := refVerbs) h)
  rw [h1] at this
  exact this
theorem refIdx_none {x : List UInt8} (h : ¬ refIdx x < 17) : verbs[verbIdx x]? = none := by
  rcases Nat.lt_or_ge (verbIdx x) 17 with h1 | h1
  · exfalso
    have h2 : (verbs[verbIdx x]'h1).name = x := by
      have := List.findIdx_getElem (p := fun v : Verb => v.name == x) (xs := verbs) (w := h1)
      exact eq_of_beq this
    have := verb_ref _ (List.getElem_mem (l := verbs) h1)
    rw [h2] at this
    exact h this
  · exact List.getElem?_eq_none h1
theorem refVerbs_nodup : ∀ v ∈ refVerbs, v.flds.Nodup := by decide
theorem refVerbs_rest : ∀ v ∈ refVerbs, v.rest = 111 ∨ v.rest = 103 ∨ v.rest = 0 := by decide

set_option maxHeartbeats 1000000 in
theorem rows_any (w : World) :
    Calls Tryd.prog 40 #[] w fun e w' => e = .returned (.slice (some ⟨w.heap.size, 0, none⟩) 17 17) ∧ w' = w.alloc (.cells rowCells 91) := by
  have HS := Lib.hid (show rowCells = #[Value.string ⟨#[98, 101, 103, 105, 110]⟩, Value.int .i64 1, Value.int .i64 0, Value.string ⟨#[49, 43]⟩, Value.string ⟨#[115, 116, 101, 112]⟩, Value.int .i64 2, Value.int .i64 0, Value.string ⟨#[49, 50]⟩, Value.string ⟨#[109, 111, 118, 101]⟩, Value.int .i64 3, Value.int .i64 2, Value.string ⟨#[52, 54]⟩, Value.string ⟨#[115, 112, 108, 105, 116]⟩, Value.int .i64 3, Value.int .i64 3, Value.string ⟨#[52, 53, 54, 100]⟩, Value.string ⟨#[109, 101, 114, 103, 101]⟩, Value.int .i64 3, Value.int .i64 4, Value.string ⟨#[52, 53]⟩, Value.string ⟨#[103, 101, 116]⟩, Value.int .i64 4, Value.int .i64 0, Value.string ⟨#[50, 97]⟩, Value.string ⟨#[115, 99, 97, 110]⟩, Value.int .i64 5, Value.int .i64 0, Value.string ⟨#[50, 49, 98, 99]⟩, Value.string ⟨#[99, 114, 97, 115, 104]⟩, Value.int .i64 6, Value.int .i64 0, Value.string ⟨#[50]⟩, Value.string ⟨#[115, 116, 111, 112]⟩, Value.int .i64 7, Value.int .i64 0, Value.string ⟨#[50, 49]⟩, Value.string ⟨#[117, 112]⟩, Value.int .i64 8, Value.int .i64 0, Value.string ⟨#[50]⟩, Value.string ⟨#[108, 111, 115, 101]⟩, Value.int .i64 9, Value.int .i64 0, Value.string ⟨#[]⟩, Value.string ⟨#[114, 101, 99, 111, 110]⟩, Value.int .i64 10, Value.int .i64 0, Value.string ⟨#[49, 51, 42]⟩, Value.string ⟨#[99, 104, 97, 110, 103, 101]⟩, Value.int .i64 11, Value.int .i64 0, Value.string ⟨#[]⟩, Value.string ⟨#[99, 104, 101, 99, 107]⟩, Value.int .i64 12, Value.int .i64 0, Value.string ⟨#[50, 49]⟩, Value.string ⟨#[116, 114, 105, 109]⟩, Value.int .i64 13, Value.int .i64 0, Value.string ⟨#[]⟩, Value.string ⟨#[118, 111, 116, 101, 114]⟩, Value.int .i64 14, Value.int .i64 0, Value.string ⟨#[50, 49]⟩, Value.string ⟨#[114, 101, 115, 116, 97, 114, 116]⟩, Value.int .i64 15, Value.int .i64 0, Value.string ⟨#[50]⟩] from by kernel_rfl)
  go_enter Tryd.func40, Tryd.ntmps40
  go_wp2_with fail
  go_ret
  rw [HS.out]
  exact ⟨rfl, rfl⟩

theorem rnumber_who (b : Nat) (w : World) :
    Calls Tryd.prog 41 #[.pointer (some ⟨b, 0, none⟩), .int .u8 49] w fun e w' => e = .returned (.pointer (some ⟨b, 1, none⟩)) ∧ w = w' := by
  go_enter Tryd.func41, Tryd.ntmps41
  go_wp2_with fail
  go_ret
  exact ⟨rfl, rfl⟩

theorem rnumber_n (b : Nat) (w : World) :
    Calls Tryd.prog 41 #[.pointer (some ⟨b, 0, none⟩), .int .u8 50] w fun e w' => e = .returned (.pointer (some ⟨b, 2, none⟩)) ∧ w = w' := by
  go_enter Tryd.func41, Tryd.ntmps41
  go_wp2_with fail
  go_ret
  exact ⟨rfl, rfl⟩

theorem rnumber_fresh (b : Nat) (w : World) :
    Calls Tryd.prog 41 #[.pointer (some ⟨b, 0, none⟩), .int .u8 51] w fun e w' => e = .returned (.pointer (some ⟨b, 3, none⟩)) ∧ w = w' := by
  go_enter Tryd.func41, Tryd.ntmps41
  go_wp2_with fail
  go_ret
  exact ⟨rfl, rfl⟩

theorem rnumber_shard (b : Nat) (w : World) :
    Calls Tryd.prog 41 #[.pointer (some ⟨b, 0, none⟩), .int .u8 52] w fun e w' => e = .returned (.pointer (some ⟨b, 6, none⟩)) ∧ w = w' := by
  go_enter Tryd.func41, Tryd.ntmps41
  go_wp2_with fail
  go_ret
  exact ⟨rfl, rfl⟩

theorem rnumber_other (b : Nat) (w : World) :
    Calls Tryd.prog 41 #[.pointer (some ⟨b, 0, none⟩), .int .u8 53] w fun e w' => e = .returned (.pointer (some ⟨b, 7, none⟩)) ∧ w = w' := by
  go_enter Tryd.func41, Tryd.ntmps41
  go_wp2_with fail
  go_ret
  exact ⟨rfl, rfl⟩

theorem rnumber_server (b : Nat) (w : World) :
    Calls Tryd.prog 41 #[.pointer (some ⟨b, 0, none⟩), .int .u8 54] w fun e w' => e = .returned (.pointer (some ⟨b, 8, none⟩)) ∧ w = w' := by
  go_enter Tryd.func41, Tryd.ntmps41
  go_wp2_with fail
  go_ret
  exact ⟨rfl, rfl⟩

theorem rnumber_key (b : Nat) (w : World) :
    Calls Tryd.prog 41 #[.pointer (some ⟨b, 0, none⟩), .int .u8 97] w fun e w' => e = .returned (.pointer none) ∧ w = w' := by
  go_enter Tryd.func41, Tryd.ntmps41
  go_wp2_with fail
  go_ret
  exact ⟨rfl, rfl⟩
theorem rtext_key (b : Nat) (w : World) :
    Calls Tryd.prog 44 #[.pointer (some ⟨b, 0, none⟩), .int .u8 97] w fun e w' => e = .returned (.pointer (some ⟨b, 17, none⟩)) ∧ w = w' := by
  go_enter Tryd.func44, Tryd.ntmps44
  go_wp2_with fail
  go_ret
  exact ⟨rfl, rfl⟩

theorem rnumber_lo (b : Nat) (w : World) :
    Calls Tryd.prog 41 #[.pointer (some ⟨b, 0, none⟩), .int .u8 98] w fun e w' => e = .returned (.pointer none) ∧ w = w' := by
  go_enter Tryd.func41, Tryd.ntmps41
  go_wp2_with fail
  go_ret
  exact ⟨rfl, rfl⟩
theorem rtext_lo (b : Nat) (w : World) :
    Calls Tryd.prog 44 #[.pointer (some ⟨b, 0, none⟩), .int .u8 98] w fun e w' => e = .returned (.pointer (some ⟨b, 18, none⟩)) ∧ w = w' := by
  go_enter Tryd.func44, Tryd.ntmps44
  go_wp2_with fail
  go_ret
  exact ⟨rfl, rfl⟩

theorem rnumber_hi (b : Nat) (w : World) :
    Calls Tryd.prog 41 #[.pointer (some ⟨b, 0, none⟩), .int .u8 99] w fun e w' => e = .returned (.pointer none) ∧ w = w' := by
  go_enter Tryd.func41, Tryd.ntmps41
  go_wp2_with fail
  go_ret
  exact ⟨rfl, rfl⟩
theorem rtext_hi (b : Nat) (w : World) :
    Calls Tryd.prog 44 #[.pointer (some ⟨b, 0, none⟩), .int .u8 99] w fun e w' => e = .returned (.pointer (some ⟨b, 19, none⟩)) ∧ w = w' := by
  go_enter Tryd.func44, Tryd.ntmps44
  go_wp2_with fail
  go_ret
  exact ⟨rfl, rfl⟩

theorem rnumber_ekey (b : Nat) (w : World) :
    Calls Tryd.prog 41 #[.pointer (some ⟨b, 0, none⟩), .int .u8 100] w fun e w' => e = .returned (.pointer none) ∧ w = w' := by
  go_enter Tryd.func41, Tryd.ntmps41
  go_wp2_with fail
  go_ret
  exact ⟨rfl, rfl⟩
theorem rtext_ekey (b : Nat) (w : World) :
    Calls Tryd.prog 44 #[.pointer (some ⟨b, 0, none⟩), .int .u8 100] w fun e w' => e = .returned (.pointer (some ⟨b, 12, none⟩)) ∧ w = w' := by
  go_enter Tryd.func44, Tryd.ntmps44
  go_wp2_with fail
  go_ret
  exact ⟨rfl, rfl⟩

def ptrR (b : Nat) (f : Fld) : Value := if isNum f = true then .pointer (some ⟨b, offF f, none⟩) else .pointer none
theorem rnumber_any (f : Fld) (b : Nat) (w : World) :
    Calls Tryd.prog 41 #[.pointer (some ⟨b, 0, none⟩), .int .u8 (letR f : Int)] w fun e w' => e = .returned (ptrR b f) ∧ w = w' := by
  cases f
  · exact rnumber_who b w
  · exact rnumber_n b w
  · exact rnumber_fresh b w
  · exact rnumber_shard b w
  · exact rnumber_other b w
  · exact rnumber_server b w
  · exact rnumber_key b w
  · exact rnumber_lo b w
  · exact rnumber_hi b w
  · exact rnumber_ekey b w
theorem rtext_any (f : Fld) (hf : isNum f = false) (b : Nat) (w : World) :
    Calls Tryd.prog 44 #[.pointer (some ⟨b, 0, none⟩), .int .u8 (letR f : Int)] w fun e w' => e = .returned (.pointer (some ⟨b, offF f, none⟩)) ∧ w = w' := by
  cases f
  · cases hf
  · cases hf
  · cases hf
  · cases hf
  · cases hf
  · cases hf
  · exact rtext_key b w
  · exact rtext_lo b w
  · exact rtext_hi b w
  · exact rtext_ekey b w
end Go.Proofs.YtjhmehmmpfnnkaaDoor

namespace Go.Proofs.YtjhmehmmpfnnkaaDoor
open Go.RowKit
set_option maxRecDepth 100000
set_option linter.unusedSimpArgs false
set_option linter.unusedVariables false

theorem is_err {W : World} {ea : Nat → Addr} (h : ErrsAt W ea) (i j : Nat) (hi : i < 19) (hj : j < 19) :
    Calls Tryd.prog 33 #[errV ea i, errV ea j] W fun e w' => e = .returned (.bool (decide (i = j))) ∧ w' = W := by
  by_cases hij : i = j
  · subst hij
    rw [decide_eq_true rfl]
    exact is_same _ _
  · rw [decide_eq_false hij]
    obtain ⟨ci, ti, hci⟩ := h.block i hi
    obtain ⟨cj, tj, hcj⟩ := h.block j hj
    exact is_other _ _ ci cj ti tj W (h.apart i j hi hj hij) hci hcj

set_option maxHeartbeats 1000000 in
theorem num_nil (w : World) :
    Calls Tryd.prog 14 #[.nilIface] w fun e w' => e = .returned (.int .i64 0) ∧ Below w.heap.size w w' := by
  go_enter Tryd.func14, Tryd.ntmps14
  go_wp2_with fail
  go_ret
  exact ⟨rfl, Below.refl _ _⟩

/-- The row of all errors. -/
def errRow (ea : Nat → Addr) : List Value := (List.range 19).map (errV ea)
theorem errRow_len (ea : Nat → Addr) : (errRow ea).length = 19 := by simp [errRow]

set_option maxHeartbeats 4000000 in
theorem num_err (ea : Nat → Addr) (n : Nat) (w : World) (hn : n < 19) (h : ErrsAt w ea) :
    Calls Tryd.prog 14 #[errV ea n] w fun e w' => e = .returned (.int .i64 ((n : Int) + 1)) ∧ Below w.heap.size w w' := by
  have c0 : w.cell? ⟨2, 0, none⟩ = some (errV ea 0) := h.cell 0 (by omega)
  have c1 : w.cell? ⟨3, 0, none⟩ = some (errV ea 1) := h.cell 1 (by omega)
  have c2 : w.cell? ⟨4, 0, none⟩ = some (errV ea 2) := h.cell 2 (by omega)
  have c3 : w.cell? ⟨1, 0, none⟩ = some (errV ea 3) := h.cell 3 (by omega)
  have c4 : w.cell? ⟨5, 0, none⟩ = some (errV ea 4) := h.cell 4 (by omega)
  have c5 : w.cell? ⟨0, 0, none⟩ = some (errV ea 5) := h.cell 5 (by omega)
  have c6 : w.cell? ⟨6, 0, none⟩ = some (errV ea 6) := h.cell 6 (by omega)
  have c7 : w.cell? ⟨7, 0, none⟩ = some (errV ea 7) := h.cell 7 (by omega)
  have c8 : w.cell? ⟨8, 0, none⟩ = some (errV ea 8) := h.cell 8 (by omega)
  have c9 : w.cell? ⟨9, 0, none⟩ = some (errV ea 9) := h.cell 9 (by omega)
  have c10 : w.cell? ⟨10, 0, none⟩ = some (errV ea 10) := h.cell 10 (by omega)
  have c11 : w.cell? ⟨11, 0, none⟩ = some (errV ea 11) := h.cell 11 (by omega)
  have c12 : w.cell? ⟨12, 0, none⟩ = some (errV ea 12) := h.cell 12 (by omega)
  have c13 : w.cell? ⟨13, 0, none⟩ = some (errV ea 13) := h.cell 13 (by omega)
  have c14 : w.cell? ⟨14, 0, none⟩ = some (errV ea 14) := h.cell 14 (by omega)
  have c15 : w.cell? ⟨15, 0, none⟩ = some (errV ea 15) := h.cell 15 (by omega)
  have c16 : w.cell? ⟨16, 0, none⟩ = some (errV ea 16) := h.cell 16 (by omega)
  have c17 : w.cell? ⟨17, 0, none⟩ = some (errV ea 17) := h.cell 17 (by omega)
  have c18 : w.cell? ⟨18, 0, none⟩ = some (errV ea 18) := h.cell 18 (by omega)
  have hne := fun W => Go.run_eql_iface_nil_left (P := Tryd.prog) W 163 (.pointer (some (ea n))) Tryd.underlying26
  have H := Lib.hid h
  clear h
  simp only [errV] at *
  go_enter Tryd.func14, Tryd.ntmps14
  go_wp2_with fail
  go_loopw [30] (fun i w2 => ∃ k : Nat, k ≤ n ∧ i = .int .i64 k ∧ w2 = w.alloc (.cells (errRow ea).toArray 26)) (fun i _ => 19 - (intOf i).toNat)
  case atStart => exact ⟨0, Nat.zero_le _, rfl, by simp [errRow, errV, List.range_succ]⟩
  case round =>
    obtain ⟨k, hk, rfl, rfl⟩ := hrel
    clear c0 c1 c2 c3 c4 c5 c6 c7 c8 c9 c10 c11 c12 c13 c14 c15 c16 c17 c18 hne
    have hB : Below w.heap.size w (w.alloc (.cells (errRow ea).toArray 26)) := (Below.refl _ _).alloc (Nat.le_refl _) _
    have hc : (w.alloc (.cells (errRow ea).toArray 26)).cell? ⟨w.heap.size, k, none⟩ = some (.iface 163 (.pointer (some (ea k)))) := by
      have := new_cells (errRow ea) w 26 k (errV ea k) (by simp [errRow, List.getElem?_map, List.getElem?_range (show k < 19 by omega)])
      rw [addr_add, Nat.zero_add] at this
      exact this
    have HB := Lib.hid hB
    have HE := Lib.hid (is_err (H.out.below hB) n k hn (by omega))
    clear hB
    generalize w.alloc (.cells (errRow ea).toArray 26) = W at *
    have hk19 : (k : Int) < 19 := by omega
    by_cases hkn : n = k
    · have HK := Lib.hid hkn
      clear hkn
      go_wp2_with fail
      refine HE.out.mono ?_
      rintro e w' ⟨rfl, rfl⟩
      rw [decide_eq_true HK.out]
      go_wp2_with fail
      go_ret
      exact ⟨ret_int (by rw [HK.out]), HB.out⟩
    · have HK := Lib.hid hkn
      clear hkn
      go_wp2_with fail
      refine HE.out.mono ?_
      rintro e w' ⟨rfl, rfl⟩
      rw [decide_eq_false HK.out]
      go_wp2_with fail
      go_roundw
      case rel => exact ⟨k + 1, by have := HK.out; omega, by go_num, by first | rfl | trivial⟩
      case measure => simp [intOf]; omega
end Go.Proofs.YtjhmehmmpfnnkaaDoor

namespace Go.Proofs.YtjhmehmmpfnnkaaDoor
open Go.RowKit Utf
set_option maxRecDepth 100000
set_option linter.unusedSimpArgs false
set_option linter.unusedVariables false

theorem num_of (ea : Nat → Addr) (n : Nat) (w : World) (hn : n < 20) (h : ErrsAt w ea) :
    Calls Tryd.prog 14 #[errOf ea n] w fun e w' => e = .returned (.int .i64 (n : Nat)) ∧ Below w.heap.size w w' := by
  unfold errOf
  by_cases h0 : n = 0
  · subst h0
    exact num_nil w
  · rw [if_neg h0]
    have := num_err ea (n - 1) w (by omega) h
    rw [show (((n - 1 : Nat) : Int) + 1) = (n : Int) by omega] at this
    exact this

/-- Words of any text: the words (none of a bad text), the error's number. -/
def wordsR (s : ByteArray) : List (List Nat) × Nat := match dec s.data.toList with
  | none => ([], 6)
  | some rs => match wordsL rs with
    | none => ([], 4)
    | some ws => (ws, 0)
def quoteR (s : ByteArray) : ByteArray × Nat := match dec s.data.toList with
  | none => (ByteArray.empty, 6)
  | some rs => match quoteL rs with
    | none => (ByteArray.empty, 4)
    | some q => (mkS (encAll q), 0)
def unqR (s : ByteArray) : ByteArray × Nat := match dec s.data.toList with
  | none => (ByteArray.empty, 6)
  | some rs => match unquoteL rs with
    | none => (ByteArray.empty, 4)
    | some t => (mkS (encAll t), 0)
theorem wordsR_lt (s : ByteArray) : (wordsR s).2 < 20 := by
  unfold wordsR; split
  · decide
  · split <;> simp
theorem quoteR_lt (s : ByteArray) : (quoteR s).2 < 20 := by
  unfold quoteR; split
  · decide
  · split <;> simp
theorem unqR_lt (s : ByteArray) : (unqR s).2 < 20 := by
  unfold unqR; split
  · decide
  · split <;> simp

theorem words_all (ea : Nat → Addr) (s : ByteArray) (w : World) (hs : s.size ≤ 1000000) (he : LErr w ea) :
    Calls Tryd.prog 10 #[.string s] w fun e w' => ∃ v, e = .returned (.tuple #[v, errOf ea (wordsR s).2]) ∧ OwnE w' w.heap.size 9 1 v (wordsR s).1.length (strRow (fieldTexts (wordsR s).1)) ∧ Below w.heap.size w w' := by
  unfold wordsR
  cases hd : dec s.data.toList with
  | none => exact (words_none ea s w (by unfold maxLen; omega) hd he).mono fun e w' ⟨h1, h2⟩ => ⟨_, h1, .nil, h2⟩
  | some rs =>
    obtain ⟨ho, h⟩ := dec_some hd
    refine (words_some ea s rs w hs ho h he).mono fun e w' ⟨hb, hr⟩ => ?_
    rcases hr with ⟨ws, v, h1, h2, h3⟩ | ⟨h1, h2⟩
    · simp only [h1]; exact ⟨v, h2, h3, hb⟩
    · simp only [h1]; exact ⟨_, h2, .nil, hb⟩
theorem refWords_all (s : ByteArray) (w : World) (hs : s.size ≤ 1000000) :
    Calls Tryd.prog 13 #[.string s] w fun e w' => ∃ v, e = .returned (.tuple #[v, .int .i64 ((wordsR s).2 : Nat)]) ∧ OwnE w' w.heap.size 9 1 v (wordsR s).1.length (strRow (fieldTexts (wordsR s).1)) ∧ Below w.heap.size w w' := by
  unfold wordsR
  cases hd : dec s.data.toList with
  | none => exact (refWords_none s w hs hd).mono fun e w' ⟨h1, h2⟩ => ⟨_, h1, .nil, h2⟩
  | some rs =>
    obtain ⟨ho, h⟩ := dec_some hd
    refine (refWords_some s rs w hs ho h).mono fun e w' ⟨hb, hr⟩ => ?_
    rcases hr with ⟨ws, v, h1, h2, h3⟩ | ⟨h1, h2⟩
    · simp only [h1]; exact ⟨v, h2, h3, hb⟩
    · simp only [h1]; exact ⟨_, h2, .nil, hb⟩
theorem quote_all (ea : Nat → Addr) (s : ByteArray) (w : World) (hs : s.size ≤ 1000000) (he : LErr w ea) :
    Calls Tryd.prog 9 #[.string s] w fun e w' => e = .returned (.tuple #[.string (quoteR s).1, errOf ea (quoteR s).2]) ∧ Below w.heap.size w w' := by
  unfold quoteR
  cases hd : dec s.data.toList with
  | none => exact quote_none ea s w (by unfold maxLen; omega) hd he
  | some rs =>
    obtain ⟨ho, h⟩ := dec_some hd
    refine (quote_some ea s rs w hs ho h he).mono fun e w' ⟨hb, hr⟩ => ?_
    rcases hr with ⟨q, h1, h2⟩ | ⟨h1, h2⟩
    · simp only [h1]; exact ⟨h2, hb⟩
    · simp only [h1]; exact ⟨h2, hb⟩
theorem refQuote_all (s : ByteArray) (w : World) (hs : s.size ≤ 400000) :
    Calls Tryd.prog 15 #[.string s] w fun e w' => e = .returned (.tuple #[.string (quoteR s).1, .int .i64 ((quoteR s).2 : Nat)]) ∧ Below w.heap.size w w' := by
  unfold quoteR
  cases hd : dec s.data.toList with
  | none => exact refQuote_none s w (by omega) hd
  | some rs =>
    obtain ⟨ho, h⟩ := dec_some hd
    refine (refQuote_some s rs w hs ho h).mono fun e w' ⟨hb, hr⟩ => ?_
    rcases hr with ⟨q, h1, h2⟩ | ⟨h1, h2⟩
    · simp only [h1]; exact ⟨h2, hb⟩
    · simp only [h1]; exact ⟨h2, hb⟩
theorem unquote_all (ea : Nat → Addr) (s : ByteArray) (w : World) (hs : s.size ≤ 1000000) (he : LErr w ea) :
    Calls Tryd.prog 12 #[.string s] w fun e w' => e = .returned (.tuple #[.string (unqR s).1, errOf ea (unqR s).2]) ∧ Below w.heap.size w w' := by
  unfold unqR
  cases hd : dec s.data.toList with
  | none => exact unquote_none ea s w (by unfold maxLen; omega) hd he
  | some rs =>
    obtain ⟨ho, h⟩ := dec_some hd
    refine (unquote_some ea s rs w hs ho h he).mono fun e w' ⟨hb, hr⟩ => ?_
    rcases hr with ⟨q, h1, h2⟩ | ⟨h1, h2⟩
    · simp only [h1]; exact ⟨h2, hb⟩
    · simp only [h1]; exact ⟨h2, hb⟩
theorem refUnq_all (s : ByteArray) (w : World) (hs : s.size ≤ 100000) :
    Calls Tryd.prog 16 #[.string s] w fun e w' => e = .returned (.tuple #[.string (unqR s).1, .int .i64 ((unqR s).2 : Nat)]) ∧ Below w.heap.size w w' := by
  unfold unqR
  cases hd : dec s.data.toList with
  | none => exact refUnq_none s w (by omega) hd
  | some rs =>
    obtain ⟨ho, h⟩ := dec_some hd
    refine (refUnq_some s rs w hs ho h).mono fun e w' ⟨hb, hr⟩ => ?_
    rcases hr with ⟨q, h1, h2⟩ | ⟨h1, h2⟩
    · simp only [h1]; exact ⟨h2, hb⟩
    · simp only [h1]; exact ⟨h2, hb⟩

/-- A text in quotes is one word, and reads as the text. -/
theorem quoteR_back {s : ByteArray} (h : (quoteR s).2 = 0) : unqR (quoteR s).1 = (s, 0) ∧ ∃ q, wordsR (quoteR s).1 = ([q], 0) ∧ mkS (encAll q) = (quoteR s).1 ∧ (quoteR s).1.size ≤ 8 * s.size + 8 := by
  unfold quoteR at h ⊢
  cases hd : dec s.data.toList with
  | none => rw [hd] at h; cases h
  | some rs =>
    obtain ⟨ho, hs⟩ := dec_some hd
    rw [hd] at h
    cases hq : quoteL rs with
    | none => simp [hq] at h
    | some q =>
      simp only [hq]
      obtain ⟨hqo, hql⟩ := quote_ok hq ho
      have hdq : dec (mkS (encAll q)).data.toList = some q := dec_encAll hqo
      refine ⟨?_, q, ?_, rfl, ?_⟩
      · unfold unqR
        simp only [hdq, unquote_quote hq]
        rw [show mkS (encAll rs) = s from str_ext hs.symm]
      · unfold wordsR
        simp only [hdq, words_one (word_quote hq)]
      · rw [mkS_size]
        have := encAll_le q
        have := len_le hs
        omega
end Go.Proofs.YtjhmehmmpfnnkaaDoor

namespace Go.Proofs.YtjhmehmmpfnnkaaDoor
open Go.RowKit Utf
set_option maxRecDepth 100000
set_option linter.unusedSimpArgs false
set_option linter.unusedVariables false

/-- The cells of an op of the reference's: the first 21 of a world's op. -/
def rCells (p : PW) (vo vg : Value) : Array Value :=
  #[.int .i64 p.kind, .int .i64 p.who, .int .i64 p.n, .int .i64 p.fresh, vo, .int .i64 p.ekind, .int .i64 p.shard, .int .i64 p.other, .int .i64 p.server, .int .i64 0, .int .i64 0, .slice none 0 0, txt p.ekey,
    .int .i64 0, .int .i64 0, .int .i64 0, .slice none 0 0, txt p.key, txt p.lo, txt p.hi, vg]
def rZero : Array Value := #[.int .i64 0, .int .i64 0, .int .i64 0, .int .i64 0, .slice none 0 0, .int .i64 0, .int .i64 0, .int .i64 0, .int .i64 0, .int .i64 0, .int .i64 0, .slice none 0 0, .string ByteArray.empty,
    .int .i64 0, .int .i64 0, .int .i64 0, .slice none 0 0, .string ByteArray.empty, .string ByteArray.empty, .string ByteArray.empty, .slice none 0 0]
theorem rZero_one : rZero.all (·.oneCell') = true := by kernel_rfl
theorem Tryd.sizeR : (Tryd.prog.info? 52).map (·.size) = some 21 := by kernel_rfl
theorem rCells_size (p : PW) (vo vg : Value) : (rCells p vo vg).size = 21 := rfl
theorem rZero_size : rZero.size = 21 := rfl
theorem rCells_one (p : PW) (vo vg : Value) (h1 : ∃ a n c, vo = .slice a n c) (h2 : ∃ a n c, vg = .slice a n c) : (rCells p vo vg).all (·.oneCell') = true := by
  obtain ⟨a, n, c, rfl⟩ := h1
  obtain ⟨a', n', c', rfl⟩ := h2
  simp [rCells, txt, Value.oneCell']
theorem rCells_setN (p : PW) (vo vg : Value) (f : Fld) (hf : isNum f = true) (v : Int) : (rCells p vo vg).setIfInBounds (offF f) (.int .i64 v) = rCells (p.setN v f) vo vg := by
  cases f <;> first | rfl | cases hf
theorem rCells_setS (p : PW) (vo vg : Value) (f : Fld) (hf : isNum f = false) (v : List Nat) : (rCells p vo vg).setIfInBounds (offF f) (txt v) = rCells (p.setS v f) vo vg := by
  cases f <;> first | rfl | cases hf
theorem rCells_getN (p : PW) (vo vg : Value) (f : Fld) (hf : isNum f = true) : (rCells p vo vg)[offF f]? = some (.int .i64 (p.getN f)) := by
  cases f <;> first | rfl | cases hf
theorem rCells_getS (p : PW) (vo vg : Value) (f : Fld) (hf : isNum f = false) : (rCells p vo vg)[offF f]? = some (txt (p.getS f)) := by
  cases f <;> first | rfl | cases hf
theorem rCells_ops (p : PW) (vo vg v : Value) : (rCells p vo vg).setIfInBounds 4 v = rCells p v vg := rfl
theorem rCells_gone (p : PW) (vo vg v : Value) : (rCells p vo vg).setIfInBounds 20 v = rCells p vo v := rfl

/-- What tidewaterref31.Parse answers, the words given. -/
def RefParsePost (ws : List (List Nat)) (w : World) (e : Ending) (w' : World) : Prop :=
  Below w.heap.size w w' ∧ ((∃ m, parseW ws = (m, none) ∧ e = .returned (.tuple #[.agg rZero, .int .i64 (m : Nat)])) ∨
    (∃ l vo vg, parseW ws = (0, some l) ∧ e = .returned (.tuple #[.agg (rCells l.p vo vg), .int .i64 0]) ∧
      w'.ownsRow w.heap.size 103 5 vo l.ops.length (l.ops.flatMap opCells) ∧ w'.ownsRow w.heap.size 3 1 vg l.gone.length (intRow l.gone)))

set_option maxHeartbeats 4000000 in
/-- A text that is none, or not words. -/
theorem refParse_bad (s : ByteArray) (w : World) (m : Nat) (hm : (wordsR s) = ([], m)) (hm0 : m ≠ 0) (hm20 : m < 20) (hs : s.size ≤ 1000000) :
    Calls Tryd.prog 18 #[.string s] w fun e w' => e = .returned (.tuple #[.agg rZero, .int .i64 (m : Nat)]) ∧ Below w.heap.size w w' := by
  have HW := Lib.hid (fun W => refWords_all s W hs)
  rw [hm] at HW
  have hz := Blk.new w 52 rZero
  have HZ := Lib.hid hz
  have hne : ((m : Int) != 0) = true := by simp; omega
  clear hz hm
  go_enter Tryd.func18, Tryd.ntmps18
  go_wp2_with fail
  refine (HW.out _).mono ?_
  rintro e w1 ⟨v, rfl, -, hb1⟩
  have HZ2 := Lib.hid (HZ.out.below hb1 HZ.out.lt)
  have HO1 := Lib.hid (show Only (fun _ => False) w w1 from ((Only.refl _ w).alloc _).trans (Only.below_all hb1))
  clear hb1
  go_wp2_with (refine wpList_store_blk rfl 52 (.tmp 2) (.tmp 21) rfl w.heap.size rZero rfl rfl 52 rZero HZ2.out rfl Tryd.sizeR rZero_one ?_)
  refine Lib.hid ?_
  intro w2 hz2 ho2
  have HZ3 := Lib.hid hz2
  have HO3 := Lib.hid ho2
  clear hz2 ho2
  go_wp2_with fail
  refine bodyPost_ret (results_cell_tmp rfl _ _ w.heap.size 52 rZero (0, 0) _ rfl HZ3.out Tryd.underlying52 rfl Tryd.sizeR) rfl ?_
  exact ⟨rfl, (HO1.out.step HO3.out (fun k hk => .inr (Nat.le_of_eq hk.symm))).to_below (Nat.le_refl _) (fun _ _ h => h)⟩
end Go.Proofs.YtjhmehmmpfnnkaaDoor

namespace Go.Proofs.YtjhmehmmpfnnkaaDoor
open Go.RowKit Utf
set_option maxRecDepth 100000
set_option linter.unusedSimpArgs false
set_option linter.unusedVariables false

structure RSt (w : World) (K : Nat → Prop) (d c b : Nat) (fs : ByteArray) (wr : World) (cs : Array Value) (ws : List (List Nat)) (n : Nat) : Prop where
  only : Only (fun _ => False) w wr
  res : Blk wr w.heap.size 52 rZero
  row : wr.cell? ⟨d, 3, none⟩ = some (.string fs)
  rat : RRAt wr b ws n K
  ob : Blk wr c 52 cs
  good : GoodR ws
  o1 : w.heap.size < d
  o2 : d < c
  o3 : c < b
  klt : ∀ k, K k → w.heap.size < k ∧ k < d

section
variable {w : World} {K : Nat → Prop} {d c b : Nat} {fs : ByteArray} {wr w' : World} {cs : Array Value} {ws : List (List Nat)} {n : Nat}
theorem RSt.kc (h : RSt w K d c b fs wr cs ws n) : ¬ K c := fun hk => by have := (h.klt c hk).2; have := h.o2; omega
theorem RSt.kb (h : RSt w K d c b fs wr cs ws n) : ¬ K b := fun hk => by have := (h.klt b hk).2; have := h.o2; have := h.o3; omega
theorem RSt.blt (h : RSt w K d c b fs wr cs ws n) : b < wr.heap.size := by obtain ⟨ao, cap, h1, -⟩ := h.rat; exact h1.lt
theorem RSt.draw (h : RSt w K d c b fs wr cs ws n) (k : Nat) : RSt w K d c b fs (wr.drewN k) cs ws n :=
  ⟨h.only.drewN k, h.res, h.row, h.rat, h.ob, h.good, h.o1, h.o2, h.o3, h.klt⟩
/-- The reader and the op turn, and what is new. -/
theorem RSt.turn (h : RSt w K d c b fs wr cs ws n) {cs' : Array Value} {ws' : List (List Nat)} {n' : Nat} (ho : Only (fun k => k = b ∨ k = c) wr w') (hr : RRAt w' b ws' n' K) (hb : Blk w' c 52 cs') (hg : GoodR ws') : RSt w K d c b fs w' cs' ws' n' := by
  have e1 := h.o1
  have e2 := h.o2
  have e3 := h.o3
  exact ⟨h.only.step ho (fun k hk => .inr (by omega)), h.res.only ho (by omega), ho.cell h.row (by simp only; omega), hr, hb, hg, e1, e2, e3, h.klt⟩
/-- The reader alone turns. -/
theorem RSt.read (h : RSt w K d c b fs wr cs ws n) {ws' : List (List Nat)} {n' : Nat} (ho : Only (fun k => k = b) wr w') (hr : RRAt w' b ws' n' K) (hg : GoodR ws') : RSt w K d c b fs w' cs ws' n' :=
  h.turn (ho.mono (fun k hk => .inl hk)) hr (h.ob.only ho (by have := h.o3; omega)) hg
/-- A cell of the op is stored. -/
theorem RSt.put (h : RSt w K d c b fs wr cs ws n) (i : Nat) (u : Value) : RSt w K d c b fs (wr.setCell ⟨c, i, none⟩ u) (cs.setIfInBounds i u) ws n := by
  have ho : Only (fun k => k = c) wr (wr.setCell ⟨c, i, none⟩ u) := (Only.refl (fun k => k = c) wr).set (.inl rfl) u
  exact h.turn (ho.mono (fun k hk => .inr hk)) (h.rat.only ho (by have := h.o3; omega) (fun k hk => by subst hk; exact h.kc)) (h.ob.put i u) h.good
/-- The reader's error is stored. -/
theorem RSt.err (h : RSt w K d c b fs wr cs ws n) (m : Nat) : RSt w K d c b fs (wr.setCell ⟨b, 1, none⟩ (.int .i64 (m : Nat))) cs ws m :=
  h.read ((Only.refl (fun k => k = b) wr).set (.inl rfl) _) (h.rat.putErr m h.kb) h.good
end

theorem RRAt.left {w : World} {b : Nat} {ws : List (List Nat)} {n : Nat} {K : Nat → Prop} (h : RRAt w b ws n K) : leftOf w b = ws.length := by
  obtain ⟨ao, cap, h1, -⟩ := h
  have := h1.cell 0
  simp only [leftOf, this]
  rfl
theorem RRAt.cell0 {w : World} {b : Nat} {ws : List (List Nat)} {n : Nat} {K : Nat → Prop} (h : RRAt w b ws n K) : ∃ ao cap, w.cell? ⟨b, 0, none⟩ = some (.slice ao ws.length cap) := by
  obtain ⟨ao, cap, h1, -⟩ := h
  exact ⟨ao, cap, h1.cell 0⟩

theorem letR_43 (f : Fld) : ((letR f : Int) == 43) = false := by cases f <;> rfl
theorem letR_42 (f : Fld) : ((letR f : Int) == 42) = false := by cases f <;> rfl
theorem letR_lt (f : Fld) : letR f < 256 := by cases f <;> decide
theorem restR_lt (k : Nat) : ∀ c ∈ restR k, c < 256 := by
  intro c hc
  unfold restR at hc
  split at hc
  · simp at hc; omega
  · split at hc
    · simp at hc; omega
    · cases hc
theorem restR_len (k : Nat) : (restR k).length ≤ 1 := by
  unfold restR
  split
  · simp
  · split <;> simp
theorem refVerbs_len : ∀ v ∈ refVerbs, (fldsR v).length ≤ 10 := by decide
theorem fldsR_lt (v : Verb) : ∀ c ∈ fldsR v, c < 256 := by
  intro c hc
  unfold fldsR at hc
  rcases List.mem_append.1 hc with hc | hc
  · obtain ⟨f, _, rfl⟩ := List.mem_map.1 hc
    exact letR_lt f
  · exact restR_lt _ c hc
theorem flds_size (v : Verb) : (mkS ((fldsR v).map UInt8.ofNat)).size = (fldsR v).length := by rw [mkS_size, List.length_map]
theorem flds_byte (v : Verb) (i : Nat) (hi : i < (mkS ((fldsR v).map UInt8.ofNat)).size) (hi2 : i < (fldsR v).length) : ((mkS ((fldsR v).map UInt8.ofNat))[i]).toNat = (fldsR v)[i] := by
  rw [← byteAt_eq]
  unfold byteAt
  rw [mkS_data, List.getElem?_map, List.getElem?_eq_getElem hi2]
  exact u8_of _ (fldsR_lt v _ (List.getElem_mem _))
theorem fldsR_at (v : Verb) (i : Nat) (hi : i < v.flds.length) (hi2 : i < (fldsR v).length) : (fldsR v)[i] = letR v.flds[i] := by
  have : (fldsR v)[i]? = some (letR v.flds[i]) := by
    unfold fldsR
    rw [List.getElem?_append_left (by simpa using hi), List.getElem?_map, List.getElem?_eq_getElem hi]
    rfl
  exact Option.some.inj ((List.getElem?_eq_getElem hi2).symm.trans this)
theorem fldsR_len (v : Verb) : (fldsR v).length = v.flds.length + (restR v.rest).length := by simp [fldsR]
theorem fldsR_last (v : Verb) (hi : v.flds.length < (fldsR v).length) : (v.rest = 111 ∧ (fldsR v)[v.flds.length] = 43) ∨ (v.rest = 103 ∧ (fldsR v)[v.flds.length] = 42) := by
  have hl := fldsR_len v
  have e : (fldsR v)[v.flds.length] = (restR v.rest)[0]'(by omega) := by
    have : (fldsR v)[v.flds.length]? = some ((restR v.rest)[0]'(by omega)) := by
      unfold fldsR
      rw [List.getElem?_append_right (by simp), List.length_map, Nat.sub_self, List.getElem?_eq_getElem]
    exact Option.some.inj ((List.getElem?_eq_getElem hi).symm.trans this)
  rw [e]
  by_cases h1 : v.rest = 111
  · exact .inl ⟨h1, by simp [restR, h1]⟩
  · by_cases h2 : v.rest = 103
    · exact .inr ⟨h2, by simp [restR, h2]⟩
    · have : restR v.rest = [] := by unfold restR; rw [if_neg h1, if_neg h2]
      rw [this] at hl
      simp at hl
      omega
/-- What stands in 'more' behind so many letters. -/
def moreR (v : Verb) (i : Nat) : Nat := if i ≤ v.flds.length then 0 else if v.rest = 111 then 43 else 42
theorem moreR_end (v : Verb) (hr : v.rest = 111 ∨ v.rest = 103 ∨ v.rest = 0) : (v.rest = 111 ∧ moreR v (fldsR v).length = 43) ∨ (v.rest = 103 ∧ moreR v (fldsR v).length = 42) ∨ (v.rest = 0 ∧ moreR v (fldsR v).length = 0) := by
  have hl := fldsR_len v
  rcases hr with h | h | h
  · refine .inl ⟨h, ?_⟩
    have : (restR v.rest).length = 1 := by rw [h]; rfl
    unfold moreR
    rw [if_neg (by omega), if_pos h]
  · refine .inr (.inl ⟨h, ?_⟩)
    have : (restR v.rest).length = 1 := by rw [h]; rfl
    unfold moreR
    rw [if_neg (by omega), if_neg (by omega)]
  · refine .inr (.inr ⟨h, ?_⟩)
    have : (restR v.rest).length = 0 := by rw [h]; rfl
    unfold moreR
    rw [if_pos (by omega)]
end Go.Proofs.YtjhmehmmpfnnkaaDoor
