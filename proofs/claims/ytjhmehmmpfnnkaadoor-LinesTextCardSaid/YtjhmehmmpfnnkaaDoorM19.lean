/-
  Plain: the reference's table of verbs; the contracts of its Rows, number, text.
  The contract of lines.Parse: a line without right words, without words.
  What Parse's walk leans on: the words of a line are right texts; how the reading stands.
  tidewaterref31.Parse: what it answers; the ways without words.
  An op of a world, of whatever texts, as its cells; the law's own op as of the document.
-/
import Derived.Test.YtjhmehmmpfnnkaaDoorM06
import Derived.Test.YtjhmehmmpfnnkaaDoorM08
import Derived.Test.YtjhmehmmpfnnkaaDoorM16
import Derived.Test.YtjhmehmmpfnnkaaDoorM18
import Derived.Test.YtjhmehmmpfnnkaaDoorM14
import Derived.Test.YtjhmehmmpfnnkaaDoorM10
namespace Go.Proofs.YtjhmehmmpfnnkaaDoor
open Go.RowKit Utf
set_option maxRecDepth 100000
set_option linter.unusedSimpArgs false
set_option linter.unusedVariables false

def refVerbs : List Verb := [
  ⟨[98, 101, 103, 105, 110], 1, 0, [.who], 111⟩,
  ⟨[115, 116, 101, 112], 2, 0, [.who, .n], 0⟩,
  ⟨[109, 111, 118, 101], 3, 2, [.shard, .server], 0⟩,
  ⟨[115, 112, 108, 105, 116], 3, 3, [.shard, .other, .server, .ekey], 0⟩,
  ⟨[109, 101, 114, 103, 101], 3, 4, [.shard, .other], 0⟩,
  ⟨[103, 101, 116], 4, 0, [.n, .key], 0⟩,
  ⟨[115, 99, 97, 110], 5, 0, [.n, .who, .lo, .hi], 0⟩,
  ⟨[99, 114, 97, 115, 104], 6, 0, [.n], 0⟩,
  ⟨[115, 116, 111, 112], 7, 0, [.n, .who], 0⟩,
  ⟨[117, 112], 8, 0, [.n], 0⟩,
  ⟨[108, 111, 115, 101], 9, 0, [], 0⟩,
  ⟨[114, 101, 99, 111, 110], 10, 0, [.who, .fresh], 103⟩,
  ⟨[99, 104, 97, 110, 103, 101], 11, 0, [], 0⟩,
  ⟨[99, 104, 101, 99, 107], 12, 0, [.n, .who], 0⟩,
  ⟨[116, 114, 105, 109], 13, 0, [], 0⟩,
  ⟨[118, 111, 116, 101, 114], 14, 0, [.n, .who], 0⟩,
  ⟨[114, 101, 115, 116, 97, 114, 116], 15, 0, [.n], 0⟩]
/-- The reference's letter of a field. -/
def letR : Fld → Nat
  | .who => 49 | .n => 50 | .fresh => 51 | .shard => 52 | .other => 53 | .server => 54 | .key => 97 | .lo => 98 | .hi => 99 | .ekey => 100
def restR (k : Nat) : List Nat := if k = 111 then [43] else if k = 103 then [42] else []
/-- A verb's fields, as the reference spells them. -/
def fldsR (v : Verb) : List Nat := v.flds.map letR ++ restR v.rest
def rowOf (v : Verb) : List Value := [.string (mkS v.name), .int .i64 (v.kind : Int), .int .i64 (v.ekind : Int), .string (mkS ((fldsR v).map UInt8.ofNat))]
def rowCells : Array Value := (refVerbs.flatMap rowOf).toArray

theorem flat4 {α β : Type} (f : α → List β) (hf : ∀ x, (f x).length = 4) : ∀ (l : List α) (k : Nat) (hk : k < l.length) (j : Nat), j < 4 → (l.flatMap f)[4 * k + j]? = (f l[k])[j]?
  | [], k, hk, _, _ => by simp at hk
  | x :: l, 0, _, j, hj => by
    rw [List.flatMap_cons, Nat.mul_zero, Nat.zero_add, List.getElem?_append_left (by rw [hf]; exact hj)]
    rfl
  | x :: l, k + 1, hk, j, hj => by
    rw [List.flatMap_cons, List.getElem?_append_right (by rw [hf]; omega), hf]
    have e : 4 * (k + 1) + j - 4 = 4 * k + j := by omega
    rw [e, flat4 f hf l k (by simpa using hk) j hj]
    rfl
theorem row_at (k : Nat) (hk : k < refVerbs.length) (j : Nat) (hj : j < 4) : rowCells[4 * k + j]? = (rowOf refVerbs[k])[j]? := by
  unfold rowCells
  rw [List.getElem?_toArray]
  exact flat4 rowOf (fun _ => rfl) refVerbs k hk j hj

/-! ### One verb by its name, in both tables -/
def refIdx (x : List UInt8) : Nat := refVerbs.findIdx fun v => v.name == x
theorem refIdx_step {x : List UInt8} {k : Nat} (hk : k < refVerbs.length) (h : k ≤ refIdx x) (hne : (refVerbs[k].name == x) = false) : k + 1 ≤ refIdx x := by
  rcases Nat.lt_or_ge k (refIdx x) with h1 | h1
  · exact h1
  · exfalso
    have e : refVerbs.findIdx (fun v => v.name == x) = k := Nat.le_antisymm h1 h
    have := List.findIdx_getElem (p := fun v : Verb => v.name == x) (xs := refVerbs) (w := by rw [e]; exact hk)
    have h2 : refVerbs[refVerbs.findIdx (fun v : Verb => v.name == x)]'(by rw [e]; exact hk) = refVerbs[k] := getElem_congr_idx e
    rw [h2] at this
    rw [hne] at this
    cases this
theorem refIdx_hit {x : List UInt8} {k : Nat} (hk : k < refVerbs.length) (h : k ≤ refIdx x) (he : (refVerbs[k].name == x) = true) : refIdx x = k := by
  refine Nat.le_antisymm (Nat.le_of_not_lt fun h1 => ?_) h
  have := List.not_of_lt_findIdx (p := fun v : Verb => v.name == x) (xs := refVerbs) (i := k) h1
  rw [he] at this
  cases this
theorem refVerb_mem : ∀ v ∈ refVerbs, verbs[verbIdx v.name]? = some v := by
  intro v hv
  simp only [refVerbs, List.mem_cons, List.not_mem_nil, or_false] at hv
  rcases hv with rfl | rfl | rfl | rfl | rfl | rfl | rfl | rfl | rfl | rfl | rfl | rfl | rfl | rfl | rfl | rfl | rfl <;> rfl
theorem verb_ref : ∀ v ∈ verbs, refIdx v.name < 17 := by decide
/-- The verb that is found, by either table. -/
theorem refIdx_verb {x : List UInt8} (h : refIdx x < 17) : verbs[verbIdx x]? = some (refVerbs[refIdx x]'h) := by
  have h1 : (refVerbs[refIdx x]'h).name = x := by
    have := List.findIdx_getElem (p := fun v : Verb => v.name == x) (xs := refVerbs) (w := h)
    exact eq_of_beq this
  have := refVerb_mem _ (List.getElem_mem (l := refVerbs) h)
  rw [h1] at this
  exact this
theorem refIdx_none {x : List UInt8} (h : ¬ refIdx x < 17) : verbs[verbIdx x]? = none := by
  rcases Nat.lt_or_ge (verbIdx x) 17 with h1 | h1
  · exfalso
    have h2 : (verbs[verbIdx x]'h1).name = x := by
      have := List.findIdx_getElem (p := fun v : Verb => v.name == x) (xs := verbs) (w := h1)
      exact eq_of_beq this
    have := verb_ref _ (List.getElem_mem (l := verbs) h1)
    rw [h2] at this
    exact h this
  · exact List.getElem?_eq_none h1
theorem refVerbs_nodup : ∀ v ∈ refVerbs, v.flds.Nodup := by decide
theorem refVerbs_rest : ∀ v ∈ refVerbs, v.rest = 111 ∨ v.rest = 103 ∨ v.rest = 0 := by decide

set_option maxHeartbeats 1000000 in
theorem rows_any (w : World) :
    Calls Tryd.prog 40 #[] w fun e w' => e = .returned (.slice (some ⟨w.heap.size, 0, none⟩) 17 17) ∧ w' = w.alloc (.cells rowCells 91) := by
  have HS := Lib.hid (show rowCells = #[Value.string ⟨#[98, 101, 103, 105, 110]⟩, Value.int .i64 1, Value.int .i64 0, Value.string ⟨#[49, 43]⟩, Value.string ⟨#[115, 116, 101, 112]⟩, Value.int .i64 2, Value.int .i64 0, Value.string ⟨#[49, 50]⟩, Value.string ⟨#[109, 111, 118, 101]⟩, Value.int .i64 3, Value.int .i64 2, Value.string ⟨#[52, 54]⟩, Value.string ⟨#[115, 112, 108, 105, 116]⟩, Value.int .i64 3, Value.int .i64 3, Value.string ⟨#[52, 53, 54, 100]⟩, Value.string ⟨#[109, 101, 114, 103, 101]⟩, Value.int .i64 3, Value.int .i64 4, Value.string ⟨#[52, 53]⟩, Value.string ⟨#[103, 101, 116]⟩, Value.int .i64 4, Value.int .i64 0, Value.string ⟨#[50, 97]⟩, Value.string ⟨#[115, 99, 97, 110]⟩, Value.int .i64 5, Value.int .i64 0, Value.string ⟨#[50, 49, 98, 99]⟩, Value.string ⟨#[99, 114, 97, 115, 104]⟩, Value.int .i64 6, Value.int .i64 0, Value.string ⟨#[50]⟩, Value.string ⟨#[115, 116, 111, 112]⟩, Value.int .i64 7, Value.int .i64 0, Value.string ⟨#[50, 49]⟩, Value.string ⟨#[117, 112]⟩, Value.int .i64 8, Value.int .i64 0, Value.string ⟨#[50]⟩, Value.string ⟨#[108, 111, 115, 101]⟩, Value.int .i64 9, Value.int .i64 0, Value.string ⟨#[]⟩, Value.string ⟨#[114, 101, 99, 111, 110]⟩, Value.int .i64 10, Value.int .i64 0, Value.string ⟨#[49, 51, 42]⟩, Value.string ⟨#[99, 104, 97, 110, 103, 101]⟩, Value.int .i64 11, Value.int .i64 0, Value.string ⟨#[]⟩, Value.string ⟨#[99, 104, 101, 99, 107]⟩, Value.int .i64 12, Value.int .i64 0, Value.string ⟨#[50, 49]⟩, Value.string ⟨#[116, 114, 105, 109]⟩, Value.int .i64 13, Value.int .i64 0, Value.string ⟨#[]⟩, Value.string ⟨#[118, 111, 116, 101, 114]⟩, Value.int .i64 14, Value.int .i64 0, Value.string ⟨#[50, 49]⟩, Value.string ⟨#[114, 101, 115, 116, 97, 114, 116]⟩, Value.int .i64 15, Value.int .i64 0, Value.string ⟨#[50]⟩] from by kernel_rfl)
  go_enter Tryd.func40, Tryd.ntmps40
  go_wp2_with fail
  go_ret
  rw [HS.out]
  exact ⟨rfl, rfl⟩

theorem rnumber_who (b : Nat) (w : World) :
    Calls Tryd.prog 41 #[.pointer (some ⟨b, 0, none⟩), .int .u8 49] w fun e w' => e = .returned (.pointer (some ⟨b, 1, none⟩)) ∧ w = w' := by
  go_enter Tryd.func41, Tryd.ntmps41
  go_wp2_with fail
  go_ret
  exact ⟨rfl, rfl⟩

theorem rnumber_n (b : Nat) (w : World) :
    Calls Tryd.prog 41 #[.pointer (some ⟨b, 0, none⟩), .int .u8 50] w fun e w' => e = .returned (.pointer (some ⟨b, 2, none⟩)) ∧ w = w' := by
  go_enter Tryd.func41, Tryd.ntmps41
  go_wp2_with fail
  go_ret
  exact ⟨rfl, rfl⟩

theorem rnumber_fresh (b : Nat) (w : World) :
    Calls Tryd.prog 41 #[.pointer (some ⟨b, 0, none⟩), .int .u8 51] w fun e w' => e = .returned (.pointer (some ⟨b, 3, none⟩)) ∧ w = w' := by
  go_enter Tryd.func41, Tryd.ntmps41
  go_wp2_with fail
  go_ret
  exact ⟨rfl, rfl⟩

theorem rnumber_shard (b : Nat) (w : World) :
    Calls Tryd.prog 41 #[.pointer (some ⟨b, 0, none⟩), .int .u8 52] w fun e w' => e = .returned (.pointer (some ⟨b, 6, none⟩)) ∧ w = w' := by
  go_enter Tryd.func41, Tryd.ntmps41
  go_wp2_with fail
  go_ret
  exact ⟨rfl, rfl⟩

theorem rnumber_other (b : Nat) (w : World) :
    Calls Tryd.prog 41 #[.pointer (some ⟨b, 0, none⟩), .int .u8 53] w fun e w' => e = .returned (.pointer (some ⟨b, 7, none⟩)) ∧ w = w' := by
  go_enter Tryd.func41, Tryd.ntmps41
  go_wp2_with fail
  go_ret
  exact ⟨rfl, rfl⟩

theorem rnumber_server (b : Nat) (w : World) :
    Calls Tryd.prog 41 #[.pointer (some ⟨b, 0, none⟩), .int .u8 54] w fun e w' => e = .returned (.pointer (some ⟨b, 8, none⟩)) ∧ w = w' := by
  go_enter Tryd.func41, Tryd.ntmps41
  go_wp2_with fail
  go_ret
  exact ⟨rfl, rfl⟩

theorem rnumber_key (b : Nat) (w : World) :
    Calls Tryd.prog 41 #[.pointer (some ⟨b, 0, none⟩), .int .u8 97] w fun e w' => e = .returned (.pointer none) ∧ w = w' := by
  go_enter Tryd.func41, Tryd.ntmps41
  go_wp2_with fail
  go_ret
  exact ⟨rfl, rfl⟩
theorem rtext_key (b : Nat) (w : World) :
    Calls Tryd.prog 44 #[.pointer (some ⟨b, 0, none⟩), .int .u8 97] w fun e w' => e = .returned (.pointer (some ⟨b, 17, none⟩)) ∧ w = w' := by
  go_enter Tryd.func44, Tryd.ntmps44
  go_wp2_with fail
  go_ret
  exact ⟨rfl, rfl⟩

theorem rnumber_lo (b : Nat) (w : World) :
    Calls Tryd.prog 41 #[.pointer (some ⟨b, 0, none⟩), .int .u8 98] w fun e w' => e = .returned (.pointer none) ∧ w = w' := by
  go_enter Tryd.func41, Tryd.ntmps41
  go_wp2_with fail
  go_ret
  exact ⟨rfl, rfl⟩
theorem rtext_lo (b : Nat) (w : World) :
    Calls Tryd.prog 44 #[.pointer (some ⟨b, 0, none⟩), .int .u8 98] w fun e w' => e = .returned (.pointer (some ⟨b, 18, none⟩)) ∧ w = w' := by
  go_enter Tryd.func44, Tryd.ntmps44
  go_wp2_with fail
  go_ret
  exact ⟨rfl, rfl⟩

theorem rnumber_hi (b : Nat) (w : World) :
    Calls Tryd.prog 41 #[.pointer (some ⟨b, 0, none⟩), .int .u8 99] w fun e w' => e = .returned (.pointer none) ∧ w = w' := by
  go_enter Tryd.func41, Tryd.ntmps41
  go_wp2_with fail
  go_ret
  exact ⟨rfl, rfl⟩
theorem rtext_hi (b : Nat) (w : World) :
    Calls Tryd.prog 44 #[.pointer (some ⟨b, 0, none⟩), .int .u8 99] w fun e w' => e = .returned (.pointer (some ⟨b, 19, none⟩)) ∧ w = w' := by
  go_enter Tryd.func44, Tryd.ntmps44
  go_wp2_with fail
  go_ret
  exact ⟨rfl, rfl⟩

theorem rnumber_ekey (b : Nat) (w : World) :
    Calls Tryd.prog 41 #[.pointer (some ⟨b, 0, none⟩), .int .u8 100] w fun e w' => e = .returned (.pointer none) ∧ w = w' := by
  go_enter Tryd.func41, Tryd.ntmps41
  go_wp2_with fail
  go_ret
  exact ⟨rfl, rfl⟩
theorem rtext_ekey (b : Nat) (w : World) :
    Calls Tryd.prog 44 #[.pointer (some ⟨b, 0, none⟩), .int .u8 100] w fun e w' => e = .returned (.pointer (some ⟨b, 12, none⟩)) ∧ w = w' := by
  go_enter Tryd.func44, Tryd.ntmps44
  go_wp2_with fail
  go_ret
  exact ⟨rfl, rfl⟩

def ptrR (b : Nat) (f : Fld) : Value := if isNum f = true then .pointer (some ⟨b, offF f, none⟩) else .pointer none
theorem rnumber_any (f : Fld) (b : Nat) (w : World) :
    Calls Tryd.prog 41 #[.pointer (some ⟨b, 0, none⟩), .int .u8 (letR f : Int)] w fun e w' => e = .returned (ptrR b f) ∧ w = w' := by
  cases f
  · exact rnumber_who b w
  · exact rnumber_n b w
  · exact rnumber_fresh b w
  · exact rnumber_shard b w
  · exact rnumber_other b w
  · exact rnumber_server b w
  · exact rnumber_key b w
  · exact rnumber_lo b w
  · exact rnumber_hi b w
  · exact rnumber_ekey b w
theorem rtext_any (f : Fld) (hf : isNum f = false) (b : Nat) (w : World) :
    Calls Tryd.prog 44 #[.pointer (some ⟨b, 0, none⟩), .int .u8 (letR f : Int)] w fun e w' => e = .returned (.pointer (some ⟨b, offF f, none⟩)) ∧ w = w' := by
  cases f
  · cases hf
  · cases hf
  · cases hf
  · cases hf
  · cases hf
  · cases hf
  · exact rtext_key b w
  · exact rtext_lo b w
  · exact rtext_hi b w
  · exact rtext_ekey b w
end Go.Proofs.YtjhmehmmpfnnkaaDoor

namespace Go.Proofs.YtjhmehmmpfnnkaaDoor
open Go.RowKit Utf
set_option maxRecDepth 100000
set_option linter.unusedSimpArgs false
set_option linter.unusedVariables false

def wZero : Array Value := #[.int .i64 0, .int .i64 0, .int .i64 0, .int .i64 0, .slice none 0 0, .int .i64 0, .int .i64 0, .int .i64 0, .int .i64 0, .int .i64 0, .int .i64 0, .slice none 0 0, .string ByteArray.empty,
    .int .i64 0, .int .i64 0, .int .i64 0, .slice none 0 0, .string ByteArray.empty, .string ByteArray.empty, .string ByteArray.empty, .slice none 0 0, .int .u64 0, .int .i64 0, .int .i64 0]

theorem wZero_one : wZero.all (·.oneCell') = true := by kernel_rfl
theorem Tryd.sizeW : (Tryd.prog.info? 48).map (·.size) = some 24 := by kernel_rfl

set_option maxHeartbeats 4000000 in
theorem parse_bad (ea : Nat → Addr) (s : ByteArray) (rs : List Nat) (w : World) (hs : s.size ≤ 1000000) (ho : allOk rs) (h : s.data.toList = encAll rs) (he : LErr w ea) (hw : wordsL rs = none) :
    Calls Tryd.prog 17 #[.string s] w fun e w' => e = .returned (.tuple #[.agg wZero, errOf ea 4]) ∧ Below w.heap.size w w' := by
  have HW := Lib.hid (fun W he => words_some ea s rs W hs ho h he)
  have hz := Blk.new w 48 wZero
  have HZ := Lib.hid hz
  have HE := Lib.hid (he.only (S := fun _ => False) ((Only.refl _ w).alloc (.cells wZero 48)) (fun _ h => h.elim))
  have HN := Lib.hid hw
  clear h ho he hz hw
  go_enter Tryd.func17, Tryd.ntmps17
  go_wp2_with fail
  refine (HW.out _ HE.out).mono ?_
  rintro e w1 ⟨hb1, hres⟩
  rcases hres with ⟨ws, v, h1, rfl, h3⟩ | ⟨h1, rfl⟩
  · exact absurd (HN.out.symm.trans h1) (by simp)
  have HZ2 := Lib.hid ((HZ.out.below hb1 HZ.out.lt).alloc (.cells #[.slice none 0 0] 22))
  have HO1 := Lib.hid (show Only (fun _ => False) w (w1.alloc (.cells #[.slice none 0 0] 22)) from (((Only.refl _ w).alloc _).trans (Only.below_all hb1)).alloc _)
  clear hb1
  go_wp2_with (refine wpList_store_blk rfl 48 (.tmp 2) (.tmp 20) rfl w.heap.size wZero rfl rfl 48 wZero HZ2.out rfl Tryd.sizeW wZero_one ?_)
  refine Lib.hid ?_
  intro w2 hz2 ho2
  have HZ3 := Lib.hid hz2
  have HO3 := Lib.hid ho2
  clear hz2 ho2
  go_wp2_with fail
  refine bodyPost_ret (results_cell_tmp rfl _ _ w.heap.size 48 wZero (0, 0) _ rfl HZ3.out Tryd.underlying48 rfl Tryd.sizeW) rfl ?_
  exact ⟨rfl, (HO1.out.step HO3.out (fun k hk => .inr (Nat.le_of_eq hk.symm))).to_below (Nat.le_refl _) (fun _ _ h => h)⟩

set_option maxHeartbeats 4000000 in
theorem parse_empty (ea : Nat → Addr) (s : ByteArray) (rs : List Nat) (w : World) (hs : s.size ≤ 1000000) (ho : allOk rs) (h : s.data.toList = encAll rs) (he : LErr w ea) (hw : wordsL rs = some []) :
    Calls Tryd.prog 17 #[.string s] w fun e w' => e = .returned (.tuple #[.agg wZero, errOf ea 16]) ∧ Below w.heap.size w w' := by
  have HW := Lib.hid (fun W he => words_some ea s rs W hs ho h he)
  have hz := Blk.new w 48 wZero
  have HZ := Lib.hid hz
  have HE := Lib.hid (he.only (S := fun _ => False) ((Only.refl _ w).alloc (.cells wZero 48)) (fun _ h => h.elim))
  have HN := Lib.hid hw
  have HEE := Lib.hid he
  clear h ho he hz hw
  go_enter Tryd.func17, Tryd.ntmps17
  go_wp2_with fail
  refine (HW.out _ HE.out).mono ?_
  rintro e w1 ⟨hb1, hres⟩
  rcases hres with ⟨ws, v, h1, rfl, h3⟩ | ⟨h1, rfl⟩
  rotate_left
  · exact absurd (HN.out.symm.trans h1) (by simp)
  obtain rfl : ws = [] := (Option.some.inj (HN.out.symm.trans h1)).symm
  obtain ⟨ao, cap, rfl, -⟩ := h3.row
  have HZ2 := Lib.hid ((HZ.out.below hb1 HZ.out.lt).alloc (.cells #[.slice ao ([] : List (List Nat)).length cap] 22))
  have HO1 := Lib.hid (show Only (fun _ => False) w (w1.alloc (.cells #[.slice ao ([] : List (List Nat)).length cap] 22)) from (((Only.refl _ w).alloc _).trans (Only.below_all hb1)).alloc _)
  have HE2 := Lib.hid ((HE.out.below hb1).only (S := fun _ => False) ((Only.refl _ w1).alloc (.cells #[.slice ao ([] : List (List Nat)).length cap] 22)) (fun _ h => h.elim))
  clear hb1
  simp only [List.length_nil] at HZ2 HO1 HE2 ⊢
  have ke := HE2.out.none
  go_wp2_with fail
  refine wp_region_held_drew (S := fun W => W.cell? ⟨15, 0, none⟩ = some (.iface 163 (.pointer (some (ea 15))))) (by kernel_rfl) ke ?_
  intro hS
  refine wpAnyH_take (i := 0) (v := .agg wZero) rfl (by kernel_rfl) (by kernel_rfl) (by kernel_rfl) (fun _ _ _ h => h) (.inl ⟨by rfl, fun W _ => by kernel_rfl⟩) hS ?_
  refine wpAnyH_take (i := 1) (v := .iface 163 (.pointer (some (ea 15)))) rfl (by kernel_rfl) (by kernel_rfl) (by kernel_rfl) (fun _ _ _ h => h) (.inl ⟨by rfl, fun W hW => by go_simp⟩) hS ?_
  refine wpAnyH_ready (rs := [2]) (by kernel_rfl) (by simp) ?_
  refine AllReadyH.cons rfl (fun K hK => ?_) AllReadyH.nil
  rw [if_pos (by rfl)]
  refine wp_store_blk 48 (.tmp 2) (.tmp 26) rfl w.heap.size wZero rfl rfl 48 wZero (Blk.drewN HZ2.out 1) rfl Tryd.sizeW wZero_one ?_
  intro w2 hz2 ho2
  have HZ3 := Lib.hid hz2
  have HO3 := Lib.hid ho2
  refine hK.out _ _ (ho2.cell hS (fun h => by have := World.block_lt_of_cell? w _ (HEE.out.none); simp only at h this; omega)) (fun hS => ?_)
  clear hK K
  refine wpAnyH_take (i := 3) (v := .iface 163 (.pointer (some (ea 15)))) rfl (by kernel_rfl) (by kernel_rfl) (by kernel_rfl) (fun _ _ _ h => h) (.inl ⟨by rfl, fun W hW => by go_simp⟩) hS ?_
  refine wpAnyH_done (by kernel_rfl) ?_ _
  clear hz2 ho2
  go_wp2_with fail
  refine bodyPost_ret (results_cell_tmp rfl _ _ w.heap.size 48 wZero (0, 0) _ rfl HZ3.out Tryd.underlying48 rfl Tryd.sizeW) rfl ?_
  exact ⟨rfl, (Only.step (Only.drewN HO1.out 1) HO3.out (fun k hk => .inr (Nat.le_of_eq hk.symm))).to_below (Nat.le_refl _) (fun _ _ h => h)⟩
end Go.Proofs.YtjhmehmmpfnnkaaDoor

namespace Go.Proofs.YtjhmehmmpfnnkaaDoor
open Go.RowKit Utf
set_option maxRecDepth 100000
set_option linter.unusedSimpArgs false
set_option linter.unusedVariables false

theorem ws_good (B : Nat) : ∀ (l : List Nat) (s t : WS), (∀ x ∈ s.out, allOk x ∧ (encAll x).length ≤ B) → allOk s.cur → allOk l → (encAll s.cur).length + (encAll l).length ≤ B → wsRun s l = some t →
    (∀ x ∈ t.out, allOk x ∧ (encAll x).length ≤ B) ∧ allOk t.cur ∧ (encAll t.cur).length ≤ B := by
  intro l
  induction l with
  | nil =>
    intro s t h1 h2 h3 h4 h
    cases h
    exact ⟨h1, h2, by omega⟩
  | cons c l ih =>
    intro s t h1 h2 h3 h4 h
    simp only [wsRun] at h
    cases hs : s.step c with
    | none => rw [hs] at h; cases h
    | some u =>
      rw [hs] at h
      have hc := allOk_cons.1 h3
      rw [encAll_cons, List.length_append] at h4
      have hu : (∀ x ∈ u.out, allOk x ∧ (encAll x).length ≤ B) ∧ allOk u.cur ∧ (encAll u.cur).length + (encAll l).length ≤ B := by
        have hnew : allOk (s.cur ++ [c]) ∧ (encAll (s.cur ++ [c])).length + (encAll l).length ≤ B := by
          refine ⟨allOk_append.2 ⟨h2, allOk_cons.2 ⟨hc.1, allOk_nil⟩⟩, ?_⟩
          rw [encAll_append, encAll_cons, encAll_nil, List.append_nil, List.length_append]
          omega
        unfold WS.step at hs
        split at hs
        · cases hs
        · cases hs
          exact ⟨h1, h2, by omega⟩
        · cases hs
          refine ⟨?_, allOk_nil, by simp [encAll_nil]; omega⟩
          intro x hx
          simp only [List.mem_append, List.mem_singleton] at hx
          rcases hx with hx | rfl
          · exact h1 x hx
          · exact ⟨h2, by omega⟩
        · cases hs
          exact ⟨h1, hnew.1, hnew.2⟩
      exact ih u t hu.1 hu.2.1 hc.2 hu.2.2 h

theorem words_good {rs : List Nat} {ws : List (List Nat)} (ho : allOk rs) (hl : (encAll rs).length ≤ 1000000) (h : wordsL rs = some ws) : Good ws ∧ ws.length ≤ 1000001 := by
  unfold wordsL at h
  cases hr : wsRun ws0 rs with
  | none => rw [hr] at h; cases h
  | some s =>
    rw [hr] at h
    obtain ⟨h1, h2, h3⟩ := ws_good 1000000 rs ws0 s (fun x hx => by cases hx) allOk_nil ho (by simp [ws0, encAll_nil]; exact hl) hr
    have h4 := wsRun_len _ _ _ hr
    have h5 := encAll_len rs
    have hfin : s.fin = some ws := h
    have hout : s.out.length ≤ rs.length := by simpa [ws0] using h4
    have hmem : ∀ l : List (List Nat), l = s.out ∨ l = s.out ++ [s.cur] → Good l := by
      intro l hl x hx
      rcases hl with rfl | rfl
      · exact h1 x hx
      · rcases List.mem_append.1 hx with hx | hx
        · exact h1 x hx
        · simp only [List.mem_singleton] at hx
          subst hx
          exact ⟨h2, h3⟩
    unfold WS.fin at hfin
    split at hfin
    · rename_i hm
      cases hfin
      exact ⟨hmem _ (.inl rfl), by omega⟩
    · rename_i hm
      cases hfin
      exact ⟨hmem _ (.inr rfl), by rw [List.length_append]; simp only [List.length_singleton]; omega⟩
    · rename_i hm
      cases hfin
      exact ⟨hmem _ (.inr rfl), by rw [List.length_append]; simp only [List.length_singleton]; omega⟩
    · cases hfin
    · cases hfin

theorem Only.iterAt {w : World} {k : Nat} {s : ByteArray} {p : Nat} (h : w.heap[k]? = some (.stringIter s p)) (p' : Nat) : Only (fun i => i = k) w (w.iterAt k s p') :=
  ⟨rfl, rfl, rfl, by rw [Lib.iterAt_size]; exact Nat.le_refl _, fun i _ hn => Lib.iterAt_other _ _ _ _ _ hn⟩

/-- How the reading of a line stands: w: the world when the call began. -/
structure PSt (w : World) (ea : Nat → Addr) (K : Nat → Prop) (rb sb c b : Nat) (wr : World) (cs : Array Value) (ws : List (List Nat)) (n : Nat) : Prop where
  only : Only (fun _ => False) w wr
  res : Blk wr rb 48 wZero
  tab : Blk wr sb 79 shapeCells
  rat : RAt wr b ea ws n K
  ob : Blk wr c 48 cs
  err : LErr wr ea
  good : Good ws
  base : w.heap.size ≤ rb
  o1 : rb < sb
  o2 : sb < c
  o3 : c < b
  top : gTop ≤ rb
  klt : ∀ k, K k → k < c
  krb : ¬ K rb

section
variable {w : World} {ea : Nat → Addr} {K : Nat → Prop} {rb sb c b : Nat} {wr w' : World} {cs : Array Value} {ws : List (List Nat)} {n : Nat}
theorem PSt.kc (h : PSt w ea K rb sb c b wr cs ws n) : ¬ K c := fun hk => Nat.lt_irrefl _ (h.klt c hk)
theorem PSt.kb (h : PSt w ea K rb sb c b wr cs ws n) : ¬ K b := fun hk => by have := h.klt b hk; have := h.o3; omega
/-- Nothing of it turns. -/
theorem PSt.keep {S : Nat → Prop} (h : PSt w ea K rb sb c b wr cs ws n) (ho : Only S wr w') (hs : ∀ k, S k → b < k) : PSt w ea K rb sb c b w' cs ws n := by
  have e1 := h.o1
  have e2 := h.o2
  have e3 := h.o3
  have e4 := h.base
  have e5 := h.top
  exact ⟨h.only.step ho (fun k hk => .inr (by have := hs k hk; omega)), h.res.only ho (fun k => by have := hs _ k; omega), h.tab.only ho (fun k => by have := hs _ k; omega),
    h.rat.only ho (fun k => by have := hs _ k; omega) (fun k hk hkk => by have := hs k hk; have := h.klt k hkk; omega), h.ob.only ho (fun k => by have := hs _ k; omega),
    h.err.only ho (fun k hk => by have := hs k hk; omega), h.good, e4, e1, e2, e3, e5, h.klt, h.krb⟩
/-- The reader and the op turn. -/
theorem PSt.turn (h : PSt w ea K rb sb c b wr cs ws n) {cs' : Array Value} {ws' : List (List Nat)} {n' : Nat} (ho : Only (fun k => k = b ∨ k = c) wr w') (hr : RAt w' b ea ws' n' K) (hb : Blk w' c 48 cs') (hg : Good ws') : PSt w ea K rb sb c b w' cs' ws' n' := by
  have e1 := h.o1
  have e2 := h.o2
  have e3 := h.o3
  have e4 := h.base
  have e5 := h.top
  exact ⟨h.only.step ho (fun k hk => .inr (by omega)), h.res.only ho (by omega), h.tab.only ho (by omega), hr, hb, h.err.only ho (fun k hk => by omega), hg, e4, e1, e2, e3, e5, h.klt, h.krb⟩
theorem PSt.read (h : PSt w ea K rb sb c b wr cs ws n) {o : Nat} {rv : Option Value} {ws' : List (List Nat)} {n' : Nat} {e : Ending} (hp : ReadPost b c o 48 cs ea K wr (rv, ws', n') e w') (hg : Good ws') : PSt w ea K rb sb c b w' (putAt cs o rv) ws' n' :=
  h.turn hp.2.1 hp.2.2.1 hp.2.2.2 hg
end

/-- One field is read: whatever field it is. -/
theorem read_fld {w : World} {ea : Nat → Addr} {K : Nat → Prop} {rb sb c b : Nat} {wr : World} {p : PW} {vo vg : Value} {ws : List (List Nat)} {n : Nat} (f : Fld) (h : PSt w ea K rb sb c b wr (wCells p vo vg) ws n) (hz : p.getN f = 0 ∧ p.getS f = []) :
    Calls Tryd.prog 37 #[.pointer (some ⟨b, 0, none⟩), ptrF c f] wr fun e w' => e = .returned (.tuple #[]) ∧ Only (fun k => k = b ∨ k = c) wr w' ∧
      ∃ p' ws' n', (if isNum f = true then (p', ws', n') = (p.setN ((rdNum ws n).1.getD 0) f, (rdNum ws n).2.1, (rdNum ws n).2.2) else (p', ws', n') = (p.setS ((rdStr ws n).1.getD []) f, (rdStr ws n).2.1, (rdStr ws n).2.2)) ∧
        PSt w ea K rb sb c b w' (wCells p' vo vg) ws' n' := by
  have hbc : b ≠ c := by have := h.o3; omega
  have hb : gTop ≤ b := by have := h.o1; have := h.o2; have := h.o3; have := h.top; omega
  have hc : gTop ≤ c := by have := h.o1; have := h.o2; have := h.top; omega
  cases hf : isNum f with
  | true =>
    have hp : ptrF c f = .iface 95 (.pointer (some ⟨c, offF f, none⟩)) := by unfold ptrF; rw [hf]; rfl
    rw [hp]
    have h0 : (wCells p vo vg)[offF f]? = some (.int .i64 0) := by rw [wCells_getN p vo vg f hf, hz.1]
    refine (read_num b c (offF f) 48 (wCells p vo vg) 0 ea ws n K wr h.rat h.kb h.kc h.good h.ob h0 hbc hb hc h.err).mono ?_
    intro e w' hp
    have h2 := h.read hp (rdNum_good h.good)
    rw [putNum _ _ _ h0, wCells_setN p vo vg f hf] at h2
    exact ⟨hp.1, hp.2.1, _, _, _, by rw [if_pos rfl], h2⟩
  | false =>
    have hp : ptrF c f = .iface 100 (.pointer (some ⟨c, offF f, none⟩)) := by unfold ptrF; rw [hf]; rfl
    rw [hp]
    have h0 : (wCells p vo vg)[offF f]? = some (.string ByteArray.empty) := by rw [wCells_getS p vo vg f hf, hz.2]; rfl
    refine (read_str b c (offF f) 48 (wCells p vo vg) ByteArray.empty ea ws n K wr h.rat h.kb h.kc h.good h.ob h0 hbc hb hc h.err).mono ?_
    intro e w' hp
    have h2 := h.read hp (rdStr_good h.good)
    rw [putStr _ _ _ h0, wCells_setS p vo vg f hf] at h2
    exact ⟨hp.1, hp.2.1, _, _, _, by rw [if_neg (by decide)], h2⟩

theorem rdFlds_cons (f : Fld) (fs : List Fld) (p : PW) (ws : List (List Nat)) (n : Nat) {p' : PW} {ws' : List (List Nat)} {n' : Nat}
    (h : if isNum f = true then (p', ws', n') = (p.setN ((rdNum ws n).1.getD 0) f, (rdNum ws n).2.1, (rdNum ws n).2.2) else (p', ws', n') = (p.setS ((rdStr ws n).1.getD []) f, (rdStr ws n).2.1, (rdStr ws n).2.2)) :
    rdFlds (f :: fs) p ws n = rdFlds fs p' ws' n' := by
  simp only [rdFlds]
  split at h
  · rename_i hf
    rw [if_pos hf]
    cases h
    rfl
  · rename_i hf
    rw [if_neg hf]
    cases h
    rfl
theorem clear_next (f : Fld) (fs : List Fld) (p : PW) (ws : List (List Nat)) (n : Nat) {p' : PW} {ws' : List (List Nat)} {n' : Nat} (hc : Clear p (f :: fs)) (hn : (f :: fs).Nodup)
    (h : if isNum f = true then (p', ws', n') = (p.setN ((rdNum ws n).1.getD 0) f, (rdNum ws n).2.1, (rdNum ws n).2.2) else (p', ws', n') = (p.setS ((rdStr ws n).1.getD []) f, (rdStr ws n).2.1, (rdStr ws n).2.2)) : Clear p' fs := by
  split at h
  · cases h; exact hc.setN hn _
  · cases h; exact hc.setS hn _
theorem clear_start (k e : Int) (fs : List Fld) : Clear { PW.zero with kind := k, ekind := e } fs := by
  intro f _
  cases f <;> exact ⟨rfl, rfl⟩
theorem rdLen_fld (f : Fld) (p : PW) (ws : List (List Nat)) (n : Nat) {p' : PW} {ws' : List (List Nat)} {n' : Nat}
    (h : if isNum f = true then (p', ws', n') = (p.setN ((rdNum ws n).1.getD 0) f, (rdNum ws n).2.1, (rdNum ws n).2.2) else (p', ws', n') = (p.setS ((rdStr ws n).1.getD []) f, (rdStr ws n).2.1, (rdStr ws n).2.2)) : ws'.length ≤ ws.length := by
  split at h
  · cases h; exact rdNum_len _ _
  · cases h; exact rdStr_len _ _

/-- What follows the fields is read: whatever the verb. -/
theorem rest_any {w : World} {ea : Nat → Addr} {K : Nat → Prop} {rb sb c b : Nat} {wr : World} {p : PW} {ws : List (List Nat)} {n : Nat} (k : Nat) (hk : k = 111 ∨ k = 103 ∨ k = 0) (h : PSt w ea K rb sb c b wr (wCells p (.slice none 0 0) (.slice none 0 0)) ws n) (hl : ws.length ≤ 1000000) (hkw : ∀ i, K i → i < wr.heap.size) :
    Calls Tryd.prog 39 #[.pointer (some ⟨b, 0, none⟩), .pointer (some ⟨c, 0, none⟩), .int .i32 (k : Int)] wr fun e w' => e = .returned (.tuple #[]) ∧ Only (fun i => i = b ∨ i = c) wr w' ∧
      ∃ vo vg ws', RAt w' b ea ws' (restAny k ws n).2.2 K ∧ Blk w' c 48 (wCells p vo vg) ∧ w'.ownsRow wr.heap.size 103 5 vo (restAny k ws n).1.length ((restAny k ws n).1.flatMap opCells) ∧ w'.ownsRow wr.heap.size 3 1 vg (restAny k ws n).2.1.length (intRow (restAny k ws n).2.1) := by
  have hbc : b ≠ c := by have := h.o3; omega
  have hb : gTop ≤ b := by have := h.o1; have := h.o2; have := h.o3; have := h.top; omega
  have hc : gTop ≤ c := by have := h.o1; have := h.o2; have := h.top; omega
  rcases hk with rfl | rfl | rfl
  · refine (rest_ops b c _ ea ws n K wr h.rat h.kb h.kc hkw h.good h.ob rfl rfl hbc hb hc h.err hl).mono ?_
    rintro e w' ⟨h1, h2, ⟨ws', h3⟩, v, h4, h5⟩
    rw [wCells_ops] at h4
    exact ⟨h1, h2, v, .slice none 0 0, ws', h3, h4, h5, World.ownsRow_nil _ _ _ _⟩
  · refine (rest_nums b c _ ea ws n K wr h.rat h.kb h.kc hkw h.good h.ob rfl rfl hbc hb hc h.err hl).mono ?_
    rintro e w' ⟨h1, h2, ⟨ws', h3⟩, v, h4, h5⟩
    rw [wCells_gone] at h4
    exact ⟨h1, h2, .slice none 0 0, v, ws', h3, h4, World.ownsRow_nil _ _ _ _, h5⟩
  · refine (restN_any b c ea ws n K wr h.rat h.kb hb h.err).mono ?_
    rintro e w' ⟨h1, h2, ws', h3⟩
    exact ⟨h1, h2.mono (fun i hi => .inl hi), .slice none 0 0, .slice none 0 0, ws', h3, h.ob.only h2 (fun e => hbc e.symm), World.ownsRow_nil _ _ _ _, World.ownsRow_nil _ _ _ _⟩
end Go.Proofs.YtjhmehmmpfnnkaaDoor

namespace Go.Proofs.YtjhmehmmpfnnkaaDoor
open Go.RowKit Utf
set_option maxRecDepth 100000
set_option linter.unusedSimpArgs false
set_option linter.unusedVariables false

/-- The cells of an op of the reference's: the first 21 of a world's op. -/
def rCells (p : PW) (vo vg : Value) : Array Value :=
  #[.int .i64 p.kind, .int .i64 p.who, .int .i64 p.n, .int .i64 p.fresh, vo, .int .i64 p.ekind, .int .i64 p.shard, .int .i64 p.other, .int .i64 p.server, .int .i64 0, .int .i64 0, .slice none 0 0, txt p.ekey,
    .int .i64 0, .int .i64 0, .int .i64 0, .slice none 0 0, txt p.key, txt p.lo, txt p.hi, vg]
def rZero : Array Value := #[.int .i64 0, .int .i64 0, .int .i64 0, .int .i64 0, .slice none 0 0, .int .i64 0, .int .i64 0, .int .i64 0, .int .i64 0, .int .i64 0, .int .i64 0, .slice none 0 0, .string ByteArray.empty,
    .int .i64 0, .int .i64 0, .int .i64 0, .slice none 0 0, .string ByteArray.empty, .string ByteArray.empty, .string ByteArray.empty, .slice none 0 0]
theorem rZero_one : rZero.all (·.oneCell') = true := by kernel_rfl
theorem Tryd.sizeR : (Tryd.prog.info? 52).map (·.size) = some 21 := by kernel_rfl
theorem rCells_size (p : PW) (vo vg : Value) : (rCells p vo vg).size = 21 := rfl
theorem rZero_size : rZero.size = 21 := rfl
theorem rCells_one (p : PW) (vo vg : Value) (h1 : ∃ a n c, vo = .slice a n c) (h2 : ∃ a n c, vg = .slice a n c) : (rCells p vo vg).all (·.oneCell') = true := by
  obtain ⟨a, n, c, rfl⟩ := h1
  obtain ⟨a', n', c', rfl⟩ := h2
  simp [rCells, txt, Value.oneCell']
theorem rCells_setN (p : PW) (vo vg : Value) (f : Fld) (hf : isNum f = true) (v : Int) : (rCells p vo vg).setIfInBounds (offF f) (.int .i64 v) = rCells (p.setN v f) vo vg := by
  cases f <;> first | rfl | cases hf
theorem rCells_setS (p : PW) (vo vg : Value) (f : Fld) (hf : isNum f = false) (v : List Nat) : (rCells p vo vg).setIfInBounds (offF f) (txt v) = rCells (p.setS v f) vo vg := by
  cases f <;> first | rfl | cases hf
theorem rCells_getN (p : PW) (vo vg : Value) (f : Fld) (hf : isNum f = true) : (rCells p vo vg)[offF f]? = some (.int .i64 (p.getN f)) := by
  cases f <;> first | rfl | cases hf
theorem rCells_getS (p : PW) (vo vg : Value) (f : Fld) (hf : isNum f = false) : (rCells p vo vg)[offF f]? = some (txt (p.getS f)) := by
  cases f <;> first | rfl | cases hf
theorem rCells_ops (p : PW) (vo vg v : Value) : (rCells p vo vg).setIfInBounds 4 v = rCells p v vg := rfl
theorem rCells_gone (p : PW) (vo vg v : Value) : (rCells p vo vg).setIfInBounds 20 v = rCells p vo v := rfl

/-- What tidewaterref31.Parse answers, the words given. -/
def RefParsePost (ws : List (List Nat)) (w : World) (e : Ending) (w' : World) : Prop :=
  Below w.heap.size w w' ∧ ((∃ m, parseW ws = (m, none) ∧ e = .returned (.tuple #[.agg rZero, .int .i64 (m : Nat)])) ∨
    (∃ l vo vg, parseW ws = (0, some l) ∧ e = .returned (.tuple #[.agg (rCells l.p vo vg), .int .i64 0]) ∧
      w'.ownsRow w.heap.size 103 5 vo l.ops.length (l.ops.flatMap opCells) ∧ w'.ownsRow w.heap.size 3 1 vg l.gone.length (intRow l.gone)))

set_option maxHeartbeats 4000000 in
/-- A text that is none, or not words. -/
theorem refParse_bad (s : ByteArray) (w : World) (m : Nat) (hm : (wordsR s) = ([], m)) (hm0 : m ≠ 0) (hm20 : m < 20) (hs : s.size ≤ 1000000) :
    Calls Tryd.prog 18 #[.string s] w fun e w' => e = .returned (.tuple #[.agg rZero, .int .i64 (m : Nat)]) ∧ Below w.heap.size w w' := by
  have HW := Lib.hid (fun W => refWords_all s W hs)
  rw [hm] at HW
  have hz := Blk.new w 52 rZero
  have HZ := Lib.hid hz
  have hne : ((m : Int) != 0) = true := by simp; omega
  clear hz hm
  go_enter Tryd.func18, Tryd.ntmps18
  go_wp2_with fail
  refine (HW.out _).mono ?_
  rintro e w1 ⟨v, rfl, -, hb1⟩
  have HZ2 := Lib.hid (HZ.out.below hb1 HZ.out.lt)
  have HO1 := Lib.hid (show Only (fun _ => False) w w1 from ((Only.refl _ w).alloc _).trans (Only.below_all hb1))
  clear hb1
  go_wp2_with (refine wpList_store_blk rfl 52 (.tmp 2) (.tmp 21) rfl w.heap.size rZero rfl rfl 52 rZero HZ2.out rfl Tryd.sizeR rZero_one ?_)
  refine Lib.hid ?_
  intro w2 hz2 ho2
  have HZ3 := Lib.hid hz2
  have HO3 := Lib.hid ho2
  clear hz2 ho2
  go_wp2_with fail
  refine bodyPost_ret (results_cell_tmp rfl _ _ w.heap.size 52 rZero (0, 0) _ rfl HZ3.out Tryd.underlying52 rfl Tryd.sizeR) rfl ?_
  exact ⟨rfl, (HO1.out.step HO3.out (fun k hk => .inr (Nat.le_of_eq hk.symm))).to_below (Nat.le_refl _) (fun _ _ h => h)⟩
end Go.Proofs.YtjhmehmmpfnnkaaDoor

namespace Go.Proofs.YtjhmehmmpfnnkaaDoor
open Go.RowKit Utf
set_option maxRecDepth 100000
set_option linter.unusedSimpArgs false
set_option linter.unusedVariables false

/-- What an op holds beside its fields. -/
structure XC where
  x9 : Int
  x10 : Int
  ao : Option Addr
  no : Nat
  co : Nat
  x13 : Int
  x14 : Int
  x15 : Int
  ad : Option Addr
  nd : Nat
  cd : Nat
def XC.zero : XC := ⟨0, 0, none, 0, 0, 0, 0, 0, none, 0, 0⟩
/-- The document's op. -/
def qC (p : BP) (vo vg : Value) (x : XC) : Array Value :=
  #[.int .i64 p.kind, .int .i64 p.who, .int .i64 p.n, .int .i64 p.fresh, vo, .int .i64 p.ekind, .int .i64 p.shard, .int .i64 p.other, .int .i64 p.server, .int .i64 x.x9, .int .i64 x.x10, .slice x.ao x.no x.co, .string p.ekey,
    .int .i64 x.x13, .int .i64 x.x14, .int .i64 x.x15, .slice x.ad x.nd x.cd, .string p.key, .string p.lo, .string p.hi, vg]
/-- The world's op. -/
def oC (p : BP) (vo vg : Value) (x : XC) (x21 x22 x23 : Int) : Array Value :=
  #[.int .i64 p.kind, .int .i64 p.who, .int .i64 p.n, .int .i64 p.fresh, vo, .int .i64 p.ekind, .int .i64 p.shard, .int .i64 p.other, .int .i64 p.server, .int .i64 x.x9, .int .i64 x.x10, .slice x.ao x.no x.co, .string p.ekey,
    .int .i64 x.x13, .int .i64 x.x14, .int .i64 x.x15, .slice x.ad x.nd x.cd, .string p.key, .string p.lo, .string p.hi, vg, .int .u64 x21, .int .i64 x22, .int .i64 x23]
theorem wCells_oC (p : PW) (vo vg : Value) : wCells p vo vg = oC p.b vo vg XC.zero 0 0 0 := rfl
theorem rCells_qC (p : PW) (vo vg : Value) : rCells p vo vg = qC p.b vo vg XC.zero := rfl
theorem oC_getN (p : BP) (vo vg : Value) (x : XC) (a b c : Int) (f : Fld) (hf : isNum f = true) : (oC p vo vg x a b c)[offF f]? = some (.int .i64 (p.getN f)) := by
  cases f <;> first | rfl | cases hf
theorem oC_getS (p : BP) (vo vg : Value) (x : XC) (a b c : Int) (f : Fld) (hf : isNum f = false) : (oC p vo vg x a b c)[offF f]? = some (.string (p.getS f)) := by
  cases f <;> first | rfl | cases hf
theorem qC_getN (p : BP) (vo vg : Value) (x : XC) (f : Fld) (hf : isNum f = true) : (qC p vo vg x)[offF f]? = some (.int .i64 (p.getN f)) := by
  cases f <;> first | rfl | cases hf
theorem qC_getS (p : BP) (vo vg : Value) (x : XC) (f : Fld) (hf : isNum f = false) : (qC p vo vg x)[offF f]? = some (.string (p.getS f)) := by
  cases f <;> first | rfl | cases hf
theorem oC_size (p : BP) (vo vg : Value) (x : XC) (a b c : Int) : (oC p vo vg x a b c).size = 24 := rfl
theorem qC_size (p : BP) (vo vg : Value) (x : XC) : (qC p vo vg x).size = 21 := rfl

theorem results_cell1 {P : Program} {fn : Func} {p : Tmp} {ty : TypeId} (h : fn.results = #[.cell p ty]) (tmps : Array Value) (w : World) (g : Nat) (t : TypeId) (cs : Array Value) (fr : Nat × Nat) (d : TypeDesc)
    (hp : tmps.getD p undef = .pointer (some ⟨g, 0, none⟩)) (hg : w.heap[g]? = some (.cells cs t fr))
    (hu : P.underlying ty = some d) (hd : (match d with | .struct _ | .array _ _ => true | _ => false) = true) (hi : (P.info? ty).map (·.size) = some cs.size) :
    (results fn tmps).run P w = .ok (.agg cs) w := by
  have hp' : tmps[p]?.getD undef = .pointer (some ⟨g, 0, none⟩) := by simpa using hp
  simp [results, h, hp', asAddr, run_loadVar_row w g t ty cs fr d hg hu hd hi]
theorem Tryd.sizeEN : (Tryd.prog.info? 43).map (·.size) = some 12 := by kernel_rfl

set_option maxHeartbeats 4000000 in
theorem of_any (p : BP) (ao ag : Option Addr) (no ng co cg : Nat) (x : XC) (x21 x22 x23 : Int) (w : World) :
    Calls Tryd.prog 20 #[.agg (oC p (.slice ao no co) (.slice ag ng cg) x x21 x22 x23)] w fun e w' => e = .returned (.agg (qC p (.slice ao no co) (.slice ag ng cg) x)) ∧ Below w.heap.size w w' := by
  have hB : Blk ((w.alloc (.cells (oC p (.slice ao no co) (.slice ag ng cg) x x21 x22 x23) 48)).alloc (.cells rZero 52)) w.heap.size 48 (oC p (.slice ao no co) (.slice ag ng cg) x x21 x22 x23) := (Blk.new w _ _).alloc _
  have hZ : Blk ((w.alloc (.cells (oC p (.slice ao no co) (.slice ag ng cg) x x21 x22 x23) 48)).alloc (.cells rZero 52)) (w.heap.size + 1) 52 rZero := by
    have := Blk.new (w.alloc (.cells (oC p (.slice ao no co) (.slice ag ng cg) x x21 x22 x23) 48)) 52 rZero
    rw [World.size_alloc] at this
    exact this
  have hBL : Below w.heap.size w ((w.alloc (.cells (oC p (.slice ao no co) (.slice ag ng cg) x x21 x22 x23) 48)).alloc (.cells rZero 52)) := ((Below.refl _ w).alloc (Nat.le_refl _) _).alloc (by simp) _
  have hSZ : (qC p (.slice ao no co) (.slice ag ng cg) x).size = rZero.size := (qC_size ..).trans rZero_size.symm
  have hSI : (Tryd.prog.info? 52).map (·.size) = some (qC p (.slice ao no co) (.slice ag ng cg) x).size := by rw [qC_size]; exact Tryd.sizeR
  have h1 : (qC p (.slice ao no co) (.slice ag ng cg) x).all (·.oneCell') = true := by simp [qC, Value.oneCell']
  have HE := Lib.hid (show World.rangeAt ((w.alloc (.cells (oC p (.slice ao no co) (.slice ag ng cg) x x21 x22 x23) 48)).alloc (.cells rZero 52)) w.heap.size 5 [.int .i64 p.ekind, .int .i64 p.shard, .int .i64 p.other, .int .i64 p.server, .int .i64 x.x9, .int .i64 x.x10, .slice x.ao x.no x.co, .string p.ekey, .int .i64 x.x13, .int .i64 x.x14, .int .i64 x.x15, .slice x.ad x.nd x.cd] from fun j v hj => by
    rw [hB.cell]
    rcases j with _ | _ | _ | _ | _ | _ | _ | _ | _ | _ | _ | _ | j <;> first | exact hj | (simp at hj))
  have HZ := Lib.hid hZ
  have HBL := Lib.hid hBL
  have HSZ := Lib.hid hSZ
  have HSI := Lib.hid hSI
  have H1 := Lib.hid h1
  clear hB hZ hBL hSZ hSI h1
  unfold rZero oC at HE HZ HBL
  unfold oC
  go_enter Tryd.func20, Tryd.ntmps20
  go_wp2_with (first | (refine wpList_load_mid rfl 43 (.tmp 13) rfl w.heap.size 5 rfl _ _ HE.out Tryd.underlying43 rfl Tryd.sizeEN ?_) | (refine wpList_store_blk rfl 52 (.tmp 2) (.tmp 21) rfl (w.heap.size + 1) (qC p (.slice ao no co) (.slice ag ng cg) x) rfl rfl 52 _ HZ.out HSZ.out HSI.out H1.out ?_))
  refine Lib.hid ?_
  intro w2 hz2 ho2
  have HZ2 := Lib.hid hz2
  have HB2 := Lib.hid (show Below w.heap.size w w2 from HBL.out.trans (ho2.to_below (by simp; omega) (fun k hk h => by subst h; omega)))
  clear hz2 ho2 HZ HE HBL
  go_wp2_with fail
  refine bodyPost_ret (results_cell1 rfl _ _ (w.heap.size + 1) 52 (qC p (.slice ao no co) (.slice ag ng cg) x) (0, 0) _ rfl HZ2.out Tryd.underlying52 rfl HSI.out) rfl ?_
  exact ⟨rfl, HB2.out⟩
end Go.Proofs.YtjhmehmmpfnnkaaDoor
