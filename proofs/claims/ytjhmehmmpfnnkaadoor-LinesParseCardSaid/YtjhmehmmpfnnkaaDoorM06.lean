/-
  Plain: the verbs of a line, and the program's table of them.
-/
import Derived.Test.YtjhmehmmpfnnkaaDoorM05
import Derived.Deep.MidRow
namespace Go.Proofs.YtjhmehmmpfnnkaaDoor
open Go.RowKit Utf
set_option maxRecDepth 100000
set_option linter.unusedSimpArgs false
set_option linter.unusedVariables false

/-- A verb's field. -/
inductive Fld | who | n | fresh | shard | other | server | key | lo | hi | ekey
deriving DecidableEq

/-- A verb: its name (bytes), the op's kind, the entry's kind, its fields, what follows (111: operations, 103: numbers, 0: nothing). -/
structure Verb where
  name : List UInt8
  kind : Nat
  ekind : Nat
  flds : List Fld
  rest : Nat

def verbs : List Verb := [
  ⟨[98, 101, 103, 105, 110], 1, 0, [.who], 111⟩, ⟨[115, 116, 101, 112], 2, 0, [.who, .n], 0⟩, ⟨[109, 111, 118, 101], 3, 2, [.shard, .server], 0⟩,
  ⟨[115, 112, 108, 105, 116], 3, 3, [.shard, .other, .server, .ekey], 0⟩, ⟨[109, 101, 114, 103, 101], 3, 4, [.shard, .other], 0⟩,
  ⟨[103, 101, 116], 4, 0, [.n, .key], 0⟩, ⟨[115, 99, 97, 110], 5, 0, [.n, .who, .lo, .hi], 0⟩, ⟨[99, 114, 97, 115, 104], 6, 0, [.n], 0⟩,
  ⟨[115, 116, 111, 112], 7, 0, [.n, .who], 0⟩, ⟨[117, 112], 8, 0, [.n], 0⟩, ⟨[108, 111, 115, 101], 9, 0, [], 0⟩, ⟨[116, 114, 105, 109], 13, 0, [], 0⟩,
  ⟨[99, 104, 97, 110, 103, 101], 11, 0, [], 0⟩, ⟨[114, 101, 99, 111, 110], 10, 0, [.who, .fresh], 103⟩, ⟨[99, 104, 101, 99, 107], 12, 0, [.n, .who], 0⟩,
  ⟨[118, 111, 116, 101, 114], 14, 0, [.n, .who], 0⟩, ⟨[114, 101, 115, 116, 97, 114, 116], 15, 0, [.n], 0⟩]

/-- The program's letter of a field. -/
def letP : Fld → Nat
  | .who => 119 | .n => 110 | .fresh => 102 | .shard => 115 | .other => 111 | .server => 118 | .key => 107 | .lo => 108 | .hi => 104 | .ekey => 101

def shapeOf (v : Verb) : List Value := [.string (mkS v.name), .int .i64 (v.kind : Int), .int .i64 (v.ekind : Int), .string (mkS (encAll (v.flds.map letP))), .int .i32 (v.rest : Int)]
def shapeCells : Array Value := (verbs.flatMap shapeOf).toArray

theorem flat5 {α β : Type} (f : α → List β) (hf : ∀ x, (f x).length = 5) : ∀ (l : List α) (k : Nat) (hk : k < l.length) (j : Nat), j < 5 → (l.flatMap f)[5 * k + j]? = (f l[k])[j]?
  | [], k, hk, _, _ => by simp at hk
  | x :: l, 0, _, j, hj => by
    rw [List.flatMap_cons, Nat.mul_zero, Nat.zero_add, List.getElem?_append_left (by rw [hf]; exact hj)]
    rfl
  | x :: l, k + 1, hk, j, hj => by
    rw [List.flatMap_cons, List.getElem?_append_right (by rw [hf]; omega), hf]
    have e : 5 * (k + 1) + j - 5 = 5 * k + j := by omega
    rw [e, flat5 f hf l k (by simpa using hk) j hj]
    rfl

theorem shape_at (k : Nat) (hk : k < verbs.length) (j : Nat) (hj : j < 5) : shapeCells[5 * k + j]? = (shapeOf verbs[k])[j]? := by
  unfold shapeCells
  rw [List.getElem?_toArray]
  exact flat5 shapeOf (fun _ => rfl) verbs k hk j hj

set_option maxHeartbeats 1000000 in
theorem shapes_any (w : World) :
    Calls Tryd.prog 34 #[] w fun e w' => e = .returned (.slice (some ⟨w.heap.size, 0, none⟩) 17 17) ∧ w' = w.alloc (.cells shapeCells 79) := by
  have HS := Lib.hid (show shapeCells = #[Value.string ⟨#[98, 101, 103, 105, 110]⟩, Value.int .i64 1, Value.int .i64 0, Value.string ⟨#[119]⟩, Value.int .i32 111, Value.string ⟨#[115, 116, 101, 112]⟩, Value.int .i64 2, Value.int .i64 0, Value.string ⟨#[119, 110]⟩, Value.int .i32 0,
    Value.string ⟨#[109, 111, 118, 101]⟩, Value.int .i64 3, Value.int .i64 2, Value.string ⟨#[115, 118]⟩, Value.int .i32 0, Value.string ⟨#[115, 112, 108, 105, 116]⟩, Value.int .i64 3, Value.int .i64 3, Value.string ⟨#[115, 111, 118, 101]⟩, Value.int .i32 0,
    Value.string ⟨#[109, 101, 114, 103, 101]⟩, Value.int .i64 3, Value.int .i64 4, Value.string ⟨#[115, 111]⟩, Value.int .i32 0, Value.string ⟨#[103, 101, 116]⟩, Value.int .i64 4, Value.int .i64 0, Value.string ⟨#[110, 107]⟩, Value.int .i32 0,
    Value.string ⟨#[115, 99, 97, 110]⟩, Value.int .i64 5, Value.int .i64 0, Value.string ⟨#[110, 119, 108, 104]⟩, Value.int .i32 0, Value.string ⟨#[99, 114, 97, 115, 104]⟩, Value.int .i64 6, Value.int .i64 0, Value.string ⟨#[110]⟩, Value.int .i32 0,
    Value.string ⟨#[115, 116, 111, 112]⟩, Value.int .i64 7, Value.int .i64 0, Value.string ⟨#[110, 119]⟩, Value.int .i32 0, Value.string ⟨#[117, 112]⟩, Value.int .i64 8, Value.int .i64 0, Value.string ⟨#[110]⟩, Value.int .i32 0,
    Value.string ⟨#[108, 111, 115, 101]⟩, Value.int .i64 9, Value.int .i64 0, Value.string ⟨#[]⟩, Value.int .i32 0, Value.string ⟨#[116, 114, 105, 109]⟩, Value.int .i64 13, Value.int .i64 0, Value.string ⟨#[]⟩, Value.int .i32 0,
    Value.string ⟨#[99, 104, 97, 110, 103, 101]⟩, Value.int .i64 11, Value.int .i64 0, Value.string ⟨#[]⟩, Value.int .i32 0, Value.string ⟨#[114, 101, 99, 111, 110]⟩, Value.int .i64 10, Value.int .i64 0, Value.string ⟨#[119, 102]⟩, Value.int .i32 103,
    Value.string ⟨#[99, 104, 101, 99, 107]⟩, Value.int .i64 12, Value.int .i64 0, Value.string ⟨#[110, 119]⟩, Value.int .i32 0, Value.string ⟨#[118, 111, 116, 101, 114]⟩, Value.int .i64 14, Value.int .i64 0, Value.string ⟨#[110, 119]⟩, Value.int .i32 0,
    Value.string ⟨#[114, 101, 115, 116, 97, 114, 116]⟩, Value.int .i64 15, Value.int .i64 0, Value.string ⟨#[110]⟩, Value.int .i32 0] by kernel_rfl)
  go_enter Tryd.func34, Tryd.ntmps34
  go_wp2_with fail
  go_ret
  rw [HS.out]
  exact ⟨rfl, rfl⟩
end Go.Proofs.YtjhmehmmpfnnkaaDoor
