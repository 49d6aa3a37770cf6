/-
  Plain: what a line's words tell; an op as its cells.
-/
import Derived.Test.YtjhmehmmpfnnkaaDoorLRestG
import Derived.Test.YtjhmehmmpfnnkaaDoorLField
import Derived.Test.YtjhmehmmpfnnkaaDoorLIndex
import Derived.Test.YtjhmehmmpfnnkaaDoorLWords
namespace Go.Proofs.YtjhmehmmpfnnkaaDoor
open Go.RowKit Utf
set_option maxRecDepth 100000
set_option linter.unusedSimpArgs false
set_option linter.unusedVariables false

/-- What a line tells, without what follows the fields. -/
structure PW where
  kind : Int
  who : Int
  n : Int
  fresh : Int
  ekind : Int
  shard : Int
  other : Int
  server : Int
  ekey : List Nat
  key : List Nat
  lo : List Nat
  hi : List Nat

def PW.setN (p : PW) (v : Int) : Fld → PW
  | .who => { p with who := v }
  | .n => { p with n := v }
  | .fresh => { p with fresh := v }
  | .shard => { p with shard := v }
  | .other => { p with other := v }
  | .server => { p with server := v }
  | _ => p
def PW.setS (p : PW) (v : List Nat) : Fld → PW
  | .key => { p with key := v }
  | .lo => { p with lo := v }
  | .hi => { p with hi := v }
  | .ekey => { p with ekey := v }
  | _ => p
def PW.getN (p : PW) : Fld → Int
  | .who => p.who
  | .n => p.n
  | .fresh => p.fresh
  | .shard => p.shard
  | .other => p.other
  | .server => p.server
  | _ => 0
def PW.getS (p : PW) : Fld → List Nat
  | .key => p.key
  | .lo => p.lo
  | .hi => p.hi
  | .ekey => p.ekey
  | _ => []
def PW.zero : PW := ⟨0, 0, 0, 0, 0, 0, 0, 0, [], [], [], []⟩

/-- The cells of a world's op. -/
def wCells (p : PW) (vo vg : Value) : Array Value :=
  #[.int .i64 p.kind, .int .i64 p.who, .int .i64 p.n, .int .i64 p.fresh, vo, .int .i64 p.ekind, .int .i64 p.shard, .int .i64 p.other, .int .i64 p.server, .int .i64 0, .int .i64 0, .slice none 0 0, txt p.ekey,
    .int .i64 0, .int .i64 0, .int .i64 0, .slice none 0 0, txt p.key, txt p.lo, txt p.hi, vg, .int .u64 0, .int .i64 0, .int .i64 0]

theorem wCells_setN (p : PW) (vo vg : Value) (f : Fld) (hf : isNum f = true) (v : Int) : (wCells p vo vg).setIfInBounds (offF f) (.int .i64 v) = wCells (p.setN v f) vo vg := by
  cases f <;> first | rfl | cases hf
theorem wCells_setS (p : PW) (vo vg : Value) (f : Fld) (hf : isNum f = false) (v : List Nat) : (wCells p vo vg).setIfInBounds (offF f) (txt v) = wCells (p.setS v f) vo vg := by
  cases f <;> first | rfl | cases hf
theorem wCells_getN (p : PW) (vo vg : Value) (f : Fld) (hf : isNum f = true) : (wCells p vo vg)[offF f]? = some (.int .i64 (p.getN f)) := by
  cases f <;> first | rfl | cases hf
theorem wCells_getS (p : PW) (vo vg : Value) (f : Fld) (hf : isNum f = false) : (wCells p vo vg)[offF f]? = some (txt (p.getS f)) := by
  cases f <;> first | rfl | cases hf
theorem wCells_ops (p : PW) (vo vg v : Value) : (wCells p vo vg).setIfInBounds 4 v = wCells p v vg := rfl
theorem wCells_gone (p : PW) (vo vg v : Value) : (wCells p vo vg).setIfInBounds 20 v = wCells p vo v := rfl

/-- The fields are read, one by one. -/
def rdFlds : List Fld → PW → List (List Nat) → Nat → PW × List (List Nat) × Nat
  | [], p, ws, n => (p, ws, n)
  | f :: fs, p, ws, n =>
    if isNum f = true then rdFlds fs (p.setN ((rdNum ws n).1.getD 0) f) (rdNum ws n).2.1 (rdNum ws n).2.2
    else rdFlds fs (p.setS ((rdStr ws n).1.getD []) f) (rdStr ws n).2.1 (rdStr ws n).2.2

/-- Is all of these fields still zero? -/
def Clear (p : PW) (fs : List Fld) : Prop := ∀ f ∈ fs, p.getN f = 0 ∧ p.getS f = []
theorem setN_other (p : PW) (v : Int) {f g : Fld} (h : f ≠ g) : (p.setN v f).getN g = p.getN g ∧ (p.setN v f).getS g = p.getS g := by
  cases f <;> cases g <;> first | exact absurd rfl h | exact ⟨rfl, rfl⟩
theorem setS_other (p : PW) (v : List Nat) {f g : Fld} (h : f ≠ g) : (p.setS v f).getN g = p.getN g ∧ (p.setS v f).getS g = p.getS g := by
  cases f <;> cases g <;> first | exact absurd rfl h | exact ⟨rfl, rfl⟩
theorem Clear.setN {p : PW} {f : Fld} {fs : List Fld} (h : Clear p (f :: fs)) (hn : (f :: fs).Nodup) (v : Int) : Clear (p.setN v f) fs := by
  intro g hg
  have hne : f ≠ g := fun e => by subst e; exact (List.nodup_cons.1 hn).1 hg
  obtain ⟨h1, h2⟩ := setN_other p v hne
  rw [h1, h2]
  exact h g (List.mem_cons_of_mem _ hg)
theorem Clear.setS {p : PW} {f : Fld} {fs : List Fld} (h : Clear p (f :: fs)) (hn : (f :: fs).Nodup) (v : List Nat) : Clear (p.setS v f) fs := by
  intro g hg
  have hne : f ≠ g := fun e => by subst e; exact (List.nodup_cons.1 hn).1 hg
  obtain ⟨h1, h2⟩ := setS_other p v hne
  rw [h1, h2]
  exact h g (List.mem_cons_of_mem _ hg)

/-- What a line tells. -/
structure PL where
  p : PW
  ops : List POp
  gone : List Int

/-- What follows a verb's fields. -/
def restAny (k : Nat) (ws : List (List Nat)) (n : Nat) : List POp × List Int × Nat :=
  if k = 111 then ((restO ws.length ws n).1, [], (restO ws.length ws n).2)
  else if k = 103 then ([], (restG ws.length ws n).1, (restG ws.length ws n).2)
  else ([], [], restN ws n)

/-- What words tell: the error's number, or what it is. -/
def parseW (ws : List (List Nat)) : Nat × Option PL := match ws with
  | [] => (16, none)
  | x :: r => match verbs[verbIdx (encAll x)]? with
    | none => (7, none)
    | some v =>
      let q := rdFlds v.flds { PW.zero with kind := v.kind, ekind := v.ekind } r 0
      let o := restAny v.rest q.2.1 q.2.2
      if o.2.2 = 0 then (0, some ⟨q.1, o.1, o.2.1⟩) else (o.2.2, none)

theorem verbs_nodup : ∀ v ∈ verbs, v.flds.Nodup := by decide
theorem verbs_rest : ∀ v ∈ verbs, v.rest = 111 ∨ v.rest = 103 ∨ v.rest = 0 := by decide
theorem letP_ok (f : Fld) : okR (letP f) = true := by cases f <;> decide +kernel

theorem results_cell_tmp {P : Program} {fn : Func} {p q : Tmp} {ty : TypeId} (h : fn.results = #[.cell p ty, .tmp q]) (tmps : Array Value) (w : World) (g : Nat) (t : TypeId) (cs : Array Value) (fr : Nat × Nat) (d : TypeDesc)
    (hp : tmps.getD p undef = .pointer (some ⟨g, 0, none⟩)) (hg : w.heap[g]? = some (.cells cs t fr))
    (hu : P.underlying ty = some d) (hd : (match d with | .struct _ | .array _ _ => true | _ => false) = true) (hi : (P.info? ty).map (·.size) = some cs.size) :
    (results fn tmps).run P w = .ok (.tuple #[.agg cs, tmps.getD q undef]) w := by
  have hp' : tmps[p]?.getD undef = .pointer (some ⟨g, 0, none⟩) := by simpa using hp
  simp [results, h, hp', asAddr, run_loadVar_row w g t ty cs fr d hg hu hd hi]
end Go.Proofs.YtjhmehmmpfnnkaaDoor
