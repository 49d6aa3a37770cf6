/-
  The contract of (*lines.reader).read: a number's field, a text's field.
  Plain: the verbs of a line, and the program's table of them.
-/
import Derived.Test.YtjhmehmmpfnnkaaDoorM04
import Derived.Test.YtjhmehmmpfnnkaaDoorM05
import Derived.Deep.MidRow
namespace Go.Proofs.YtjhmehmmpfnnkaaDoor
open Go.RowKit Utf
set_option maxRecDepth 100000
set_option linter.unusedSimpArgs false
set_option linter.unusedVariables false

theorem Tryd.taIntInt (v : Value) (w : World) : (Instr.typeAssert (.iface 95 v) 20 95 true).run Tryd.prog w = .ok (.tuple #[v, .bool true]) w := by kernel_rfl
theorem Tryd.taStrInt (v : Value) (w : World) : (Instr.typeAssert (.iface 100 v) 20 95 true).run Tryd.prog w = .ok (.tuple #[.pointer none, .bool false]) w := by kernel_rfl
theorem Tryd.taStrStr (v : Value) (w : World) : (Instr.typeAssert (.iface 100 v) 20 100 false).run Tryd.prog w = .ok v w := by kernel_rfl

def numW (x : List Nat) : Option Int := numN (signed x) (unsign x)
/-- Words that lines.Words can give: right texts, none too long. -/
def Good (ws : List (List Nat)) : Prop := ∀ x ∈ ws, allOk x ∧ (encAll x).length ≤ 1000000
theorem Good.tail {x : List Nat} {ws : List (List Nat)} (h : Good (x :: ws)) : Good ws := fun y hy => h y (List.mem_cons_of_mem _ hy)

/-- What is stored, if anything; the words that are left; the error's number. -/
def rdNum : List (List Nat) → Nat → Option Int × List (List Nat) × Nat
  | ws, n + 1 => (none, ws, n + 1)
  | [], 0 => (none, [], 2)
  | x :: r, 0 => match numW x with
    | some v => (some v, r, 0)
    | none => (some 0, r, 4)
def rdStr : List (List Nat) → Nat → Option (List Nat) × List (List Nat) × Nat
  | ws, n + 1 => (none, ws, n + 1)
  | [], 0 => (none, [], 2)
  | x :: r, 0 => match unquoteL x with
    | some v => (some v, r, 0)
    | none => (some [], r, 4)

def putAt (cs : Array Value) (o : Nat) : Option Value → Array Value
  | none => cs
  | some v => cs.setIfInBounds o v

def ReadPost (b c o : Nat) (T : TypeId) (cs : Array Value) (ea : Nat → Addr) (K : Nat → Prop) (w : World) (res : Option Value × List (List Nat) × Nat) (e : Ending) (w' : World) : Prop :=
  e = .returned (.tuple #[]) ∧ Only (fun k => k = b ∨ k = c) w w' ∧ RAt w' b ea res.2.1 res.2.2 K ∧ Blk w' c T (putAt cs o res.1)

theorem putAt_some (cs : Array Value) (o : Nat) (v : Value) : putAt cs o (some v) = cs.setIfInBounds o v := rfl

section
variable {b : Nat} {ea : Nat → Addr} {ws : List (List Nat)} {K : Nat → Prop} {w w' : World}
theorem RAt.cell1 {n : Nat} (h : RAt w b ea ws n K) : w.cell? ⟨b, 1, none⟩ = some (errOf ea n) ∧ w.frozen? ⟨b, 1, none⟩ = false := by
  obtain ⟨ao, cap, h1, -⟩ := h
  exact ⟨h1.cell 1, h1.frozen 1⟩
theorem RAt.putErr {n : Nat} (h : RAt w b ea ws n K) (m : Nat) (hK : ¬ K b) : RAt (w.setCell ⟨b, 1, none⟩ (errOf ea m)) b ea ws m K := by
  obtain ⟨ao, cap, h1, h2, h3, h4, h5, h6, h7⟩ := h
  exact ⟨ao, cap, h1.put 1 _, h2.only ((Only.refl (fun k => k = b) _).set (.inl rfl) _) (fun ad e s => hK (by have := h7 ad e; rwa [s] at this)), h3, h4, h5, h6, h7⟩
end

theorem read_err (x : Value) (b : Nat) (ea : Nat → Addr) (ws : List (List Nat)) (n : Nat) (K : Nat → Prop) (w : World) (h : RAt w b ea ws (n + 1) K) :
    Calls Tryd.prog 37 #[.pointer (some ⟨b, 0, none⟩), x] w fun e w' => e = .returned (.tuple #[]) ∧ w = w' := by
  have hc := h.cell1.1
  rw [errOf_succ] at hc
  have HW := Lib.hid (word_err b ea ws n K w h)
  clear h
  go_enter Tryd.func37, Tryd.ntmps37
  go_wp2_with fail
  refine HW.out.mono ?_
  rintro e w1 ⟨rfl, rfl⟩
  go_wp2_with fail
  refine bodyPost_ret (results_none rfl _ _ _) rfl ?_
  exact ⟨rfl, rfl⟩

theorem read_short (x : Value) (b : Nat) (ea : Nat → Addr) (K : Nat → Prop) (w : World) (h : RAt w b ea [] 0 K) (he : LErr w ea) :
    Calls Tryd.prog 37 #[.pointer (some ⟨b, 0, none⟩), x] w fun e w' => e = .returned (.tuple #[]) ∧ Only (fun k => k = b) w w' ∧ RAt w' b ea [] 2 K := by
  have HW := Lib.hid (word_short b ea K w h he)
  clear h he
  go_enter Tryd.func37, Tryd.ntmps37
  go_wp2_with fail
  refine HW.out.mono ?_
  rintro e w1 ⟨rfl, ho, hr⟩
  have hc := hr.cell1.1
  rw [errOf_succ] at hc
  have HO := Lib.hid ho
  have HR := Lib.hid hr
  clear ho hr
  go_wp2_with fail
  refine bodyPost_ret (results_none rfl _ _ _) rfl ?_
  exact ⟨rfl, HO.out, HR.out⟩

set_option maxHeartbeats 1000000 in
theorem read_num_cons (b c o : Nat) (T : TypeId) (cs : Array Value) (old : Int) (ea : Nat → Addr) (x : List Nat) (ws : List (List Nat)) (K : Nat → Prop) (w : World) (h : RAt w b ea (x :: ws) 0 K) (hK : ¬ K b) (hKc : ¬ K c)
    (hg : Good (x :: ws)) (hC : Blk w c T cs) (ho : cs[o]? = some (.int .i64 old)) (hbc : b ≠ c) (hb : gTop ≤ b) (hc : gTop ≤ c) (he : LErr w ea) :
    Calls Tryd.prog 37 #[.pointer (some ⟨b, 0, none⟩), .iface 95 (.pointer (some ⟨c, o, none⟩))] w (ReadPost b c o T cs ea K w (((rdNum (x :: ws) 0).1.map (Value.int .i64)), (rdNum (x :: ws) 0).2)) := by
  obtain ⟨hok, hxl⟩ := hg x (List.mem_cons_self ..)
  have HW := Lib.hid (word_cons b ea x ws K w h hK)
  have HC := Lib.hid hC
  have HOC := Lib.hid ho
  have HE := Lib.hid he
  have HNU := Lib.hid (fun W (he : LErr W ea) => number_some ea (mkS (encAll x)) x W (by rw [mkS_size]; exact hxl) hok rfl he)
  have tt := Tryd.taIntInt
  clear h hC ho he
  go_enter Tryd.func37, Tryd.ntmps37
  go_wp2_with fail
  refine HW.out.mono ?_
  rintro e w1 ⟨rfl, ho1, hr1⟩
  have hcell := hr1.cell1.1
  rw [errOf_zero] at hcell
  have HO1 := Lib.hid (ho1.mono (T := fun k => k = b ∨ k = c) (fun k hk => .inl hk))
  have HE1 := Lib.hid (HE.out.only ho1 (fun k hk => by subst hk; exact hb))
  have HR1 := Lib.hid hr1
  have HC1 := Lib.hid (HC.out.only ho1 (fun h => hbc h.symm))
  clear ho1 hr1
  go_wp2_with fail
  refine (HNU.out _ HE1.out).mono ?_
  rintro e w2 ⟨hb2, hres⟩
  have HO2 := Lib.hid (HO1.out.trans (Only.below_all hb2))
  have HE2 := Lib.hid (HE1.out.below hb2)
  have HC2 := Lib.hid (HC1.out.below hb2 HC1.out.lt)
  have HR2 := Lib.hid (HR1.out.only (Only.below_all (S := fun _ => False) hb2) (fun h => h) (fun _ h => h.elim))
  have h2c := (HC2.out.cell o).trans HOC.out
  have h2f := HC2.out.frozen o
  clear hb2
  rcases hres with ⟨v, hv, rfl⟩ | ⟨hv, rfl⟩
  · have HV := Lib.hid (show rdNum (x :: ws) 0 = (some v, ws, 0) by simp [rdNum, numW, hv])
    clear hv
    go_wp2_with fail
    go_end0
    refine ⟨rfl, HO2.out.set (.inl (.inr rfl)) _, ?_, ?_⟩
    · rw [HV.out]
      exact HR2.out.only (S := fun k => k = c) ((Only.refl (fun k => k = c) _).set (.inl rfl) _) hbc (fun k hk => by subst hk; exact hKc)
    · rw [HV.out]
      exact HC2.out.put o _
  · have HV := Lib.hid (show rdNum (x :: ws) 0 = (some 0, ws, 4) by simp [rdNum, numW, hv])
    clear hv
    have HO3 := Lib.hid (HO2.out.set (p := ⟨c, o, none⟩) (.inl (.inr rfl)) (.int .i64 0))
    have HE3 := Lib.hid (HE2.out.set (p := ⟨c, o, none⟩) hc (.int .i64 0))
    have HC3 := Lib.hid (HC2.out.put o (.int .i64 0))
    have HR3 := Lib.hid (HR2.out.only (S := fun k => k = c) ((Only.refl (fun k => k = c) _).set (p := ⟨c, o, none⟩) (.inl rfl) (.int .i64 0)) hbc (fun k hk => by subst hk; exact hKc))
    have h3c := HR3.out.cell1.1
    rw [errOf_zero] at h3c
    have h3f := HR3.out.cell1.2
    have h3e := HE3.out.form
    go_wp2_with fail
    go_end0
    refine ⟨rfl, HO3.out.set (.inl (.inl rfl)) _, ?_, ?_⟩
    · rw [HV.out]
      exact HR3.out.putErr 4 hK
    · rw [HV.out]
      exact HC3.out.far (fun h => hbc h.symm) _

set_option maxHeartbeats 1000000 in
theorem read_str_cons (b c o : Nat) (T : TypeId) (cs : Array Value) (old : ByteArray) (ea : Nat → Addr) (x : List Nat) (ws : List (List Nat)) (K : Nat → Prop) (w : World) (h : RAt w b ea (x :: ws) 0 K) (hK : ¬ K b) (hKc : ¬ K c)
    (hg : Good (x :: ws)) (hC : Blk w c T cs) (ho : cs[o]? = some (.string old)) (hbc : b ≠ c) (hb : gTop ≤ b) (hc : gTop ≤ c) (he : LErr w ea) :
    Calls Tryd.prog 37 #[.pointer (some ⟨b, 0, none⟩), .iface 100 (.pointer (some ⟨c, o, none⟩))] w (ReadPost b c o T cs ea K w (((rdStr (x :: ws) 0).1.map (fun t => Value.string (mkS (encAll t)))), (rdStr (x :: ws) 0).2)) := by
  obtain ⟨hok, hxl⟩ := hg x (List.mem_cons_self ..)
  have HW := Lib.hid (word_cons b ea x ws K w h hK)
  have HC := Lib.hid hC
  have HOC := Lib.hid ho
  have HE := Lib.hid he
  have HNU := Lib.hid (fun W (he : LErr W ea) => unquote_some ea (mkS (encAll x)) x W (by rw [mkS_size]; exact hxl) hok rfl he)
  have tt := Tryd.taStrInt
  have tt2 := Tryd.taStrStr
  clear h hC ho he
  go_enter Tryd.func37, Tryd.ntmps37
  go_wp2_with fail
  refine HW.out.mono ?_
  rintro e w1 ⟨rfl, ho1, hr1⟩
  have hcell := hr1.cell1.1
  rw [errOf_zero] at hcell
  have HO1 := Lib.hid (ho1.mono (T := fun k => k = b ∨ k = c) (fun k hk => .inl hk))
  have HE1 := Lib.hid (HE.out.only ho1 (fun k hk => by subst hk; exact hb))
  have HR1 := Lib.hid hr1
  have HC1 := Lib.hid (HC.out.only ho1 (fun h => hbc h.symm))
  clear ho1 hr1
  go_wp2_with fail
  refine (HNU.out _ HE1.out).mono ?_
  rintro e w2 ⟨hb2, hres⟩
  have HO2 := Lib.hid (HO1.out.trans (Only.below_all hb2))
  have HE2 := Lib.hid (HE1.out.below hb2)
  have HC2 := Lib.hid (HC1.out.below hb2 HC1.out.lt)
  have HR2 := Lib.hid (HR1.out.only (Only.below_all (S := fun _ => False) hb2) (fun h => h) (fun _ h => h.elim))
  have h2c := (HC2.out.cell o).trans HOC.out
  have h2f := HC2.out.frozen o
  clear hb2
  rcases hres with ⟨v, hv, rfl⟩ | ⟨hv, rfl⟩
  · have HV := Lib.hid (show rdStr (x :: ws) 0 = (some v, ws, 0) by simp [rdStr, hv])
    clear hv
    generalize hsv : mkS (encAll v) = sv at *
    have HSV := Lib.hid hsv
    clear hsv
    go_wp2_with fail
    go_end0
    refine ⟨rfl, HO2.out.set (.inl (.inr rfl)) _, ?_, ?_⟩
    · rw [HV.out]
      exact HR2.out.only (S := fun k => k = c) ((Only.refl (fun k => k = c) _).set (.inl rfl) _) hbc (fun k hk => by subst hk; exact hKc)
    · rw [HV.out]
      simp only [Option.map_some]
      rw [HSV.out]
      exact HC2.out.put o _
  · have HV := Lib.hid (show rdStr (x :: ws) 0 = (some [], ws, 4) by simp [rdStr, hv])
    clear hv
    have HO3 := Lib.hid (HO2.out.set (p := ⟨c, o, none⟩) (.inl (.inr rfl)) (.string ByteArray.empty))
    have HE3 := Lib.hid (HE2.out.set (p := ⟨c, o, none⟩) hc (.string ByteArray.empty))
    have HC3 := Lib.hid (HC2.out.put o (.string ByteArray.empty))
    have HR3 := Lib.hid (HR2.out.only (S := fun k => k = c) ((Only.refl (fun k => k = c) _).set (p := ⟨c, o, none⟩) (.inl rfl) (.string ByteArray.empty)) hbc (fun k hk => by subst hk; exact hKc))
    have h3c := HR3.out.cell1.1
    rw [errOf_zero] at h3c
    have h3f := HR3.out.cell1.2
    have h3e := HE3.out.form
    go_wp2_with fail
    go_end0
    refine ⟨rfl, HO3.out.set (.inl (.inl rfl)) _, ?_, ?_⟩
    · rw [HV.out]
      exact HR3.out.putErr 4 hK
    · rw [HV.out]
      exact HC3.out.far (fun h => hbc h.symm) _

/-- A number's field is read, whatever the reader's state. -/
theorem read_num (b c o : Nat) (T : TypeId) (cs : Array Value) (old : Int) (ea : Nat → Addr) (ws : List (List Nat)) (n : Nat) (K : Nat → Prop) (w : World) (h : RAt w b ea ws n K) (hK : ¬ K b) (hKc : ¬ K c)
    (hg : Good ws) (hC : Blk w c T cs) (ho : cs[o]? = some (.int .i64 old)) (hbc : b ≠ c) (hb : gTop ≤ b) (hc : gTop ≤ c) (he : LErr w ea) :
    Calls Tryd.prog 37 #[.pointer (some ⟨b, 0, none⟩), .iface 95 (.pointer (some ⟨c, o, none⟩))] w (ReadPost b c o T cs ea K w (((rdNum ws n).1.map (Value.int .i64)), (rdNum ws n).2)) := by
  cases n with
  | succ n =>
    refine (read_err _ b ea ws n K w h).mono ?_
    rintro e w' ⟨rfl, rfl⟩
    exact ⟨rfl, Only.refl _ _, by cases ws <;> exact h, by cases ws <;> exact hC⟩
  | zero =>
    cases ws with
    | nil =>
      refine (read_short _ b ea K w h he).mono ?_
      rintro e w' ⟨rfl, h1, h2⟩
      exact ⟨rfl, h1.mono (fun k hk => .inl hk), h2, hC.only h1 (fun h => hbc h.symm)⟩
    | cons x ws => exact read_num_cons b c o T cs old ea x ws K w h hK hKc hg hC ho hbc hb hc he

/-- A text's field is read, whatever the reader's state. -/
theorem read_str (b c o : Nat) (T : TypeId) (cs : Array Value) (old : ByteArray) (ea : Nat → Addr) (ws : List (List Nat)) (n : Nat) (K : Nat → Prop) (w : World) (h : RAt w b ea ws n K) (hK : ¬ K b) (hKc : ¬ K c)
    (hg : Good ws) (hC : Blk w c T cs) (ho : cs[o]? = some (.string old)) (hbc : b ≠ c) (hb : gTop ≤ b) (hc : gTop ≤ c) (he : LErr w ea) :
    Calls Tryd.prog 37 #[.pointer (some ⟨b, 0, none⟩), .iface 100 (.pointer (some ⟨c, o, none⟩))] w (ReadPost b c o T cs ea K w (((rdStr ws n).1.map (fun t => Value.string (mkS (encAll t)))), (rdStr ws n).2)) := by
  cases n with
  | succ n =>
    refine (read_err _ b ea ws n K w h).mono ?_
    rintro e w' ⟨rfl, rfl⟩
    exact ⟨rfl, Only.refl _ _, by cases ws <;> exact h, by cases ws <;> exact hC⟩
  | zero =>
    cases ws with
    | nil =>
      refine (read_short _ b ea K w h he).mono ?_
      rintro e w' ⟨rfl, h1, h2⟩
      exact ⟨rfl, h1.mono (fun k hk => .inl hk), h2, hC.only h1 (fun h => hbc h.symm)⟩
    | cons x ws => exact read_str_cons b c o T cs old ea x ws K w h hK hKc hg hC ho hbc hb hc he
end Go.Proofs.YtjhmehmmpfnnkaaDoor

namespace Go.Proofs.YtjhmehmmpfnnkaaDoor
open Go.RowKit Utf
set_option maxRecDepth 100000
set_option linter.unusedSimpArgs false
set_option linter.unusedVariables false

/-- A verb's field. -/
inductive Fld | who | n | fresh | shard | other | server | key | lo | hi | ekey
deriving DecidableEq

/-- A verb: its name (bytes), the op's kind, the entry's kind, its fields, what follows (111: operations, 103: numbers, 0: nothing). -/
structure Verb where
  name : List UInt8
  kind : Nat
  ekind : Nat
  flds : List Fld
  rest : Nat

def verbs : List Verb := [
  ⟨[98, 101, 103, 105, 110], 1, 0, [.who], 111⟩, ⟨[115, 116, 101, 112], 2, 0, [.who, .n], 0⟩, ⟨[109, 111, 118, 101], 3, 2, [.shard, .server], 0⟩,
  ⟨[115, 112, 108, 105, 116], 3, 3, [.shard, .other, .server, .ekey], 0⟩, ⟨[109, 101, 114, 103, 101], 3, 4, [.shard, .other], 0⟩,
  ⟨[103, 101, 116], 4, 0, [.n, .key], 0⟩, ⟨[115, 99, 97, 110], 5, 0, [.n, .who, .lo, .hi], 0⟩, ⟨[99, 114, 97, 115, 104], 6, 0, [.n], 0⟩,
  ⟨[115, 116, 111, 112], 7, 0, [.n, .who], 0⟩, ⟨[117, 112], 8, 0, [.n], 0⟩, ⟨[108, 111, 115, 101], 9, 0, [], 0⟩, ⟨[116, 114, 105, 109], 13, 0, [], 0⟩,
  ⟨[99, 104, 97, 110, 103, 101], 11, 0, [], 0⟩, ⟨[114, 101, 99, 111, 110], 10, 0, [.who, .fresh], 103⟩, ⟨[99, 104, 101, 99, 107], 12, 0, [.n, .who], 0⟩,
  ⟨[118, 111, 116, 101, 114], 14, 0, [.n, .who], 0⟩, ⟨[114, 101, 115, 116, 97, 114, 116], 15, 0, [.n], 0⟩]

/-- The program's letter of a field. -/
def letP : Fld → Nat
  | .who => 119 | .n => 110 | .fresh => 102 | .shard => 115 | .other => 111 | .server => 118 | .key => 107 | .lo => 108 | .hi => 104 | .ekey => 101

def shapeOf (v : Verb) : List Value := [.string (mkS v.name), .int .i64 (v.kind : Int), .int .i64 (v.ekind : Int), .string (mkS (encAll (v.flds.map letP))), .int .i32 (v.rest : Int)]
def shapeCells : Array Value := (verbs.flatMap shapeOf).toArray

theorem flat5 {α β : Type} (f : α → List β) (hf : ∀ x, (f x).length = 5) : ∀ (l : List α) (k : Nat) (hk : k < l.length) (j : Nat), j < 5 → (l.flatMap f)[5 * k + j]? = (f l[k])[j]?
  | [], k, hk, _, _ => by simp at hk
  | x :: l, 0, _, j, hj => by
    rw [List.flatMap_cons, Nat.mul_zero, Nat.zero_add, List.getElem?_append_left (by rw [hf]; exact hj)]
    rfl
  | x :: l, k + 1, hk, j, hj => by
    rw [List.flatMap_cons, List.getElem?_append_right (by rw [hf]; omega), hf]
    have e : 5 * (k + 1) + j - 5 = 5 * k + j := by omega
    rw [e, flat5 f hf l k (by simpa using hk) j hj]
    rfl

theorem shape_at (k : Nat) (hk : k < verbs.length) (j : Nat) (hj : j < 5) : shapeCells[5 * k + j]? = (shapeOf verbs[k])[j]? := by
  unfold shapeCells
  rw [List.getElem?_toArray]
  exact flat5 shapeOf (fun _ => rfl) verbs k hk j hj

set_option maxHeartbeats 1000000 in
theorem shapes_any (w : World) :
    Calls Tryd.prog 34 #[] w fun e w' => e = .returned (.slice (some ⟨w.heap.size, 0, none⟩) 17 17) ∧ w' = w.alloc (.cells shapeCells 79) := by
  have HS := Lib.hid (show shapeCells = #[Value.string ⟨#[98, 101, 103, 105, 110]⟩, Value.int .i64 1, Value.int .i64 0, Value.string ⟨#[119]⟩, Value.int .i32 111, Value.string ⟨#[115, 116, 101, 112]⟩, Value.int .i64 2, Value.int .i64 0, Value.string ⟨#[119, 110]⟩, Value.int .i32 0,
    Value.string ⟨#[109, 111, 118, 101]⟩, Value.int .i64 3, Value.int .i64 2, Value.string ⟨#[115, 118]⟩, Value.int .i32 0, Value.string ⟨#[115, 112, 108, 105, 116]⟩, Value.int .i64 3, Value.int .i64 3, Value.string ⟨#[115, 111, 118, 101]⟩, Value.int .i32 0,
    Value.string ⟨#[109, 101, 114, 103, 101]⟩, Value.int .i64 3, Value.int .i64 4, Value.string ⟨#[115, 111]⟩, Value.int .i32 0, Value.string ⟨#[103, 101, 116]⟩, Value.int .i64 4, Value.int .i64 0, Value.string ⟨#[110, 107]⟩, Value.int .i32 0,
    Value.string ⟨#[115, 99, 97, 110]⟩, Value.int .i64 5, Value.int .i64 0, Value.string ⟨#[110, 119, 108, 104]⟩, Value.int .i32 0, Value.string ⟨#[99, 114, 97, 115, 104]⟩, Value.int .i64 6, Value.int .i64 0, Value.string ⟨#[110]⟩, Value.int .i32 0,
    Value.string ⟨#[115, 116, 111, 112]⟩, Value.int .i64 7, Value.int .i64 0, Value.string ⟨#[110, 119]⟩, Value.int .i32 0, Value.string ⟨#[117, 112]⟩, Value.int .i64 8, Value.int .i64 0, Value.string ⟨#[110]⟩, Value.int .i32 0,
    Value.string ⟨#[108, 111, 115, 101]⟩, Value.int .i64 9, Value.int .i64 0, Value.string ⟨#[]⟩, Value.int .i32 0, Value.string ⟨#[116, 114, 105, 109]⟩, Value.int .i64 13, Value.int .i64 0, Value.string ⟨#[]⟩, Value.int .i32 0,
    Value.string ⟨#[99, 104, 97, 110, 103, 101]⟩, Value.int .i64 11, Value.int .i64 0, Value.string ⟨#[]⟩, Value.int .i32 0, Value.string ⟨#[114, 101, 99, 111, 110]⟩, Value.int .i64 10, Value.int .i64 0, Value.string ⟨#[119, 102]⟩, Value.int .i32 103,
    Value.string ⟨#[99, 104, 101, 99, 107]⟩, Value.int .i64 12, Value.int .i64 0, Value.string ⟨#[110, 119]⟩, Value.int .i32 0, Value.string ⟨#[118, 111, 116, 101, 114]⟩, Value.int .i64 14, Value.int .i64 0, Value.string ⟨#[110, 119]⟩, Value.int .i32 0,
    Value.string ⟨#[114, 101, 115, 116, 97, 114, 116]⟩, Value.int .i64 15, Value.int .i64 0, Value.string ⟨#[110]⟩, Value.int .i32 0] by kernel_rfl)
  go_enter Tryd.func34, Tryd.ntmps34
  go_wp2_with fail
  go_ret
  rw [HS.out]
  exact ⟨rfl, rfl⟩
end Go.Proofs.YtjhmehmmpfnnkaaDoor
