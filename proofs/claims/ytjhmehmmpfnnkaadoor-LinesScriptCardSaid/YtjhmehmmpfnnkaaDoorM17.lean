/-
  How what follows a verb's fields is read by the reference, round by round; calls and appends within a region.
-/
import Derived.Test.YtjhmehmmpfnnkaaDoorM16
namespace Go.Proofs.YtjhmehmmpfnnkaaDoor
open Go.RowKit Utf
set_option maxRecDepth 100000
set_option linter.unusedSimpArgs false
set_option linter.unusedVariables false

theorem own_slice2 {w : World} {B : Nat} {e : TypeId} {size : Nat} {v : Value} {n : Nat} {xs : List Value} (h : w.ownsRow B e size v n xs) : ∃ a n c, v = .slice a n c := by
  rcases h.2 with ⟨rfl, _⟩ | ⟨g, cap, cur, rfl, _⟩
  · exact ⟨_, _, _, rfl⟩
  · exact ⟨_, _, _, rfl⟩
def restK (k fuel : Nat) (ws : List (List Nat)) (n : Nat) : List POp × List Int × Nat :=
  if k = 111 then ((restO fuel ws n).1, [], (restO fuel ws n).2)
  else if k = 103 then ([], (restG fuel ws n).1, (restG fuel ws n).2)
  else ([], [], restN ws n)
theorem restAny_K (k : Nat) (ws : List (List Nat)) (n : Nat) : restAny k ws n = restK k ws.length ws n := rfl
theorem restK_err (k fuel : Nat) (ws : List (List Nat)) (n : Nat) : restK k fuel ws (n + 1) = ([], [], n + 1) := by
  unfold restK
  have h1 : restO fuel ws (n + 1) = ([], n + 1) := by cases fuel <;> cases ws <;> rfl
  have h2 : restG fuel ws (n + 1) = ([], n + 1) := by cases fuel <;> cases ws <;> rfl
  split
  · rw [h1]
  · split
    · rw [h2]
    · rfl
theorem restK_nil (k fuel : Nat) : restK k fuel [] 0 = ([], [], 0) := by
  unfold restK
  have h1 : restO fuel [] 0 = ([], 0) := by cases fuel <;> rfl
  have h2 : restG fuel [] 0 = ([], 0) := by cases fuel <;> rfl
  split
  · rw [h1]
  · split
    · rw [h2]
    · rfl

/-- A call of a Go function, as one step of a region that draws its order. -/
theorem step_call {P : Program} {ops : Array Oper} {o : Oper} {a : Act} {w : World} {K : Act → World → Prop} {Q : Exit → Act → World → Prop} {E : Prop} (hgd : o.guard = none)
    (f : FuncId) (args : Array Value) (hrun : (execOp a.eval o).run P w = .ok (.enter f args) w) (R : Value → World → Prop) (hc : Calls P f args w fun e w' => ∃ v, e = .returned v ∧ R v w')
    (h : Hid (∀ v w', R v w' → K (a.put o.dst v) w')) : if Region.wanted o (yielded ops a.tmps) = true then Oper.wp P o a w K Q else E := by
  have hw : Region.wanted o (yielded ops a.tmps) = true := by simp [Region.wanted, hgd]
  rw [if_pos hw]
  exact wp_call_of f args hrun R hc h

/-- How the reading of what follows stands. -/
structure RL (w : World) (K : Nat → Prop) (d c b : Nat) (fs : ByteArray) (p : PW) (k : Nat) (T : List POp × List Int × Nat) (wr : World) (vo vg : Value) (ops : List POp) (gone : List Int) (ws : List (List Nat)) (n fuel : Nat) : Prop where
  st : RSt w K d c b fs wr (rCells p vo vg) ws n
  oo : wr.ownsRow (b + 1) 103 5 vo ops.length (ops.flatMap opCells)
  og : wr.ownsRow (b + 1) 3 1 vg gone.length (intRow gone)
  g0 : k = 111 → vg = .slice none 0 0 ∧ gone = []
  o0 : k ≠ 111 → vo = .slice none 0 0 ∧ ops = []
  fu : ws.length ≤ fuel
  le : ops.length + gone.length + ws.length ≤ 1000000
  eq : T = (ops ++ (restK k fuel ws n).1, gone ++ (restK k fuel ws n).2.1, (restK k fuel ws n).2.2)

section
variable {w : World} {K : Nat → Prop} {d c b : Nat} {fs : ByteArray} {p : PW} {k : Nat} {T : List POp × List Int × Nat} {wr w6 w7 : World} {vo vg : Value} {ops : List POp} {gone : List Int} {ws : List (List Nat)} {n fuel : Nat}
theorem RL.start (h : RSt w K d c b fs wr (rCells p (.slice none 0 0) (.slice none 0 0)) ws n) (hl : ws.length ≤ 1000000) : RL w K d c b fs p k (restAny k ws n) wr (.slice none 0 0) (.slice none 0 0) [] [] ws n ws.length :=
  ⟨h, World.ownsRow_nil _ _ _ _, World.ownsRow_nil _ _ _ _, fun _ => ⟨rfl, rfl⟩, fun _ => ⟨rfl, rfl⟩, Nat.le_refl _, by simpa using hl, rfl⟩
theorem RL.draw (h : RL w K d c b fs p k T wr vo vg ops gone ws n fuel) : RL w K d c b fs p k T wr.drew vo vg ops gone ws n fuel :=
  ⟨h.st.draw 1, h.oo, h.og, h.g0, h.o0, h.fu, h.le, h.eq⟩
theorem RSt.turn2 {cs cs' : Array Value} (h : RSt w K d c b fs wr cs ws n) {ws' : List (List Nat)} {n' : Nat} (ho : Only (fun k => k = b ∨ k = c ∨ b < k) wr w7) (hr : RRAt w7 b ws' n' K) (hb : Blk w7 c 52 cs') (hg : GoodR ws') : RSt w K d c b fs w7 cs' ws' n' := by
  have e1 := h.o1
  have e2 := h.o2
  have e3 := h.o3
  exact ⟨h.only.step ho (fun k hk => .inr (by omega)), h.res.only ho (by omega), ho.cell h.row (by simp only; omega), hr, hb, hg, e1, e2, e3, h.klt⟩
/-- What an append leaves. -/
theorem RL.apped {cs' : Array Value} {v : Value} {ws' : List (List Nat)} {n' : Nat} {t : TypeId} {us : Array Value} {e : TypeId} {size : Nat} {m : Nat} {xs : List Value} {off : Nat} {u : Value} {cs : Array Value} (h : RSt w K d c b fs wr cs ws n) (hv : wr.ownsRow (b + 1) e size v m xs)
    (ho6 : Only (fun k => k = b) wr w6) (hr6 : RRAt w6 b ws' n' K) (hg : GoodR ws') (hgrow : (w6.alloc (.cells us t)).grownBy w7 v.ownBlock) (hb : Blk w7 c 52 cs) (hcs : cs.setIfInBounds off u = cs') :
    RSt w K d c b fs (w7.setCell ⟨c, off, none⟩ u) cs' ws' n' := by
  have e1 := h.o1
  have e2 := h.o2
  have e3 := h.o3
  have hrow : ∀ k, v.ownBlock = some k → b < k := fun k hk => (hv.lt k hk).1
  have o67 : Only (fun k => b < k) w6 w7 := ((Only.refl (fun k => b < k) w6).alloc (.cells us t)).grown hgrow (fun k hk => .inl (hrow k hk))
  have o7 : Only (fun k => k = c) w7 (w7.setCell ⟨c, off, none⟩ u) := (Only.refl (fun k => k = c) w7).set (.inl rfl) _
  refine h.turn2 (((ho6.mono (T := fun k => k = b ∨ k = c ∨ b < k) (fun k hk => .inl hk)).trans (o67.mono (T := fun k => k = b ∨ k = c ∨ b < k) (fun k hk => .inr (.inr hk)))).trans (o7.mono (fun k hk => .inr (.inl hk)))) ?_ ?_ hg
  · exact (hr6.only o67 (by omega) (fun k hk hkk => by have := h.klt k hkk; omega)).only o7 (by omega) (fun k hk hkk => by have := h.klt k hkk; omega)
  · rw [← hcs]
    exact hb.put off u
theorem RL.op_step {x : List Nat} {r : List (List Nat)} {us : Array Value} {g4 cap4 : Nat} (h : RL w K d c b fs p 111 T wr vo vg ops gone (x :: r) 0 (fuel + 1)) (ho6 : Only (fun k => k = b) wr w6) (hr6 : RRAt w6 b (opF x r).2.1 (opF x r).2.2 K) (hus : us.toList = opCells (opF x r).1)
    (hgrow : (w6.alloc (.cells us 103)).grownBy w7 vo.ownBlock) (hb : Blk w7 c 52 (rCells p vo vg))
    (hown : w7.ownsRow (b + 1) 103 5 (.slice (some ⟨g4, 0, none⟩) (ops.length + 1) cap4) (ops.length + 1) (ops.flatMap opCells ++ us.toList)) :
    RL w K d c b fs p 111 T (w7.setCell ⟨c, 4, none⟩ (.slice (some ⟨g4, 0, none⟩) (ops.length + 1) cap4)) (.slice (some ⟨g4, 0, none⟩) (ops.length + 1) cap4) vg (ops ++ [(opF x r).1]) gone (opF x r).2.1 (opF x r).2.2 fuel := by
  obtain ⟨rfl, rfl⟩ := h.g0 rfl
  have hl := opF_len x r
  have hle := h.le
  have hfu := h.fu
  have hgood : GoodR (opF x r).2.1 := by
    have hg := h.st.good.tail
    unfold opF
    repeat' split
    · exact rdStr_goodR (rdStr_goodR hg)
    · exact rdStr_goodR hg
    · exact rdStr_goodR (rdStr_goodR (rdStr_goodR hg))
    · exact rdNum_goodR (rdStr_goodR hg)
    · exact hg
  refine ⟨RL.apped h.st h.oo ho6 hr6 hgood hgrow hb (rCells_ops _ _ _ _), ?_, World.ownsRow_nil _ _ _ _, fun _ => ⟨rfl, rfl⟩, fun h => absurd rfl h, by simp at hfu; omega, by simp at hle ⊢; omega, ?_⟩
  · rw [List.length_append, List.flatMap_append]
    simp only [List.flatMap_cons, List.flatMap_nil, List.append_nil]
    rw [← hus]
    exact own_only hown ((Only.refl (fun k => k = c) w7).set (.inl rfl) _) (fun g hg hh => by have := (hown.lt g hg).1; have := h.st.o3; omega)
  · rw [h.eq]
    simp [restK, restO]
theorem RL.num_step {x : List Nat} {r : List (List Nat)} {us : Array Value} {g4 cap4 : Nat} {v : Int} (h : RL w K d c b fs p 103 T wr vo vg ops gone (x :: r) 0 (fuel + 1)) (ho6 : Only (fun k => k = b) wr w6) (hr6 : RRAt w6 b (rdNum (x :: r) 0).2.1 (rdNum (x :: r) 0).2.2 K) (hv : v = (rdNum (x :: r) 0).1.getD 0)
    (hgrow : (w6.alloc (.cells us 3)).grownBy w7 vg.ownBlock) (hb : Blk w7 c 52 (rCells p vo vg))
    (hown : w7.ownsRow (b + 1) 3 1 (.slice (some ⟨g4, 0, none⟩) (gone.length + 1) cap4) (gone.length + 1) (intRow gone ++ [.int .i64 v])) :
    RL w K d c b fs p 103 T (w7.setCell ⟨c, 20, none⟩ (.slice (some ⟨g4, 0, none⟩) (gone.length + 1) cap4)) vo (.slice (some ⟨g4, 0, none⟩) (gone.length + 1) cap4) ops (gone ++ [v]) (rdNum (x :: r) 0).2.1 (rdNum (x :: r) 0).2.2 fuel := by
  obtain ⟨rfl, rfl⟩ := h.o0 (by decide)
  have hl := rdNum_cons_len x r
  have hle := h.le
  have hfu := h.fu
  subst hv
  refine ⟨RL.apped h.st h.og ho6 hr6 (rdNum_goodR h.st.good) hgrow hb (rCells_gone _ _ _ _), World.ownsRow_nil _ _ _ _, ?_, fun h => absurd h (by decide), fun _ => ⟨rfl, rfl⟩, by simp at hfu; omega, by simp at hle ⊢; omega, ?_⟩
  · rw [List.length_append, show intRow (gone ++ [(rdNum (x :: r) 0).1.getD 0]) = intRow gone ++ [.int .i64 ((rdNum (x :: r) 0).1.getD 0)] by simp [intRow]]
    exact own_only hown ((Only.refl (fun k => k = c) w7).set (.inl rfl) _) (fun g hg hh => by have := (hown.lt g hg).1; have := h.st.o3; omega)
  · rw [h.eq]
    simp [restK, restG]
theorem RL.err_step {x : List Nat} {r : List (List Nat)} (h : RL w K d c b fs p 0 T wr vo vg ops gone (x :: r) 0 fuel) : RL w K d c b fs p 0 T (wr.setCell ⟨b, 1, none⟩ (.int .i64 4)) vo vg ops gone (x :: r) 4 fuel := by
  obtain ⟨rfl, rfl⟩ := h.o0 (by decide)
  have ho : Only (fun k => k = b) wr (wr.setCell ⟨b, 1, none⟩ (.int .i64 4)) := (Only.refl (fun k => k = b) wr).set (.inl rfl) _
  refine ⟨h.st.err 4, World.ownsRow_nil _ _ _ _, own_only h.og ho (fun g hg hh => by have := (h.og.lt g hg).1; omega), h.g0, h.o0, h.fu, h.le, ?_⟩
  rw [h.eq]
  rfl
theorem RL.ended (h : RL w K d c b fs p k T wr vo vg ops gone ws (n + 1) fuel) : T = (ops, gone, n + 1) := by rw [h.eq, restK_err]; simp
theorem RL.done (h : RL w K d c b fs p k T wr vo vg ops gone [] 0 fuel) : T = (ops, gone, 0) := by rw [h.eq, restK_nil]; simp
end

/-- How far the reading is. -/
def leftE (w : World) (b : Nat) : Nat := 2 * leftOf w b + (match w.cell? ⟨b, 1, none⟩ with
  | some (.int _ 0) => 1
  | _ => 0)
theorem RRAt.leftE0 {w : World} {b : Nat} {ws : List (List Nat)} {K : Nat → Prop} (h : RRAt w b ws 0 K) : leftE w b = 2 * ws.length + 1 := by
  have h1 := h.left
  have h2 := h.cell1.1
  simp only [leftE, h1, h2]
  rfl
theorem RRAt.leftE_le {w : World} {b : Nat} {ws : List (List Nat)} {n : Nat} {K : Nat → Prop} (h : RRAt w b ws n K) : leftE w b ≤ 2 * ws.length + 1 := by
  have h1 := h.left
  simp only [leftE, h1]
  split <;> omega
theorem RRAt.leftE4 {w : World} {b : Nat} {ws : List (List Nat)} {K : Nat → Prop} (h : RRAt w b ws 4 K) : leftE w b = 2 * ws.length := by
  have h1 := h.left
  have h2 := h.cell1.1
  simp only [leftE, h1, h2]
  rfl
end Go.Proofs.YtjhmehmmpfnnkaaDoor
