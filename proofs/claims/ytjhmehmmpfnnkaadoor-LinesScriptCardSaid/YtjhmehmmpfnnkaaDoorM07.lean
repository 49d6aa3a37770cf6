/-
  The contract of (*lines.reader).op.
-/
import Derived.Test.YtjhmehmmpfnnkaaDoorM06
namespace Go.Proofs.YtjhmehmmpfnnkaaDoor
open Go.RowKit Utf
set_option maxRecDepth 100000
set_option linter.unusedSimpArgs false
set_option linter.unusedVariables false

/-- An operation. -/
structure POp where
  kind : Int
  key : List Nat
  value : List Nat
  old : List Nat
  version : Int

def txt (l : List Nat) : Value := .string (mkS (encAll l))
def opCells (p : POp) : List Value := [.int .i64 p.kind, txt p.key, txt p.value, txt p.old, .int .i64 p.version]

/-- The operation that a word and those behind it tell; what is left. -/
def opF (x : List Nat) (r : List (List Nat)) : POp × List (List Nat) × Nat :=
  if encAll x = [112, 117, 116] then
    let a := rdStr r 0
    let c := rdStr a.2.1 a.2.2
    (⟨1, a.1.getD [], c.1.getD [], [], 0⟩, c.2)
  else if encAll x = [100, 101, 108] then
    let a := rdStr r 0
    (⟨2, a.1.getD [], [], [], 0⟩, a.2)
  else if encAll x = [99, 97, 115] then
    let a := rdStr r 0
    let c := rdStr a.2.1 a.2.2
    let d := rdStr c.2.1 c.2.2
    (⟨3, a.1.getD [], d.1.getD [], c.1.getD [], 0⟩, d.2)
  else if encAll x = [101, 120, 112, 101, 99, 116] then
    let a := rdStr r 0
    let c := rdNum a.2.1 a.2.2
    (⟨4, a.1.getD [], [], [], c.1.getD 0⟩, c.2)
  else (⟨0, [], [], [], 0⟩, r, 4)

theorem rdStr_good {ws : List (List Nat)} {n : Nat} (h : Good ws) : Good (rdStr ws n).2.1 := by
  cases n with
  | succ n => cases ws <;> exact h
  | zero =>
    cases ws with
    | nil => exact h
    | cons x r =>
      simp only [rdStr]
      split <;> exact h.tail
theorem rdNum_good {ws : List (List Nat)} {n : Nat} (h : Good ws) : Good (rdNum ws n).2.1 := by
  cases n with
  | succ n => cases ws <;> exact h
  | zero =>
    cases ws with
    | nil => exact h
    | cons x r =>
      simp only [rdNum]
      split <;> exact h.tail

theorem mkS_nil : mkS (encAll []) = ByteArray.empty := rfl
theorem txt_nil : txt [] = .string ByteArray.empty := rfl
theorem putStr (cs : Array Value) (o : Nat) (t : Option (List Nat)) (h : cs[o]? = some (.string ByteArray.empty)) :
    putAt cs o (t.map (fun t => Value.string (mkS (encAll t)))) = cs.setIfInBounds o (txt (t.getD [])) := by
  cases t with
  | some t => rfl
  | none =>
    show cs = cs.setIfInBounds o (.string ByteArray.empty)
    apply Array.ext_getElem?
    intro i
    rw [Array.getElem?_setIfInBounds]
    split
    · rename_i hi
      subst hi
      rw [h, if_pos (Array.getElem?_eq_some_iff.1 h).1]
    · rfl
theorem putNum (cs : Array Value) (o : Nat) (t : Option Int) (h : cs[o]? = some (.int .i64 0)) :
    putAt cs o (t.map (Value.int .i64)) = cs.setIfInBounds o (.int .i64 (t.getD 0)) := by
  cases t with
  | some t => rfl
  | none =>
    show cs = cs.setIfInBounds o (.int .i64 0)
    apply Array.ext_getElem?
    intro i
    rw [Array.getElem?_setIfInBounds]
    split
    · rename_i hi
      subst hi
      rw [h, if_pos (Array.getElem?_eq_some_iff.1 h).1]
    · rfl

/-- What (*lines.reader).op answers. -/
def OpPost (b : Nat) (ea : Nat → Addr) (K : Nat → Prop) (x : List Nat) (r : List (List Nat)) (w : World) (e : Ending) (w' : World) : Prop :=
  e = .returned (.agg (opCells (opF x r).1).toArray) ∧ Only (fun k => k = b) w w' ∧ RAt w' b ea (opF x r).2.1 (opF x r).2.2 K

def opZero : Array Value := #[.int .i64 0, .string ByteArray.empty, .string ByteArray.empty, .string ByteArray.empty, .int .i64 0]

/-- How the reading of an operation stands: w: the world when it began. -/
structure OSt (w : World) (b : Nat) (ea : Nat → Addr) (K : Nat → Prop) (w1 : World) (cs : Array Value) (ws : List (List Nat)) (n : Nat) : Prop where
  only : Only (fun k => k = b) w w1
  rat : RAt w1 b ea ws n K
  ob : Blk w1 (w.heap.size + 1) 103 cs
  res : Blk w1 w.heap.size 103 opZero
  err : LErr w1 ea
  good : Good ws
  top : gTop ≤ w.heap.size
  blt : b < w.heap.size
  btop : gTop ≤ b
  hK : ¬ K b
  klt : ∀ k, K k → k < w.heap.size

section
variable {w w1 w2 : World} {b : Nat} {ea : Nat → Addr} {K : Nat → Prop} {cs : Array Value} {ws : List (List Nat)} {n : Nat}
theorem OSt.put (h : OSt w b ea K w1 cs ws n) (i : Nat) (u : Value) : OSt w b ea K (w1.setCell ⟨w.heap.size + 1, i, none⟩ u) (cs.setIfInBounds i u) ws n := by
  have ho : Only (fun k => k = w.heap.size + 1) w1 (w1.setCell ⟨w.heap.size + 1, i, none⟩ u) := (Only.refl (fun k => k = w.heap.size + 1) _).set (.inl rfl) _
  have h1 := h.top
  have h2 := h.blt
  exact ⟨h.only.set (.inr (by simp)) _, h.rat.only ho (by omega) (fun k hk hkk => by subst hk; have := h.klt _ hkk; omega), h.ob.put i u, h.res.far (by simp) _, h.err.set (by simp; omega) _, h.good, h.top, h.blt, h.btop, h.hK, h.klt⟩
theorem OSt.word (h : OSt w b ea K w1 cs ws n) {ws' : List (List Nat)} {n' : Nat} (ho : Only (fun k => k = b) w1 w2) (hr : RAt w2 b ea ws' n' K) (hg : Good ws') : OSt w b ea K w2 cs ws' n' := by
  have h2 := h.blt
  exact ⟨h.only.trans ho, hr, h.ob.only ho (by omega), h.res.only ho (by omega), h.err.only ho (fun k hk => by subst hk; exact h.btop), hg, h.top, h.blt, h.btop, h.hK, h.klt⟩
theorem OSt.read (h : OSt w b ea K w1 cs ws n) {o : Nat} {rv : Option Value} {ws' : List (List Nat)} {n' : Nat} {e : Ending} (hp : ReadPost b (w.heap.size + 1) o 103 cs ea K w1 (rv, ws', n') e w2) (hg : Good ws') : OSt w b ea K w2 (putAt cs o rv) ws' n' := by
  obtain ⟨-, h3, h4, h5⟩ := hp
  have h2 := h.blt
  have h1 := h.top
  refine ⟨h.only.step h3 (fun k hk => ?_), h4, h5, h.res.only h3 (by omega), h.err.only h3 (fun k hk => ?_), hg, h.top, h.blt, h.btop, h.hK, h.klt⟩
  · rcases hk with rfl | rfl
    · exact .inl rfl
    · exact .inr (by omega)
  · rcases hk with rfl | rfl
    · exact h.btop
    · omega
end
set_option maxHeartbeats 2000000 in
theorem op_put (b : Nat) (ea : Nat → Addr) (x : List Nat) (r : List (List Nat)) (K : Nat → Prop) (w : World) (h : RAt w b ea (x :: r) 0 K) (hK : ¬ K b) (hKw : ∀ k, K k → k < w.heap.size)
    (hg : Good (x :: r)) (hb : gTop ≤ b) (he : LErr w ea) (hx : encAll x = [112, 117, 116]) :
    Calls Tryd.prog 60 #[.pointer (some ⟨b, 0, none⟩)] w (OpPost b ea K x r w) := by
  have hlt : b < w.heap.size := by obtain ⟨ao, cap, h1, -⟩ := h; exact h1.lt
  have htop := he.top
  have hz1 : Blk ((w.alloc (.cells opZero 103)).alloc (.cells opZero 103)) w.heap.size 103 opZero := (Blk.new w _ _).alloc _
  have hz2 : Blk ((w.alloc (.cells opZero 103)).alloc (.cells opZero 103)) (w.heap.size + 1) 103 opZero := by have := Blk.new (w.alloc (.cells opZero 103)) 103 opZero; rwa [World.size_alloc] at this
  have ho0 : Only (fun k => k = b) w ((w.alloc (.cells opZero 103)).alloc (.cells opZero 103)) := ((Only.refl _ w).alloc _).alloc _
  have ho1 : Only (fun k => False) w ((w.alloc (.cells opZero 103)).alloc (.cells opZero 103)) := ((Only.refl _ w).alloc _).alloc _
  have ST0 := Lib.hid (show OSt w b ea K ((w.alloc (.cells opZero 103)).alloc (.cells opZero 103)) opZero (x :: r) 0 from
    ⟨ho0, h.only ho1 (fun h => h) (fun _ h => h.elim), hz2, hz1, he.only ho1 (fun _ h => h.elim), hg, htop, hlt, hb, hK, hKw⟩)
  have HW := Lib.hid (fun W (hr : RAt W b ea (x :: r) 0 K) => word_cons b ea x r K W hr hK)
  have hbn : b ≠ w.heap.size + 1 := by omega
  have hKn : ¬ K (w.heap.size + 1) := fun h => by have := hKw _ h; omega
  have htn : gTop ≤ w.heap.size + 1 := by omega
  have HBN := Lib.hid hbn
  have HKN := Lib.hid hKn
  have HTN := Lib.hid htn
  have HGR := Lib.hid hg.tail
  have s0 : ((mkS (encAll x)).toList == [112, 117, 116]) = true := by rw [Lib.toList_data, mkS_data, hx]; rfl
  have HF := Lib.hid (show opF x r = ((⟨1, ((rdStr r 0).1.getD []), ((rdStr (rdStr r 0).2.1 (rdStr r 0).2.2).1.getD []), [], 0⟩ : POp), (rdStr (rdStr r 0).2.1 (rdStr r 0).2.2).2) by unfold opF; simp [hx])
  clear h hx hz1 hz2 ho0 ho1 he hg hbn hKn htn
  go_enter Tryd.func60, Tryd.ntmps60
  go_wp2_with fail
  refine (HW.out _ ST0.out.rat).mono ?_
  rintro e w1 ⟨rfl, hoW, hrW⟩
  have ST1 := Lib.hid (ST0.out.word hoW hrW HGR.out)
  clear hoW hrW
  have k0 := ST1.out.ob.cell 0
  have k0f := ST1.out.ob.frozen 0
  have ST2 := Lib.hid (ST1.out.put 0 (.int .i64 1))
  rw [show opZero.setIfInBounds 0 (.int .i64 1) = #[Value.int .i64 1, Value.string ByteArray.empty, Value.string ByteArray.empty, Value.string ByteArray.empty, Value.int .i64 0] from rfl] at ST2
  go_wp2_with fail
  refine (read_str b (w.heap.size + 1) 1 103 #[Value.int .i64 1, Value.string ByteArray.empty, Value.string ByteArray.empty, Value.string ByteArray.empty, Value.int .i64 0] ByteArray.empty ea _ _ K _ ST2.out.rat ST2.out.hK HKN.out ST2.out.good ST2.out.ob rfl HBN.out ST2.out.btop HTN.out ST2.out.err).mono ?_
  intro e w3 hp0
  obtain rfl := hp0.1
  have ST3 := Lib.hid (ST2.out.read hp0 (rdStr_good ST2.out.good))
  rw [putStr #[Value.int .i64 1, Value.string ByteArray.empty, Value.string ByteArray.empty, Value.string ByteArray.empty, Value.int .i64 0] 1 _ rfl] at ST3
  rw [show (#[Value.int .i64 1, Value.string ByteArray.empty, Value.string ByteArray.empty, Value.string ByteArray.empty, Value.int .i64 0] : Array Value).setIfInBounds 1 (txt ((rdStr r 0).1.getD [])) = #[Value.int .i64 1, txt ((rdStr r 0).1.getD []), Value.string ByteArray.empty, Value.string ByteArray.empty, Value.int .i64 0] from rfl] at ST3
  clear hp0
  go_wp2_with fail
  refine (read_str b (w.heap.size + 1) 2 103 #[Value.int .i64 1, txt ((rdStr r 0).1.getD []), Value.string ByteArray.empty, Value.string ByteArray.empty, Value.int .i64 0] ByteArray.empty ea _ _ K _ ST3.out.rat ST3.out.hK HKN.out ST3.out.good ST3.out.ob rfl HBN.out ST3.out.btop HTN.out ST3.out.err).mono ?_
  intro e w4 hp1
  obtain rfl := hp1.1
  have ST4 := Lib.hid (ST3.out.read hp1 (rdStr_good ST3.out.good))
  rw [putStr #[Value.int .i64 1, txt ((rdStr r 0).1.getD []), Value.string ByteArray.empty, Value.string ByteArray.empty, Value.int .i64 0] 2 _ rfl] at ST4
  rw [show (#[Value.int .i64 1, txt ((rdStr r 0).1.getD []), Value.string ByteArray.empty, Value.string ByteArray.empty, Value.int .i64 0] : Array Value).setIfInBounds 2 (txt ((rdStr (rdStr r 0).2.1 (rdStr r 0).2.2).1.getD [])) = #[Value.int .i64 1, txt ((rdStr r 0).1.getD []), txt ((rdStr (rdStr r 0).2.1 (rdStr r 0).2.2).1.getD []), Value.string ByteArray.empty, Value.int .i64 0] from rfl] at ST4
  clear hp1
  unfold txt at ST4
  generalize hv1 : mkS (encAll ((rdStr r 0).1.getD [])) = v1 at *
  have HV1 := Lib.hid hv1
  clear hv1
  generalize hv2 : mkS (encAll ((rdStr (rdStr r 0).2.1 (rdStr r 0).2.2).1.getD [])) = v2 at *
  have HV2 := Lib.hid hv2
  clear hv2
  have m0 : _ = some (Value.int .i64 1) := ST4.out.ob.cell 0
  have m1 : _ = some (Value.string v1) := ST4.out.ob.cell 1
  have m2 : _ = some (Value.string v2) := ST4.out.ob.cell 2
  have m3 : _ = some (Value.string ByteArray.empty) := ST4.out.ob.cell 3
  have m4 : _ = some (Value.int .i64 0) := ST4.out.ob.cell 4
  have r0 : w4.cell? ⟨w.heap.size, 0, none⟩ = some (.int .i64 0) := ST4.out.res.cell 0
  have rf0 := ST4.out.res.frozen 0
  have r1 : w4.cell? ⟨w.heap.size, 1, none⟩ = some (.string ByteArray.empty) := ST4.out.res.cell 1
  have rf1 := ST4.out.res.frozen 1
  have r2 : w4.cell? ⟨w.heap.size, 2, none⟩ = some (.string ByteArray.empty) := ST4.out.res.cell 2
  have rf2 := ST4.out.res.frozen 2
  have r3 : w4.cell? ⟨w.heap.size, 3, none⟩ = some (.string ByteArray.empty) := ST4.out.res.cell 3
  have rf3 := ST4.out.res.frozen 3
  have r4 : w4.cell? ⟨w.heap.size, 4, none⟩ = some (.int .i64 0) := ST4.out.res.cell 4
  have rf4 := ST4.out.res.frozen 4
  go_wp2_with fail
  refine bodyPost_ret (results_cell_row rfl _ _ w.heap.size 103 #[Value.int .i64 1, Value.string v1, Value.string v2, Value.string ByteArray.empty, Value.int .i64 0] (0, 0) _ rfl (((((ST4.out.res.put 0 _).put 1 _).put 2 _).put 3 _).put 4 _) Tryd.underlying103 rfl (by kernel_rfl)) rfl ?_
  unfold OpPost
  rw [HF.out]
  refine ⟨?_, ((((ST4.out.only.set (.inr (Nat.le_refl _)) _).set (.inr (Nat.le_refl _)) _).set (.inr (Nat.le_refl _)) _).set (.inr (Nat.le_refl _)) _).set (.inr (Nat.le_refl _)) _, ?_⟩
  · rw [← HV1.out]; rw [← HV2.out]; rfl
  · exact ST4.out.rat.only (S := fun k => k = w.heap.size) (((((Only.refl (fun k => k = w.heap.size) _).set (.inl rfl) _).set (.inl rfl) _).set (.inl rfl) _).set (.inl rfl) _ |>.set (.inl rfl) _) (by omega) (fun k hk hkk => by subst hk; have := hKw _ hkk; omega)

set_option maxHeartbeats 2000000 in
theorem op_del (b : Nat) (ea : Nat → Addr) (x : List Nat) (r : List (List Nat)) (K : Nat → Prop) (w : World) (h : RAt w b ea (x :: r) 0 K) (hK : ¬ K b) (hKw : ∀ k, K k → k < w.heap.size)
    (hg : Good (x :: r)) (hb : gTop ≤ b) (he : LErr w ea) (hx : encAll x = [100, 101, 108]) :
    Calls Tryd.prog 60 #[.pointer (some ⟨b, 0, none⟩)] w (OpPost b ea K x r w) := by
  have hlt : b < w.heap.size := by obtain ⟨ao, cap, h1, -⟩ := h; exact h1.lt
  have htop := he.top
  have hz1 : Blk ((w.alloc (.cells opZero 103)).alloc (.cells opZero 103)) w.heap.size 103 opZero := (Blk.new w _ _).alloc _
  have hz2 : Blk ((w.alloc (.cells opZero 103)).alloc (.cells opZero 103)) (w.heap.size + 1) 103 opZero := by have := Blk.new (w.alloc (.cells opZero 103)) 103 opZero; rwa [World.size_alloc] at this
  have ho0 : Only (fun k => k = b) w ((w.alloc (.cells opZero 103)).alloc (.cells opZero 103)) := ((Only.refl _ w).alloc _).alloc _
  have ho1 : Only (fun k => False) w ((w.alloc (.cells opZero 103)).alloc (.cells opZero 103)) := ((Only.refl _ w).alloc _).alloc _
  have ST0 := Lib.hid (show OSt w b ea K ((w.alloc (.cells opZero 103)).alloc (.cells opZero 103)) opZero (x :: r) 0 from
    ⟨ho0, h.only ho1 (fun h => h) (fun _ h => h.elim), hz2, hz1, he.only ho1 (fun _ h => h.elim), hg, htop, hlt, hb, hK, hKw⟩)
  have HW := Lib.hid (fun W (hr : RAt W b ea (x :: r) 0 K) => word_cons b ea x r K W hr hK)
  have hbn : b ≠ w.heap.size + 1 := by omega
  have hKn : ¬ K (w.heap.size + 1) := fun h => by have := hKw _ h; omega
  have htn : gTop ≤ w.heap.size + 1 := by omega
  have HBN := Lib.hid hbn
  have HKN := Lib.hid hKn
  have HTN := Lib.hid htn
  have HGR := Lib.hid hg.tail
  have s0 : ((mkS (encAll x)).toList == [112, 117, 116]) = false := by rw [Lib.toList_data, mkS_data, hx]; rfl
  have s1 : ((mkS (encAll x)).toList == [100, 101, 108]) = true := by rw [Lib.toList_data, mkS_data, hx]; rfl
  have HF := Lib.hid (show opF x r = ((⟨2, ((rdStr r 0).1.getD []), [], [], 0⟩ : POp), (rdStr r 0).2) by unfold opF; simp [hx])
  clear h hx hz1 hz2 ho0 ho1 he hg hbn hKn htn
  go_enter Tryd.func60, Tryd.ntmps60
  go_wp2_with fail
  refine (HW.out _ ST0.out.rat).mono ?_
  rintro e w1 ⟨rfl, hoW, hrW⟩
  have ST1 := Lib.hid (ST0.out.word hoW hrW HGR.out)
  clear hoW hrW
  have k0 := ST1.out.ob.cell 0
  have k0f := ST1.out.ob.frozen 0
  have ST2 := Lib.hid (ST1.out.put 0 (.int .i64 2))
  rw [show opZero.setIfInBounds 0 (.int .i64 2) = #[Value.int .i64 2, Value.string ByteArray.empty, Value.string ByteArray.empty, Value.string ByteArray.empty, Value.int .i64 0] from rfl] at ST2
  go_wp2_with fail
  refine (read_str b (w.heap.size + 1) 1 103 #[Value.int .i64 2, Value.string ByteArray.empty, Value.string ByteArray.empty, Value.string ByteArray.empty, Value.int .i64 0] ByteArray.empty ea _ _ K _ ST2.out.rat ST2.out.hK HKN.out ST2.out.good ST2.out.ob rfl HBN.out ST2.out.btop HTN.out ST2.out.err).mono ?_
  intro e w3 hp0
  obtain rfl := hp0.1
  have ST3 := Lib.hid (ST2.out.read hp0 (rdStr_good ST2.out.good))
  rw [putStr #[Value.int .i64 2, Value.string ByteArray.empty, Value.string ByteArray.empty, Value.string ByteArray.empty, Value.int .i64 0] 1 _ rfl] at ST3
  rw [show (#[Value.int .i64 2, Value.string ByteArray.empty, Value.string ByteArray.empty, Value.string ByteArray.empty, Value.int .i64 0] : Array Value).setIfInBounds 1 (txt ((rdStr r 0).1.getD [])) = #[Value.int .i64 2, txt ((rdStr r 0).1.getD []), Value.string ByteArray.empty, Value.string ByteArray.empty, Value.int .i64 0] from rfl] at ST3
  clear hp0
  unfold txt at ST3
  generalize hv1 : mkS (encAll ((rdStr r 0).1.getD [])) = v1 at *
  have HV1 := Lib.hid hv1
  clear hv1
  have m0 : _ = some (Value.int .i64 2) := ST3.out.ob.cell 0
  have m1 : _ = some (Value.string v1) := ST3.out.ob.cell 1
  have m2 : _ = some (Value.string ByteArray.empty) := ST3.out.ob.cell 2
  have m3 : _ = some (Value.string ByteArray.empty) := ST3.out.ob.cell 3
  have m4 : _ = some (Value.int .i64 0) := ST3.out.ob.cell 4
  have r0 : w3.cell? ⟨w.heap.size, 0, none⟩ = some (.int .i64 0) := ST3.out.res.cell 0
  have rf0 := ST3.out.res.frozen 0
  have r1 : w3.cell? ⟨w.heap.size, 1, none⟩ = some (.string ByteArray.empty) := ST3.out.res.cell 1
  have rf1 := ST3.out.res.frozen 1
  have r2 : w3.cell? ⟨w.heap.size, 2, none⟩ = some (.string ByteArray.empty) := ST3.out.res.cell 2
  have rf2 := ST3.out.res.frozen 2
  have r3 : w3.cell? ⟨w.heap.size, 3, none⟩ = some (.string ByteArray.empty) := ST3.out.res.cell 3
  have rf3 := ST3.out.res.frozen 3
  have r4 : w3.cell? ⟨w.heap.size, 4, none⟩ = some (.int .i64 0) := ST3.out.res.cell 4
  have rf4 := ST3.out.res.frozen 4
  go_wp2_with fail
  refine bodyPost_ret (results_cell_row rfl _ _ w.heap.size 103 #[Value.int .i64 2, Value.string v1, Value.string ByteArray.empty, Value.string ByteArray.empty, Value.int .i64 0] (0, 0) _ rfl (((((ST3.out.res.put 0 _).put 1 _).put 2 _).put 3 _).put 4 _) Tryd.underlying103 rfl (by kernel_rfl)) rfl ?_
  unfold OpPost
  rw [HF.out]
  refine ⟨?_, ((((ST3.out.only.set (.inr (Nat.le_refl _)) _).set (.inr (Nat.le_refl _)) _).set (.inr (Nat.le_refl _)) _).set (.inr (Nat.le_refl _)) _).set (.inr (Nat.le_refl _)) _, ?_⟩
  · rw [← HV1.out]; rfl
  · exact ST3.out.rat.only (S := fun k => k = w.heap.size) (((((Only.refl (fun k => k = w.heap.size) _).set (.inl rfl) _).set (.inl rfl) _).set (.inl rfl) _).set (.inl rfl) _ |>.set (.inl rfl) _) (by omega) (fun k hk hkk => by subst hk; have := hKw _ hkk; omega)

set_option maxHeartbeats 2000000 in
theorem op_cas (b : Nat) (ea : Nat → Addr) (x : List Nat) (r : List (List Nat)) (K : Nat → Prop) (w : World) (h : RAt w b ea (x :: r) 0 K) (hK : ¬ K b) (hKw : ∀ k, K k → k < w.heap.size)
    (hg : Good (x :: r)) (hb : gTop ≤ b) (he : LErr w ea) (hx : encAll x = [99, 97, 115]) :
    Calls Tryd.prog 60 #[.pointer (some ⟨b, 0, none⟩)] w (OpPost b ea K x r w) := by
  have hlt : b < w.heap.size := by obtain ⟨ao, cap, h1, -⟩ := h; exact h1.lt
  have htop := he.top
  have hz1 : Blk ((w.alloc (.cells opZero 103)).alloc (.cells opZero 103)) w.heap.size 103 opZero := (Blk.new w _ _).alloc _
  have hz2 : Blk ((w.alloc (.cells opZero 103)).alloc (.cells opZero 103)) (w.heap.size + 1) 103 opZero := by have := Blk.new (w.alloc (.cells opZero 103)) 103 opZero; rwa [World.size_alloc] at this
  have ho0 : Only (fun k => k = b) w ((w.alloc (.cells opZero 103)).alloc (.cells opZero 103)) := ((Only.refl _ w).alloc _).alloc _
  have ho1 : Only (fun k => False) w ((w.alloc (.cells opZero 103)).alloc (.cells opZero 103)) := ((Only.refl _ w).alloc _).alloc _
  have ST0 := Lib.hid (show OSt w b ea K ((w.alloc (.cells opZero 103)).alloc (.cells opZero 103)) opZero (x :: r) 0 from
    ⟨ho0, h.only ho1 (fun h => h) (fun _ h => h.elim), hz2, hz1, he.only ho1 (fun _ h => h.elim), hg, htop, hlt, hb, hK, hKw⟩)
  have HW := Lib.hid (fun W (hr : RAt W b ea (x :: r) 0 K) => word_cons b ea x r K W hr hK)
  have hbn : b ≠ w.heap.size + 1 := by omega
  have hKn : ¬ K (w.heap.size + 1) := fun h => by have := hKw _ h; omega
  have htn : gTop ≤ w.heap.size + 1 := by omega
  have HBN := Lib.hid hbn
  have HKN := Lib.hid hKn
  have HTN := Lib.hid htn
  have HGR := Lib.hid hg.tail
  have s0 : ((mkS (encAll x)).toList == [112, 117, 116]) = false := by rw [Lib.toList_data, mkS_data, hx]; rfl
  have s1 : ((mkS (encAll x)).toList == [100, 101, 108]) = false := by rw [Lib.toList_data, mkS_data, hx]; rfl
  have s2 : ((mkS (encAll x)).toList == [99, 97, 115]) = true := by rw [Lib.toList_data, mkS_data, hx]; rfl
  have HF := Lib.hid (show opF x r = ((⟨3, ((rdStr r 0).1.getD []), ((rdStr (rdStr (rdStr r 0).2.1 (rdStr r 0).2.2).2.1 (rdStr (rdStr r 0).2.1 (rdStr r 0).2.2).2.2).1.getD []), ((rdStr (rdStr r 0).2.1 (rdStr r 0).2.2).1.getD []), 0⟩ : POp), (rdStr (rdStr (rdStr r 0).2.1 (rdStr r 0).2.2).2.1 (rdStr (rdStr r 0).2.1 (rdStr r 0).2.2).2.2).2) by unfold opF; simp [hx])
  clear h hx hz1 hz2 ho0 ho1 he hg hbn hKn htn
  go_enter Tryd.func60, Tryd.ntmps60
  go_wp2_with fail
  refine (HW.out _ ST0.out.rat).mono ?_
  rintro e w1 ⟨rfl, hoW, hrW⟩
  have ST1 := Lib.hid (ST0.out.word hoW hrW HGR.out)
  clear hoW hrW
  have k0 := ST1.out.ob.cell 0
  have k0f := ST1.out.ob.frozen 0
  have ST2 := Lib.hid (ST1.out.put 0 (.int .i64 3))
  rw [show opZero.setIfInBounds 0 (.int .i64 3) = #[Value.int .i64 3, Value.string ByteArray.empty, Value.string ByteArray.empty, Value.string ByteArray.empty, Value.int .i64 0] from rfl] at ST2
  go_wp2_with fail
  refine (read_str b (w.heap.size + 1) 1 103 #[Value.int .i64 3, Value.string ByteArray.empty, Value.string ByteArray.empty, Value.string ByteArray.empty, Value.int .i64 0] ByteArray.empty ea _ _ K _ ST2.out.rat ST2.out.hK HKN.out ST2.out.good ST2.out.ob rfl HBN.out ST2.out.btop HTN.out ST2.out.err).mono ?_
  intro e w3 hp0
  obtain rfl := hp0.1
  have ST3 := Lib.hid (ST2.out.read hp0 (rdStr_good ST2.out.good))
  rw [putStr #[Value.int .i64 3, Value.string ByteArray.empty, Value.string ByteArray.empty, Value.string ByteArray.empty, Value.int .i64 0] 1 _ rfl] at ST3
  rw [show (#[Value.int .i64 3, Value.string ByteArray.empty, Value.string ByteArray.empty, Value.string ByteArray.empty, Value.int .i64 0] : Array Value).setIfInBounds 1 (txt ((rdStr r 0).1.getD [])) = #[Value.int .i64 3, txt ((rdStr r 0).1.getD []), Value.string ByteArray.empty, Value.string ByteArray.empty, Value.int .i64 0] from rfl] at ST3
  clear hp0
  go_wp2_with fail
  refine (read_str b (w.heap.size + 1) 3 103 #[Value.int .i64 3, txt ((rdStr r 0).1.getD []), Value.string ByteArray.empty, Value.string ByteArray.empty, Value.int .i64 0] ByteArray.empty ea _ _ K _ ST3.out.rat ST3.out.hK HKN.out ST3.out.good ST3.out.ob rfl HBN.out ST3.out.btop HTN.out ST3.out.err).mono ?_
  intro e w4 hp1
  obtain rfl := hp1.1
  have ST4 := Lib.hid (ST3.out.read hp1 (rdStr_good ST3.out.good))
  rw [putStr #[Value.int .i64 3, txt ((rdStr r 0).1.getD []), Value.string ByteArray.empty, Value.string ByteArray.empty, Value.int .i64 0] 3 _ rfl] at ST4
  rw [show (#[Value.int .i64 3, txt ((rdStr r 0).1.getD []), Value.string ByteArray.empty, Value.string ByteArray.empty, Value.int .i64 0] : Array Value).setIfInBounds 3 (txt ((rdStr (rdStr r 0).2.1 (rdStr r 0).2.2).1.getD [])) = #[Value.int .i64 3, txt ((rdStr r 0).1.getD []), Value.string ByteArray.empty, txt ((rdStr (rdStr r 0).2.1 (rdStr r 0).2.2).1.getD []), Value.int .i64 0] from rfl] at ST4
  clear hp1
  go_wp2_with fail
  refine (read_str b (w.heap.size + 1) 2 103 #[Value.int .i64 3, txt ((rdStr r 0).1.getD []), Value.string ByteArray.empty, txt ((rdStr (rdStr r 0).2.1 (rdStr r 0).2.2).1.getD []), Value.int .i64 0] ByteArray.empty ea _ _ K _ ST4.out.rat ST4.out.hK HKN.out ST4.out.good ST4.out.ob rfl HBN.out ST4.out.btop HTN.out ST4.out.err).mono ?_
  intro e w5 hp2
  obtain rfl := hp2.1
  have ST5 := Lib.hid (ST4.out.read hp2 (rdStr_good ST4.out.good))
  rw [putStr #[Value.int .i64 3, txt ((rdStr r 0).1.getD []), Value.string ByteArray.empty, txt ((rdStr (rdStr r 0).2.1 (rdStr r 0).2.2).1.getD []), Value.int .i64 0] 2 _ rfl] at ST5
  rw [show (#[Value.int .i64 3, txt ((rdStr r 0).1.getD []), Value.string ByteArray.empty, txt ((rdStr (rdStr r 0).2.1 (rdStr r 0).2.2).1.getD []), Value.int .i64 0] : Array Value).setIfInBounds 2 (txt ((rdStr (rdStr (rdStr r 0).2.1 (rdStr r 0).2.2).2.1 (rdStr (rdStr r 0).2.1 (rdStr r 0).2.2).2.2).1.getD [])) = #[Value.int .i64 3, txt ((rdStr r 0).1.getD []), txt ((rdStr (rdStr (rdStr r 0).2.1 (rdStr r 0).2.2).2.1 (rdStr (rdStr r 0).2.1 (rdStr r 0).2.2).2.2).1.getD []), txt ((rdStr (rdStr r 0).2.1 (rdStr r 0).2.2).1.getD []), Value.int .i64 0] from rfl] at ST5
  clear hp2
  unfold txt at ST5
  generalize hv1 : mkS (encAll ((rdStr r 0).1.getD [])) = v1 at *
  have HV1 := Lib.hid hv1
  clear hv1
  generalize hv2 : mkS (encAll ((rdStr (rdStr (rdStr r 0).2.1 (rdStr r 0).2.2).2.1 (rdStr (rdStr r 0).2.1 (rdStr r 0).2.2).2.2).1.getD [])) = v2 at *
  have HV2 := Lib.hid hv2
  clear hv2
  generalize hv3 : mkS (encAll ((rdStr (rdStr r 0).2.1 (rdStr r 0).2.2).1.getD [])) = v3 at *
  have HV3 := Lib.hid hv3
  clear hv3
  have m0 : _ = some (Value.int .i64 3) := ST5.out.ob.cell 0
  have m1 : _ = some (Value.string v1) := ST5.out.ob.cell 1
  have m2 : _ = some (Value.string v2) := ST5.out.ob.cell 2
  have m3 : _ = some (Value.string v3) := ST5.out.ob.cell 3
  have m4 : _ = some (Value.int .i64 0) := ST5.out.ob.cell 4
  have r0 : w5.cell? ⟨w.heap.size, 0, none⟩ = some (.int .i64 0) := ST5.out.res.cell 0
  have rf0 := ST5.out.res.frozen 0
  have r1 : w5.cell? ⟨w.heap.size, 1, none⟩ = some (.string ByteArray.empty) := ST5.out.res.cell 1
  have rf1 := ST5.out.res.frozen 1
  have r2 : w5.cell? ⟨w.heap.size, 2, none⟩ = some (.string ByteArray.empty) := ST5.out.res.cell 2
  have rf2 := ST5.out.res.frozen 2
  have r3 : w5.cell? ⟨w.heap.size, 3, none⟩ = some (.string ByteArray.empty) := ST5.out.res.cell 3
  have rf3 := ST5.out.res.frozen 3
  have r4 : w5.cell? ⟨w.heap.size, 4, none⟩ = some (.int .i64 0) := ST5.out.res.cell 4
  have rf4 := ST5.out.res.frozen 4
  go_wp2_with fail
  refine bodyPost_ret (results_cell_row rfl _ _ w.heap.size 103 #[Value.int .i64 3, Value.string v1, Value.string v2, Value.string v3, Value.int .i64 0] (0, 0) _ rfl (((((ST5.out.res.put 0 _).put 1 _).put 2 _).put 3 _).put 4 _) Tryd.underlying103 rfl (by kernel_rfl)) rfl ?_
  unfold OpPost
  rw [HF.out]
  refine ⟨?_, ((((ST5.out.only.set (.inr (Nat.le_refl _)) _).set (.inr (Nat.le_refl _)) _).set (.inr (Nat.le_refl _)) _).set (.inr (Nat.le_refl _)) _).set (.inr (Nat.le_refl _)) _, ?_⟩
  · rw [← HV1.out]; rw [← HV2.out]; rw [← HV3.out]; rfl
  · exact ST5.out.rat.only (S := fun k => k = w.heap.size) (((((Only.refl (fun k => k = w.heap.size) _).set (.inl rfl) _).set (.inl rfl) _).set (.inl rfl) _).set (.inl rfl) _ |>.set (.inl rfl) _) (by omega) (fun k hk hkk => by subst hk; have := hKw _ hkk; omega)

set_option maxHeartbeats 2000000 in
theorem op_expect (b : Nat) (ea : Nat → Addr) (x : List Nat) (r : List (List Nat)) (K : Nat → Prop) (w : World) (h : RAt w b ea (x :: r) 0 K) (hK : ¬ K b) (hKw : ∀ k, K k → k < w.heap.size)
    (hg : Good (x :: r)) (hb : gTop ≤ b) (he : LErr w ea) (hx : encAll x = [101, 120, 112, 101, 99, 116]) :
    Calls Tryd.prog 60 #[.pointer (some ⟨b, 0, none⟩)] w (OpPost b ea K x r w) := by
  have hlt : b < w.heap.size := by obtain ⟨ao, cap, h1, -⟩ := h; exact h1.lt
  have htop := he.top
  have hz1 : Blk ((w.alloc (.cells opZero 103)).alloc (.cells opZero 103)) w.heap.size 103 opZero := (Blk.new w _ _).alloc _
  have hz2 : Blk ((w.alloc (.cells opZero 103)).alloc (.cells opZero 103)) (w.heap.size + 1) 103 opZero := by have := Blk.new (w.alloc (.cells opZero 103)) 103 opZero; rwa [World.size_alloc] at this
  have ho0 : Only (fun k => k = b) w ((w.alloc (.cells opZero 103)).alloc (.cells opZero 103)) := ((Only.refl _ w).alloc _).alloc _
  have ho1 : Only (fun k => False) w ((w.alloc (.cells opZero 103)).alloc (.cells opZero 103)) := ((Only.refl _ w).alloc _).alloc _
  have ST0 := Lib.hid (show OSt w b ea K ((w.alloc (.cells opZero 103)).alloc (.cells opZero 103)) opZero (x :: r) 0 from
    ⟨ho0, h.only ho1 (fun h => h) (fun _ h => h.elim), hz2, hz1, he.only ho1 (fun _ h => h.elim), hg, htop, hlt, hb, hK, hKw⟩)
  have HW := Lib.hid (fun W (hr : RAt W b ea (x :: r) 0 K) => word_cons b ea x r K W hr hK)
  have hbn : b ≠ w.heap.size + 1 := by omega
  have hKn : ¬ K (w.heap.size + 1) := fun h => by have := hKw _ h; omega
  have htn : gTop ≤ w.heap.size + 1 := by omega
  have HBN := Lib.hid hbn
  have HKN := Lib.hid hKn
  have HTN := Lib.hid htn
  have HGR := Lib.hid hg.tail
  have s0 : ((mkS (encAll x)).toList == [112, 117, 116]) = false := by rw [Lib.toList_data, mkS_data, hx]; rfl
  have s1 : ((mkS (encAll x)).toList == [100, 101, 108]) = false := by rw [Lib.toList_data, mkS_data, hx]; rfl
  have s2 : ((mkS (encAll x)).toList == [99, 97, 115]) = false := by rw [Lib.toList_data, mkS_data, hx]; rfl
  have s3 : ((mkS (encAll x)).toList == [101, 120, 112, 101, 99, 116]) = true := by rw [Lib.toList_data, mkS_data, hx]; rfl
  have HF := Lib.hid (show opF x r = ((⟨4, ((rdStr r 0).1.getD []), [], [], ((rdNum (rdStr r 0).2.1 (rdStr r 0).2.2).1.getD 0)⟩ : POp), (rdNum (rdStr r 0).2.1 (rdStr r 0).2.2).2) by unfold opF; simp [hx])
  clear h hx hz1 hz2 ho0 ho1 he hg hbn hKn htn
  go_enter Tryd.func60, Tryd.ntmps60
  go_wp2_with fail
  refine (HW.out _ ST0.out.rat).mono ?_
  rintro e w1 ⟨rfl, hoW, hrW⟩
  have ST1 := Lib.hid (ST0.out.word hoW hrW HGR.out)
  clear hoW hrW
  have k0 := ST1.out.ob.cell 0
  have k0f := ST1.out.ob.frozen 0
  have ST2 := Lib.hid (ST1.out.put 0 (.int .i64 4))
  rw [show opZero.setIfInBounds 0 (.int .i64 4) = #[Value.int .i64 4, Value.string ByteArray.empty, Value.string ByteArray.empty, Value.string ByteArray.empty, Value.int .i64 0] from rfl] at ST2
  go_wp2_with fail
  refine (read_str b (w.heap.size + 1) 1 103 #[Value.int .i64 4, Value.string ByteArray.empty, Value.string ByteArray.empty, Value.string ByteArray.empty, Value.int .i64 0] ByteArray.empty ea _ _ K _ ST2.out.rat ST2.out.hK HKN.out ST2.out.good ST2.out.ob rfl HBN.out ST2.out.btop HTN.out ST2.out.err).mono ?_
  intro e w3 hp0
  obtain rfl := hp0.1
  have ST3 := Lib.hid (ST2.out.read hp0 (rdStr_good ST2.out.good))
  rw [putStr #[Value.int .i64 4, Value.string ByteArray.empty, Value.string ByteArray.empty, Value.string ByteArray.empty, Value.int .i64 0] 1 _ rfl] at ST3
  rw [show (#[Value.int .i64 4, Value.string ByteArray.empty, Value.string ByteArray.empty, Value.string ByteArray.empty, Value.int .i64 0] : Array Value).setIfInBounds 1 (txt ((rdStr r 0).1.getD [])) = #[Value.int .i64 4, txt ((rdStr r 0).1.getD []), Value.string ByteArray.empty, Value.string ByteArray.empty, Value.int .i64 0] from rfl] at ST3
  clear hp0
  go_wp2_with fail
  refine (read_num b (w.heap.size + 1) 4 103 #[Value.int .i64 4, txt ((rdStr r 0).1.getD []), Value.string ByteArray.empty, Value.string ByteArray.empty, Value.int .i64 0] 0 ea _ _ K _ ST3.out.rat ST3.out.hK HKN.out ST3.out.good ST3.out.ob rfl HBN.out ST3.out.btop HTN.out ST3.out.err).mono ?_
  intro e w4 hp1
  obtain rfl := hp1.1
  have ST4 := Lib.hid (ST3.out.read hp1 (rdNum_good ST3.out.good))
  rw [putNum #[Value.int .i64 4, txt ((rdStr r 0).1.getD []), Value.string ByteArray.empty, Value.string ByteArray.empty, Value.int .i64 0] 4 _ rfl] at ST4
  rw [show (#[Value.int .i64 4, txt ((rdStr r 0).1.getD []), Value.string ByteArray.empty, Value.string ByteArray.empty, Value.int .i64 0] : Array Value).setIfInBounds 4 (Value.int .i64 ((rdNum (rdStr r 0).2.1 (rdStr r 0).2.2).1.getD 0)) = #[Value.int .i64 4, txt ((rdStr r 0).1.getD []), Value.string ByteArray.empty, Value.string ByteArray.empty, Value.int .i64 ((rdNum (rdStr r 0).2.1 (rdStr r 0).2.2).1.getD 0)] from rfl] at ST4
  clear hp1
  unfold txt at ST4
  generalize hv1 : mkS (encAll ((rdStr r 0).1.getD [])) = v1 at *
  have HV1 := Lib.hid hv1
  clear hv1
  generalize hv4 : ((rdNum (rdStr r 0).2.1 (rdStr r 0).2.2).1.getD 0) = v4 at *
  have HV4 := Lib.hid hv4
  clear hv4
  have m0 : _ = some (Value.int .i64 4) := ST4.out.ob.cell 0
  have m1 : _ = some (Value.string v1) := ST4.out.ob.cell 1
  have m2 : _ = some (Value.string ByteArray.empty) := ST4.out.ob.cell 2
  have m3 : _ = some (Value.string ByteArray.empty) := ST4.out.ob.cell 3
  have m4 : _ = some (Value.int .i64 v4) := ST4.out.ob.cell 4
  have r0 : w4.cell? ⟨w.heap.size, 0, none⟩ = some (.int .i64 0) := ST4.out.res.cell 0
  have rf0 := ST4.out.res.frozen 0
  have r1 : w4.cell? ⟨w.heap.size, 1, none⟩ = some (.string ByteArray.empty) := ST4.out.res.cell 1
  have rf1 := ST4.out.res.frozen 1
  have r2 : w4.cell? ⟨w.heap.size, 2, none⟩ = some (.string ByteArray.empty) := ST4.out.res.cell 2
  have rf2 := ST4.out.res.frozen 2
  have r3 : w4.cell? ⟨w.heap.size, 3, none⟩ = some (.string ByteArray.empty) := ST4.out.res.cell 3
  have rf3 := ST4.out.res.frozen 3
  have r4 : w4.cell? ⟨w.heap.size, 4, none⟩ = some (.int .i64 0) := ST4.out.res.cell 4
  have rf4 := ST4.out.res.frozen 4
  go_wp2_with fail
  refine bodyPost_ret (results_cell_row rfl _ _ w.heap.size 103 #[Value.int .i64 4, Value.string v1, Value.string ByteArray.empty, Value.string ByteArray.empty, Value.int .i64 v4] (0, 0) _ rfl (((((ST4.out.res.put 0 _).put 1 _).put 2 _).put 3 _).put 4 _) Tryd.underlying103 rfl (by kernel_rfl)) rfl ?_
  unfold OpPost
  rw [HF.out]
  refine ⟨?_, ((((ST4.out.only.set (.inr (Nat.le_refl _)) _).set (.inr (Nat.le_refl _)) _).set (.inr (Nat.le_refl _)) _).set (.inr (Nat.le_refl _)) _).set (.inr (Nat.le_refl _)) _, ?_⟩
  · rw [← HV1.out]; rw [← HV4.out]; rfl
  · exact ST4.out.rat.only (S := fun k => k = w.heap.size) (((((Only.refl (fun k => k = w.heap.size) _).set (.inl rfl) _).set (.inl rfl) _).set (.inl rfl) _).set (.inl rfl) _ |>.set (.inl rfl) _) (by omega) (fun k hk hkk => by subst hk; have := hKw _ hkk; omega)

set_option maxHeartbeats 2000000 in
theorem op_else (b : Nat) (ea : Nat → Addr) (x : List Nat) (r : List (List Nat)) (K : Nat → Prop) (w : World) (h : RAt w b ea (x :: r) 0 K) (hK : ¬ K b) (hKw : ∀ k, K k → k < w.heap.size)
    (hg : Good (x :: r)) (hb : gTop ≤ b) (he : LErr w ea) (h0 : encAll x ≠ [112, 117, 116]) (h1 : encAll x ≠ [100, 101, 108]) (h2 : encAll x ≠ [99, 97, 115]) (h3 : encAll x ≠ [101, 120, 112, 101, 99, 116]) :
    Calls Tryd.prog 60 #[.pointer (some ⟨b, 0, none⟩)] w (OpPost b ea K x r w) := by
  have hlt : b < w.heap.size := by obtain ⟨ao, cap, h1, -⟩ := h; exact h1.lt
  have htop := he.top
  have hz1 : Blk ((w.alloc (.cells opZero 103)).alloc (.cells opZero 103)) w.heap.size 103 opZero := (Blk.new w _ _).alloc _
  have hz2 : Blk ((w.alloc (.cells opZero 103)).alloc (.cells opZero 103)) (w.heap.size + 1) 103 opZero := by have := Blk.new (w.alloc (.cells opZero 103)) 103 opZero; rwa [World.size_alloc] at this
  have ho0 : Only (fun k => k = b) w ((w.alloc (.cells opZero 103)).alloc (.cells opZero 103)) := ((Only.refl _ w).alloc _).alloc _
  have ho1 : Only (fun k => False) w ((w.alloc (.cells opZero 103)).alloc (.cells opZero 103)) := ((Only.refl _ w).alloc _).alloc _
  have ST0 := Lib.hid (show OSt w b ea K ((w.alloc (.cells opZero 103)).alloc (.cells opZero 103)) opZero (x :: r) 0 from
    ⟨ho0, h.only ho1 (fun h => h) (fun _ h => h.elim), hz2, hz1, he.only ho1 (fun _ h => h.elim), hg, htop, hlt, hb, hK, hKw⟩)
  have HW := Lib.hid (fun W (hr : RAt W b ea (x :: r) 0 K) => word_cons b ea x r K W hr hK)
  have hbn : b ≠ w.heap.size + 1 := by omega
  have hKn : ¬ K (w.heap.size + 1) := fun h => by have := hKw _ h; omega
  have htn : gTop ≤ w.heap.size + 1 := by omega
  have HBN := Lib.hid hbn
  have HKN := Lib.hid hKn
  have HTN := Lib.hid htn
  have HGR := Lib.hid hg.tail
  have s0 : ((mkS (encAll x)).toList == [112, 117, 116]) = false := by rw [Lib.toList_data, mkS_data]; exact beq_eq_false_iff_ne.2 h0
  have s1 : ((mkS (encAll x)).toList == [100, 101, 108]) = false := by rw [Lib.toList_data, mkS_data]; exact beq_eq_false_iff_ne.2 h1
  have s2 : ((mkS (encAll x)).toList == [99, 97, 115]) = false := by rw [Lib.toList_data, mkS_data]; exact beq_eq_false_iff_ne.2 h2
  have s3 : ((mkS (encAll x)).toList == [101, 120, 112, 101, 99, 116]) = false := by rw [Lib.toList_data, mkS_data]; exact beq_eq_false_iff_ne.2 h3
  have HF := Lib.hid (show opF x r = (⟨0, [], [], [], 0⟩, r, 4) by unfold opF; rw [if_neg h0, if_neg h1, if_neg h2, if_neg h3])
  clear h h0 h1 h2 h3 hz1 hz2 ho0 ho1 he hg hbn hKn htn
  go_enter Tryd.func60, Tryd.ntmps60
  go_wp2_with fail
  refine (HW.out _ ST0.out.rat).mono ?_
  rintro e w1 ⟨rfl, hoW, hrW⟩
  have ST1 := Lib.hid (ST0.out.word hoW hrW HGR.out)
  clear hoW hrW
  have k1 := ST1.out.rat.cell1.1
  rw [errOf_zero] at k1
  have k1f := ST1.out.rat.cell1.2
  have kf := ST1.out.err.form
  have ST2 := Lib.hid (ST1.out.word ((Only.refl (fun k => k = b) _).set (p := ⟨b, 1, none⟩) (.inl rfl) (errOf ea 4)) (ST1.out.rat.putErr 4 hK) HGR.out)
  rw [errOf_succ] at ST2
  have m0 : (w1.setCell ⟨b, 1, none⟩ (.iface 163 (.pointer (some (ea 3))))).cell? ⟨w.heap.size + 1, 0, none⟩ = some (.int .i64 0) := ST2.out.ob.cell 0
  have m1 : (w1.setCell ⟨b, 1, none⟩ (.iface 163 (.pointer (some (ea 3))))).cell? ⟨w.heap.size + 1, 1, none⟩ = some (.string ByteArray.empty) := ST2.out.ob.cell 1
  have m2 : (w1.setCell ⟨b, 1, none⟩ (.iface 163 (.pointer (some (ea 3))))).cell? ⟨w.heap.size + 1, 2, none⟩ = some (.string ByteArray.empty) := ST2.out.ob.cell 2
  have m3 : (w1.setCell ⟨b, 1, none⟩ (.iface 163 (.pointer (some (ea 3))))).cell? ⟨w.heap.size + 1, 3, none⟩ = some (.string ByteArray.empty) := ST2.out.ob.cell 3
  have m4 : (w1.setCell ⟨b, 1, none⟩ (.iface 163 (.pointer (some (ea 3))))).cell? ⟨w.heap.size + 1, 4, none⟩ = some (.int .i64 0) := ST2.out.ob.cell 4
  have r0 : (w1.setCell ⟨b, 1, none⟩ (.iface 163 (.pointer (some (ea 3))))).cell? ⟨w.heap.size, 0, none⟩ = some (.int .i64 0) := ST2.out.res.cell 0
  have rf0 := ST2.out.res.frozen 0
  have r1 : (w1.setCell ⟨b, 1, none⟩ (.iface 163 (.pointer (some (ea 3))))).cell? ⟨w.heap.size, 1, none⟩ = some (.string ByteArray.empty) := ST2.out.res.cell 1
  have rf1 := ST2.out.res.frozen 1
  have r2 : (w1.setCell ⟨b, 1, none⟩ (.iface 163 (.pointer (some (ea 3))))).cell? ⟨w.heap.size, 2, none⟩ = some (.string ByteArray.empty) := ST2.out.res.cell 2
  have rf2 := ST2.out.res.frozen 2
  have r3 : (w1.setCell ⟨b, 1, none⟩ (.iface 163 (.pointer (some (ea 3))))).cell? ⟨w.heap.size, 3, none⟩ = some (.string ByteArray.empty) := ST2.out.res.cell 3
  have rf3 := ST2.out.res.frozen 3
  have r4 : (w1.setCell ⟨b, 1, none⟩ (.iface 163 (.pointer (some (ea 3))))).cell? ⟨w.heap.size, 4, none⟩ = some (.int .i64 0) := ST2.out.res.cell 4
  have rf4 := ST2.out.res.frozen 4
  go_wp2_with fail
  refine bodyPost_ret (results_cell_row rfl _ _ w.heap.size 103 #[Value.int .i64 0, Value.string ByteArray.empty, Value.string ByteArray.empty, Value.string ByteArray.empty, Value.int .i64 0] (0, 0) _ rfl (((((ST2.out.res.put 0 _).put 1 _).put 2 _).put 3 _).put 4 _) Tryd.underlying103 rfl (by kernel_rfl)) rfl ?_
  unfold OpPost
  rw [HF.out]
  refine ⟨?_, ((((ST2.out.only.set (.inr (Nat.le_refl _)) _).set (.inr (Nat.le_refl _)) _).set (.inr (Nat.le_refl _)) _).set (.inr (Nat.le_refl _)) _).set (.inr (Nat.le_refl _)) _, ?_⟩
  · rfl
  · exact ST2.out.rat.only (S := fun k => k = w.heap.size) (((((Only.refl (fun k => k = w.heap.size) _).set (.inl rfl) _).set (.inl rfl) _).set (.inl rfl) _).set (.inl rfl) _ |>.set (.inl rfl) _) (by omega) (fun k hk hkk => by subst hk; have := hKw _ hkk; omega)

/-- An operation is read, whatever the words. -/
theorem op_any (b : Nat) (ea : Nat → Addr) (x : List Nat) (r : List (List Nat)) (K : Nat → Prop) (w : World) (h : RAt w b ea (x :: r) 0 K) (hK : ¬ K b) (hKw : ∀ k, K k → k < w.heap.size)
    (hg : Good (x :: r)) (hb : gTop ≤ b) (he : LErr w ea) : Calls Tryd.prog 60 #[.pointer (some ⟨b, 0, none⟩)] w (OpPost b ea K x r w) := by
  by_cases h0 : encAll x = [112, 117, 116]
  · exact op_put b ea x r K w h hK hKw hg hb he h0
  · by_cases h1 : encAll x = [100, 101, 108]
    · exact op_del b ea x r K w h hK hKw hg hb he h1
    · by_cases h2 : encAll x = [99, 97, 115]
      · exact op_cas b ea x r K w h hK hKw hg hb he h2
      · by_cases h3 : encAll x = [101, 120, 112, 101, 99, 116]
        · exact op_expect b ea x r K w h hK hKw hg hb he h3
        · exact op_else b ea x r K w h hK hKw hg hb he h0 h1 h2 h3
end Go.Proofs.YtjhmehmmpfnnkaaDoor
