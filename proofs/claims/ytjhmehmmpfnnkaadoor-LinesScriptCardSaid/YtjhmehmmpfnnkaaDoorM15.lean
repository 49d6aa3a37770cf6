/-
  The contract of tidewaterref31's (*reader).op.
-/
import Derived.Test.YtjhmehmmpfnnkaaDoorM14
import Derived.Test.YtjhmehmmpfnnkaaDoorM07
namespace Go.Proofs.YtjhmehmmpfnnkaaDoor
open Go.RowKit Utf
set_option maxRecDepth 100000
set_option linter.unusedSimpArgs false
set_option linter.unusedVariables false

theorem rdStr_goodR {ws : List (List Nat)} {n : Nat} (h : GoodR ws) : GoodR (rdStr ws n).2.1 := by
  cases n with
  | succ n => cases ws <;> exact h
  | zero =>
    cases ws with
    | nil => exact h
    | cons x r =>
      simp only [rdStr]
      split <;> exact h.tail
theorem rdNum_goodR {ws : List (List Nat)} {n : Nat} (h : GoodR ws) : GoodR (rdNum ws n).2.1 := by
  cases n with
  | succ n => cases ws <;> exact h
  | zero =>
    cases ws with
    | nil => exact h
    | cons x r =>
      simp only [rdNum]
      split <;> exact h.tail

def ROpPost (b : Nat) (K : Nat → Prop) (x : List Nat) (r : List (List Nat)) (w : World) (e : Ending) (w' : World) : Prop :=
  e = .returned (.agg (opCells (opF x r).1).toArray) ∧ Only (fun k => k = b) w w' ∧ RRAt w' b (opF x r).2.1 (opF x r).2.2 K

/-- How the reading of an operation stands: w: the world when it began. -/
structure ORt (w : World) (b : Nat) (K : Nat → Prop) (w1 : World) (cs : Array Value) (ws : List (List Nat)) (n : Nat) : Prop where
  only : Only (fun k => k = b) w w1
  rat : RRAt w1 b ws n K
  ob : Blk w1 (w.heap.size + 1) 103 cs
  res : Blk w1 w.heap.size 103 opZero
  good : GoodR ws
  blt : b < w.heap.size
  hK : ¬ K b
  klt : ∀ k, K k → k < w.heap.size

section
variable {w w1 w2 : World} {b : Nat} {K : Nat → Prop} {cs : Array Value} {ws : List (List Nat)} {n : Nat}
theorem ORt.put (h : ORt w b K w1 cs ws n) (i : Nat) (u : Value) : ORt w b K (w1.setCell ⟨w.heap.size + 1, i, none⟩ u) (cs.setIfInBounds i u) ws n := by
  have ho : Only (fun k => k = w.heap.size + 1) w1 (w1.setCell ⟨w.heap.size + 1, i, none⟩ u) := (Only.refl (fun k => k = w.heap.size + 1) _).set (.inl rfl) _
  have h2 := h.blt
  exact ⟨h.only.set (.inr (by simp)) _, h.rat.only ho (by omega) (fun k hk hkk => by subst hk; have := h.klt _ hkk; omega), h.ob.put i u, h.res.far (by simp) _, h.good, h.blt, h.hK, h.klt⟩
theorem ORt.call (h : ORt w b K w1 cs ws n) {ws' : List (List Nat)} {n' : Nat} (ho : Only (fun k => k = b) w1 w2) (hr : RRAt w2 b ws' n' K) (hg : GoodR ws') : ORt w b K w2 cs ws' n' := by
  have h2 := h.blt
  exact ⟨h.only.trans ho, hr, h.ob.only ho (by omega), h.res.only ho (by omega), hg, h.blt, h.hK, h.klt⟩
end

set_option maxHeartbeats 4000000 in
theorem rop_put (b : Nat) (x : List Nat) (r : List (List Nat)) (K : Nat → Prop) (w : World) (h : RRAt w b (x :: r) 0 K) (hK : ¬ K b) (hKw : ∀ k, K k → k < w.heap.size)
    (hg : GoodR (x :: r)) (hx : encAll x = [112, 117, 116]) :
    Calls Tryd.prog 45 #[.pointer (some ⟨b, 0, none⟩)] w (ROpPost b K x r w) := by
  have hlt : b < w.heap.size := by obtain ⟨ao, cap, h1, -⟩ := h; exact h1.lt
  have hz1 : Blk ((w.alloc (.cells opZero 103)).alloc (.cells opZero 103)) w.heap.size 103 opZero := (Blk.new w _ _).alloc _
  have hz2 : Blk ((w.alloc (.cells opZero 103)).alloc (.cells opZero 103)) (w.heap.size + 1) 103 opZero := by have := Blk.new (w.alloc (.cells opZero 103)) 103 opZero; rwa [World.size_alloc] at this
  have ho0 : Only (fun k => k = b) w ((w.alloc (.cells opZero 103)).alloc (.cells opZero 103)) := ((Only.refl _ w).alloc _).alloc _
  have ho1 : Only (fun k => False) w ((w.alloc (.cells opZero 103)).alloc (.cells opZero 103)) := ((Only.refl _ w).alloc _).alloc _
  have ST0 := Lib.hid (show ORt w b K ((w.alloc (.cells opZero 103)).alloc (.cells opZero 103)) opZero (x :: r) 0 from
    ⟨ho0, h.only ho1 (fun h => h) (fun _ h => h.elim), hz2, hz1, hg, hlt, hK, hKw⟩)
  have HW := Lib.hid (fun W (hr : RRAt W b (x :: r) 0 K) => next_cons b x r K W hr hK)
  have HGR := Lib.hid hg.tail
  have s0 : ((mkS (encAll x)).toList == [112, 117, 116]) = true := by rw [Lib.toList_data, mkS_data, hx]; rfl
  have HF := Lib.hid (show opF x r = ((⟨1, ((rdStr r 0).1.getD []), ((rdStr (rdStr r 0).2.1 (rdStr r 0).2.2).1.getD []), [], 0⟩ : POp), (rdStr (rdStr r 0).2.1 (rdStr r 0).2.2).2) by unfold opF; simp [hx])
  clear h hx hz1 hz2 ho0 ho1 hg
  go_enter Tryd.func45, Tryd.ntmps45
  go_wp2_with fail
  refine (HW.out _ ST0.out.rat).mono ?_
  rintro e w1 ⟨rfl, hoW, hrW⟩
  have ST1 := Lib.hid (ST0.out.call hoW hrW HGR.out)
  clear hoW hrW
  dsimp only [nextR] at ST1
  dsimp only [nextR]
  have k0 := ST1.out.ob.cell 0
  have k0f := ST1.out.ob.frozen 0
  have ST2 := Lib.hid (ST1.out.put 0 (.int .i64 1))
  rw [show opZero.setIfInBounds 0 (.int .i64 1) = #[Value.int .i64 1, Value.string ByteArray.empty, Value.string ByteArray.empty, Value.string ByteArray.empty, Value.int .i64 0] from rfl] at ST2
  go_wp2_with fail
  refine (str_ref b _ _ K _ ST2.out.rat ST2.out.hK ST2.out.good).mono ?_
  rintro e w2 ⟨rfl, ho, hr⟩
  have ST3 := Lib.hid (ST2.out.call ho hr (rdStr_goodR ST2.out.good))
  clear ho hr
  generalize hv : mkS (encAll ((rdStr r 0).1.getD [])) = v0 at *
  have HV0 := Lib.hid hv
  clear hv
  have k1 := ST3.out.ob.cell 1
  have k1f := ST3.out.ob.frozen 1
  have ST4 := Lib.hid (ST3.out.put 1 (Value.string v0))
  rw [show (#[Value.int .i64 1, Value.string ByteArray.empty, Value.string ByteArray.empty, Value.string ByteArray.empty, Value.int .i64 0] : Array Value).setIfInBounds 1 (Value.string v0) = #[Value.int .i64 1, Value.string v0, Value.string ByteArray.empty, Value.string ByteArray.empty, Value.int .i64 0] from rfl] at ST4
  go_wp2_with fail
  refine (str_ref b _ _ K _ ST4.out.rat ST4.out.hK ST4.out.good).mono ?_
  rintro e w3 ⟨rfl, ho, hr⟩
  have ST5 := Lib.hid (ST4.out.call ho hr (rdStr_goodR ST4.out.good))
  clear ho hr
  generalize hv : mkS (encAll ((rdStr (rdStr r 0).2.1 (rdStr r 0).2.2).1.getD [])) = v1 at *
  have HV1 := Lib.hid hv
  clear hv
  have k2 := ST5.out.ob.cell 2
  have k2f := ST5.out.ob.frozen 2
  have ST6 := Lib.hid (ST5.out.put 2 (Value.string v1))
  rw [show (#[Value.int .i64 1, Value.string v0, Value.string ByteArray.empty, Value.string ByteArray.empty, Value.int .i64 0] : Array Value).setIfInBounds 2 (Value.string v1) = #[Value.int .i64 1, Value.string v0, Value.string v1, Value.string ByteArray.empty, Value.int .i64 0] from rfl] at ST6
  have m0 : (w3.setCell ⟨w.heap.size + 1, 2, none⟩ (Value.string v1)).cell? ⟨w.heap.size + 1, 0, none⟩ = some (.int .i64 1) := ST6.out.ob.cell 0
  have m1 : (w3.setCell ⟨w.heap.size + 1, 2, none⟩ (Value.string v1)).cell? ⟨w.heap.size + 1, 1, none⟩ = some (Value.string v0) := ST6.out.ob.cell 1
  have m2 : (w3.setCell ⟨w.heap.size + 1, 2, none⟩ (Value.string v1)).cell? ⟨w.heap.size + 1, 2, none⟩ = some (Value.string v1) := ST6.out.ob.cell 2
  have m3 : (w3.setCell ⟨w.heap.size + 1, 2, none⟩ (Value.string v1)).cell? ⟨w.heap.size + 1, 3, none⟩ = some (Value.string ByteArray.empty) := ST6.out.ob.cell 3
  have m4 : (w3.setCell ⟨w.heap.size + 1, 2, none⟩ (Value.string v1)).cell? ⟨w.heap.size + 1, 4, none⟩ = some (Value.int .i64 0) := ST6.out.ob.cell 4
  have r0 : (w3.setCell ⟨w.heap.size + 1, 2, none⟩ (Value.string v1)).cell? ⟨w.heap.size, 0, none⟩ = some (.int .i64 0) := ST6.out.res.cell 0
  have rf0 := ST6.out.res.frozen 0
  have r1 : (w3.setCell ⟨w.heap.size + 1, 2, none⟩ (Value.string v1)).cell? ⟨w.heap.size, 1, none⟩ = some (.string ByteArray.empty) := ST6.out.res.cell 1
  have rf1 := ST6.out.res.frozen 1
  have r2 : (w3.setCell ⟨w.heap.size + 1, 2, none⟩ (Value.string v1)).cell? ⟨w.heap.size, 2, none⟩ = some (.string ByteArray.empty) := ST6.out.res.cell 2
  have rf2 := ST6.out.res.frozen 2
  have r3 : (w3.setCell ⟨w.heap.size + 1, 2, none⟩ (Value.string v1)).cell? ⟨w.heap.size, 3, none⟩ = some (.string ByteArray.empty) := ST6.out.res.cell 3
  have rf3 := ST6.out.res.frozen 3
  have r4 : (w3.setCell ⟨w.heap.size + 1, 2, none⟩ (Value.string v1)).cell? ⟨w.heap.size, 4, none⟩ = some (.int .i64 0) := ST6.out.res.cell 4
  have rf4 := ST6.out.res.frozen 4
  go_wp2_with fail
  refine bodyPost_ret (results_cell_row rfl _ _ w.heap.size 103 #[Value.int .i64 1, Value.string v0, Value.string v1, Value.string ByteArray.empty, Value.int .i64 0] (0, 0) _ rfl (((((ST6.out.res.put 0 _).put 1 _).put 2 _).put 3 _).put 4 _) Tryd.underlying103 rfl (by kernel_rfl)) rfl ?_
  unfold ROpPost
  rw [HF.out]
  refine ⟨?_, ((((ST6.out.only.set (.inr (Nat.le_refl _)) _).set (.inr (Nat.le_refl _)) _).set (.inr (Nat.le_refl _)) _).set (.inr (Nat.le_refl _)) _).set (.inr (Nat.le_refl _)) _, ?_⟩
  · rw [← HV0.out, ← HV1.out]; rfl
  · exact ST6.out.rat.only (S := fun k => k = w.heap.size) (((((Only.refl (fun k => k = w.heap.size) _).set (.inl rfl) _).set (.inl rfl) _).set (.inl rfl) _).set (.inl rfl) _ |>.set (.inl rfl) _) (by omega) (fun k hk hkk => by subst hk; have := hKw _ hkk; omega)

set_option maxHeartbeats 4000000 in
theorem rop_del (b : Nat) (x : List Nat) (r : List (List Nat)) (K : Nat → Prop) (w : World) (h : RRAt w b (x :: r) 0 K) (hK : ¬ K b) (hKw : ∀ k, K k → k < w.heap.size)
    (hg : GoodR (x :: r)) (hx : encAll x = [100, 101, 108]) :
    Calls Tryd.prog 45 #[.pointer (some ⟨b, 0, none⟩)] w (ROpPost b K x r w) := by
  have hlt : b < w.heap.size := by obtain ⟨ao, cap, h1, -⟩ := h; exact h1.lt
  have hz1 : Blk ((w.alloc (.cells opZero 103)).alloc (.cells opZero 103)) w.heap.size 103 opZero := (Blk.new w _ _).alloc _
  have hz2 : Blk ((w.alloc (.cells opZero 103)).alloc (.cells opZero 103)) (w.heap.size + 1) 103 opZero := by have := Blk.new (w.alloc (.cells opZero 103)) 103 opZero; rwa [World.size_alloc] at this
  have ho0 : Only (fun k => k = b) w ((w.alloc (.cells opZero 103)).alloc (.cells opZero 103)) := ((Only.refl _ w).alloc _).alloc _
  have ho1 : Only (fun k => False) w ((w.alloc (.cells opZero 103)).alloc (.cells opZero 103)) := ((Only.refl _ w).alloc _).alloc _
  have ST0 := Lib.hid (show ORt w b K ((w.alloc (.cells opZero 103)).alloc (.cells opZero 103)) opZero (x :: r) 0 from
    ⟨ho0, h.only ho1 (fun h => h) (fun _ h => h.elim), hz2, hz1, hg, hlt, hK, hKw⟩)
  have HW := Lib.hid (fun W (hr : RRAt W b (x :: r) 0 K) => next_cons b x r K W hr hK)
  have HGR := Lib.hid hg.tail
  have s0 : ((mkS (encAll x)).toList == [112, 117, 116]) = false := by rw [Lib.toList_data, mkS_data, hx]; rfl
  have s1 : ((mkS (encAll x)).toList == [100, 101, 108]) = true := by rw [Lib.toList_data, mkS_data, hx]; rfl
  have HF := Lib.hid (show opF x r = ((⟨2, ((rdStr r 0).1.getD []), [], [], 0⟩ : POp), (rdStr r 0).2) by unfold opF; simp [hx])
  clear h hx hz1 hz2 ho0 ho1 hg
  go_enter Tryd.func45, Tryd.ntmps45
  go_wp2_with fail
  refine (HW.out _ ST0.out.rat).mono ?_
  rintro e w1 ⟨rfl, hoW, hrW⟩
  have ST1 := Lib.hid (ST0.out.call hoW hrW HGR.out)
  clear hoW hrW
  dsimp only [nextR] at ST1
  dsimp only [nextR]
  have k0 := ST1.out.ob.cell 0
  have k0f := ST1.out.ob.frozen 0
  have ST2 := Lib.hid (ST1.out.put 0 (.int .i64 2))
  rw [show opZero.setIfInBounds 0 (.int .i64 2) = #[Value.int .i64 2, Value.string ByteArray.empty, Value.string ByteArray.empty, Value.string ByteArray.empty, Value.int .i64 0] from rfl] at ST2
  go_wp2_with fail
  refine (str_ref b _ _ K _ ST2.out.rat ST2.out.hK ST2.out.good).mono ?_
  rintro e w2 ⟨rfl, ho, hr⟩
  have ST3 := Lib.hid (ST2.out.call ho hr (rdStr_goodR ST2.out.good))
  clear ho hr
  generalize hv : mkS (encAll ((rdStr r 0).1.getD [])) = v0 at *
  have HV0 := Lib.hid hv
  clear hv
  have k1 := ST3.out.ob.cell 1
  have k1f := ST3.out.ob.frozen 1
  have ST4 := Lib.hid (ST3.out.put 1 (Value.string v0))
  rw [show (#[Value.int .i64 2, Value.string ByteArray.empty, Value.string ByteArray.empty, Value.string ByteArray.empty, Value.int .i64 0] : Array Value).setIfInBounds 1 (Value.string v0) = #[Value.int .i64 2, Value.string v0, Value.string ByteArray.empty, Value.string ByteArray.empty, Value.int .i64 0] from rfl] at ST4
  have m0 : (w2.setCell ⟨w.heap.size + 1, 1, none⟩ (Value.string v0)).cell? ⟨w.heap.size + 1, 0, none⟩ = some (.int .i64 2) := ST4.out.ob.cell 0
  have m1 : (w2.setCell ⟨w.heap.size + 1, 1, none⟩ (Value.string v0)).cell? ⟨w.heap.size + 1, 1, none⟩ = some (Value.string v0) := ST4.out.ob.cell 1
  have m2 : (w2.setCell ⟨w.heap.size + 1, 1, none⟩ (Value.string v0)).cell? ⟨w.heap.size + 1, 2, none⟩ = some (Value.string ByteArray.empty) := ST4.out.ob.cell 2
  have m3 : (w2.setCell ⟨w.heap.size + 1, 1, none⟩ (Value.string v0)).cell? ⟨w.heap.size + 1, 3, none⟩ = some (Value.string ByteArray.empty) := ST4.out.ob.cell 3
  have m4 : (w2.setCell ⟨w.heap.size + 1, 1, none⟩ (Value.string v0)).cell? ⟨w.heap.size + 1, 4, none⟩ = some (Value.int .i64 0) := ST4.out.ob.cell 4
  have r0 : (w2.setCell ⟨w.heap.size + 1, 1, none⟩ (Value.string v0)).cell? ⟨w.heap.size, 0, none⟩ = some (.int .i64 0) := ST4.out.res.cell 0
  have rf0 := ST4.out.res.frozen 0
  have r1 : (w2.setCell ⟨w.heap.size + 1, 1, none⟩ (Value.string v0)).cell? ⟨w.heap.size, 1, none⟩ = some (.string ByteArray.empty) := ST4.out.res.cell 1
  have rf1 := ST4.out.res.frozen 1
  have r2 : (w2.setCell ⟨w.heap.size + 1, 1, none⟩ (Value.string v0)).cell? ⟨w.heap.size, 2, none⟩ = some (.string ByteArray.empty) := ST4.out.res.cell 2
  have rf2 := ST4.out.res.frozen 2
  have r3 : (w2.setCell ⟨w.heap.size + 1, 1, none⟩ (Value.string v0)).cell? ⟨w.heap.size, 3, none⟩ = some (.string ByteArray.empty) := ST4.out.res.cell 3
  have rf3 := ST4.out.res.frozen 3
  have r4 : (w2.setCell ⟨w.heap.size + 1, 1, none⟩ (Value.string v0)).cell? ⟨w.heap.size, 4, none⟩ = some (.int .i64 0) := ST4.out.res.cell 4
  have rf4 := ST4.out.res.frozen 4
  go_wp2_with fail
  refine bodyPost_ret (results_cell_row rfl _ _ w.heap.size 103 #[Value.int .i64 2, Value.string v0, Value.string ByteArray.empty, Value.string ByteArray.empty, Value.int .i64 0] (0, 0) _ rfl (((((ST4.out.res.put 0 _).put 1 _).put 2 _).put 3 _).put 4 _) Tryd.underlying103 rfl (by kernel_rfl)) rfl ?_
  unfold ROpPost
  rw [HF.out]
  refine ⟨?_, ((((ST4.out.only.set (.inr (Nat.le_refl _)) _).set (.inr (Nat.le_refl _)) _).set (.inr (Nat.le_refl _)) _).set (.inr (Nat.le_refl _)) _).set (.inr (Nat.le_refl _)) _, ?_⟩
  · rw [← HV0.out]; rfl
  · exact ST4.out.rat.only (S := fun k => k = w.heap.size) (((((Only.refl (fun k => k = w.heap.size) _).set (.inl rfl) _).set (.inl rfl) _).set (.inl rfl) _).set (.inl rfl) _ |>.set (.inl rfl) _) (by omega) (fun k hk hkk => by subst hk; have := hKw _ hkk; omega)

set_option maxHeartbeats 4000000 in
theorem rop_cas (b : Nat) (x : List Nat) (r : List (List Nat)) (K : Nat → Prop) (w : World) (h : RRAt w b (x :: r) 0 K) (hK : ¬ K b) (hKw : ∀ k, K k → k < w.heap.size)
    (hg : GoodR (x :: r)) (hx : encAll x = [99, 97, 115]) :
    Calls Tryd.prog 45 #[.pointer (some ⟨b, 0, none⟩)] w (ROpPost b K x r w) := by
  have hlt : b < w.heap.size := by obtain ⟨ao, cap, h1, -⟩ := h; exact h1.lt
  have hz1 : Blk ((w.alloc (.cells opZero 103)).alloc (.cells opZero 103)) w.heap.size 103 opZero := (Blk.new w _ _).alloc _
  have hz2 : Blk ((w.alloc (.cells opZero 103)).alloc (.cells opZero 103)) (w.heap.size + 1) 103 opZero := by have := Blk.new (w.alloc (.cells opZero 103)) 103 opZero; rwa [World.size_alloc] at this
  have ho0 : Only (fun k => k = b) w ((w.alloc (.cells opZero 103)).alloc (.cells opZero 103)) := ((Only.refl _ w).alloc _).alloc _
  have ho1 : Only (fun k => False) w ((w.alloc (.cells opZero 103)).alloc (.cells opZero 103)) := ((Only.refl _ w).alloc _).alloc _
  have ST0 := Lib.hid (show ORt w b K ((w.alloc (.cells opZero 103)).alloc (.cells opZero 103)) opZero (x :: r) 0 from
    ⟨ho0, h.only ho1 (fun h => h) (fun _ h => h.elim), hz2, hz1, hg, hlt, hK, hKw⟩)
  have HW := Lib.hid (fun W (hr : RRAt W b (x :: r) 0 K) => next_cons b x r K W hr hK)
  have HGR := Lib.hid hg.tail
  have s0 : ((mkS (encAll x)).toList == [112, 117, 116]) = false := by rw [Lib.toList_data, mkS_data, hx]; rfl
  have s1 : ((mkS (encAll x)).toList == [100, 101, 108]) = false := by rw [Lib.toList_data, mkS_data, hx]; rfl
  have s2 : ((mkS (encAll x)).toList == [99, 97, 115]) = true := by rw [Lib.toList_data, mkS_data, hx]; rfl
  have HF := Lib.hid (show opF x r = ((⟨3, ((rdStr r 0).1.getD []), ((rdStr (rdStr (rdStr r 0).2.1 (rdStr r 0).2.2).2.1 (rdStr (rdStr r 0).2.1 (rdStr r 0).2.2).2.2).1.getD []), ((rdStr (rdStr r 0).2.1 (rdStr r 0).2.2).1.getD []), 0⟩ : POp), (rdStr (rdStr (rdStr r 0).2.1 (rdStr r 0).2.2).2.1 (rdStr (rdStr r 0).2.1 (rdStr r 0).2.2).2.2).2) by unfold opF; simp [hx])
  clear h hx hz1 hz2 ho0 ho1 hg
  go_enter Tryd.func45, Tryd.ntmps45
  go_wp2_with fail
  refine (HW.out _ ST0.out.rat).mono ?_
  rintro e w1 ⟨rfl, hoW, hrW⟩
  have ST1 := Lib.hid (ST0.out.call hoW hrW HGR.out)
  clear hoW hrW
  dsimp only [nextR] at ST1
  dsimp only [nextR]
  have k0 := ST1.out.ob.cell 0
  have k0f := ST1.out.ob.frozen 0
  have ST2 := Lib.hid (ST1.out.put 0 (.int .i64 3))
  rw [show opZero.setIfInBounds 0 (.int .i64 3) = #[Value.int .i64 3, Value.string ByteArray.empty, Value.string ByteArray.empty, Value.string ByteArray.empty, Value.int .i64 0] from rfl] at ST2
  go_wp2_with fail
  refine (str_ref b _ _ K _ ST2.out.rat ST2.out.hK ST2.out.good).mono ?_
  rintro e w2 ⟨rfl, ho, hr⟩
  have ST3 := Lib.hid (ST2.out.call ho hr (rdStr_goodR ST2.out.good))
  clear ho hr
  generalize hv : mkS (encAll ((rdStr r 0).1.getD [])) = v0 at *
  have HV0 := Lib.hid hv
  clear hv
  have k1 := ST3.out.ob.cell 1
  have k1f := ST3.out.ob.frozen 1
  have ST4 := Lib.hid (ST3.out.put 1 (Value.string v0))
  rw [show (#[Value.int .i64 3, Value.string ByteArray.empty, Value.string ByteArray.empty, Value.string ByteArray.empty, Value.int .i64 0] : Array Value).setIfInBounds 1 (Value.string v0) = #[Value.int .i64 3, Value.string v0, Value.string ByteArray.empty, Value.string ByteArray.empty, Value.int .i64 0] from rfl] at ST4
  go_wp2_with fail
  refine (str_ref b _ _ K _ ST4.out.rat ST4.out.hK ST4.out.good).mono ?_
  rintro e w3 ⟨rfl, ho, hr⟩
  have ST5 := Lib.hid (ST4.out.call ho hr (rdStr_goodR ST4.out.good))
  clear ho hr
  generalize hv : mkS (encAll ((rdStr (rdStr r 0).2.1 (rdStr r 0).2.2).1.getD [])) = v1 at *
  have HV1 := Lib.hid hv
  clear hv
  have k2 := ST5.out.ob.cell 3
  have k2f := ST5.out.ob.frozen 3
  have ST6 := Lib.hid (ST5.out.put 3 (Value.string v1))
  rw [show (#[Value.int .i64 3, Value.string v0, Value.string ByteArray.empty, Value.string ByteArray.empty, Value.int .i64 0] : Array Value).setIfInBounds 3 (Value.string v1) = #[Value.int .i64 3, Value.string v0, Value.string ByteArray.empty, Value.string v1, Value.int .i64 0] from rfl] at ST6
  go_wp2_with fail
  refine (str_ref b _ _ K _ ST6.out.rat ST6.out.hK ST6.out.good).mono ?_
  rintro e w4 ⟨rfl, ho, hr⟩
  have ST7 := Lib.hid (ST6.out.call ho hr (rdStr_goodR ST6.out.good))
  clear ho hr
  generalize hv : mkS (encAll ((rdStr (rdStr (rdStr r 0).2.1 (rdStr r 0).2.2).2.1 (rdStr (rdStr r 0).2.1 (rdStr r 0).2.2).2.2).1.getD [])) = v2 at *
  have HV2 := Lib.hid hv
  clear hv
  have k3 := ST7.out.ob.cell 2
  have k3f := ST7.out.ob.frozen 2
  have ST8 := Lib.hid (ST7.out.put 2 (Value.string v2))
  rw [show (#[Value.int .i64 3, Value.string v0, Value.string ByteArray.empty, Value.string v1, Value.int .i64 0] : Array Value).setIfInBounds 2 (Value.string v2) = #[Value.int .i64 3, Value.string v0, Value.string v2, Value.string v1, Value.int .i64 0] from rfl] at ST8
  have m0 : (w4.setCell ⟨w.heap.size + 1, 2, none⟩ (Value.string v2)).cell? ⟨w.heap.size + 1, 0, none⟩ = some (.int .i64 3) := ST8.out.ob.cell 0
  have m1 : (w4.setCell ⟨w.heap.size + 1, 2, none⟩ (Value.string v2)).cell? ⟨w.heap.size + 1, 1, none⟩ = some (Value.string v0) := ST8.out.ob.cell 1
  have m2 : (w4.setCell ⟨w.heap.size + 1, 2, none⟩ (Value.string v2)).cell? ⟨w.heap.size + 1, 2, none⟩ = some (Value.string v2) := ST8.out.ob.cell 2
  have m3 : (w4.setCell ⟨w.heap.size + 1, 2, none⟩ (Value.string v2)).cell? ⟨w.heap.size + 1, 3, none⟩ = some (Value.string v1) := ST8.out.ob.cell 3
  have m4 : (w4.setCell ⟨w.heap.size + 1, 2, none⟩ (Value.string v2)).cell? ⟨w.heap.size + 1, 4, none⟩ = some (Value.int .i64 0) := ST8.out.ob.cell 4
  have r0 : (w4.setCell ⟨w.heap.size + 1, 2, none⟩ (Value.string v2)).cell? ⟨w.heap.size, 0, none⟩ = some (.int .i64 0) := ST8.out.res.cell 0
  have rf0 := ST8.out.res.frozen 0
  have r1 : (w4.setCell ⟨w.heap.size + 1, 2, none⟩ (Value.string v2)).cell? ⟨w.heap.size, 1, none⟩ = some (.string ByteArray.empty) := ST8.out.res.cell 1
  have rf1 := ST8.out.res.frozen 1
  have r2 : (w4.setCell ⟨w.heap.size + 1, 2, none⟩ (Value.string v2)).cell? ⟨w.heap.size, 2, none⟩ = some (.string ByteArray.empty) := ST8.out.res.cell 2
  have rf2 := ST8.out.res.frozen 2
  have r3 : (w4.setCell ⟨w.heap.size + 1, 2, none⟩ (Value.string v2)).cell? ⟨w.heap.size, 3, none⟩ = some (.string ByteArray.empty) := ST8.out.res.cell 3
  have rf3 := ST8.out.res.frozen 3
  have r4 : (w4.setCell ⟨w.heap.size + 1, 2, none⟩ (Value.string v2)).cell? ⟨w.heap.size, 4, none⟩ = some (.int .i64 0) := ST8.out.res.cell 4
  have rf4 := ST8.out.res.frozen 4
  go_wp2_with fail
  refine bodyPost_ret (results_cell_row rfl _ _ w.heap.size 103 #[Value.int .i64 3, Value.string v0, Value.string v2, Value.string v1, Value.int .i64 0] (0, 0) _ rfl (((((ST8.out.res.put 0 _).put 1 _).put 2 _).put 3 _).put 4 _) Tryd.underlying103 rfl (by kernel_rfl)) rfl ?_
  unfold ROpPost
  rw [HF.out]
  refine ⟨?_, ((((ST8.out.only.set (.inr (Nat.le_refl _)) _).set (.inr (Nat.le_refl _)) _).set (.inr (Nat.le_refl _)) _).set (.inr (Nat.le_refl _)) _).set (.inr (Nat.le_refl _)) _, ?_⟩
  · rw [← HV0.out, ← HV1.out, ← HV2.out]; rfl
  · exact ST8.out.rat.only (S := fun k => k = w.heap.size) (((((Only.refl (fun k => k = w.heap.size) _).set (.inl rfl) _).set (.inl rfl) _).set (.inl rfl) _).set (.inl rfl) _ |>.set (.inl rfl) _) (by omega) (fun k hk hkk => by subst hk; have := hKw _ hkk; omega)

set_option maxHeartbeats 4000000 in
theorem rop_expect (b : Nat) (x : List Nat) (r : List (List Nat)) (K : Nat → Prop) (w : World) (h : RRAt w b (x :: r) 0 K) (hK : ¬ K b) (hKw : ∀ k, K k → k < w.heap.size)
    (hg : GoodR (x :: r)) (hx : encAll x = [101, 120, 112, 101, 99, 116]) :
    Calls Tryd.prog 45 #[.pointer (some ⟨b, 0, none⟩)] w (ROpPost b K x r w) := by
  have hlt : b < w.heap.size := by obtain ⟨ao, cap, h1, -⟩ := h; exact h1.lt
  have hz1 : Blk ((w.alloc (.cells opZero 103)).alloc (.cells opZero 103)) w.heap.size 103 opZero := (Blk.new w _ _).alloc _
  have hz2 : Blk ((w.alloc (.cells opZero 103)).alloc (.cells opZero 103)) (w.heap.size + 1) 103 opZero := by have := Blk.new (w.alloc (.cells opZero 103)) 103 opZero; rwa [World.size_alloc] at this
  have ho0 : Only (fun k => k = b) w ((w.alloc (.cells opZero 103)).alloc (.cells opZero 103)) := ((Only.refl _ w).alloc _).alloc _
  have ho1 : Only (fun k => False) w ((w.alloc (.cells opZero 103)).alloc (.cells opZero 103)) := ((Only.refl _ w).alloc _).alloc _
  have ST0 := Lib.hid (show ORt w b K ((w.alloc (.cells opZero 103)).alloc (.cells opZero 103)) opZero (x :: r) 0 from
    ⟨ho0, h.only ho1 (fun h => h) (fun _ h => h.elim), hz2, hz1, hg, hlt, hK, hKw⟩)
  have HW := Lib.hid (fun W (hr : RRAt W b (x :: r) 0 K) => next_cons b x r K W hr hK)
  have HGR := Lib.hid hg.tail
  have s0 : ((mkS (encAll x)).toList == [112, 117, 116]) = false := by rw [Lib.toList_data, mkS_data, hx]; rfl
  have s1 : ((mkS (encAll x)).toList == [100, 101, 108]) = false := by rw [Lib.toList_data, mkS_data, hx]; rfl
  have s2 : ((mkS (encAll x)).toList == [99, 97, 115]) = false := by rw [Lib.toList_data, mkS_data, hx]; rfl
  have s3 : ((mkS (encAll x)).toList == [101, 120, 112, 101, 99, 116]) = true := by rw [Lib.toList_data, mkS_data, hx]; rfl
  have HF := Lib.hid (show opF x r = ((⟨4, ((rdStr r 0).1.getD []), [], [], ((rdNum (rdStr r 0).2.1 (rdStr r 0).2.2).1.getD 0)⟩ : POp), (rdNum (rdStr r 0).2.1 (rdStr r 0).2.2).2) by unfold opF; simp [hx])
  clear h hx hz1 hz2 ho0 ho1 hg
  go_enter Tryd.func45, Tryd.ntmps45
  go_wp2_with fail
  refine (HW.out _ ST0.out.rat).mono ?_
  rintro e w1 ⟨rfl, hoW, hrW⟩
  have ST1 := Lib.hid (ST0.out.call hoW hrW HGR.out)
  clear hoW hrW
  dsimp only [nextR] at ST1
  dsimp only [nextR]
  have k0 := ST1.out.ob.cell 0
  have k0f := ST1.out.ob.frozen 0
  have ST2 := Lib.hid (ST1.out.put 0 (.int .i64 4))
  rw [show opZero.setIfInBounds 0 (.int .i64 4) = #[Value.int .i64 4, Value.string ByteArray.empty, Value.string ByteArray.empty, Value.string ByteArray.empty, Value.int .i64 0] from rfl] at ST2
  go_wp2_with fail
  refine (str_ref b _ _ K _ ST2.out.rat ST2.out.hK ST2.out.good).mono ?_
  rintro e w2 ⟨rfl, ho, hr⟩
  have ST3 := Lib.hid (ST2.out.call ho hr (rdStr_goodR ST2.out.good))
  clear ho hr
  generalize hv : mkS (encAll ((rdStr r 0).1.getD [])) = v0 at *
  have HV0 := Lib.hid hv
  clear hv
  have k1 := ST3.out.ob.cell 1
  have k1f := ST3.out.ob.frozen 1
  have ST4 := Lib.hid (ST3.out.put 1 (Value.string v0))
  rw [show (#[Value.int .i64 4, Value.string ByteArray.empty, Value.string ByteArray.empty, Value.string ByteArray.empty, Value.int .i64 0] : Array Value).setIfInBounds 1 (Value.string v0) = #[Value.int .i64 4, Value.string v0, Value.string ByteArray.empty, Value.string ByteArray.empty, Value.int .i64 0] from rfl] at ST4
  go_wp2_with fail
  refine (num_ref b _ _ K _ ST4.out.rat ST4.out.hK ST4.out.good).mono ?_
  rintro e w3 ⟨rfl, ho, hr⟩
  have ST5 := Lib.hid (ST4.out.call ho hr (rdNum_goodR ST4.out.good))
  clear ho hr
  generalize hv : ((rdNum (rdStr r 0).2.1 (rdStr r 0).2.2).1.getD 0) = v1 at *
  have HV1 := Lib.hid hv
  clear hv
  have k2 := ST5.out.ob.cell 4
  have k2f := ST5.out.ob.frozen 4
  have ST6 := Lib.hid (ST5.out.put 4 (Value.int .i64 v1))
  rw [show (#[Value.int .i64 4, Value.string v0, Value.string ByteArray.empty, Value.string ByteArray.empty, Value.int .i64 0] : Array Value).setIfInBounds 4 (Value.int .i64 v1) = #[Value.int .i64 4, Value.string v0, Value.string ByteArray.empty, Value.string ByteArray.empty, Value.int .i64 v1] from rfl] at ST6
  have m0 : (w3.setCell ⟨w.heap.size + 1, 4, none⟩ (Value.int .i64 v1)).cell? ⟨w.heap.size + 1, 0, none⟩ = some (.int .i64 4) := ST6.out.ob.cell 0
  have m1 : (w3.setCell ⟨w.heap.size + 1, 4, none⟩ (Value.int .i64 v1)).cell? ⟨w.heap.size + 1, 1, none⟩ = some (Value.string v0) := ST6.out.ob.cell 1
  have m2 : (w3.setCell ⟨w.heap.size + 1, 4, none⟩ (Value.int .i64 v1)).cell? ⟨w.heap.size + 1, 2, none⟩ = some (Value.string ByteArray.empty) := ST6.out.ob.cell 2
  have m3 : (w3.setCell ⟨w.heap.size + 1, 4, none⟩ (Value.int .i64 v1)).cell? ⟨w.heap.size + 1, 3, none⟩ = some (Value.string ByteArray.empty) := ST6.out.ob.cell 3
  have m4 : (w3.setCell ⟨w.heap.size + 1, 4, none⟩ (Value.int .i64 v1)).cell? ⟨w.heap.size + 1, 4, none⟩ = some (Value.int .i64 v1) := ST6.out.ob.cell 4
  have r0 : (w3.setCell ⟨w.heap.size + 1, 4, none⟩ (Value.int .i64 v1)).cell? ⟨w.heap.size, 0, none⟩ = some (.int .i64 0) := ST6.out.res.cell 0
  have rf0 := ST6.out.res.frozen 0
  have r1 : (w3.setCell ⟨w.heap.size + 1, 4, none⟩ (Value.int .i64 v1)).cell? ⟨w.heap.size, 1, none⟩ = some (.string ByteArray.empty) := ST6.out.res.cell 1
  have rf1 := ST6.out.res.frozen 1
  have r2 : (w3.setCell ⟨w.heap.size + 1, 4, none⟩ (Value.int .i64 v1)).cell? ⟨w.heap.size, 2, none⟩ = some (.string ByteArray.empty) := ST6.out.res.cell 2
  have rf2 := ST6.out.res.frozen 2
  have r3 : (w3.setCell ⟨w.heap.size + 1, 4, none⟩ (Value.int .i64 v1)).cell? ⟨w.heap.size, 3, none⟩ = some (.string ByteArray.empty) := ST6.out.res.cell 3
  have rf3 := ST6.out.res.frozen 3
  have r4 : (w3.setCell ⟨w.heap.size + 1, 4, none⟩ (Value.int .i64 v1)).cell? ⟨w.heap.size, 4, none⟩ = some (.int .i64 0) := ST6.out.res.cell 4
  have rf4 := ST6.out.res.frozen 4
  go_wp2_with fail
  refine bodyPost_ret (results_cell_row rfl _ _ w.heap.size 103 #[Value.int .i64 4, Value.string v0, Value.string ByteArray.empty, Value.string ByteArray.empty, Value.int .i64 v1] (0, 0) _ rfl (((((ST6.out.res.put 0 _).put 1 _).put 2 _).put 3 _).put 4 _) Tryd.underlying103 rfl (by kernel_rfl)) rfl ?_
  unfold ROpPost
  rw [HF.out]
  refine ⟨?_, ((((ST6.out.only.set (.inr (Nat.le_refl _)) _).set (.inr (Nat.le_refl _)) _).set (.inr (Nat.le_refl _)) _).set (.inr (Nat.le_refl _)) _).set (.inr (Nat.le_refl _)) _, ?_⟩
  · rw [← HV0.out, ← HV1.out]; rfl
  · exact ST6.out.rat.only (S := fun k => k = w.heap.size) (((((Only.refl (fun k => k = w.heap.size) _).set (.inl rfl) _).set (.inl rfl) _).set (.inl rfl) _).set (.inl rfl) _ |>.set (.inl rfl) _) (by omega) (fun k hk hkk => by subst hk; have := hKw _ hkk; omega)

set_option maxHeartbeats 2000000 in
theorem rop_else (b : Nat) (x : List Nat) (r : List (List Nat)) (K : Nat → Prop) (w : World) (h : RRAt w b (x :: r) 0 K) (hK : ¬ K b) (hKw : ∀ k, K k → k < w.heap.size)
    (hg : GoodR (x :: r)) (h0 : encAll x ≠ [112, 117, 116]) (h1 : encAll x ≠ [100, 101, 108]) (h2 : encAll x ≠ [99, 97, 115]) (h3 : encAll x ≠ [101, 120, 112, 101, 99, 116]) :
    Calls Tryd.prog 45 #[.pointer (some ⟨b, 0, none⟩)] w (ROpPost b K x r w) := by
  have hlt : b < w.heap.size := by obtain ⟨ao, cap, h1, -⟩ := h; exact h1.lt
  have hz1 : Blk ((w.alloc (.cells opZero 103)).alloc (.cells opZero 103)) w.heap.size 103 opZero := (Blk.new w _ _).alloc _
  have hz2 : Blk ((w.alloc (.cells opZero 103)).alloc (.cells opZero 103)) (w.heap.size + 1) 103 opZero := by have := Blk.new (w.alloc (.cells opZero 103)) 103 opZero; rwa [World.size_alloc] at this
  have ho0 : Only (fun k => k = b) w ((w.alloc (.cells opZero 103)).alloc (.cells opZero 103)) := ((Only.refl _ w).alloc _).alloc _
  have ho1 : Only (fun k => False) w ((w.alloc (.cells opZero 103)).alloc (.cells opZero 103)) := ((Only.refl _ w).alloc _).alloc _
  have ST0 := Lib.hid (show ORt w b K ((w.alloc (.cells opZero 103)).alloc (.cells opZero 103)) opZero (x :: r) 0 from
    ⟨ho0, h.only ho1 (fun h => h) (fun _ h => h.elim), hz2, hz1, hg, hlt, hK, hKw⟩)
  have HW := Lib.hid (fun W (hr : RRAt W b (x :: r) 0 K) => next_cons b x r K W hr hK)
  have HGR := Lib.hid hg.tail
  have s0 : ((mkS (encAll x)).toList == [112, 117, 116]) = false := by rw [Lib.toList_data, mkS_data]; exact beq_eq_false_iff_ne.2 h0
  have s1 : ((mkS (encAll x)).toList == [100, 101, 108]) = false := by rw [Lib.toList_data, mkS_data]; exact beq_eq_false_iff_ne.2 h1
  have s2 : ((mkS (encAll x)).toList == [99, 97, 115]) = false := by rw [Lib.toList_data, mkS_data]; exact beq_eq_false_iff_ne.2 h2
  have s3 : ((mkS (encAll x)).toList == [101, 120, 112, 101, 99, 116]) = false := by rw [Lib.toList_data, mkS_data]; exact beq_eq_false_iff_ne.2 h3
  have HF := Lib.hid (show opF x r = (⟨0, [], [], [], 0⟩, r, 4) by unfold opF; rw [if_neg h0, if_neg h1, if_neg h2, if_neg h3])
  clear h h0 h1 h2 h3 hz1 hz2 ho0 ho1 hg
  go_enter Tryd.func45, Tryd.ntmps45
  go_wp2_with fail
  refine (HW.out _ ST0.out.rat).mono ?_
  rintro e w1 ⟨rfl, hoW, hrW⟩
  have ST1 := Lib.hid (ST0.out.call hoW hrW HGR.out)
  clear hoW hrW
  dsimp only [nextR] at ST1
  dsimp only [nextR]
  have k1 := ST1.out.rat.cell1.1
  have k1f := ST1.out.rat.cell1.2
  have ST2 := Lib.hid (ST1.out.call ((Only.refl (fun k => k = b) _).set (p := ⟨b, 1, none⟩) (.inl rfl) (.int .i64 4)) (show RRAt (w1.setCell ⟨b, 1, none⟩ (.int .i64 4)) b r 4 K from ST1.out.rat.putErr 4 hK) HGR.out)
  have m0 : (w1.setCell ⟨b, 1, none⟩ (.int .i64 4)).cell? ⟨w.heap.size + 1, 0, none⟩ = some (.int .i64 0) := ST2.out.ob.cell 0
  have m1 : (w1.setCell ⟨b, 1, none⟩ (.int .i64 4)).cell? ⟨w.heap.size + 1, 1, none⟩ = some (.string ByteArray.empty) := ST2.out.ob.cell 1
  have m2 : (w1.setCell ⟨b, 1, none⟩ (.int .i64 4)).cell? ⟨w.heap.size + 1, 2, none⟩ = some (.string ByteArray.empty) := ST2.out.ob.cell 2
  have m3 : (w1.setCell ⟨b, 1, none⟩ (.int .i64 4)).cell? ⟨w.heap.size + 1, 3, none⟩ = some (.string ByteArray.empty) := ST2.out.ob.cell 3
  have m4 : (w1.setCell ⟨b, 1, none⟩ (.int .i64 4)).cell? ⟨w.heap.size + 1, 4, none⟩ = some (.int .i64 0) := ST2.out.ob.cell 4
  have r0 : (w1.setCell ⟨b, 1, none⟩ (.int .i64 4)).cell? ⟨w.heap.size, 0, none⟩ = some (.int .i64 0) := ST2.out.res.cell 0
  have rf0 := ST2.out.res.frozen 0
  have r1 : (w1.setCell ⟨b, 1, none⟩ (.int .i64 4)).cell? ⟨w.heap.size, 1, none⟩ = some (.string ByteArray.empty) := ST2.out.res.cell 1
  have rf1 := ST2.out.res.frozen 1
  have r2 : (w1.setCell ⟨b, 1, none⟩ (.int .i64 4)).cell? ⟨w.heap.size, 2, none⟩ = some (.string ByteArray.empty) := ST2.out.res.cell 2
  have rf2 := ST2.out.res.frozen 2
  have r3 : (w1.setCell ⟨b, 1, none⟩ (.int .i64 4)).cell? ⟨w.heap.size, 3, none⟩ = some (.string ByteArray.empty) := ST2.out.res.cell 3
  have rf3 := ST2.out.res.frozen 3
  have r4 : (w1.setCell ⟨b, 1, none⟩ (.int .i64 4)).cell? ⟨w.heap.size, 4, none⟩ = some (.int .i64 0) := ST2.out.res.cell 4
  have rf4 := ST2.out.res.frozen 4
  go_wp2_with fail
  refine bodyPost_ret (results_cell_row rfl _ _ w.heap.size 103 #[Value.int .i64 0, Value.string ByteArray.empty, Value.string ByteArray.empty, Value.string ByteArray.empty, Value.int .i64 0] (0, 0) _ rfl (((((ST2.out.res.put 0 _).put 1 _).put 2 _).put 3 _).put 4 _) Tryd.underlying103 rfl (by kernel_rfl)) rfl ?_
  unfold ROpPost
  rw [HF.out]
  refine ⟨?_, ((((ST2.out.only.set (.inr (Nat.le_refl _)) _).set (.inr (Nat.le_refl _)) _).set (.inr (Nat.le_refl _)) _).set (.inr (Nat.le_refl _)) _).set (.inr (Nat.le_refl _)) _, ?_⟩
  · rfl
  · exact ST2.out.rat.only (S := fun k => k = w.heap.size) (((((Only.refl (fun k => k = w.heap.size) _).set (.inl rfl) _).set (.inl rfl) _).set (.inl rfl) _).set (.inl rfl) _ |>.set (.inl rfl) _) (by omega) (fun k hk hkk => by subst hk; have := hKw _ hkk; omega)

/-- An operation is read, whatever the words. -/
theorem rop_any (b : Nat) (x : List Nat) (r : List (List Nat)) (K : Nat → Prop) (w : World) (h : RRAt w b (x :: r) 0 K) (hK : ¬ K b) (hKw : ∀ k, K k → k < w.heap.size)
    (hg : GoodR (x :: r)) : Calls Tryd.prog 45 #[.pointer (some ⟨b, 0, none⟩)] w (ROpPost b K x r w) := by
  by_cases h0 : encAll x = [112, 117, 116]
  · exact rop_put b x r K w h hK hKw hg h0
  · by_cases h1 : encAll x = [100, 101, 108]
    · exact rop_del b x r K w h hK hKw hg h1
    · by_cases h2 : encAll x = [99, 97, 115]
      · exact rop_cas b x r K w h hK hKw hg h2
      · by_cases h3 : encAll x = [101, 120, 112, 101, 99, 116]
        · exact rop_expect b x r K w h hK hKw hg h3
        · exact rop_else b x r K w h hK hKw hg h0 h1 h2 h3
end Go.Proofs.YtjhmehmmpfnnkaaDoor
