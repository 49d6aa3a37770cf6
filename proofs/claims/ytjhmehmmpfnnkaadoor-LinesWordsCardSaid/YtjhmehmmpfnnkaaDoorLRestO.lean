/-
  The contract of (*lines.reader).rest: what follows a verb's fields: operations.
-/
import Derived.Test.YtjhmehmmpfnnkaaDoorLOp
import Derived.Maps.AppendAt
import Derived.Deep.RegionLaw
import Derived.BigRegion
namespace Go.Proofs.YtjhmehmmpfnnkaaDoor
open Go.RowKit Utf
set_option maxRecDepth 100000
set_option linter.unusedSimpArgs false
set_option linter.unusedVariables false

/-- One element is appended, as one step of a region that draws its order; a block of another kind stays as it is. -/
theorem step_app {P : Program} {ops : Array Oper} {o : Oper} {a : Act} {w : World} {K : Act → World → Prop} {Q : Exit → Act → World → Prop} {E : Prop}
    (hgd : o.guard = none) (s x : Operand) (t : TypeId) (ho : o.op = Op.call { callee := Callee.builtin Builtin.append, args := #[s, x], argTypes := #[t, t] })
    (B : Nat) (e : TypeId) (i : TypeInfo) (z : Value) (size bytes : Nat) (ht : P.underlying t = some (.slice e)) (hi : P.info? e = some i) (hz : i.zero = some z)
    (hsize : i.size = size) (hby : i.bytes = bytes) (hzs : z.cells.size = size) (hsz : 0 < size)
    (v : Value) (n : Nat) (xs : List Value) (hs : a.eval s = v) (hown : w.ownsRow B e size v n xs)
    (g : Nat) (us : List Value) (hx : a.eval x = .slice (some ⟨g, 0, none⟩) 1 1) (hl : us.length = 1 * size) (hnews : ∀ j u, us[j]? = some u → w.cell? (Addr.add ⟨g, 0, none⟩ j) = some u) (h1 : ∀ u ∈ us, u.oneCell' = true)
    (hn : n ≤ 1000000000) (hby2 : bytes ≤ 1000) (hbase : B ≤ w.heap.size)
    (c off : Nat) (hc : off = off) (T : TypeId) (cs : Array Value) (old : Value) (hC : Blk w c T cs) (hold : cs[off]? = some old) (hne : e ≠ T)
    (h : ∀ g' cap' w', w'.ownsRow B e size (.slice (some ⟨g', 0, none⟩) (n + 1) cap') (n + 1) (xs ++ us) → w.grownBy w' v.ownBlock → Blk w' c T cs → w'.cell? ⟨c, off, none⟩ = some old → w'.frozen? ⟨c, off, none⟩ = false → K (a.put o.dst (.slice (some ⟨g', 0, none⟩) (n + 1) cap')) w') :
    if Region.wanted o (yielded ops a.tmps) = true then Oper.wp P o a w K Q else E := by
  have hw : Region.wanted o (yielded ops a.tmps) = true := by simp [Region.wanted, hgd]
  rw [if_pos hw]
  have hb2 : (n + 1) * bytes ≤ 140737488355328 := by
    have : (n + 1) * bytes ≤ 1000000001 * 1000 := Nat.mul_le_mul (by omega) hby2
    omega
  obtain ⟨v', w', hrun, k1, k2, -, -⟩ := run_append_own_at (P := P) w B t o.type e i z size bytes ht hi hz hsize hby hzs hsz v n xs hown ⟨g, 0, none⟩ 1 1 us hl hnews h1 (by unfold maxLen; omega) hb2 hbase
  have hcne : some c ≠ v.ownBlock := by
    rcases hown.2 with ⟨rfl, _⟩ | ⟨g', cap, cur, rfl, _, hg, _⟩
    · simp [Value.ownBlock]
    · intro hh
      have : c = g' := by simpa [Value.ownBlock] using hh
      subst this
      unfold Blk at hC
      rw [hg] at hC
      simp at hC
      exact hne hC.2
  have hC' : Blk w' c T cs := (k2.block c hC.lt hcne).trans hC
  unfold Oper.wp execOp
  simp only [ho, resolve, invoke, builtin, Sem.run_bind, Sem.run_pure, Result.andThen_ok, List.map_toArray, List.map_cons, List.map_nil, hs, hx, hrun]
  rcases k1.2 with ⟨_, hz0⟩ | ⟨g', cap', cur', hv', hr'⟩
  · omega
  · subst hv'
    exact h g' cap' w' k1 k2 hC' ((hC'.cell off).trans hold) (hC'.frozen off)

theorem Tryd.infoOp : (Tryd.prog.info? 103).map (fun i => (i.zero, i.size, i.bytes)) = some (some (.agg #[.int .i64 0, .string ByteArray.empty, .string ByteArray.empty, .string ByteArray.empty, .int .i64 0]), 5, 64) := by kernel_rfl

/-- The operations that follow: what they are, the error's number. -/
def restO : Nat → List (List Nat) → Nat → List POp × Nat
  | _, _, n + 1 => ([], n + 1)
  | _, [], 0 => ([], 0)
  | 0, _ :: _, 0 => ([], 0)
  | k + 1, x :: r, 0 => let q := opF x r; (q.1 :: (restO k q.2.1 q.2.2).1, (restO k q.2.1 q.2.2).2)

theorem rdStr_len (ws : List (List Nat)) (n : Nat) : (rdStr ws n).2.1.length ≤ ws.length := by
  cases n with
  | succ n => cases ws <;> exact Nat.le_refl _
  | zero =>
    cases ws with
    | nil => exact Nat.le_refl _
    | cons x r => simp only [rdStr]; split <;> simp
theorem rdNum_len (ws : List (List Nat)) (n : Nat) : (rdNum ws n).2.1.length ≤ ws.length := by
  cases n with
  | succ n => cases ws <;> exact Nat.le_refl _
  | zero =>
    cases ws with
    | nil => exact Nat.le_refl _
    | cons x r => simp only [rdNum]; split <;> simp
theorem opF_len (x : List Nat) (r : List (List Nat)) : (opF x r).2.1.length ≤ r.length := by
  unfold opF
  repeat' split
  · exact Nat.le_trans (rdStr_len _ _) (rdStr_len _ _)
  · exact rdStr_len _ _
  · exact Nat.le_trans (rdStr_len _ _) (Nat.le_trans (rdStr_len _ _) (rdStr_len _ _))
  · exact Nat.le_trans (rdNum_len _ _) (rdStr_len _ _)
  · exact Nat.le_refl _
theorem opF_good {x : List Nat} {r : List (List Nat)} (h : Good r) : Good (opF x r).2.1 := by
  unfold opF
  repeat' split
  · exact rdStr_good (rdStr_good h)
  · exact rdStr_good h
  · exact rdStr_good (rdStr_good (rdStr_good h))
  · exact rdNum_good (rdStr_good h)
  · exact h

/-- How many words a reader still has. -/
def leftOf (w : World) (b : Nat) : Nat := match w.cell? ⟨b, 0, none⟩ with
  | some (.slice _ n _) => n
  | _ => 0
theorem RAt.left {w : World} {b : Nat} {ea : Nat → Addr} {ws : List (List Nat)} {n : Nat} {K : Nat → Prop} (h : RAt w b ea ws n K) : leftOf w b = ws.length := by
  obtain ⟨ao, cap, h1, -⟩ := h
  unfold leftOf
  rw [h1.cell 0]
  rfl
theorem RAt.cell0 {w : World} {b : Nat} {ea : Nat → Addr} {ws : List (List Nat)} {n : Nat} {K : Nat → Prop} (h : RAt w b ea ws n K) : ∃ ao cap, w.cell? ⟨b, 0, none⟩ = some (.slice ao ws.length cap) := by
  obtain ⟨ao, cap, h1, -⟩ := h
  exact ⟨ao, cap, h1.cell 0⟩

/-- What the reading of what follows leaves behind. -/
def RestPost (w : World) (b c off : Nat) (ea : Nat → Addr) (K : Nat → Prop) (cs : Array Value) (E : TypeId) (size : Nat) (xs : List Value) (k n : Nat) (e : Ending) (w' : World) : Prop :=
  e = .returned (.tuple #[]) ∧ Only (fun i => i = b ∨ i = c) w w' ∧ (∃ ws, RAt w' b ea ws n K) ∧ ∃ v, Blk w' c 48 (cs.setIfInBounds off v) ∧ w'.ownsRow w.heap.size E size v k xs

theorem opRow_len (l : List POp) : (l.flatMap opCells).length = l.length * 5 := by
  induction l with
  | nil => rfl
  | cons p l ih => rw [List.flatMap_cons, List.length_append, ih]; simp [opCells]; omega

set_option maxHeartbeats 4000000 in
theorem rest_ops (b c : Nat) (cs : Array Value) (ea : Nat → Addr) (ws0 : List (List Nat)) (n0 : Nat) (K : Nat → Prop) (w : World) (h : RAt w b ea ws0 n0 K) (hK : ¬ K b) (hKc : ¬ K c) (hKw : ∀ k, K k → k < w.heap.size)
    (hg : Good ws0) (hC : Blk w c 48 cs) (hcs : cs.size = 24) (h4 : cs[4]? = some (.slice none 0 0)) (hbc : b ≠ c) (hb : gTop ≤ b) (hc : gTop ≤ c) (he : LErr w ea) (hl : ws0.length ≤ 1000000) :
    Calls Tryd.prog 39 #[.pointer (some ⟨b, 0, none⟩), .pointer (some ⟨c, 0, none⟩), .int .i32 111] w
      (RestPost w b c 4 ea K cs 103 5 ((restO ws0.length ws0 n0).1.flatMap opCells) (restO ws0.length ws0 n0).1.length (restO ws0.length ws0 n0).2) := by
  obtain ⟨i0, hi, hz0, hz1, hz2⟩ := info_parts Tryd.infoOp
  have hblt : b < w.heap.size := by obtain ⟨ao, cap, h1, -⟩ := h; exact h1.lt
  have hclt := hC.lt
  have hnil : cs.setIfInBounds 4 (.slice none 0 0) = cs := by
    apply Array.ext_getElem?
    intro i
    rw [Array.getElem?_setIfInBounds]
    split
    · rename_i hi2
      subst hi2
      rw [h4, if_pos (by omega)]
    · rfl
  have HR0 := Lib.hid h
  have HC0 := Lib.hid (show Blk w c 48 (cs.setIfInBounds 4 (.slice none 0 0)) by rw [hnil]; exact hC)
  have HE0 := Lib.hid he
  have HG0 := Lib.hid hg
  have HCS := Lib.hid hcs
  have HBC := Lib.hid hbc
  have HKC := Lib.hid hKc
  clear h hC he hg hcs hnil h4 hbc hKc
  go_enter Tryd.func39, Tryd.ntmps39
  go_wp2_with fail
  go_loopw [8] (fun _ wr => ∃ (v : Value) (ops : List POp) (ws : List (List Nat)) (n fuel : Nat), Only (fun i => i = b ∨ i = c) w wr ∧ RAt wr b ea ws n K ∧ Blk wr c 48 (cs.setIfInBounds 4 v) ∧ wr.ownsRow w.heap.size 103 5 v ops.length (ops.flatMap opCells) ∧ LErr wr ea ∧ Good ws ∧ ws.length ≤ fuel ∧ ops.length + ws.length ≤ 1000000 ∧ Hid (restO ws0.length ws0 n0 = (ops ++ (restO fuel ws n).1, (restO fuel ws n).2))) (fun _ wr => leftOf wr b)
  case atStart => exact ⟨.slice none 0 0, [], ws0, n0, ws0.length, Only.refl _ _, HR0.out, HC0.out, World.ownsRow_nil _ _ _ _, HE0.out, HG0.out, Nat.le_refl _, by simpa using hl, rfl⟩
  case round =>
    obtain ⟨v, ops, ws, n, fuel, honly, hrat, hblk, hown, herr, hgood, hfu, hlen, HF⟩ := hrel
    have HO := Lib.hid honly
    have HR := Lib.hid hrat
    have HB := Lib.hid hblk
    have HW := Lib.hid hown
    have HE := Lib.hid herr
    have HG := Lib.hid hgood
    have HL := Lib.hid hrat.left
    clear honly hrat hblk hown herr hgood
    cases n with
    | succ n =>
      have k1 := HR.out.cell1.1
      rw [errOf_succ] at k1
      have HF2 := Lib.hid (show restO ws0.length ws0 n0 = (ops, n + 1) by rw [HF.out]; cases fuel <;> cases ws <;> simp [restO])
      go_wp2_with fail
      go_end0
      unfold RestPost
      rw [HF2.out]
      exact ⟨rfl, HO.out, ⟨ws, HR.out⟩, v, HB.out, HW.out⟩
    | zero =>
      have k1 := HR.out.cell1.1
      rw [errOf_zero] at k1
      obtain ⟨ao, cap, k0⟩ := HR.out.cell0
      cases ws with
      | nil =>
        have HF2 := Lib.hid (show restO ws0.length ws0 n0 = (ops, 0) by rw [HF.out]; cases fuel <;> simp [restO])
        go_wp2_with fail
        go_end0
        unfold RestPost
        rw [HF2.out]
        exact ⟨rfl, HO.out, ⟨[], HR.out⟩, v, HB.out, HW.out⟩
      | cons x r =>
        obtain ⟨fuel, rfl⟩ : ∃ f, fuel = f + 1 := ⟨fuel - 1, by simp at hfu; omega⟩
        have HF2 := Lib.hid (show restO ws0.length ws0 n0 = ((ops ++ [(opF x r).1]) ++ (restO fuel (opF x r).2.1 (opF x r).2.2).1, (restO fuel (opF x r).2.1 (opF x r).2.2).2) by rw [HF.out]; simp [restO])
        have HOL := Lib.hid (opF_len x r)
        have HOG := Lib.hid (opF_good (x := x) HG.out.tail)
        have HOP := Lib.hid (op_any b ea x r K wr HR.out hK (fun k hk => Nat.lt_of_lt_of_le (hKw k hk) HO.out.size) HG.out hb HE.out)
        have hpos : (0 : Int) < ((x :: r).length : Int) := by simp
        have hpos2 : 0 < (x :: r).length := by simp
        simp only [List.length_cons] at hfu hlen hpos hpos2 k0
        clear HF
        obtain ⟨kd, s1, s2, s3, vs, hcells⟩ : ∃ kd s1 s2 s3 vs, opCells (opF x r).1 = [.int .i64 kd, .string s1, .string s2, .string s3, .int .i64 vs] := ⟨_, _, _, _, _, rfl⟩
        unfold OpPost at HOP
        rw [hcells] at HOP
        have HCL := Lib.hid hcells
        clear hcells
        go_wp2_with fail
        refine HOP.out.mono ?_
        rintro e w2 ⟨rfl, ho2, hr2⟩
        have HO2 := Lib.hid (HO.out.trans (ho2.mono (T := fun i => i = b ∨ i = c) (fun k hk => .inl hk)))
        have HR2 := Lib.hid hr2
        have HB2 := Lib.hid (HB.out.only ho2 (fun h => HBC.out h.symm))
        have HE2 := Lib.hid (HE.out.only ho2 (fun k hk => by subst hk; exact hb))
        have HW2 := Lib.hid (show w2.ownsRow w.heap.size 103 5 v ops.length (ops.flatMap opCells) from own_only HW.out ho2 (fun g hg hh => by have := (HW.out.lt g hg).1; omega))
        clear ho2 hr2
        go_wp2_with fail
        have HX3 := Lib.hid (show Only (fun i => i = b ∨ i = c) w (w2.alloc (.cells #[.int .i64 kd, .string s1, .string s2, .string s3, .int .i64 vs] 103)) from HO2.out.alloc _)
        have HB3 := Lib.hid (HB2.out.alloc (.cells #[.int .i64 kd, .string s1, .string s2, .string s3, .int .i64 vs] 103))
        have HW3 := Lib.hid (HW2.out.alloc (.cells #[.int .i64 kd, .string s1, .string s2, .string s3, .int .i64 vs] 103))
        have HE3 := Lib.hid (HE2.out.only (S := fun _ => False) ((Only.refl _ w2).alloc (.cells #[.int .i64 kd, .string s1, .string s2, .string s3, .int .i64 vs] 103)) (fun _ h => h.elim))
        have HR3 := Lib.hid (HR2.out.only (S := fun _ => False) ((Only.refl _ w2).alloc (.cells #[.int .i64 kd, .string s1, .string s2, .string s3, .int .i64 vs] 103)) (fun h => h) (fun _ h => h.elim))
        have hx3 := Blk.new w2 103 #[.int .i64 kd, .string s1, .string s2, .string s3, .int .i64 vs]
        have x0 := hx3.cell 0
        have x1 := hx3.cell 1
        have x2 := hx3.cell 2
        have x3 := hx3.cell 3
        have x4 := hx3.cell 4
        have hop : (w2.alloc (.cells #[.int .i64 kd, .string s1, .string s2, .string s3, .int .i64 vs] 103)).cell? ⟨c, 4, none⟩ = some v := by
          rw [HB3.out.cell 4, Array.getElem?_setIfInBounds, if_pos rfl, if_pos (by have := HCS.out; omega)]
        have hopf := HB3.out.frozen 4
        clear hx3
        generalize hw3 : w2.alloc (.cells #[.int .i64 kd, .string s1, .string s2, .string s3, .int .i64 vs] 103) = w3 at *
        have HW3Q := Lib.hid hw3
        clear hw3
        have hgt : w2.heap.size < w3.heap.size := by rw [← HW3Q.out]; simp
        have hcl3 : c < w3.heap.size := HB3.out.lt
        have HSZ := Lib.hid (show w.heap.size ≤ w3.heap.size from HX3.out.size)
        have hn : ops.length ≤ 1000000000 := by omega
        have NC := Lib.hid (new_cells [.int .i64 kd, .string s1, .string s2, .string s3, .int .i64 vs] w3.drew 103)
        have hop2 : (w3.drew.alloc (.cells #[.int .i64 kd, .string s1, .string s2, .string s3, .int .i64 vs] 103)).cell? ⟨c, 4, none⟩ = some v := (World.cell?_alloc_lt w3.drew _ ⟨c, 4, none⟩ hcl3).trans hop
        have HWA := Lib.hid (show (w3.drew.alloc (.cells #[.int .i64 kd, .string s1, .string s2, .string s3, .int .i64 vs] 103)).ownsRow w.heap.size 103 5 v ops.length (ops.flatMap opCells) from World.ownsRow.alloc (w := w3.drew) HW3.out _)
        have HBA := Lib.hid (show Blk (w3.drew.alloc (.cells #[.int .i64 kd, .string s1, .string s2, .string s3, .int .i64 vs] 103)) c 48 (cs.setIfInBounds 4 v) from Blk.alloc (w := w3.drew) HB3.out _)
        have HSA := Lib.hid (show w.heap.size ≤ (w3.drew.alloc (.cells #[.int .i64 kd, .string s1, .string s2, .string s3, .int .i64 vs] 103)).heap.size by rw [World.size_alloc]; exact Nat.le_succ_of_le HSZ.out)
        have HOLD := Lib.hid (show (cs.setIfInBounds 4 v)[4]? = some v by rw [Array.getElem?_setIfInBounds, if_pos rfl, if_pos (by have := HCS.out; omega)])
        go_region_law (refine step_app rfl _ _ 40 rfl w.heap.size 103 i0 _ 5 64 Tryd.underlying40 hi hz0 hz1 hz2 rfl (by omega) v ops.length (ops.flatMap opCells) (by simp [Act.eval, Act.put]) HWA.out w3.heap.size [.int .i64 kd, .string s1, .string s2, .string s3, .int .i64 vs] (by simp [Act.eval, Act.put]) rfl NC.out (by intro u hu; simp at hu; rcases hu with rfl | rfl | rfl | rfl | rfl <;> rfl) hn (by omega) HSA.out c 4 rfl 48 _ v HBA.out HOLD.out (by decide) ?_; intro g4 cap4 w4 hown4 hgrow4 hblk4 hcell4 hfz4)
        all_goals
          have hrow := fun k (hk : v.ownBlock = some k) => (HW3.out.lt k hk)
          have ho34 : Only (fun i => some i = v.ownBlock) w3 w4 := (((Only.refl (fun i => some i = v.ownBlock) w3).alloc _).drewN 1).grown hgrow4 (fun k hk => .inl hk.symm)
          have hcv := own_ne_blk hown4 hblk4 (by decide)
          have hset : Only (fun i => i = c) w4 (w4.setCell ⟨c, 4, none⟩ (.slice (some ⟨g4, 0, none⟩) (ops.length + 1) cap4)) := (Only.refl (fun i => i = c) w4).set (.inl rfl) _
          have HR5 := Lib.hid ((HR3.out.only ho34 (fun h => by have := (hrow b h.symm).1; omega) (fun k hk hkk => by have := (hrow k hk.symm).1; have := hKw k hkk; omega)).only hset HBC.out (fun k hk => by subst hk; exact HKC.out))
          have HE5 := Lib.hid ((HE3.out.only ho34 (fun k hk => by have := (hrow k hk.symm).1; have := HSZ.out; omega)).only hset (fun k hk => by subst hk; exact hc))
          have HO5 := Lib.hid ((HX3.out.step ho34 (fun k hk => .inr (hrow k hk.symm).1)).trans (hset.mono (T := fun i => i = b ∨ i = c) (fun k hk => .inr hk)))
          have HB5 := Lib.hid (show Blk (w4.setCell ⟨c, 4, none⟩ (.slice (some ⟨g4, 0, none⟩) (ops.length + 1) cap4)) c 48 (cs.setIfInBounds 4 (.slice (some ⟨g4, 0, none⟩) (ops.length + 1) cap4)) by
            have := hblk4.put 4 (.slice (some ⟨g4, 0, none⟩) (ops.length + 1) cap4)
            rw [Array.setIfInBounds_setIfInBounds] at this
            exact this)
          have HW5 := Lib.hid (show (w4.setCell ⟨c, 4, none⟩ (.slice (some ⟨g4, 0, none⟩) (ops.length + 1) cap4)).ownsRow w.heap.size 103 5 (.slice (some ⟨g4, 0, none⟩) (ops.length + 1) cap4) (ops ++ [(opF x r).1]).length ((ops ++ [(opF x r).1]).flatMap opCells) by
            have h1 := own_only hown4 hset (fun g hg hh => by subst hh; exact hcv hg)
            rw [List.length_append, List.flatMap_append]
            simp only [List.flatMap_cons, List.flatMap_nil, List.append_nil]
            rw [HCL.out]
            exact h1)
          clear hrow ho34 hcv hset hown4 hgrow4 hblk4 hcell4 hfz4
          generalize hw5 : w4.setCell ⟨c, 4, none⟩ (.slice (some ⟨g4, 0, none⟩) (ops.length + 1) cap4) = w5 at *
          clear hw5
          go_wp2_with fail
          go_roundw
          case rel => exact ⟨_, ops ++ [(opF x r).1], (opF x r).2.1, (opF x r).2.2, fuel, HO5.out, HR5.out, HB5.out, HW5.out, HE5.out, HOG.out, by have := HOL.out; omega, by have := HOL.out; rw [List.length_append]; simp only [List.length_singleton]; omega, HF2.out⟩
          case measure => rw [HR5.out.left, HL.out]; have := HOL.out; simp only [List.length_cons]; omega
end Go.Proofs.YtjhmehmmpfnnkaaDoor
