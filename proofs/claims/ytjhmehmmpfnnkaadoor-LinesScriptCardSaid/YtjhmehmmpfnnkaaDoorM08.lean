/-
  The contract of (*lines.reader).rest: what follows a verb's fields: operations.
  The contract of (*lines.reader).rest: what follows a verb's fields: numbers; nothing.
  The contract of lines.field: the address of an op's field.
  The contracts of Parse's closure and of slices.IndexFunc over it.
-/
import Derived.Test.YtjhmehmmpfnnkaaDoorM07
import Derived.Maps.AppendAt
import Derived.Deep.RegionLaw
import Derived.BigRegion
import Derived.Test.YtjhmehmmpfnnkaaDoorM06
namespace Go.Proofs.YtjhmehmmpfnnkaaDoor
open Go.RowKit Utf
set_option maxRecDepth 100000
set_option linter.unusedSimpArgs false
set_option linter.unusedVariables false

/-- One element is appended, as one step of a region that draws its order; a block of another kind stays as it is. -/
theorem step_app {P : Program} {ops : Array Oper} {o : Oper} {a : Act} {w : World} {K : Act → World → Prop} {Q : Exit → Act → World → Prop} {E : Prop}
    (hgd : o.guard = none) (s x : Operand) (t : TypeId) (ho : o.op = Op.call { callee := Callee.builtin Builtin.append, args := #[s, x], argTypes := #[t, t] })
    (B : Nat) (e : TypeId) (i : TypeInfo) (z : Value) (size bytes : Nat) (ht : P.underlying t = some (.slice e)) (hi : P.info? e = some i) (hz : i.zero = some z)
    (hsize : i.size = size) (hby : i.bytes = bytes) (hzs : z.cells.size = size) (hsz : 0 < size)
    (v : Value) (n : Nat) (xs : List Value) (hs : a.eval s = v) (hown : w.ownsRow B e size v n xs)
    (g : Nat) (us : List Value) (hx : a.eval x = .slice (some ⟨g, 0, none⟩) 1 1) (hl : us.length = 1 * size) (hnews : ∀ j u, us[j]? = some u → w.cell? (Addr.add ⟨g, 0, none⟩ j) = some u) (h1 : ∀ u ∈ us, u.oneCell' = true)
    (hn : n ≤ 1000000000) (hby2 : bytes ≤ 1000) (hbase : B ≤ w.heap.size)
    (c off : Nat) (hc : off = off) (T : TypeId) (cs : Array Value) (old : Value) (hC : Blk w c T cs) (hold : cs[off]? = some old) (hne : e ≠ T)
    (h : ∀ g' cap' w', w'.ownsRow B e size (.slice (some ⟨g', 0, none⟩) (n + 1) cap') (n + 1) (xs ++ us) → w.grownBy w' v.ownBlock → Blk w' c T cs → w'.cell? ⟨c, off, none⟩ = some old → w'.frozen? ⟨c, off, none⟩ = false → K (a.put o.dst (.slice (some ⟨g', 0, none⟩) (n + 1) cap')) w') :
    if Region.wanted o (yielded ops a.tmps) = true then Oper.wp P o a w K Q else E := by
  have hw : Region.wanted o (yielded ops a.tmps) = true := by simp [Region.wanted, hgd]
  rw [if_pos hw]
  have hb2 : (n + 1) * bytes ≤ 140737488355328 := by
    have : (n + 1) * bytes ≤ 1000000001 * 1000 := Nat.mul_le_mul (by omega) hby2
    omega
  obtain ⟨v', w', hrun, k1, k2, -, -⟩ := run_append_own_at (P := P) w B t o.type e i z size bytes ht hi hz hsize hby hzs hsz v n xs hown ⟨g, 0, none⟩ 1 1 us hl hnews h1 (by unfold maxLen; omega) hb2 hbase
  have hcne : some c ≠ v.ownBlock := by
    rcases hown.2 with ⟨rfl, _⟩ | ⟨g', cap, cur, rfl, _, hg, _⟩
    · simp [Value.ownBlock]
    · intro hh
      have : c = g' := by simpa [Value.ownBlock] using hh
      subst this
      unfold Blk at hC
      rw [hg] at hC
      simp at hC
      exact hne hC.2
  have hC' : Blk w' c T cs := (k2.block c hC.lt hcne).trans hC
  unfold Oper.wp execOp
  simp only [ho, resolve, invoke, builtin, Sem.run_bind, Sem.run_pure, Result.andThen_ok, List.map_toArray, List.map_cons, List.map_nil, hs, hx, hrun]
  rcases k1.2 with ⟨_, hz0⟩ | ⟨g', cap', cur', hv', hr'⟩
  · omega
  · subst hv'
    exact h g' cap' w' k1 k2 hC' ((hC'.cell off).trans hold) (hC'.frozen off)

theorem Tryd.infoOp : (Tryd.prog.info? 103).map (fun i => (i.zero, i.size, i.bytes)) = some (some (.agg #[.int .i64 0, .string ByteArray.empty, .string ByteArray.empty, .string ByteArray.empty, .int .i64 0]), 5, 64) := by kernel_rfl

/-- The operations that follow: what they are, the error's number. -/
def restO : Nat → List (List Nat) → Nat → List POp × Nat
  | _, _, n + 1 => ([], n + 1)
  | _, [], 0 => ([], 0)
  | 0, _ :: _, 0 => ([], 0)
  | k + 1, x :: r, 0 => let q := opF x r; (q.1 :: (restO k q.2.1 q.2.2).1, (restO k q.2.1 q.2.2).2)

theorem rdStr_len (ws : List (List Nat)) (n : Nat) : (rdStr ws n).2.1.length ≤ ws.length := by
  cases n with
  | succ n => cases ws <;> exact Nat.le_refl _
  | zero =>
    cases ws with
    | nil => exact Nat.le_refl _
    | cons x r => simp only [rdStr]; split <;> simp
theorem rdNum_len (ws : List (List Nat)) (n : Nat) : (rdNum ws n).2.1.length ≤ ws.length := by
  cases n with
  | succ n => cases ws <;> exact Nat.le_refl _
  | zero =>
    cases ws with
    | nil => exact Nat.le_refl _
    | cons x r => simp only [rdNum]; split <;> simp
theorem opF_len (x : List Nat) (r : List (List Nat)) : (opF x r).2.1.length ≤ r.length := by
  unfold opF
  repeat' split
  · exact Nat.le_trans (rdStr_len _ _) (rdStr_len _ _)
  · exact rdStr_len _ _
  · exact Nat.le_trans (rdStr_len _ _) (Nat.le_trans (rdStr_len _ _) (rdStr_len _ _))
  · exact Nat.le_trans (rdNum_len _ _) (rdStr_len _ _)
  · exact Nat.le_refl _
theorem opF_good {x : List Nat} {r : List (List Nat)} (h : Good r) : Good (opF x r).2.1 := by
  unfold opF
  repeat' split
  · exact rdStr_good (rdStr_good h)
  · exact rdStr_good h
  · exact rdStr_good (rdStr_good (rdStr_good h))
  · exact rdNum_good (rdStr_good h)
  · exact h

/-- How many words a reader still has. -/
def leftOf (w : World) (b : Nat) : Nat := match w.cell? ⟨b, 0, none⟩ with
  | some (.slice _ n _) => n
  | _ => 0
theorem RAt.left {w : World} {b : Nat} {ea : Nat → Addr} {ws : List (List Nat)} {n : Nat} {K : Nat → Prop} (h : RAt w b ea ws n K) : leftOf w b = ws.length := by
  obtain ⟨ao, cap, h1, -⟩ := h
  unfold leftOf
  rw [h1.cell 0]
  rfl
theorem RAt.cell0 {w : World} {b : Nat} {ea : Nat → Addr} {ws : List (List Nat)} {n : Nat} {K : Nat → Prop} (h : RAt w b ea ws n K) : ∃ ao cap, w.cell? ⟨b, 0, none⟩ = some (.slice ao ws.length cap) := by
  obtain ⟨ao, cap, h1, -⟩ := h
  exact ⟨ao, cap, h1.cell 0⟩

/-- What the reading of what follows leaves behind. -/
def RestPost (w : World) (b c off : Nat) (ea : Nat → Addr) (K : Nat → Prop) (cs : Array Value) (E : TypeId) (size : Nat) (xs : List Value) (k n : Nat) (e : Ending) (w' : World) : Prop :=
  e = .returned (.tuple #[]) ∧ Only (fun i => i = b ∨ i = c) w w' ∧ (∃ ws, RAt w' b ea ws n K) ∧ ∃ v, Blk w' c 48 (cs.setIfInBounds off v) ∧ w'.ownsRow w.heap.size E size v k xs

theorem opRow_len (l : List POp) : (l.flatMap opCells).length = l.length * 5 := by
  induction l with
  | nil => rfl
  | cons p l ih => rw [List.flatMap_cons, List.length_append, ih]; simp [opCells]; omega

set_option maxHeartbeats 4000000 in
theorem rest_ops (b c : Nat) (cs : Array Value) (ea : Nat → Addr) (ws0 : List (List Nat)) (n0 : Nat) (K : Nat → Prop) (w : World) (h : RAt w b ea ws0 n0 K) (hK : ¬ K b) (hKc : ¬ K c) (hKw : ∀ k, K k → k < w.heap.size)
    (hg : Good ws0) (hC : Blk w c 48 cs) (hcs : cs.size = 24) (h4 : cs[4]? = some (.slice none 0 0)) (hbc : b ≠ c) (hb : gTop ≤ b) (hc : gTop ≤ c) (he : LErr w ea) (hl : ws0.length ≤ 1000000) :
    Calls Tryd.prog 39 #[.pointer (some ⟨b, 0, none⟩), .pointer (some ⟨c, 0, none⟩), .int .i32 111] w
      (RestPost w b c 4 ea K cs 103 5 ((restO ws0.length ws0 n0).1.flatMap opCells) (restO ws0.length ws0 n0).1.length (restO ws0.length ws0 n0).2) := by
  obtain ⟨i0, hi, hz0, hz1, hz2⟩ := info_parts Tryd.infoOp
  have hblt : b < w.heap.size := by obtain ⟨ao, cap, h1, -⟩ := h; exact h1.lt
  have hclt := hC.lt
  have hnil : cs.setIfInBounds 4 (.slice none 0 0) = cs := by
    apply Array.ext_getElem?
    intro i
    rw [Array.getElem?_setIfInBounds]
    split
    · rename_i hi2
      subst hi2
      rw [h4, if_pos (by omega)]
    · rfl
  have HR0 := Lib.hid h
  have HC0 := Lib.hid (show Blk w c 48 (cs.setIfInBounds 4 (.slice none 0 0)) by rw [hnil]; exact hC)
  have HE0 := Lib.hid he
  have HG0 := Lib.hid hg
  have HCS := Lib.hid hcs
  have HBC := Lib.hid hbc
  have HKC := Lib.hid hKc
  clear h hC he hg hcs hnil h4 hbc hKc
  go_enter Tryd.func39, Tryd.ntmps39
  go_wp2_with fail
  go_loopw [8] (fun _ wr => ∃ (v : Value) (ops : List POp) (ws : List (List Nat)) (n fuel : Nat), Only (fun i => i = b ∨ i = c) w wr ∧ RAt wr b ea ws n K ∧ Blk wr c 48 (cs.setIfInBounds 4 v) ∧ wr.ownsRow w.heap.size 103 5 v ops.length (ops.flatMap opCells) ∧ LErr wr ea ∧ Good ws ∧ ws.length ≤ fuel ∧ ops.length + ws.length ≤ 1000000 ∧ Hid (restO ws0.length ws0 n0 = (ops ++ (restO fuel ws n).1, (restO fuel ws n).2))) (fun _ wr => leftOf wr b)
  case atStart => exact ⟨.slice none 0 0, [], ws0, n0, ws0.length, Only.refl _ _, HR0.out, HC0.out, World.ownsRow_nil _ _ _ _, HE0.out, HG0.out, Nat.le_refl _, by simpa using hl, rfl⟩
  case round =>
    obtain ⟨v, ops, ws, n, fuel, honly, hrat, hblk, hown, herr, hgood, hfu, hlen, HF⟩ := hrel
    have HO := Lib.hid honly
    have HR := Lib.hid hrat
    have HB := Lib.hid hblk
    have HW := Lib.hid hown
    have HE := Lib.hid herr
    have HG := Lib.hid hgood
    have HL := Lib.hid hrat.left
    clear honly hrat hblk hown herr hgood
    cases n with
    | succ n =>
      have k1 := HR.out.cell1.1
      rw [errOf_succ] at k1
      have HF2 := Lib.hid (show restO ws0.length ws0 n0 = (ops, n + 1) by rw [HF.out]; cases fuel <;> cases ws <;> simp [restO])
      go_wp2_with fail
      go_end0
      unfold RestPost
      rw [HF2.out]
      exact ⟨rfl, HO.out, ⟨ws, HR.out⟩, v, HB.out, HW.out⟩
    | zero =>
      have k1 := HR.out.cell1.1
      rw [errOf_zero] at k1
      obtain ⟨ao, cap, k0⟩ := HR.out.cell0
      cases ws with
      | nil =>
        have HF2 := Lib.hid (show restO ws0.length ws0 n0 = (ops, 0) by rw [HF.out]; cases fuel <;> simp [restO])
        go_wp2_with fail
        go_end0
        unfold RestPost
        rw [HF2.out]
        exact ⟨rfl, HO.out, ⟨[], HR.out⟩, v, HB.out, HW.out⟩
      | cons x r =>
        obtain ⟨fuel, rfl⟩ : ∃ f, fuel = f + 1 := ⟨fuel - 1, by simp at hfu; omega⟩
        have HF2 := Lib.hid (show restO ws0.length ws0 n0 = ((ops ++ [(opF x r).1]) ++ (restO fuel (opF x r).2.1 (opF x r).2.2).1, (restO fuel (opF x r).2.1 (opF x r).2.2).2) by rw [HF.out]; simp [restO])
        have HOL := Lib.hid (opF_len x r)
        have HOG := Lib.hid (opF_good (x := x) HG.out.tail)
        have HOP := Lib.hid (op_any b ea x r K wr HR.out hK (fun k hk => Nat.lt_of_lt_of_le (hKw k hk) HO.out.size) HG.out hb HE.out)
        have hpos : (0 : Int) < ((x :: r).length : Int) := by simp
        have hpos2 : 0 < (x :: r).length := by simp
        simp only [List.length_cons] at hfu hlen hpos hpos2 k0
        clear HF
        obtain ⟨kd, s1, s2, s3, vs, hcells⟩ : ∃ kd s1 s2 s3 vs, opCells (opF x r).1 = [.int .i64 kd, .string s1, .string s2, .string s3, .int .i64 vs] := ⟨_, _, _, _, _, rfl⟩
        unfold OpPost at HOP
        rw [hcells] at HOP
        have HCL := Lib.hid hcells
        clear hcells
        go_wp2_with fail
        refine HOP.out.mono ?_
        rintro e w2 ⟨rfl, ho2, hr2⟩
        have HO2 := Lib.hid (HO.out.trans (ho2.mono (T := fun i => i = b ∨ i = c) (fun k hk => .inl hk)))
        have HR2 := Lib.hid hr2
        have HB2 := Lib.hid (HB.out.only ho2 (fun h => HBC.out h.symm))
        have HE2 := Lib.hid (HE.out.only ho2 (fun k hk => by subst hk; exact hb))
        have HW2 := Lib.hid (show w2.ownsRow w.heap.size 103 5 v ops.length (ops.flatMap opCells) from own_only HW.out ho2 (fun g hg hh => by have := (HW.out.lt g hg).1; omega))
        clear ho2 hr2
        go_wp2_with fail
        have HX3 := Lib.hid (show Only (fun i => i = b ∨ i = c) w (w2.alloc (.cells #[.int .i64 kd, .string s1, .string s2, .string s3, .int .i64 vs] 103)) from HO2.out.alloc _)
        have HB3 := Lib.hid (HB2.out.alloc (.cells #[.int .i64 kd, .string s1, .string s2, .string s3, .int .i64 vs] 103))
        have HW3 := Lib.hid (HW2.out.alloc (.cells #[.int .i64 kd, .string s1, .string s2, .string s3, .int .i64 vs] 103))
        have HE3 := Lib.hid (HE2.out.only (S := fun _ => False) ((Only.refl _ w2).alloc (.cells #[.int .i64 kd, .string s1, .string s2, .string s3, .int .i64 vs] 103)) (fun _ h => h.elim))
        have HR3 := Lib.hid (HR2.out.only (S := fun _ => False) ((Only.refl _ w2).alloc (.cells #[.int .i64 kd, .string s1, .string s2, .string s3, .int .i64 vs] 103)) (fun h => h) (fun _ h => h.elim))
        have hx3 := Blk.new w2 103 #[.int .i64 kd, .string s1, .string s2, .string s3, .int .i64 vs]
        have x0 := hx3.cell 0
        have x1 := hx3.cell 1
        have x2 := hx3.cell 2
        have x3 := hx3.cell 3
        have x4 := hx3.cell 4
        have hop : (w2.alloc (.cells #[.int .i64 kd, .string s1, .string s2, .string s3, .int .i64 vs] 103)).cell? ⟨c, 4, none⟩ = some v := by
          rw [HB3.out.cell 4, Array.getElem?_setIfInBounds, if_pos rfl, if_pos (by have := HCS.out; omega)]
        have hopf := HB3.out.frozen 4
        clear hx3
        generalize hw3 : w2.alloc (.cells #[.int .i64 kd, .string s1, .string s2, .string s3, .int .i64 vs] 103) = w3 at *
        have HW3Q := Lib.hid hw3
        clear hw3
        have hgt : w2.heap.size < w3.heap.size := by rw [← HW3Q.out]; simp
        have hcl3 : c < w3.heap.size := HB3.out.lt
        have HSZ := Lib.hid (show w.heap.size ≤ w3.heap.size from HX3.out.size)
        have hn : ops.length ≤ 1000000000 := by omega
        have NC := Lib.hid (new_cells [.int .i64 kd, .string s1, .string s2, .string s3, .int .i64 vs] w3.drew 103)
        have hop2 : (w3.drew.alloc (.cells #[.int .i64 kd, .string s1, .string s2, .string s3, .int .i64 vs] 103)).cell? ⟨c, 4, none⟩ = some v := (World.cell?_alloc_lt w3.drew _ ⟨c, 4, none⟩ hcl3).trans hop
        have HWA := Lib.hid (show (w3.drew.alloc (.cells #[.int .i64 kd, .string s1, .string s2, .string s3, .int .i64 vs] 103)).ownsRow w.heap.size 103 5 v ops.length (ops.flatMap opCells) from World.ownsRow.alloc (w := w3.drew) HW3.out _)
        have HBA := Lib.hid (show Blk (w3.drew.alloc (.cells #[.int .i64 kd, .string s1, .string s2, .string s3, .int .i64 vs] 103)) c 48 (cs.setIfInBounds 4 v) from Blk.alloc (w := w3.drew) HB3.out _)
        have HSA := Lib.hid (show w.heap.size ≤ (w3.drew.alloc (.cells #[.int .i64 kd, .string s1, .string s2, .string s3, .int .i64 vs] 103)).heap.size by rw [World.size_alloc]; exact Nat.le_succ_of_le HSZ.out)
        have HOLD := Lib.hid (show (cs.setIfInBounds 4 v)[4]? = some v by rw [Array.getElem?_setIfInBounds, if_pos rfl, if_pos (by have := HCS.out; omega)])
        go_region_law (refine step_app rfl _ _ 40 rfl w.heap.size 103 i0 _ 5 64 Tryd.underlying40 hi hz0 hz1 hz2 rfl (by omega) v ops.length (ops.flatMap opCells) (by simp [Act.eval, Act.put]) HWA.out w3.heap.size [.int .i64 kd, .string s1, .string s2, .string s3, .int .i64 vs] (by simp [Act.eval, Act.put]) rfl NC.out (by intro u hu; simp at hu; rcases hu with rfl | rfl | rfl | rfl | rfl <;> rfl) hn (by omega) HSA.out c 4 rfl 48 _ v HBA.out HOLD.out (by decide) ?_; intro g4 cap4 w4 hown4 hgrow4 hblk4 hcell4 hfz4)
        all_goals
          have hrow := fun k (hk : v.ownBlock = some k) => (HW3.out.lt k hk)
          have ho34 : Only (fun i => some i = v.ownBlock) w3 w4 := (((Only.refl (fun i => some i = v.ownBlock) w3).alloc _).drewN 1).grown hgrow4 (fun k hk => .inl hk.symm)
          have hcv := own_ne_blk hown4 hblk4 (by decide)
          have hset : Only (fun i => i = c) w4 (w4.setCell ⟨c, 4, none⟩ (.slice (some ⟨g4, 0, none⟩) (ops.length + 1) cap4)) := (Only.refl (fun i => i = c) w4).set (.inl rfl) _
          have HR5 := Lib.hid ((HR3.out.only ho34 (fun h => by have := (hrow b h.symm).1; omega) (fun k hk hkk => by have := (hrow k hk.symm).1; have := hKw k hkk; omega)).only hset HBC.out (fun k hk => by subst hk; exact HKC.out))
          have HE5 := Lib.hid ((HE3.out.only ho34 (fun k hk => by have := (hrow k hk.symm).1; have := HSZ.out; omega)).only hset (fun k hk => by subst hk; exact hc))
          have HO5 := Lib.hid ((HX3.out.step ho34 (fun k hk => .inr (hrow k hk.symm).1)).trans (hset.mono (T := fun i => i = b ∨ i = c) (fun k hk => .inr hk)))
          have HB5 := Lib.hid (show Blk (w4.setCell ⟨c, 4, none⟩ (.slice (some ⟨g4, 0, none⟩) (ops.length + 1) cap4)) c 48 (cs.setIfInBounds 4 (.slice (some ⟨g4, 0, none⟩) (ops.length + 1) cap4)) by
            have := hblk4.put 4 (.slice (some ⟨g4, 0, none⟩) (ops.length + 1) cap4)
            rw [Array.setIfInBounds_setIfInBounds] at this
            exact this)
          have HW5 := Lib.hid (show (w4.setCell ⟨c, 4, none⟩ (.slice (some ⟨g4, 0, none⟩) (ops.length + 1) cap4)).ownsRow w.heap.size 103 5 (.slice (some ⟨g4, 0, none⟩) (ops.length + 1) cap4) (ops ++ [(opF x r).1]).length ((ops ++ [(opF x r).1]).flatMap opCells) by
            have h1 := own_only hown4 hset (fun g hg hh => by subst hh; exact hcv hg)
            rw [List.length_append, List.flatMap_append]
            simp only [List.flatMap_cons, List.flatMap_nil, List.append_nil]
            rw [HCL.out]
            exact h1)
          clear hrow ho34 hcv hset hown4 hgrow4 hblk4 hcell4 hfz4
          generalize hw5 : w4.setCell ⟨c, 4, none⟩ (.slice (some ⟨g4, 0, none⟩) (ops.length + 1) cap4) = w5 at *
          clear hw5
          go_wp2_with fail
          go_roundw
          case rel => exact ⟨_, ops ++ [(opF x r).1], (opF x r).2.1, (opF x r).2.2, fuel, HO5.out, HR5.out, HB5.out, HW5.out, HE5.out, HOG.out, by have := HOL.out; omega, by have := HOL.out; rw [List.length_append]; simp only [List.length_singleton]; omega, HF2.out⟩
          case measure => rw [HR5.out.left, HL.out]; have := HOL.out; simp only [List.length_cons]; omega
end Go.Proofs.YtjhmehmmpfnnkaaDoor

namespace Go.Proofs.YtjhmehmmpfnnkaaDoor
open Go.RowKit Utf
set_option maxRecDepth 100000
set_option linter.unusedSimpArgs false
set_option linter.unusedVariables false

/-- The numbers that follow: what they are, the error's number. -/
def restG : Nat → List (List Nat) → Nat → List Int × Nat
  | _, _, n + 1 => ([], n + 1)
  | _, [], 0 => ([], 0)
  | 0, _ :: _, 0 => ([], 0)
  | k + 1, x :: r, 0 => let q := rdNum (x :: r) 0; (q.1.getD 0 :: (restG k q.2.1 q.2.2).1, (restG k q.2.1 q.2.2).2)
def restN (ws : List (List Nat)) (n : Nat) : Nat := if n = 0 then (if ws = [] then 0 else 4) else n

def intRow (l : List Int) : List Value := l.map (Value.int .i64)
theorem rdNum_cons_len (x : List Nat) (r : List (List Nat)) : (rdNum (x :: r) 0).2.1.length = r.length := by
  simp only [rdNum]; split <;> rfl

set_option maxHeartbeats 4000000 in
theorem rest_nums (b c : Nat) (cs : Array Value) (ea : Nat → Addr) (ws0 : List (List Nat)) (n0 : Nat) (K : Nat → Prop) (w : World) (h : RAt w b ea ws0 n0 K) (hK : ¬ K b) (hKc : ¬ K c) (hKw : ∀ k, K k → k < w.heap.size)
    (hg : Good ws0) (hC : Blk w c 48 cs) (hcs : cs.size = 24) (h4 : cs[20]? = some (.slice none 0 0)) (hbc : b ≠ c) (hb : gTop ≤ b) (hc : gTop ≤ c) (he : LErr w ea) (hl : ws0.length ≤ 1000000) :
    Calls Tryd.prog 39 #[.pointer (some ⟨b, 0, none⟩), .pointer (some ⟨c, 0, none⟩), .int .i32 103] w
      (RestPost w b c 20 ea K cs 3 1 (intRow (restG ws0.length ws0 n0).1) (restG ws0.length ws0 n0).1.length (restG ws0.length ws0 n0).2) := by
  obtain ⟨i0, hi, hz0, hz1, hz2⟩ := info_parts Tryd.infoInt
  have hblt : b < w.heap.size := by obtain ⟨ao, cap, h1, -⟩ := h; exact h1.lt
  have hclt := hC.lt
  have hnil : cs.setIfInBounds 20 (.slice none 0 0) = cs := by
    apply Array.ext_getElem?
    intro i
    rw [Array.getElem?_setIfInBounds]
    split
    · rename_i hi2
      subst hi2
      rw [h4, if_pos (by omega)]
    · rfl
  have HR0 := Lib.hid h
  have HC0 := Lib.hid (show Blk w c 48 (cs.setIfInBounds 20 (.slice none 0 0)) by rw [hnil]; exact hC)
  have HE0 := Lib.hid he
  have HG0 := Lib.hid hg
  have HCS := Lib.hid hcs
  have HBC := Lib.hid hbc
  have HKC := Lib.hid hKc
  clear h hC he hg hcs hnil h4 hbc hKc
  go_enter Tryd.func39, Tryd.ntmps39
  go_wp2_with fail
  go_loopw [8] (fun _ wr => ∃ (v : Value) (ops : List Int) (ws : List (List Nat)) (n fuel : Nat), Only (fun i => i = b ∨ i = c) w wr ∧ RAt wr b ea ws n K ∧ Blk wr c 48 (cs.setIfInBounds 20 v) ∧ wr.ownsRow w.heap.size 3 1 v ops.length (intRow ops) ∧ LErr wr ea ∧ Good ws ∧ ws.length ≤ fuel ∧ ops.length + ws.length ≤ 1000000 ∧ Hid (restG ws0.length ws0 n0 = (ops ++ (restG fuel ws n).1, (restG fuel ws n).2))) (fun _ wr => leftOf wr b)
  case atStart => exact ⟨.slice none 0 0, [], ws0, n0, ws0.length, Only.refl _ _, HR0.out, HC0.out, World.ownsRow_nil _ _ _ _, HE0.out, HG0.out, Nat.le_refl _, by simpa using hl, rfl⟩
  case round =>
    obtain ⟨v, ops, ws, n, fuel, honly, hrat, hblk, hown, herr, hgood, hfu, hlen, HF⟩ := hrel
    have HO := Lib.hid honly
    have HR := Lib.hid hrat
    have HB := Lib.hid hblk
    have HW := Lib.hid hown
    have HE := Lib.hid herr
    have HG := Lib.hid hgood
    have HL := Lib.hid hrat.left
    clear honly hrat hblk hown herr hgood
    cases n with
    | succ n =>
      have k1 := HR.out.cell1.1
      rw [errOf_succ] at k1
      have HF2 := Lib.hid (show restG ws0.length ws0 n0 = (ops, n + 1) by rw [HF.out]; cases fuel <;> cases ws <;> simp [restG])
      go_wp2_with fail
      go_end0
      unfold RestPost
      rw [HF2.out]
      exact ⟨rfl, HO.out, ⟨ws, HR.out⟩, v, HB.out, HW.out⟩
    | zero =>
      have k1 := HR.out.cell1.1
      rw [errOf_zero] at k1
      obtain ⟨ao, cap, k0⟩ := HR.out.cell0
      cases ws with
      | nil =>
        have HF2 := Lib.hid (show restG ws0.length ws0 n0 = (ops, 0) by rw [HF.out]; cases fuel <;> simp [restG])
        go_wp2_with fail
        go_end0
        unfold RestPost
        rw [HF2.out]
        exact ⟨rfl, HO.out, ⟨[], HR.out⟩, v, HB.out, HW.out⟩
      | cons x r =>
        obtain ⟨fuel, rfl⟩ : ∃ f, fuel = f + 1 := ⟨fuel - 1, by simp at hfu; omega⟩
        have HF2 := Lib.hid (show restG ws0.length ws0 n0 = ((ops ++ [(rdNum (x :: r) 0).1.getD 0]) ++ (restG fuel (rdNum (x :: r) 0).2.1 (rdNum (x :: r) 0).2.2).1, (restG fuel (rdNum (x :: r) 0).2.1 (rdNum (x :: r) 0).2.2).2) by rw [HF.out]; simp [restG])
        have HOL := Lib.hid (rdNum_cons_len x r)
        have HOG := Lib.hid (rdNum_good (n := 0) HG.out)
        have HSW := Lib.hid HO.out.size
        have hwn : Blk (wr.alloc (.cells #[.int .i64 0] 3)) wr.heap.size 3 #[.int .i64 0] := Blk.new wr _ _
        have hof : Only (fun _ => False) wr (wr.alloc (.cells #[.int .i64 0] 3)) := (Only.refl _ wr).alloc _
        have hbn : b ≠ wr.heap.size := by have := HSW.out; omega
        have HRA := Lib.hid (HR.out.only hof (fun h => h) (fun _ h => h.elim))
        have HBA0 := Lib.hid (HB.out.alloc (.cells #[.int .i64 0] 3))
        have HOP := Lib.hid (read_num b wr.heap.size 0 3 #[.int .i64 0] 0 ea (x :: r) 0 K _ HRA.out hK (fun h => by have := hKw _ h; have := HSW.out; omega) HG.out hwn rfl hbn hb (by have := HE.out.top; omega) (HE.out.only hof (fun _ h => h.elim)))
        have HOA := Lib.hid (show Only (fun i => i = b ∨ i = c) w (wr.alloc (.cells #[.int .i64 0] 3)) from HO.out.alloc _)
        have HEA := Lib.hid (HE.out.only hof (fun _ h => h.elim))
        have HWA0 := Lib.hid (HW.out.alloc (.cells #[.int .i64 0] 3))
        have hpos : (0 : Int) < ((x :: r).length : Int) := by simp
        have hpos2 : 0 < (x :: r).length := by simp
        simp only [List.length_cons] at hfu hlen hpos hpos2 k0
        clear HF hwn hof hbn
        generalize hq : rdNum (x :: r) 0 = q at *
        have HQ := Lib.hid hq
        clear hq
        go_wp2_with fail
        refine HOP.out.mono ?_
        rintro e w3 ⟨rfl, ho3, hr3, hn3⟩
        have HN3 := Lib.hid (show Blk w3 wr.heap.size 3 #[.int .i64 (q.1.getD 0)] by
          rw [putNum _ 0 _ rfl] at hn3
          exact hn3)
        have HX3 := Lib.hid (show Only (fun i => i = b ∨ i = c) w w3 from HOA.out.step ho3 (fun k hk => by
          rcases hk with rfl | rfl
          · exact .inl (.inl rfl)
          · exact .inr HSW.out))
        have hbn : b ≠ wr.heap.size := by have := HSW.out; omega
        have hcn : c ≠ wr.heap.size := by have := HSW.out; omega
        have HR3 := Lib.hid hr3
        have HB3 := Lib.hid (HBA0.out.only ho3 (fun h => h.elim (fun h => HBC.out h.symm) (fun h => hcn h)))
        have HE3 := Lib.hid (HEA.out.only ho3 (fun k hk => by
          rcases hk with rfl | rfl
          · exact hb
          · have := HE.out.top; omega))
        have HW3 := Lib.hid (show w3.ownsRow w.heap.size 3 1 v ops.length (intRow ops) from own_only HWA0.out ho3 (fun g hg hh => by
          have h1 := HWA0.out.lt g hg
          rcases hh with rfl | rfl
          · omega
          · have := (HW.out.lt _ hg).2
            omega))
        clear ho3 hr3 hn3 hbn hcn
        have x0 := HN3.out.cell 0
        generalize q.1.getD 0 = nv at *
        have x0 : w3.cell? ⟨wr.heap.size, 0, none⟩ = some (.int .i64 nv) := HN3.out.cell 0
        have hop : w3.cell? ⟨c, 20, none⟩ = some v := by
          rw [HB3.out.cell 20, Array.getElem?_setIfInBounds, if_pos rfl, if_pos (by have := HCS.out; omega)]
        have hopf := HB3.out.frozen 20
        have hgt : wr.heap.size < w3.heap.size := HN3.out.lt
        have hcl3 : c < w3.heap.size := HB3.out.lt
        have HSZ := Lib.hid (show w.heap.size ≤ w3.heap.size from HX3.out.size)
        have hn : ops.length ≤ 1000000000 := by omega
        have NC := Lib.hid (new_cells [.int .i64 nv] w3.drew 3)
        have hop2 : (w3.drew.alloc (.cells #[.int .i64 nv] 3)).cell? ⟨c, 20, none⟩ = some v := (World.cell?_alloc_lt w3.drew _ ⟨c, 20, none⟩ hcl3).trans hop
        have HWA := Lib.hid (show (w3.drew.alloc (.cells #[.int .i64 nv] 3)).ownsRow w.heap.size 3 1 v ops.length (intRow ops) from World.ownsRow.alloc (w := w3.drew) HW3.out _)
        have HBA := Lib.hid (show Blk (w3.drew.alloc (.cells #[.int .i64 nv] 3)) c 48 (cs.setIfInBounds 20 v) from Blk.alloc (w := w3.drew) HB3.out _)
        have HSA := Lib.hid (show w.heap.size ≤ (w3.drew.alloc (.cells #[.int .i64 nv] 3)).heap.size by rw [World.size_alloc]; exact Nat.le_succ_of_le HSZ.out)
        have HOLD := Lib.hid (show (cs.setIfInBounds 20 v)[20]? = some v by rw [Array.getElem?_setIfInBounds, if_pos rfl, if_pos (by have := HCS.out; omega)])
        go_wp2_with fail
        go_region_law (refine step_app rfl _ _ 23 rfl w.heap.size 3 i0 _ 1 8 Tryd.underlying23 hi hz0 hz1 hz2 rfl (by omega) v ops.length (intRow ops) (by simp [Act.eval, Act.put]) HWA.out w3.heap.size [.int .i64 nv] (by simp [Act.eval, Act.put]) rfl NC.out (by intro u hu; simp at hu; subst hu; rfl) hn (by omega) HSA.out c 20 rfl 48 _ v HBA.out HOLD.out (by decide) ?_; intro g4 cap4 w4 hown4 hgrow4 hblk4 hcell4 hfz4)
        all_goals
          have hrow := fun k (hk : v.ownBlock = some k) => (HW3.out.lt k hk)
          have ho34 : Only (fun i => some i = v.ownBlock) w3 w4 := (((Only.refl (fun i => some i = v.ownBlock) w3).alloc _).drewN 1).grown hgrow4 (fun k hk => .inl hk.symm)
          have hcv := own_ne_blk hown4 hblk4 (by decide)
          have hset : Only (fun i => i = c) w4 (w4.setCell ⟨c, 20, none⟩ (.slice (some ⟨g4, 0, none⟩) (ops.length + 1) cap4)) := (Only.refl (fun i => i = c) w4).set (.inl rfl) _
          have HR5 := Lib.hid ((HR3.out.only ho34 (fun h => by have := (hrow b h.symm).1; omega) (fun k hk hkk => by have := (hrow k hk.symm).1; have := hKw k hkk; omega)).only hset HBC.out (fun k hk => by subst hk; exact HKC.out))
          have HE5 := Lib.hid ((HE3.out.only ho34 (fun k hk => by have := (hrow k hk.symm).1; have := HSZ.out; omega)).only hset (fun k hk => by subst hk; exact hc))
          have HO5 := Lib.hid ((HX3.out.step ho34 (fun k hk => .inr (hrow k hk.symm).1)).trans (hset.mono (T := fun i => i = b ∨ i = c) (fun k hk => .inr hk)))
          have HB5 := Lib.hid (show Blk (w4.setCell ⟨c, 20, none⟩ (.slice (some ⟨g4, 0, none⟩) (ops.length + 1) cap4)) c 48 (cs.setIfInBounds 20 (.slice (some ⟨g4, 0, none⟩) (ops.length + 1) cap4)) by
            have := hblk4.put 20 (.slice (some ⟨g4, 0, none⟩) (ops.length + 1) cap4)
            rw [Array.setIfInBounds_setIfInBounds] at this
            exact this)
          have HW5 := Lib.hid (show (w4.setCell ⟨c, 20, none⟩ (.slice (some ⟨g4, 0, none⟩) (ops.length + 1) cap4)).ownsRow w.heap.size 3 1 (.slice (some ⟨g4, 0, none⟩) (ops.length + 1) cap4) (ops ++ [nv]).length (intRow (ops ++ [nv])) by
            have h1 := own_only hown4 hset (fun g hg hh => by subst hh; exact hcv hg)
            rw [List.length_append]
            simpa [intRow] using h1)
          clear hrow ho34 hcv hset hown4 hgrow4 hblk4 hcell4 hfz4
          generalize hw5 : w4.setCell ⟨c, 20, none⟩ (.slice (some ⟨g4, 0, none⟩) (ops.length + 1) cap4) = w5 at *
          clear hw5
          go_wp2_with fail
          go_roundw
          case rel => exact ⟨_, ops ++ [nv], q.2.1, q.2.2, fuel, HO5.out, HR5.out, HB5.out, HW5.out, HE5.out, HOG.out, by have := HOL.out; omega, by have := HOL.out; rw [List.length_append]; simp only [List.length_singleton]; omega, HF2.out⟩
          case measure => rw [HR5.out.left, HL.out]; have := HOL.out; simp only [List.length_cons]; omega

set_option maxHeartbeats 1000000 in
theorem restN_any (b c : Nat) (ea : Nat → Addr) (ws : List (List Nat)) (n : Nat) (K : Nat → Prop) (w : World) (h : RAt w b ea ws n K) (hK : ¬ K b) (hb : gTop ≤ b) (he : LErr w ea) :
    Calls Tryd.prog 39 #[.pointer (some ⟨b, 0, none⟩), .pointer (some ⟨c, 0, none⟩), .int .i32 0] w fun e w' => e = .returned (.tuple #[]) ∧ Only (fun i => i = b) w w' ∧ ∃ ws', RAt w' b ea ws' (restN ws n) K := by
  have HR0 := Lib.hid h
  have HE0 := Lib.hid he
  clear h he
  go_enter Tryd.func39, Tryd.ntmps39
  go_wp2_with fail
  go_loopw [8] (fun _ wr => ∃ (n1 : Nat), Only (fun i => i = b) w wr ∧ RAt wr b ea ws n1 K ∧ LErr wr ea ∧ Hid (restN ws n = restN ws n1)) (fun _ wr => match wr.cell? ⟨b, 1, none⟩ with | some .nilIface => 1 | _ => 0)
  case atStart => exact ⟨n, Only.refl _ _, HR0.out, HE0.out, rfl⟩
  case round =>
    obtain ⟨n1, honly, hrat, herr, HF⟩ := hrel
    have HO := Lib.hid honly
    have HR := Lib.hid hrat
    have HE := Lib.hid herr
    clear honly hrat herr
    cases n1 with
    | succ n1 =>
      have k1 := HR.out.cell1.1
      rw [errOf_succ] at k1
      have HF2 := Lib.hid (show restN ws n = n1 + 1 by rw [HF.out]; rfl)
      go_wp2_with fail
      go_end0
      rw [HF2.out]
      exact ⟨rfl, HO.out, ws, HR.out⟩
    | zero =>
      have k1 := HR.out.cell1.1
      rw [errOf_zero] at k1
      obtain ⟨ao, cap, k0⟩ := HR.out.cell0
      cases ws with
      | nil =>
        have HF2 := Lib.hid (show restN [] n = 0 by rw [HF.out]; rfl)
        go_wp2_with fail
        go_end0
        rw [HF2.out]
        exact ⟨rfl, HO.out, [], HR.out⟩
      | cons x r =>
        have HF2 := Lib.hid (show restN (x :: r) n = restN (x :: r) 4 by rw [HF.out]; rfl)
        have hpos : (0 : Int) < ((x :: r).length : Int) := by simp
        have hpos2 : 0 < (x :: r).length := by simp
        have k1f := HR.out.cell1.2
        have ke := HE.out.form
        simp only [List.length_cons] at hpos hpos2 k0
        have HR2 := Lib.hid (HR.out.putErr 4 hK)
        have HE2 := Lib.hid (HE.out.set (p := ⟨b, 1, none⟩) hb (errOf ea 4))
        have HO2 := Lib.hid (HO.out.set (p := ⟨b, 1, none⟩) (.inl rfl) (errOf ea 4))
        rw [errOf_succ] at HR2 HE2 HO2
        have HK1 := Lib.hid k1
        go_wp2_with fail
        go_roundw
        case rel => exact ⟨4, HO2.out, HR2.out, HE2.out, HF2.out⟩
        case measure => rw [HK1.out]; have := HR2.out.cell1.1; rw [this]; simp [errOf_succ]
end Go.Proofs.YtjhmehmmpfnnkaaDoor

namespace Go.Proofs.YtjhmehmmpfnnkaaDoor
open Go.RowKit Utf
set_option maxRecDepth 100000
set_option linter.unusedSimpArgs false
set_option linter.unusedVariables false

/-- Where a field lies in an op's block. -/
def offF : Fld → Nat
  | .who => 1 | .n => 2 | .fresh => 3 | .shard => 6 | .other => 7 | .server => 8 | .key => 17 | .lo => 18 | .hi => 19 | .ekey => 12
def isNum : Fld → Bool
  | .who | .n | .fresh | .shard | .other | .server => true
  | .key | .lo | .hi | .ekey => false
def ptrF (b : Nat) (f : Fld) : Value := .iface (if isNum f = true then 95 else 100) (.pointer (some ⟨b, offF f, none⟩))

theorem field_who (b : Nat) (w : World) :
    Calls Tryd.prog 38 #[.pointer (some ⟨b, 0, none⟩), .int .i32 119] w fun e w' => e = .returned (.iface 95 (.pointer (some ⟨b, 1, none⟩))) ∧ w = w' := by
  go_enter Tryd.func38, Tryd.ntmps38
  go_wp2_with fail
  go_ret
  exact ⟨rfl, rfl⟩

theorem field_n (b : Nat) (w : World) :
    Calls Tryd.prog 38 #[.pointer (some ⟨b, 0, none⟩), .int .i32 110] w fun e w' => e = .returned (.iface 95 (.pointer (some ⟨b, 2, none⟩))) ∧ w = w' := by
  go_enter Tryd.func38, Tryd.ntmps38
  go_wp2_with fail
  go_ret
  exact ⟨rfl, rfl⟩

theorem field_fresh (b : Nat) (w : World) :
    Calls Tryd.prog 38 #[.pointer (some ⟨b, 0, none⟩), .int .i32 102] w fun e w' => e = .returned (.iface 95 (.pointer (some ⟨b, 3, none⟩))) ∧ w = w' := by
  go_enter Tryd.func38, Tryd.ntmps38
  go_wp2_with fail
  go_ret
  exact ⟨rfl, rfl⟩

theorem field_shard (b : Nat) (w : World) :
    Calls Tryd.prog 38 #[.pointer (some ⟨b, 0, none⟩), .int .i32 115] w fun e w' => e = .returned (.iface 95 (.pointer (some ⟨b, 6, none⟩))) ∧ w = w' := by
  go_enter Tryd.func38, Tryd.ntmps38
  go_wp2_with fail
  go_ret
  exact ⟨rfl, rfl⟩

theorem field_other (b : Nat) (w : World) :
    Calls Tryd.prog 38 #[.pointer (some ⟨b, 0, none⟩), .int .i32 111] w fun e w' => e = .returned (.iface 95 (.pointer (some ⟨b, 7, none⟩))) ∧ w = w' := by
  go_enter Tryd.func38, Tryd.ntmps38
  go_wp2_with fail
  go_ret
  exact ⟨rfl, rfl⟩

theorem field_server (b : Nat) (w : World) :
    Calls Tryd.prog 38 #[.pointer (some ⟨b, 0, none⟩), .int .i32 118] w fun e w' => e = .returned (.iface 95 (.pointer (some ⟨b, 8, none⟩))) ∧ w = w' := by
  go_enter Tryd.func38, Tryd.ntmps38
  go_wp2_with fail
  go_ret
  exact ⟨rfl, rfl⟩

theorem field_key (b : Nat) (w : World) :
    Calls Tryd.prog 38 #[.pointer (some ⟨b, 0, none⟩), .int .i32 107] w fun e w' => e = .returned (.iface 100 (.pointer (some ⟨b, 17, none⟩))) ∧ w = w' := by
  go_enter Tryd.func38, Tryd.ntmps38
  go_wp2_with fail
  go_ret
  exact ⟨rfl, rfl⟩

theorem field_lo (b : Nat) (w : World) :
    Calls Tryd.prog 38 #[.pointer (some ⟨b, 0, none⟩), .int .i32 108] w fun e w' => e = .returned (.iface 100 (.pointer (some ⟨b, 18, none⟩))) ∧ w = w' := by
  go_enter Tryd.func38, Tryd.ntmps38
  go_wp2_with fail
  go_ret
  exact ⟨rfl, rfl⟩

theorem field_hi (b : Nat) (w : World) :
    Calls Tryd.prog 38 #[.pointer (some ⟨b, 0, none⟩), .int .i32 104] w fun e w' => e = .returned (.iface 100 (.pointer (some ⟨b, 19, none⟩))) ∧ w = w' := by
  go_enter Tryd.func38, Tryd.ntmps38
  go_wp2_with fail
  go_ret
  exact ⟨rfl, rfl⟩

theorem field_ekey (b : Nat) (w : World) :
    Calls Tryd.prog 38 #[.pointer (some ⟨b, 0, none⟩), .int .i32 101] w fun e w' => e = .returned (.iface 100 (.pointer (some ⟨b, 12, none⟩))) ∧ w = w' := by
  go_enter Tryd.func38, Tryd.ntmps38
  go_wp2_with fail
  go_ret
  exact ⟨rfl, rfl⟩

theorem field_any (f : Fld) (b : Nat) (w : World) :
    Calls Tryd.prog 38 #[.pointer (some ⟨b, 0, none⟩), .int .i32 (letP f : Int)] w fun e w' => e = .returned (ptrF b f) ∧ w = w' := by
  cases f
  · exact field_who b w
  · exact field_n b w
  · exact field_fresh b w
  · exact field_shard b w
  · exact field_other b w
  · exact field_server b w
  · exact field_key b w
  · exact field_lo b w
  · exact field_hi b w
  · exact field_ekey b w
end Go.Proofs.YtjhmehmmpfnnkaaDoor

namespace Go.Proofs.YtjhmehmmpfnnkaaDoor
open Go.RowKit Utf
set_option maxRecDepth 100000
set_option linter.unusedSimpArgs false
set_option linter.unusedVariables false

/-- Where a text stands in the program's table: the first verb of that name. -/
def verbIdx (x : List UInt8) : Nat := verbs.findIdx fun v => v.name == x

set_option maxHeartbeats 1000000 in
theorem parse1_any (v : ByteArray) (k e : Int) (f : ByteArray) (r : Int) (wb : Nat) (a : Addr) (n cap : Nat) (x : ByteArray) (w : World) (ha : a.spot = none) (hn : 1 ≤ n) (hc : w.cell? ⟨wb, 0, none⟩ = some (.slice (some a) n cap)) (hx : w.cell? a = some (.string x)) :
    Calls Tryd.prog 36 #[.agg #[.string v, .int .i64 k, .int .i64 e, .string f, .int .i32 r], .pointer (some ⟨wb, 0, none⟩)] w fun en w' => en = .returned (.bool (v.toList == x.toList)) ∧ Below w.heap.size w w' := by
  obtain ⟨ab, ao, sp⟩ := a
  obtain rfl : sp = none := ha
  have hn' : (1 : Int) ≤ (n : Int) := by omega
  have hn0 : (0 : Int) < (n : Int) := by omega
  have hn00 : 0 < n := hn
  have l1 := World.block_lt_of_cell? w _ hc
  have l2 := World.block_lt_of_cell? w _ hx
  have hc2 := fun o => (World.cell?_alloc_lt w o ⟨wb, 0, none⟩ l1).trans hc
  have hx2 := fun o => (World.cell?_alloc_lt w o ⟨ab, ao, none⟩ l2).trans hx
  clear l1 l2 hc hx
  go_enter Tryd.func36, Tryd.ntmps36
  go_wp2_with fail
  go_quiet (fail)
  go_wp2_with fail
  go_ret
  exact ⟨rfl, below_drewN ((Below.refl _ _).alloc (Nat.le_refl _) _) _⟩

theorem verbIdx_step {x : List UInt8} {k : Nat} (hk : k < verbs.length) (h : k ≤ verbIdx x) (hne : (verbs[k].name == x) = false) : k + 1 ≤ verbIdx x := by
  rcases Nat.lt_or_ge k (verbIdx x) with h1 | h1
  · exact h1
  · exfalso
    have e : verbs.findIdx (fun v => v.name == x) = k := Nat.le_antisymm h1 h
    have := List.findIdx_getElem (p := fun v : Verb => v.name == x) (xs := verbs) (w := by rw [e]; exact hk)
    have h2 : verbs[verbs.findIdx (fun v : Verb => v.name == x)]'(by rw [e]; exact hk) = verbs[k] := getElem_congr_idx e
    rw [h2] at this
    rw [hne] at this
    cases this
theorem verbIdx_hit {x : List UInt8} {k : Nat} (hk : k < verbs.length) (h : k ≤ verbIdx x) (he : (verbs[k].name == x) = true) : verbIdx x = k := by
  refine Nat.le_antisymm (Nat.le_of_not_lt fun h1 => ?_) h
  have := List.not_of_lt_findIdx (p := fun v : Verb => v.name == x) (xs := verbs) (i := k) h1
  rw [he] at this
  cases this

/-- What IndexFunc answers. -/
def idxInt (i : Nat) : Int := if i < 17 then (i : Int) else -1

set_option maxHeartbeats 1000000 in
theorem index_parse (b wb : Nat) (a : Addr) (n cap : Nat) (x : ByteArray) (w : World) (ha : a.spot = none) (hn : 1 ≤ n) (hc : w.cell? ⟨wb, 0, none⟩ = some (.slice (some a) n cap)) (hx : w.cell? a = some (.string x))
    (hb : Blk w b 79 shapeCells) :
    Calls Tryd.prog 35 #[.slice (some ⟨b, 0, none⟩) 17 17, .func (.func 36) #[] #[.pointer (some ⟨wb, 0, none⟩)]] w fun e w' => e = .returned (.int .i64 (idxInt (verbIdx x.toList))) ∧ Below w.heap.size w w' := by
  have HC := Lib.hid hc
  have HX := Lib.hid hx
  have HB := Lib.hid hb
  have hlen : verbs.length = 17 := rfl
  have HLEN := Lib.hid hlen
  clear hc hx hb hlen
  go_enter Tryd.func35, Tryd.ntmps35
  go_wp2_with fail
  go_loopw [8] (fun i wr => ∃ k : Nat, k ≤ 17 ∧ i = .int .i64 k ∧ Below w.heap.size w wr ∧ Hid (k ≤ verbIdx x.toList)) (fun i _ => 17 - (intOf i).toNat)
  case atStart => exact ⟨0, by omega, rfl, Below.refl _ _, Nat.zero_le _⟩
  case round =>
    obtain ⟨k, hk, rfl, hbel, HK⟩ := hrel
    have HBE := Lib.hid hbel
    clear hbel
    by_cases hlt : k < 17
    · have hk2 : k < verbs.length := by rw [HLEN.out]; exact hlt
      have HBR := Lib.hid (HB.out.below HBE.out HB.out.lt)
      have hcell : ∀ j, j < 5 → wr.cell? ⟨b, k * 5 + j, none⟩ = (shapeOf verbs[k])[j]? := by
        intro j hj5
        rw [HBR.out.cell, Nat.mul_comm k 5, shape_at k hk2 j hj5]
      have s0 : wr.cell? ⟨b, k * 5, none⟩ = some (.string (mkS verbs[k].name)) := hcell 0 (by omega)
      have s1 : wr.cell? ⟨b, k * 5 + 1, none⟩ = some (.int .i64 (verbs[k].kind : Int)) := hcell 1 (by omega)
      have s2 : wr.cell? ⟨b, k * 5 + 2, none⟩ = some (.int .i64 (verbs[k].ekind : Int)) := hcell 2 (by omega)
      have s3 : wr.cell? ⟨b, k * 5 + 3, none⟩ = some (.string (mkS (encAll (verbs[k].flds.map letP)))) := hcell 3 (by omega)
      have s4 : wr.cell? ⟨b, k * 5 + 4, none⟩ = some (.int .i32 (verbs[k].rest : Int)) := hcell 4 (by omega)
      clear hcell
      have HST := Lib.hid (fun h => verbIdx_step hk2 HK.out h)
      have HHI := Lib.hid (fun h => verbIdx_hit hk2 HK.out h)
      have HP := Lib.hid (parse1_any (mkS verbs[k].name) verbs[k].kind verbs[k].ekind (mkS (encAll (verbs[k].flds.map letP))) verbs[k].rest wb a n cap x wr ha hn ((HBE.out.cell (World.block_lt_of_cell? w _ HC.out)).trans HC.out) ((HBE.out.cell (World.block_lt_of_cell? w _ HX.out)).trans HX.out))
      have hbeq : ((mkS verbs[k].name).toList == x.toList) = (verbs[k].name == x.toList) := by rw [Lib.toList_data, mkS_data]
      rw [hbeq] at HP
      clear hbeq
      generalize verbs[k] = v at *
      cases hq : (v.name == x.toList) with
      | true =>
        have HQ := Lib.hid (HHI.out hq)
        rw [hq] at HP
        clear hq
        have HI := Lib.hid (show idxInt (verbIdx x.toList) = (k : Int) by unfold idxInt; rw [HQ.out, if_pos hlt])
        go_wp2_with fail
        refine HP.out.mono ?_
        rintro e w2 ⟨rfl, hb2⟩
        go_wp2_with fail
        go_ret
        rw [HI.out]
        exact ⟨rfl, HBE.out.trans (hb2.mono HBE.out.size)⟩
      | false =>
        have HQ := Lib.hid (HST.out hq)
        rw [hq] at HP
        clear hq
        go_wp2_with fail
        refine HP.out.mono ?_
        rintro e w2 ⟨rfl, hb2⟩
        go_wp2_with fail
        go_roundw
        case rel => exact ⟨k + 1, by omega, by go_num, HBE.out.trans (hb2.mono HBE.out.size), HQ.out⟩
        case measure => simp [intOf]; omega
    · obtain rfl : k = 17 := by omega
      have HI := Lib.hid (show idxInt (verbIdx x.toList) = -1 by unfold idxInt; rw [if_neg (Nat.not_lt.2 HK.out)])
      go_wp2_with fail
      go_ret
      rw [HI.out]
      exact ⟨rfl, HBE.out⟩
end Go.Proofs.YtjhmehmmpfnnkaaDoor
