/-
  The contract of (*lines.reader).rest: what follows a verb's fields: numbers; nothing.
-/
import Derived.Test.YtjhmehmmpfnnkaaDoorLRestO
namespace Go.Proofs.YtjhmehmmpfnnkaaDoor
open Go.RowKit Utf
set_option maxRecDepth 100000
set_option linter.unusedSimpArgs false
set_option linter.unusedVariables false

/-- The numbers that follow: what they are, the error's number. -/
def restG : Nat → List (List Nat) → Nat → List Int × Nat
  | _, _, n + 1 => ([], n + 1)
  | _, [], 0 => ([], 0)
  | 0, _ :: _, 0 => ([], 0)
  | k + 1, x :: r, 0 => let q := rdNum (x :: r) 0; (q.1.getD 0 :: (restG k q.2.1 q.2.2).1, (restG k q.2.1 q.2.2).2)
def restN (ws : List (List Nat)) (n : Nat) : Nat := if n = 0 then (if ws = [] then 0 else 4) else n

def intRow (l : List Int) : List Value := l.map (Value.int .i64)
theorem rdNum_cons_len (x : List Nat) (r : List (List Nat)) : (rdNum (x :: r) 0).2.1.length = r.length := by
  simp only [rdNum]; split <;> rfl

set_option maxHeartbeats 4000000 in
theorem rest_nums (b c : Nat) (cs : Array Value) (ea : Nat → Addr) (ws0 : List (List Nat)) (n0 : Nat) (K : Nat → Prop) (w : World) (h : RAt w b ea ws0 n0 K) (hK : ¬ K b) (hKc : ¬ K c) (hKw : ∀ k, K k → k < w.heap.size)
    (hg : Good ws0) (hC : Blk w c 48 cs) (hcs : cs.size = 24) (h4 : cs[20]? = some (.slice none 0 0)) (hbc : b ≠ c) (hb : gTop ≤ b) (hc : gTop ≤ c) (he : LErr w ea) (hl : ws0.length ≤ 1000000) :
    Calls Tryd.prog 39 #[.pointer (some ⟨b, 0, none⟩), .pointer (some ⟨c, 0, none⟩), .int .i32 103] w
      (RestPost w b c 20 ea K cs 3 1 (intRow (restG ws0.length ws0 n0).1) (restG ws0.length ws0 n0).1.length (restG ws0.length ws0 n0).2) := by
  obtain ⟨i0, hi, hz0, hz1, hz2⟩ := info_parts Tryd.infoInt
  have hblt : b < w.heap.size := by obtain ⟨ao, cap, h1, -⟩ := h; exact h1.lt
  have hclt := hC.lt
  have hnil : cs.setIfInBounds 20 (.slice none 0 0) = cs := by
    apply Array.ext_getElem?
    intro i
    rw [Array.getElem?_setIfInBounds]
    split
    · rename_i hi2
      subst hi2
      rw [h4, if_pos (by omega)]
    · rfl
  have HR0 := Lib.hid h
  have HC0 := Lib.hid (show Blk w c 48 (cs.setIfInBounds 20 (.slice none 0 0)) by rw [hnil]; exact hC)
  have HE0 := Lib.hid he
  have HG0 := Lib.hid hg
  have HCS := Lib.hid hcs
  have HBC := Lib.hid hbc
  have HKC := Lib.hid hKc
  clear h hC he hg hcs hnil h4 hbc hKc
  go_enter Tryd.func39, Tryd.ntmps39
  go_wp2_with fail
  go_loopw [8] (fun _ wr => ∃ (v : Value) (ops : List Int) (ws : List (List Nat)) (n fuel : Nat), Only (fun i => i = b ∨ i = c) w wr ∧ RAt wr b ea ws n K ∧ Blk wr c 48 (cs.setIfInBounds 20 v) ∧ wr.ownsRow w.heap.size 3 1 v ops.length (intRow ops) ∧ LErr wr ea ∧ Good ws ∧ ws.length ≤ fuel ∧ ops.length + ws.length ≤ 1000000 ∧ Hid (restG ws0.length ws0 n0 = (ops ++ (restG fuel ws n).1, (restG fuel ws n).2))) (fun _ wr => leftOf wr b)
  case atStart => exact ⟨.slice none 0 0, [], ws0, n0, ws0.length, Only.refl _ _, HR0.out, HC0.out, World.ownsRow_nil _ _ _ _, HE0.out, HG0.out, Nat.le_refl _, by simpa using hl, rfl⟩
  case round =>
    obtain ⟨v, ops, ws, n, fuel, honly, hrat, hblk, hown, herr, hgood, hfu, hlen, HF⟩ := hrel
    have HO := Lib.hid honly
    have HR := Lib.hid hrat
    have HB := Lib.hid hblk
    have HW := Lib.hid hown
    have HE := Lib.hid herr
    have HG := Lib.hid hgood
    have HL := Lib.hid hrat.left
    clear honly hrat hblk hown herr hgood
    cases n with
    | succ n =>
      have k1 := HR.out.cell1.1
      rw [errOf_succ] at k1
      have HF2 := Lib.hid (show restG ws0.length ws0 n0 = (ops, n + 1) by rw [HF.out]; cases fuel <;> cases ws <;> simp [restG])
      go_wp2_with fail
      go_end0
      unfold RestPost
      rw [HF2.out]
      exact ⟨rfl, HO.out, ⟨ws, HR.out⟩, v, HB.out, HW.out⟩
    | zero =>
      have k1 := HR.out.cell1.1
      rw [errOf_zero] at k1
      obtain ⟨ao, cap, k0⟩ := HR.out.cell0
      cases ws with
      | nil =>
        have HF2 := Lib.hid (show restG ws0.length ws0 n0 = (ops, 0) by rw [HF.out]; cases fuel <;> simp [restG])
        go_wp2_with fail
        go_end0
        unfold RestPost
        rw [HF2.out]
        exact ⟨rfl, HO.out, ⟨[], HR.out⟩, v, HB.out, HW.out⟩
      | cons x r =>
        obtain ⟨fuel, rfl⟩ : ∃ f, fuel = f + 1 := ⟨fuel - 1, by simp at hfu; omega⟩
        have HF2 := Lib.hid (show restG ws0.length ws0 n0 = ((ops ++ [(rdNum (x :: r) 0).1.getD 0]) ++ (restG fuel (rdNum (x :: r) 0).2.1 (rdNum (x :: r) 0).2.2).1, (restG fuel (rdNum (x :: r) 0).2.1 (rdNum (x :: r) 0).2.2).2) by rw [HF.out]; simp [restG])
        have HOL := Lib.hid (rdNum_cons_len x r)
        have HOG := Lib.hid (rdNum_good (n := 0) HG.out)
        have HSW := Lib.hid HO.out.size
        have hwn : Blk (wr.alloc (.cells #[.int .i64 0] 3)) wr.heap.size 3 #[.int .i64 0] := Blk.new wr _ _
        have hof : Only (fun _ => False) wr (wr.alloc (.cells #[.int .i64 0] 3)) := (Only.refl _ wr).alloc _
        have hbn : b ≠ wr.heap.size := by have := HSW.out; omega
        have HRA := Lib.hid (HR.out.only hof (fun h => h) (fun _ h => h.elim))
        have HBA0 := Lib.hid (HB.out.alloc (.cells #[.int .i64 0] 3))
        have HOP := Lib.hid (read_num b wr.heap.size 0 3 #[.int .i64 0] 0 ea (x :: r) 0 K _ HRA.out hK (fun h => by have := hKw _ h; have := HSW.out; omega) HG.out hwn rfl hbn hb (by have := HE.out.top; omega) (HE.out.only hof (fun _ h => h.elim)))
        have HOA := Lib.hid (show Only (fun i => i = b ∨ i = c) w (wr.alloc (.cells #[.int .i64 0] 3)) from HO.out.alloc _)
        have HEA := Lib.hid (HE.out.only hof (fun _ h => h.elim))
        have HWA0 := Lib.hid (HW.out.alloc (.cells #[.int .i64 0] 3))
        have hpos : (0 : Int) < ((x :: r).length : Int) := by simp
        have hpos2 : 0 < (x :: r).length := by simp
        simp only [List.length_cons] at hfu hlen hpos hpos2 k0
        clear HF hwn hof hbn
        generalize hq : rdNum (x :: r) 0 = q at *
        have HQ := Lib.hid hq
        clear hq
        go_wp2_with fail
        refine HOP.out.mono ?_
        rintro e w3 ⟨rfl, ho3, hr3, hn3⟩
        have HN3 := Lib.hid (show Blk w3 wr.heap.size 3 #[.int .i64 (q.1.getD 0)] by
          rw [putNum _ 0 _ rfl] at hn3
          exact hn3)
        have HX3 := Lib.hid (show Only (fun i => i = b ∨ i = c) w w3 from HOA.out.step ho3 (fun k hk => by
          rcases hk with rfl | rfl
          · exact .inl (.inl rfl)
          · exact .inr HSW.out))
        have hbn : b ≠ wr.heap.size := by have := HSW.out; omega
        have hcn : c ≠ wr.heap.size := by have := HSW.out; omega
        have HR3 := Lib.hid hr3
        have HB3 := Lib.hid (HBA0.out.only ho3 (fun h => h.elim (fun h => HBC.out h.symm) (fun h => hcn h)))
        have HE3 := Lib.hid (HEA.out.only ho3 (fun k hk => by
          rcases hk with rfl | rfl
          · exact hb
          · have := HE.out.top; omega))
        have HW3 := Lib.hid (show w3.ownsRow w.heap.size 3 1 v ops.length (intRow ops) from own_only HWA0.out ho3 (fun g hg hh => by
          have h1 := HWA0.out.lt g hg
          rcases hh with rfl | rfl
          · omega
          · have := (HW.out.lt _ hg).2
            omega))
        clear ho3 hr3 hn3 hbn hcn
        have x0 := HN3.out.cell 0
        generalize q.1.getD 0 = nv at *
        have x0 : w3.cell? ⟨wr.heap.size, 0, none⟩ = some (.int .i64 nv) := HN3.out.cell 0
        have hop : w3.cell? ⟨c, 20, none⟩ = some v := by
          rw [HB3.out.cell 20, Array.getElem?_setIfInBounds, if_pos rfl, if_pos (by have := HCS.out; omega)]
        have hopf := HB3.out.frozen 20
        have hgt : wr.heap.size < w3.heap.size := HN3.out.lt
        have hcl3 : c < w3.heap.size := HB3.out.lt
        have HSZ := Lib.hid (show w.heap.size ≤ w3.heap.size from HX3.out.size)
        have hn : ops.length ≤ 1000000000 := by omega
        have NC := Lib.hid (new_cells [.int .i64 nv] w3.drew 3)
        have hop2 : (w3.drew.alloc (.cells #[.int .i64 nv] 3)).cell? ⟨c, 20, none⟩ = some v := (World.cell?_alloc_lt w3.drew _ ⟨c, 20, none⟩ hcl3).trans hop
        have HWA := Lib.hid (show (w3.drew.alloc (.cells #[.int .i64 nv] 3)).ownsRow w.heap.size 3 1 v ops.length (intRow ops) from World.ownsRow.alloc (w := w3.drew) HW3.out _)
        have HBA := Lib.hid (show Blk (w3.drew.alloc (.cells #[.int .i64 nv] 3)) c 48 (cs.setIfInBounds 20 v) from Blk.alloc (w := w3.drew) HB3.out _)
        have HSA := Lib.hid (show w.heap.size ≤ (w3.drew.alloc (.cells #[.int .i64 nv] 3)).heap.size by rw [World.size_alloc]; exact Nat.le_succ_of_le HSZ.out)
        have HOLD := Lib.hid (show (cs.setIfInBounds 20 v)[20]? = some v by rw [Array.getElem?_setIfInBounds, if_pos rfl, if_pos (by have := HCS.out; omega)])
        go_wp2_with fail
        go_region_law (refine step_app rfl _ _ 23 rfl w.heap.size 3 i0 _ 1 8 Tryd.underlying23 hi hz0 hz1 hz2 rfl (by omega) v ops.length (intRow ops) (by simp [Act.eval, Act.put]) HWA.out w3.heap.size [.int .i64 nv] (by simp [Act.eval, Act.put]) rfl NC.out (by intro u hu; simp at hu; subst hu; rfl) hn (by omega) HSA.out c 20 rfl 48 _ v HBA.out HOLD.out (by decide) ?_; intro g4 cap4 w4 hown4 hgrow4 hblk4 hcell4 hfz4)
        all_goals
          have hrow := fun k (hk : v.ownBlock = some k) => (HW3.out.lt k hk)
          have ho34 : Only (fun i => some i = v.ownBlock) w3 w4 := (((Only.refl (fun i => some i = v.ownBlock) w3).alloc _).drewN 1).grown hgrow4 (fun k hk => .inl hk.symm)
          have hcv := own_ne_blk hown4 hblk4 (by decide)
          have hset : Only (fun i => i = c) w4 (w4.setCell ⟨c, 20, none⟩ (.slice (some ⟨g4, 0, none⟩) (ops.length + 1) cap4)) := (Only.refl (fun i => i = c) w4).set (.inl rfl) _
          have HR5 := Lib.hid ((HR3.out.only ho34 (fun h => by have := (hrow b h.symm).1; omega) (fun k hk hkk => by have := (hrow k hk.symm).1; have := hKw k hkk; omega)).only hset HBC.out (fun k hk => by subst hk; exact HKC.out))
          have HE5 := Lib.hid ((HE3.out.only ho34 (fun k hk => by have := (hrow k hk.symm).1; have := HSZ.out; omega)).only hset (fun k hk => by subst hk; exact hc))
          have HO5 := Lib.hid ((HX3.out.step ho34 (fun k hk => .inr (hrow k hk.symm).1)).trans (hset.mono (T := fun i => i = b ∨ i = c) (fun k hk => .inr hk)))
          have HB5 := Lib.hid (show Blk (w4.setCell ⟨c, 20, none⟩ (.slice (some ⟨g4, 0, none⟩) (ops.length + 1) cap4)) c 48 (cs.setIfInBounds 20 (.slice (some ⟨g4, 0, none⟩) (ops.length + 1) cap4)) by
            have := hblk4.put 20 (.slice (some ⟨g4, 0, none⟩) (ops.length + 1) cap4)
            rw [Array.setIfInBounds_setIfInBounds] at this
            exact this)
          have HW5 := Lib.hid (show (w4.setCell ⟨c, 20, none⟩ (.slice (some ⟨g4, 0, none⟩) (ops.length + 1) cap4)).ownsRow w.heap.size 3 1 (.slice (some ⟨g4, 0, none⟩) (ops.length + 1) cap4) (ops ++ [nv]).length (intRow (ops ++ [nv])) by
            have h1 := own_only hown4 hset (fun g hg hh => by subst hh; exact hcv hg)
            rw [List.length_append]
            simpa [intRow] using h1)
          clear hrow ho34 hcv hset hown4 hgrow4 hblk4 hcell4 hfz4
          generalize hw5 : w4.setCell ⟨c, 20, none⟩ (.slice (some ⟨g4, 0, none⟩) (ops.length + 1) cap4) = w5 at *
          clear hw5
          go_wp2_with fail
          go_roundw
          case rel => exact ⟨_, ops ++ [nv], q.2.1, q.2.2, fuel, HO5.out, HR5.out, HB5.out, HW5.out, HE5.out, HOG.out, by have := HOL.out; omega, by have := HOL.out; rw [List.length_append]; simp only [List.length_singleton]; omega, HF2.out⟩
          case measure => rw [HR5.out.left, HL.out]; have := HOL.out; simp only [List.length_cons]; omega

set_option maxHeartbeats 1000000 in
theorem restN_any (b c : Nat) (ea : Nat → Addr) (ws : List (List Nat)) (n : Nat) (K : Nat → Prop) (w : World) (h : RAt w b ea ws n K) (hK : ¬ K b) (hb : gTop ≤ b) (he : LErr w ea) :
    Calls Tryd.prog 39 #[.pointer (some ⟨b, 0, none⟩), .pointer (some ⟨c, 0, none⟩), .int .i32 0] w fun e w' => e = .returned (.tuple #[]) ∧ Only (fun i => i = b) w w' ∧ ∃ ws', RAt w' b ea ws' (restN ws n) K := by
  have HR0 := Lib.hid h
  have HE0 := Lib.hid he
  clear h he
  go_enter Tryd.func39, Tryd.ntmps39
  go_wp2_with fail
  go_loopw [8] (fun _ wr => ∃ (n1 : Nat), Only (fun i => i = b) w wr ∧ RAt wr b ea ws n1 K ∧ LErr wr ea ∧ Hid (restN ws n = restN ws n1)) (fun _ wr => match wr.cell? ⟨b, 1, none⟩ with | some .nilIface => 1 | _ => 0)
  case atStart => exact ⟨n, Only.refl _ _, HR0.out, HE0.out, rfl⟩
  case round =>
    obtain ⟨n1, honly, hrat, herr, HF⟩ := hrel
    have HO := Lib.hid honly
    have HR := Lib.hid hrat
    have HE := Lib.hid herr
    clear honly hrat herr
    cases n1 with
    | succ n1 =>
      have k1 := HR.out.cell1.1
      rw [errOf_succ] at k1
      have HF2 := Lib.hid (show restN ws n = n1 + 1 by rw [HF.out]; rfl)
      go_wp2_with fail
      go_end0
      rw [HF2.out]
      exact ⟨rfl, HO.out, ws, HR.out⟩
    | zero =>
      have k1 := HR.out.cell1.1
      rw [errOf_zero] at k1
      obtain ⟨ao, cap, k0⟩ := HR.out.cell0
      cases ws with
      | nil =>
        have HF2 := Lib.hid (show restN [] n = 0 by rw [HF.out]; rfl)
        go_wp2_with fail
        go_end0
        rw [HF2.out]
        exact ⟨rfl, HO.out, [], HR.out⟩
      | cons x r =>
        have HF2 := Lib.hid (show restN (x :: r) n = restN (x :: r) 4 by rw [HF.out]; rfl)
        have hpos : (0 : Int) < ((x :: r).length : Int) := by simp
        have hpos2 : 0 < (x :: r).length := by simp
        have k1f := HR.out.cell1.2
        have ke := HE.out.form
        simp only [List.length_cons] at hpos hpos2 k0
        have HR2 := Lib.hid (HR.out.putErr 4 hK)
        have HE2 := Lib.hid (HE.out.set (p := ⟨b, 1, none⟩) hb (errOf ea 4))
        have HO2 := Lib.hid (HO.out.set (p := ⟨b, 1, none⟩) (.inl rfl) (errOf ea 4))
        rw [errOf_succ] at HR2 HE2 HO2
        have HK1 := Lib.hid k1
        go_wp2_with fail
        go_roundw
        case rel => exact ⟨4, HO2.out, HR2.out, HE2.out, HF2.out⟩
        case measure => rw [HK1.out]; have := HR2.out.cell1.1; rw [this]; simp [errOf_succ]
end Go.Proofs.YtjhmehmmpfnnkaaDoor
