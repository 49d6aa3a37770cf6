/-
  The contract of tidewaterref31.Parse.
-/
import Derived.Test.YtjhmehmmpfnnkaaDoorM17
namespace Go.Proofs.YtjhmehmmpfnnkaaDoor
open Go.RowKit Utf
set_option maxRecDepth 100000
set_option linter.unusedSimpArgs false
set_option linter.unusedVariables false

theorem rst_start {w w4 : World} {w1s wbk wof cap cap2 d c : Nat} {ek : Int} {ao2 : Option Addr} {x : List Nat} {r : List (List Nat)} {fs : ByteArray} {p0 : PW} (HO : Only (fun _ => False) w w4) (HZ : Blk w4 w.heap.size 52 rZero)
    (HD : w4.cell? ⟨d, 3, none⟩ = some (.string fs)) (HC : Blk w4 c 52 (rCells p0 (.slice none 0 0) (.slice none 0 0)))
    (HR : RowAt w4 (some ⟨wbk, wof, none⟩) (strRow (fieldTexts (x :: r)))) (HG : GoodR (x :: r)) (hwbge : w.heap.size + 1 ≤ wbk) (hwblt : wbk < w1s) (hs : w1s + 1 ≤ d) (hs2 : d < c) (hs3 : c < w4.heap.size)
    (h1 : r.length ≤ cap2) (h2 : cap2 ≤ maxLen) (h3 : cap2 = cap - 1) (h4 : ao2 = some ⟨wbk, wof, none⟩ ∧ cap = 1 ∨ ao2 = some ⟨wbk, wof + 1, none⟩) :
    RSt w (fun i => w.heap.size + 1 ≤ i ∧ i < w1s) d c w4.heap.size fs ((w4.setCell ⟨c, 5, none⟩ (.int .i64 ek)).alloc (.cells #[.slice ao2 r.length cap2, .int .i64 0] 94))
      (rCells { p0 with ekind := ek } (.slice none 0 0) (.slice none 0 0)) r 0 := by
  have hrest : RowAt w4 (some ⟨wbk, wof + 1, none⟩) (strRow (fieldTexts r)) := HR.rest wbk wof rfl
  have h5 := HC.put 5 (.int .i64 ek)
  have hset : Only (fun i => i = c) w4 (w4.setCell ⟨c, 5, none⟩ (.int .i64 ek)) := (Only.refl (fun i => i = c) w4).set (.inl rfl) _
  have hsz : (w4.setCell ⟨c, 5, none⟩ (.int .i64 ek)).heap.size = w4.heap.size := by simp [World.setCell]
  have bb := Blk.new (w4.setCell ⟨c, 5, none⟩ (.int .i64 ek)) 94 #[.slice ao2 r.length cap2, .int .i64 0]
  rw [hsz] at bb
  have hall : Only (fun i => i = c) w4 ((w4.setCell ⟨c, 5, none⟩ (.int .i64 ek)).alloc (.cells #[.slice ao2 r.length cap2, .int .i64 0] 94)) := hset.alloc _
  refine ⟨HO.step hall (fun i hi => .inr (by omega)), HZ.only hall (by omega), hall.cell HD (by simp only; omega), ⟨ao2, cap2, bb, ?_, h1, h2, ?_, ?_, ?_⟩, h5.alloc _, HG.tail, by omega, by omega, by omega, fun i hi => by omega⟩
  · rcases h4 with ⟨rfl, h4⟩ | rfl
    · have hr0 : r.length = 0 := by omega
      intro i hi
      rw [List.length_eq_zero_iff.1 hr0] at hi
      simp [strRow, fieldTexts] at hi
    · exact hrest.only hall (fun ad e h => by cases e; simp only at h; omega)
  · intro ad e
    rcases h4 with ⟨rfl, h4⟩ | rfl <;> cases e <;> rfl
  · intro e
    rcases h4 with ⟨rfl, h4⟩ | rfl <;> cases e
  · intro ad e
    rcases h4 with ⟨rfl, h4⟩ | rfl <;> cases e <;> exact ⟨hwbge, hwblt⟩

set_option maxHeartbeats 8000000 in
theorem refParse_some (s : ByteArray) (x : List Nat) (r : List (List Nat)) (w : World) (hs : s.size ≤ 100000) (hw : wordsR s = (x :: r, 0)) (hg : GoodR (x :: r)) (hrl : r.length ≤ 1000000) :
    Calls Tryd.prog 18 #[.string s] w (RefParsePost (x :: r) w) := by
  have HW := Lib.hid (fun W => refWords_all s W (by omega))
  rw [hw] at HW
  have hz := Blk.new w 52 rZero
  have HZ := Lib.hid hz
  have HG := Lib.hid hg
  clear hz hw hg
  go_enter Tryd.func18, Tryd.ntmps18
  go_wp2_with fail
  refine (HW.out _).mono ?_
  rintro e w1 ⟨v, rfl, h3, hb1⟩
  obtain ⟨ao, cap, rfl, hrow, -, hcap, hcm, -, hsp⟩ := h3.row
  obtain ⟨wbk, wof, rfl, hx0⟩ := hrow 0 (by simp [strRow, fieldTexts])
  have hx1 : w1.cell? ⟨wbk, wof, none⟩ = some (.string (mkS (encAll x))) := hx0
  have hwblt : wbk < w1.heap.size := World.block_lt_of_cell? w1 _ hx1
  have hsz1 : w.heap.size + 1 ≤ w1.heap.size := by have := hb1.size; simpa using this
  have hwbge : w.heap.size + 1 ≤ wbk := by
    have := (h3.lt wbk (by simp only [ownB]; rw [if_neg (by simp at hcap; omega)])).1
    simpa using this
  have HROW := Lib.hid hrow
  have HZ2 := Lib.hid (HZ.out.below hb1 HZ.out.lt)
  have HO1 := Lib.hid (show Only (fun _ => False) w w1 from ((Only.refl _ w).alloc _).trans (Only.below_all hb1))
  have HX1 := Lib.hid hx1
  have hnz : (((r.length : Int) + 1) == 0) = false := by simp; omega
  clear hb1 hx0 hx1 hrow h3 HW HZ
  simp only [List.length_cons] at hcap ⊢
  go_wp2_with fail
  refine (rows_any _).mono ?_
  rintro e w2 ⟨rfl, hw2⟩
  have HT := Lib.hid (show Blk w2 w1.heap.size 91 rowCells by rw [hw2]; exact Blk.new w1 _ _)
  have HZ3 := Lib.hid (show Blk w2 w.heap.size 52 rZero by rw [hw2]; exact HZ2.out.alloc _)
  have HO3 := Lib.hid (show Only (fun _ => False) w w2 by rw [hw2]; exact HO1.out.alloc _)
  have HX3 := Lib.hid (show w2.cell? ⟨wbk, wof, none⟩ = some (.string (mkS (encAll x))) by rw [hw2]; exact (World.cell?_alloc_lt _ _ ⟨wbk, wof, none⟩ hwblt).trans HX1.out)
  have HROW3 := Lib.hid (show RowAt w2 (some ⟨wbk, wof, none⟩) (strRow (fieldTexts (x :: r))) by
    rw [hw2]; exact HROW.out.only (S := fun _ => False) ((Only.refl _ w1).alloc _) (fun _ _ h => h))
  have HS2 := Lib.hid (show w2.heap.size = w1.heap.size + 1 by rw [hw2]; simp)
  clear hw2 HZ2 HO1 HX1 HROW
  go_wp2_with fail
  go_loopw [29] (fun vi wr => ∃ k : Nat, vi = .int .i64 k ∧ k ≤ 17 ∧ Below w2.heap.size w2 wr ∧ Hid (k ≤ refIdx (encAll x))) (fun vi _ => 17 - (intOf vi).toNat)
  case atStart => exact ⟨0, rfl, Nat.zero_le _, Below.refl _ _, Nat.zero_le _⟩
  case round =>
    obtain ⟨k, rfl, hk, hbel, HK⟩ := hrel
    have HBE := Lib.hid hbel
    have HBS := Lib.hid hbel.size
    clear hbel
    by_cases hlt : k < 17
    · have hk2 : k < refVerbs.length := hlt
      have hlt17 : (k : Int) < 17 := by omega
      have HBR := Lib.hid (HT.out.below HBE.out HT.out.lt)
      have hcell : ∀ j, j < 4 → wr.cell? ⟨w1.heap.size, k * 4 + j, none⟩ = (rowOf refVerbs[k])[j]? := by
        intro j hj4
        rw [HBR.out.cell, Nat.mul_comm k 4, row_at k hk2 j hj4]
      have HST := Lib.hid (fun h => refIdx_step hk2 HK.out h)
      have HHI := Lib.hid (fun h => refIdx_hit hk2 HK.out h)
      have HND := Lib.hid (refVerbs_nodup _ (List.getElem_mem hk2))
      have HRK := Lib.hid (refVerbs_rest _ (List.getElem_mem hk2))
      have HFL := Lib.hid (refVerbs_len _ (List.getElem_mem hk2))
      have HVB := Lib.hid (fun (h : refIdx (encAll x) = k) => show verbs[verbIdx (encAll x)]? = some refVerbs[k] from by
        have h1 : refIdx (encAll x) < 17 := by omega
        have h2 := refIdx_verb h1
        rw [h2]
        congr 1
        exact getElem_congr_idx h)
      generalize refVerbs[k] = v at *
      have s0 : wr.cell? ⟨w1.heap.size, k * 4, none⟩ = some (.string (mkS v.name)) := hcell 0 (by omega)
      have s1 : wr.cell? ⟨w1.heap.size, k * 4 + 1, none⟩ = some (.int .i64 (v.kind : Int)) := hcell 1 (by omega)
      have s2 : wr.cell? ⟨w1.heap.size, k * 4 + 2, none⟩ = some (.int .i64 (v.ekind : Int)) := hcell 2 (by omega)
      have s3 : wr.cell? ⟨w1.heap.size, k * 4 + 3, none⟩ = some (.string (mkS ((fldsR v).map UInt8.ofNat))) := hcell 3 (by omega)
      have hx4 := (HBE.out.cell (World.block_lt_of_cell? w2 _ HX3.out)).trans HX3.out
      have hbeq : ((mkS v.name).toList == (mkS (encAll x)).toList) = (v.name == encAll x) := by rw [Lib.toList_data, mkS_data, Lib.toList_data, mkS_data]
      have hwb4 : wbk ≠ wr.heap.size := by have := HBS.out; have := HS2.out; omega
      have hwb5 : wbk < wr.heap.size := by have := HBS.out; have := HS2.out; omega
      clear hcell
      cases hq : (v.name == encAll x) with
      | false =>
        rw [hq] at hbeq
        have hbeq2 : (!((mkS v.name).toList == (mkS (encAll x)).toList)) = true := by rw [hbeq]; rfl
        have HQ := Lib.hid (HST.out hq)
        clear hq
        go_wp2_with fail
        go_quiet (fail)
        go_wp2_with fail
        go_roundw
        case rel => exact ⟨k + 1, by go_num, by omega, HBE.out.trans (below_drewN ((Below.refl _ _).alloc HBE.out.size _) _), HQ.out⟩
        case measure => simp [intOf]; omega
      | true =>
        rw [hq] at hbeq
        have hbeq2 : (!((mkS v.name).toList == (mkS (encAll x)).toList)) = false := by rw [hbeq]; rfl
        have HQ := Lib.hid (HHI.out hq)
        have HV := Lib.hid (HVB.out HQ.out)
        have HPW := Lib.hid (show parseW (x :: r) = (let q := rdFlds v.flds { PW.zero with kind := (v.kind : Int), ekind := (v.ekind : Int) } r 0
            let o := restAny v.rest q.2.1 q.2.2
            if o.2.2 = 0 then (0, some ⟨q.1, o.1, o.2.1⟩) else (o.2.2, none)) by
          simp only [parseW, HV.out])
        have HFSZ := Lib.hid (flds_size v)
        have HFB := Lib.hid (flds_byte v)
        clear hq
        generalize hfs : mkS ((fldsR v).map UInt8.ofNat) = fs at *
        have HFS := Lib.hid hfs
        clear hfs
        go_wp2_with fail
        go_quiet (fail)
        have HR3 := Lib.hid (Blk.drewN (Blk.new wr 91 #[.string (mkS v.name), .int .i64 (v.kind : Int), .int .i64 (v.ekind : Int), .string fs]) nq)
        have HO13 := Lib.hid (((Only.refl (fun _ => False) wr).alloc (.cells #[.string (mkS v.name), .int .i64 (v.kind : Int), .int .i64 (v.ekind : Int), .string fs] 91)).drewN nq)
        have HSZ3 := Lib.hid (show ((wr.alloc (.cells #[.string (mkS v.name), .int .i64 (v.kind : Int), .int .i64 (v.ekind : Int), .string fs] 91)).drewN nq).heap.size = wr.heap.size + 1 from World.size_alloc wr _)
        generalize hw3 : (wr.alloc (.cells #[.string (mkS v.name), .int .i64 (v.kind : Int), .int .i64 (v.ekind : Int), .string fs] 91)).drewN nq = w3 at *
        clear hw3
        have k1 : w3.cell? ⟨wr.heap.size, 1, none⟩ = some (.int .i64 (v.kind : Int)) := HR3.out.cell 1
        have hd3 : wr.heap.size < w3.heap.size := HR3.out.lt
        have HWCC := Lib.hid (show rCells { PW.zero with kind := (v.kind : Int) } (.slice none 0 0) (.slice none 0 0) = #[.int .i64 (v.kind : Int), .int .i64 0, .int .i64 0, .int .i64 0, .slice none 0 0, .int .i64 0, .int .i64 0, .int .i64 0, .int .i64 0, .int .i64 0, .int .i64 0, .slice none 0 0, .string ⟨#[]⟩,
          .int .i64 0, .int .i64 0, .int .i64 0, .slice none 0 0, .string ⟨#[]⟩, .string ⟨#[]⟩, .string ⟨#[]⟩, .slice none 0 0] from rfl)
        have HONE := Lib.hid (rCells_one { PW.zero with kind := (v.kind : Int) } (.slice none 0 0) (.slice none 0 0) ⟨_, _, _, rfl⟩ ⟨_, _, _, rfl⟩)
        rw [HWCC.out] at HONE
        have HZN := Lib.hid (Blk.new w3 52 rZero)
        have HON := Lib.hid (show Only (fun _ => False) w3 (w3.alloc (.cells rZero 52)) from (Only.refl _ w3).alloc _)
        go_wp2_with (refine wpList_store_blk rfl 52 (.tmp 8) (.tmp 41) rfl w3.heap.size _ rfl rfl 52 rZero HZN.out rfl Tryd.sizeR HONE.out ?_)
        refine Lib.hid ?_
        intro w4 hb4 ho4
        have hb4' := hb4
        have HB4 := Lib.hid (show Blk w4 w3.heap.size 52 (rCells { PW.zero with kind := (v.kind : Int) } (.slice none 0 0) (.slice none 0 0)) by rw [HWCC.out]; exact hb4)
        have HO34 := Lib.hid (show Only (fun _ => False) w3 w4 from HON.out.step ho4 (fun k hk => .inr (Nat.le_of_eq hk.symm)))
        have HSZ4 := Lib.hid (show w3.heap.size + 1 ≤ w4.heap.size by have := ho4.size; simpa using this)
        have HR4 := Lib.hid (HR3.out.only HO34.out (fun h => h))
        have HO4 := Lib.hid (((HO3.out.trans (Only.below_all HBE.out)).trans HO13.out).trans HO34.out)
        have HZ4 := Lib.hid (((HZ3.out.below HBE.out HZ3.out.lt).only HO13.out (fun h => h)).only HO34.out (fun h => h))
        have HROW4 := Lib.hid (((HROW3.out.below HBE.out).only HO13.out (fun _ _ h => h)).only HO34.out (fun _ _ h => h))
        have k2 : w4.cell? ⟨wr.heap.size, 2, none⟩ = some (.int .i64 (v.ekind : Int)) := HR4.out.cell 2
        have k5 := hb4'.cell 5
        have k5f := hb4'.frozen 5
        have hdw4 : wr.heap.size < w4.heap.size := HR4.out.lt
        have hdc : wr.heap.size ≠ w3.heap.size := by omega
        have hset : Only (fun i => i = w3.heap.size) w4 (w4.setCell ⟨w3.heap.size, 5, none⟩ (.int .i64 (v.ekind : Int))) := (Only.refl (fun i => i = w3.heap.size) w4).set (.inl rfl) _
        have k3 : (w4.setCell ⟨w3.heap.size, 5, none⟩ (.int .i64 (v.ekind : Int))).cell? ⟨wr.heap.size, 3, none⟩ = some (.string fs) := hset.cell (HR4.out.cell 3) (by simp only; omega)
        have hl3 : wr.heap.size < (w4.setCell ⟨w3.heap.size, 5, none⟩ (.int .i64 (v.ekind : Int))).heap.size := World.block_lt_of_cell? _ _ k3
        have k3' := fun o => (World.cell?_alloc_lt _ o ⟨wr.heap.size, 3, none⟩ hl3).trans k3
        have HSTT := Lib.hid (fun ao2 cap2 h1 h2 h3 h4 => rst_start (w := w) (w4 := w4) (w1s := w1.heap.size) (x := x) (r := r) (wbk := wbk) (wof := wof) (ao2 := ao2) (cap2 := cap2) (cap := cap) (fs := fs) (ek := (v.ekind : Int)) HO4.out HZ4.out (HR4.out.cell 3) HB4.out HROW4.out HG.out hwbge hwblt (by have := HBS.out; have := HS2.out; omega) hd3 HSZ4.out h1 h2 h3 h4)
        clear hb4 ho4 hb4' hset hl3 HZN HON HONE k1
        have hcap2 : r.length ≤ cap - 1 := by omega
        have hcap3 : cap - 1 ≤ maxLen := by omega
        have hcs : (cap = 1) ∨ (¬ cap = 1) := Classical.em _
        rcases hcs with hc1 | hc1
        all_goals
          go_wp2_with fail
          obtain ⟨wo, hwo⟩ : ∃ wo : World, wo = wr := ⟨_, rfl⟩
          subst hwo
          go_loopw [10, 53] (fun vm vi wr2 => ∃ (i : Nat) (p : PW) (ws : List (List Nat)) (n : Nat), vi = .int .i64 i ∧ vm = .int .u8 (moreR v i : Nat) ∧ i ≤ (fldsR v).length ∧ RSt w (fun i => w.heap.size + 1 ≤ i ∧ i < w1.heap.size) wo.heap.size w3.heap.size w4.heap.size fs wr2 (rCells p (.slice none 0 0) (.slice none 0 0)) ws n ∧ Clear p (v.flds.drop i) ∧ ws.length ≤ 1000000 ∧ Hid (rdFlds v.flds { PW.zero with kind := (v.kind : Int), ekind := (v.ekind : Int) } r 0 = rdFlds (v.flds.drop i) p ws n)) (fun _ vi _ => (fldsR v).length - (intOf vi).toNat)
          case atStart =>
            refine ⟨0, _, r, 0, rfl, rfl, Nat.zero_le _, HSTT.out _ _ (by omega) (by omega) (by omega) (by first | exact .inl ⟨rfl, hc1⟩ | exact .inr rfl), clear_start _ _ _, hrl, rfl⟩
          case round =>
            obtain ⟨i, p, ws, n, rfl, rfl, hi, hps, hclr, hwsl, HF⟩ := hrel
            have HP := Lib.hid hps
            have HCL := Lib.hid hclr
            clear hps hclr
            have hfl := HFL.out
            by_cases hil : i < (fldsR v).length
            · have hi2 : i < fs.size := by rw [HFSZ.out]; exact hil
              have hid2 : decide (i < fs.size) = true := decide_eq_true hi2
              have d3 := HP.out.row
              by_cases hif : i < v.flds.length
              · have hbl := (HFB.out i hi2 hil).trans (fldsR_at v i hif hil)
                have hdr : v.flds.drop i = v.flds[i] :: v.flds.drop (i + 1) := List.drop_eq_getElem_cons hif
                have hnd : (v.flds[i] :: v.flds.drop (i + 1)).Nodup := by rw [← hdr]; exact HND.out.sublist (List.drop_sublist _ _)
                have HND2 := Lib.hid hnd
                have HCL2 := Lib.hid (show Clear p (v.flds[i] :: v.flds.drop (i + 1)) by rw [← hdr]; exact HCL.out)
                have HF2 := Lib.hid (show rdFlds v.flds { PW.zero with kind := (v.kind : Int), ekind := (v.ekind : Int) } r 0 = rdFlds (v.flds[i] :: v.flds.drop (i + 1)) p ws n by rw [← hdr]; exact HF.out)
                have HMO := Lib.hid (show Value.int .u8 (moreR v i : Nat) = .int .u8 (moreR v (i + 1) : Nat) by unfold moreR; rw [if_pos (by omega), if_pos (by omega)])
                clear hdr hnd HF HCL
                generalize v.flds[i] = f at *
                have t43 := letR_43 f
                have t42 := letR_42 f
                cases hnum : isNum f with
                | true =>
                  have HNB := Lib.hid (show Calls Tryd.prog 41 #[.pointer (some ⟨w3.heap.size, 0, none⟩), .int .u8 (letR f : Int)] wr fun e w' => e = .returned (.pointer (some ⟨w3.heap.size, offF f, none⟩)) ∧ wr = w' by
                    have := rnumber_any f w3.heap.size wr
                    unfold ptrR at this
                    rw [if_pos hnum] at this
                    exact this)
                  have HCN := Lib.hid (HCL2.out.setN HND2.out ((rdNum ws n).1.getD 0))
                  have HFN := Lib.hid (HF2.out.trans (show rdFlds (f :: v.flds.drop (i + 1)) p ws n = rdFlds (v.flds.drop (i + 1)) (p.setN ((rdNum ws n).1.getD 0) f) (rdNum ws n).2.1 (rdNum ws n).2.2 by simp only [rdFlds]; rw [if_pos hnum]))
                  have HNUM := Lib.hid hnum
                  clear hnum
                  go_wp2_with fail
                  refine HNB.out.mono ?_
                  rintro e w6 ⟨rfl, rfl⟩
                  go_wp2_with fail
                  refine (num_ref _ ws n _ wr HP.out.rat HP.out.kb HP.out.good).mono ?_
                  rintro e w6 ⟨rfl, ho6, hr6⟩
                  have HP6 := Lib.hid (HP.out.read ho6 hr6 (rdNum_goodR HP.out.good))
                  clear ho6 hr6
                  have kc : w6.cell? ⟨w3.heap.size, offF f, none⟩ = some (.int .i64 (p.getN f)) := (HP6.out.ob.cell _).trans (rCells_getN p _ _ f HNUM.out)
                  have kcf := HP6.out.ob.frozen (offF f)
                  have HP7 := Lib.hid (HP6.out.put (offF f) (.int .i64 ((rdNum ws n).1.getD 0)))
                  rw [rCells_setN p _ _ f HNUM.out] at HP7
                  have HLE7 := Lib.hid (rdNum_len ws n)
                  go_wp2_with fail
                  go_roundw
                  case rel => exact ⟨i + 1, _, _, _, by go_num, HMO.out, by omega, HP7.out, HCN.out, Nat.le_trans HLE7.out hwsl, HFN.out⟩
                  case measure => simp [intOf]; omega
                | false =>
                  have HNB := Lib.hid (show Calls Tryd.prog 41 #[.pointer (some ⟨w3.heap.size, 0, none⟩), .int .u8 (letR f : Int)] wr fun e w' => e = .returned (.pointer none) ∧ wr = w' by
                    have := rnumber_any f w3.heap.size wr
                    unfold ptrR at this
                    rw [if_neg (by rw [hnum]; decide)] at this
                    exact this)
                  have HTX := Lib.hid (rtext_any f hnum w3.heap.size wr)
                  have HCN := Lib.hid (HCL2.out.setS HND2.out ((rdStr ws n).1.getD []))
                  have HFN := Lib.hid (HF2.out.trans (show rdFlds (f :: v.flds.drop (i + 1)) p ws n = rdFlds (v.flds.drop (i + 1)) (p.setS ((rdStr ws n).1.getD []) f) (rdStr ws n).2.1 (rdStr ws n).2.2 by simp only [rdFlds]; rw [if_neg (by rw [hnum]; decide)]))
                  have HNUM := Lib.hid hnum
                  clear hnum
                  go_wp2_with fail
                  refine HNB.out.mono ?_
                  rintro e w6 ⟨rfl, rfl⟩
                  go_wp2_with fail
                  refine HTX.out.mono ?_
                  rintro e w6 ⟨rfl, rfl⟩
                  go_wp2_with fail
                  refine (str_ref _ ws n _ wr HP.out.rat HP.out.kb HP.out.good).mono ?_
                  rintro e w6 ⟨rfl, ho6, hr6⟩
                  have HP6 := Lib.hid (HP.out.read ho6 hr6 (rdStr_goodR HP.out.good))
                  clear ho6 hr6
                  have kc : w6.cell? ⟨w3.heap.size, offF f, none⟩ = some (.string (mkS (encAll (p.getS f)))) := (HP6.out.ob.cell _).trans (rCells_getS p _ _ f HNUM.out)
                  have kcf := HP6.out.ob.frozen (offF f)
                  have HP7 := Lib.hid (HP6.out.put (offF f) (txt ((rdStr ws n).1.getD [])))
                  rw [rCells_setS p _ _ f HNUM.out] at HP7
                  have HLE7 := Lib.hid (rdStr_len ws n)
                  go_wp2_with fail
                  go_roundw
                  case rel => exact ⟨i + 1, _, _, _, by go_num, HMO.out, by omega, HP7.out, HCN.out, Nat.le_trans HLE7.out hwsl, HFN.out⟩
                  case measure => simp [intOf]; omega
              · obtain rfl : i = v.flds.length := by have := fldsR_len v; have := restR_len v.rest; omega
                have HDN := Lib.hid (show v.flds.drop (v.flds.length + 1) = v.flds.drop v.flds.length by rw [List.drop_length, List.drop_eq_nil_of_le (by omega)])
                rcases fldsR_last v hil with ⟨hrs, hby⟩ | ⟨hrs, hby⟩
                all_goals
                  have hbl := (HFB.out v.flds.length hi2 hil).trans hby
                  have HMO := Lib.hid (show moreR v (v.flds.length + 1) = _ by unfold moreR; rw [if_neg (by omega)])
                  first | rw [if_pos hrs] at HMO | rw [if_neg (by omega)] at HMO
                  clear hby hrs
                  go_wp2_with fail
                  go_roundw
                  case rel => exact ⟨v.flds.length + 1, p, ws, n, by go_num, by rw [HMO.out]; rfl, by omega, HP.out, by rw [HDN.out]; exact HCL.out, hwsl, by rw [HDN.out]; exact HF.out⟩
                  case measure => simp [intOf]; omega
            · have hid2 : decide (i < fs.size) = false := decide_eq_false (by rw [HFSZ.out]; exact hil)
              obtain rfl : i = (fldsR v).length := by omega
              have HF2 := Lib.hid (show rdFlds v.flds { PW.zero with kind := (v.kind : Int), ekind := (v.ekind : Int) } r 0 = (p, ws, n) by
                have h1 := HF.out
                have h2 := fldsR_len v
                rw [List.drop_eq_nil_of_le (by omega)] at h1
                exact h1)
              have HPW2 := Lib.hid (show parseW (x :: r) = if (restAny v.rest ws n).2.2 = 0 then (0, some ⟨p, (restAny v.rest ws n).1, (restAny v.rest ws n).2.1⟩) else ((restAny v.rest ws n).2.2, none) by
                rw [HPW.out, HF2.out])
              have HRL := Lib.hid (RL.start (k := v.rest) HP.out hwsl)
              have HMR := Lib.hid (moreR_end v HRK.out)
              generalize restAny v.rest ws n = TT at *
              generalize moreR v (fldsR v).length = mr at *
              clear HF HCL
              go_wp2_with fail
              go_loopw [] (fun wz => ∃ (vo vg : Value) (ops : List POp) (gone : List Int) (ws3 : List (List Nat)) (n3 fuel : Nat), RL w (fun i => w.heap.size + 1 ≤ i ∧ i < w1.heap.size) wo.heap.size w3.heap.size w4.heap.size fs p v.rest TT wz vo vg ops gone ws3 n3 fuel) (fun wz => leftE wz w4.heap.size)
              case atStart => exact ⟨_, _, _, _, _, _, _, HRL.out⟩
              case round =>
                obtain ⟨vo, vg, ops, gone, ws3, n3, fuel, hrl⟩ := hrel
                have HR := Lib.hid hrl
                clear hrl
                have e1 := HR.out.st.rat.cell1.1
                have e1f := HR.out.st.rat.cell1.2
                obtain ⟨ao0, cap0, e0⟩ := HR.out.st.rat.cell0
                cases n3 with
                | succ m =>
                  have HT := Lib.hid HR.out.ended
                  have hnz1 : ((((m + 1 : Nat) : Nat) : Int) == 0) = false := by simp; omega
                  have hnz2 : ((((m + 1 : Nat) : Nat) : Int) != 0) = true := by simp; omega
                  have hnz3 : (((m : Int) + 1) == 0) = false := by simp; omega
                  have hnz4 : (((m : Int) + 1) != 0) = true := by simp; omega
                  have HZ6 := Lib.hid HR.out.st.res
                  have HO6 := Lib.hid HR.out.st.only
                  have HLB := Lib.hid (show w.heap.size < w4.heap.size by have := HR.out.st.o1; have := HR.out.st.o2; have := HR.out.st.o3; omega)
                  go_wp2_with fail
                  refine wp_region_held_drew (S := fun W => W.cell? ⟨w4.heap.size, 1, none⟩ = some (.int .i64 ((m + 1 : Nat) : Nat))) (by kernel_rfl) e1 ?_
                  intro hS
                  refine wpAnyH_take (i := 0) (oi := ⟨some 121, _, _, _, _, _⟩) (v := .agg rZero) rfl (by kernel_rfl) (by kernel_rfl) (by kernel_rfl) (fun _ _ _ h => h) (.inl ⟨by rfl, fun W _ => by kernel_rfl⟩) hS ?_
                  refine wpAnyH_take (i := 1) (oi := ⟨some 122, _, _, _, _, _⟩) (v := .pointer (some ⟨w4.heap.size, 0, none⟩)) rfl (by kernel_rfl) (by kernel_rfl) (by kernel_rfl) (fun _ _ _ h => h) (.inl ⟨by rfl, fun W hW => by go_simp⟩) hS ?_
                  refine wpAnyH_take (i := 2) (oi := ⟨some 123, _, _, _, _, _⟩) (v := .pointer (some ⟨w4.heap.size, 0, none⟩)) rfl (by kernel_rfl) (by kernel_rfl) (by kernel_rfl) (fun _ _ _ h => h) (.inl ⟨by rfl, fun W hW => by go_simp⟩) hS ?_
                  refine wpAnyH_take (i := 3) (oi := ⟨some 124, _, _, _, _, _⟩) (v := .pointer (some ⟨w4.heap.size, 1, none⟩)) rfl (by kernel_rfl) (by kernel_rfl) (by kernel_rfl) (fun _ _ _ h => h) (.inl ⟨by rfl, fun W hW => by go_simp⟩) hS ?_
                  refine wpAnyH_take (i := 4) (oi := ⟨some 125, _, _, _, _, _⟩) (v := .int .i64 ((m + 1 : Nat) : Nat)) rfl (by kernel_rfl) (by kernel_rfl) (by kernel_rfl) (fun _ _ _ h => h) (.inl ⟨by rfl, fun W hW => by go_simp⟩) hS ?_
                  refine wpAnyH_store (i := 5) (o := { dst := Option.none, op := Op.store 52 (Operand.tmp 2) (Operand.tmp 121), type := 0, pos := "ref.go:286", after := #[{ on := 0, ground := Ground.data }, { on := 0, ground := Ground.phase }, { on := 1, ground := Ground.textOnly Departure.lateStores }, { on := 2, ground := Ground.textOnly Departure.lateStores }, { on := 3, ground := Ground.textOnly Departure.lateStores }, { on := 4, ground := Ground.textOnly Departure.lateStores }], guard := Option.none }) (by kernel_rfl) (by kernel_rfl) rfl 52 (.tmp 2) (.tmp 121) rfl w.heap.size rZero (by kernel_rfl) (by kernel_rfl) 52 rZero (Blk.drewN HZ6.out 1) rfl Tryd.sizeR rZero_one ?_
                  refine Lib.hid ?_
                  intro w7 hz7 ho7
                  have HZ7 := Lib.hid hz7
                  have HO7 := Lib.hid ho7
                  have hS7 := ho7.cell hS (fun h => by have := HLB.out; simp only at h; omega)
                  refine ⟨hS7, ?_⟩
                  refine wpAnyH_take (i := 6) (oi := ⟨some 3, _, _, _, _, _⟩) (v := .int .i64 ((m + 1 : Nat) : Nat)) rfl (by kernel_rfl) (by kernel_rfl) (by kernel_rfl) (fun _ _ _ h => h) (.inl ⟨by rfl, fun W hW => by go_simp⟩) hS7 ?_
                  refine wpAnyH_done (by kernel_rfl) ?_ _
                  clear hz7 ho7
                  go_wp2_with fail
                  refine bodyPost_ret (results_cell_tmp rfl _ _ w.heap.size 52 rZero (0, 0) _ (by kernel_rfl) HZ7.out Tryd.underlying52 rfl Tryd.sizeR) (by kernel_rfl) ?_
                  exact ⟨(Only.step (Only.drewN HO6.out 1) HO7.out (fun i hi => .inr (Nat.le_of_eq hi.symm))).to_below (Nat.le_refl _) (fun _ _ h => h), .inl ⟨m + 1, by rw [HPW2.out, HT.out]; rfl, by kernel_rfl⟩⟩
                | zero =>
                  cases ws3 with
                  | nil =>
                    have HT := Lib.hid HR.out.done
                    have HC := Lib.hid HR.out.st.ob
                    have HZ := Lib.hid HR.out.st.res
                    have HSQ := Lib.hid ((rCells_size p vo vg).trans rZero_size.symm)
                    have HSI := Lib.hid (show (Tryd.prog.info? 52).map (·.size) = some (rCells p vo vg).size by rw [rCells_size]; exact Tryd.sizeR)
                    have HON2 := Lib.hid (rCells_one p vo vg (own_slice2 HR.out.oo) (own_slice2 HR.out.og))
                    go_wp2_with (first | (refine wpList_load_row rfl 52 (.tmp 8) rfl w3.heap.size rfl 52 (rCells p vo vg) (0, 0) _ HC.out Tryd.underlying52 rfl Tryd.sizeR ?_) | (refine wpList_store_blk rfl 52 (.tmp 2) (.tmp 126) rfl w.heap.size (rCells p vo vg) rfl rfl 52 rZero HZ.out HSQ.out HSI.out HON2.out ?_))
                    refine Lib.hid ?_
                    intro w7 hz7 ho7
                    have HZ7 := Lib.hid hz7
                    have HO7 := Lib.hid ho7
                    clear hz7 ho7
                    go_wp2_with fail
                    refine bodyPost_ret (results_cell_tmp rfl _ _ w.heap.size 52 (rCells p vo vg) (0, 0) _ rfl HZ7.out Tryd.underlying52 rfl HSI.out) rfl ?_
                    have hgt : w.heap.size < w4.heap.size + 1 := by have := HR.out.st.o1; have := HR.out.st.o2; have := HR.out.st.o3; omega
                    refine ⟨(HR.out.st.only.step HO7.out (fun i hi => .inr (Nat.le_of_eq hi.symm))).to_below (Nat.le_refl _) (fun _ _ h => h), .inr ⟨⟨p, ops, gone⟩, vo, vg, ?_, rfl, ?_, ?_⟩⟩
                    · rw [HPW2.out, HT.out]; rfl
                    · exact own_base (own_only HR.out.oo HO7.out (fun g hg hh => by have := (HR.out.oo.lt g hg).1; omega)) (by omega)
                    · exact own_base (own_only HR.out.og HO7.out (fun g hg hh => by have := (HR.out.og.lt g hg).1; omega)) (by omega)
                  | cons x3 r3 =>
                    obtain ⟨fuel, rfl⟩ : ∃ f, fuel = f + 1 := ⟨fuel - 1, by have := HR.out.fu; simp at this; omega⟩
                    have hpos : (0 : Int) < ((x3 :: r3).length : Int) := by simp
                    have hpos2 : 0 < (x3 :: r3).length := by simp
                    have hdp : decide (0 < (x3 :: r3).length) = true := by simp
                    have HRD := Lib.hid HR.out.draw
                    rcases HMR.out with ⟨hk, hmr⟩ | ⟨hk, hmr⟩ | ⟨hk, hmr⟩
                    · have hm1 : ((mr : Int) == 43) = true := by rw [hmr]; rfl
                      clear hmr HMR
                      rw [hk] at HRD
                      have hlen := HR.out.le
                      obtain ⟨kd, s1, s2, s3, vs, hcells⟩ : ∃ kd s1 s2 s3 vs, opCells (opF x3 r3).1 = [.int .i64 kd, .string s1, .string s2, .string s3, .int .i64 vs] := ⟨_, _, _, _, _, rfl⟩
                      have HCL := Lib.hid hcells
                      have HOP := Lib.hid (show Calls Tryd.prog 45 #[.pointer (some ⟨w4.heap.size, 0, none⟩)] wr.drew (fun e w' => ∃ v, e = .returned v ∧ (v = .agg #[.int .i64 kd, .string s1, .string s2, .string s3, .int .i64 vs] ∧ Only (fun k => k = w4.heap.size) wr.drew w' ∧ RRAt w' w4.heap.size (opF x3 r3).2.1 (opF x3 r3).2.2 (fun i => w.heap.size + 1 ≤ i ∧ i < w1.heap.size))) from by
                        refine (rop_any w4.heap.size x3 r3 _ wr.drew HRD.out.st.rat HRD.out.st.kb (fun i hi => by have := HRD.out.st.klt i hi; have := HRD.out.st.o2; have := HRD.out.st.ob.lt; omega) HRD.out.st.good).mono ?_
                        rintro e w' ⟨rfl, h2, h3⟩
                        exact ⟨_, rfl, by rw [hcells], h2, h3⟩)
                      obtain ⟨ao4, no4, co4, rfl⟩ := own_slice2 HR.out.oo
                      have k4 : wr.cell? ⟨w3.heap.size, 4, none⟩ = some (.slice ao4 no4 co4) := HR.out.st.ob.cell 4
                      obtain ⟨i0, hi0, hz0, hz1, hz2⟩ := info_parts Tryd.infoOp
                      clear hcells
                      go_wp2_with fail
                      go_region_law (first
                        | (refine step_call rfl 45 #[.pointer (some ⟨w4.heap.size, 0, none⟩)] (by kernel_rfl) _ HOP.out ?_
                           refine Lib.hid ?_
                           rintro v6 w6 ⟨rfl, ho6, hr6⟩
                           have HO6 := Lib.hid ho6
                           have HR6 := Lib.hid hr6
                           clear ho6 hr6
                           have HB6 := Lib.hid (show Blk (w6.alloc (.cells #[.int .i64 kd, .string s1, .string s2, .string s3, .int .i64 vs] 103)) w3.heap.size 52 (rCells p (.slice ao4 no4 co4) vg) from (HRD.out.st.ob.only HO6.out (by have := HRD.out.st.o3; omega)).alloc _)
                           have HW6 := Lib.hid (show (w6.alloc (.cells #[.int .i64 kd, .string s1, .string s2, .string s3, .int .i64 vs] 103)).ownsRow (w4.heap.size + 1) 103 5 (.slice ao4 no4 co4) ops.length (ops.flatMap opCells) from (own_only HRD.out.oo HO6.out (fun g hg hh => by have := (HRD.out.oo.lt g hg).1; omega)).alloc _)
                           have HNC := Lib.hid (new_cells [.int .i64 kd, .string s1, .string s2, .string s3, .int .i64 vs] w6 103)
                           have HBS := Lib.hid (show w4.heap.size + 1 ≤ (w6.alloc (.cells #[.int .i64 kd, .string s1, .string s2, .string s3, .int .i64 vs] 103)).heap.size by rw [World.size_alloc]; have := HRD.out.st.blt; have := HO6.out.size; omega)
                           have k6 : w6.cell? ⟨w3.heap.size, 4, none⟩ = some (.slice ao4 no4 co4) := HO6.out.cell k4 (by simp only; have := HRD.out.st.o3; omega)
                           have k6a : (w6.alloc (.cells #[.int .i64 kd, .string s1, .string s2, .string s3, .int .i64 vs] 103)).cell? ⟨w3.heap.size, 4, none⟩ = some (.slice ao4 no4 co4) := HB6.out.cell 4)
                        | (refine step_app rfl _ _ 40 rfl (w4.heap.size + 1) 103 i0 _ 5 64 Tryd.underlying40 hi0 hz0 hz1 hz2 rfl (by omega) (.slice ao4 no4 co4) ops.length (ops.flatMap opCells) (by simp [Act.eval, Act.put]) HW6.out w6.heap.size [.int .i64 kd, .string s1, .string s2, .string s3, .int .i64 vs] (by simp [Act.eval, Act.put]) rfl HNC.out (by intro u hu; simp at hu; rcases hu with rfl | rfl | rfl | rfl | rfl <;> rfl) (by omega) (by omega) HBS.out w3.heap.size 4 rfl 52 _ (.slice ao4 no4 co4) HB6.out rfl (by decide) ?_
                           intro g4 cap4 w7 hown4 hgrow4 hblk4 hcell4 hfz4))
                      all_goals
                        have HRL2 := Lib.hid (HRD.out.op_step HO6.out HR6.out (us := #[.int .i64 kd, .string s1, .string s2, .string s3, .int .i64 vs]) HCL.out.symm hgrow4 hblk4 hown4)
                        clear hown4 hgrow4 hblk4 hcell4 hfz4
                        generalize hw8 : w7.setCell ⟨w3.heap.size, 4, none⟩ (.slice (some ⟨g4, 0, none⟩) (ops.length + 1) cap4) = w8 at *
                        clear hw8
                        go_wp2_with fail
                        go_roundw
                        case rel => exact ⟨_, _, _, _, _, _, _, by rw [hk]; exact HRL2.out⟩
                        case measure =>
                          have h1 := HRL2.out.st.rat.leftE_le
                          have h2 := HR.out.st.rat.leftE0
                          have h3 := opF_len x3 r3
                          simp only [List.length_cons] at h2
                          omega
                    · have hm1 : ((mr : Int) == 43) = false := by rw [hmr]; rfl
                      have hm2 : ((mr : Int) == 42) = true := by rw [hmr]; rfl
                      clear hmr HMR
                      rw [hk] at HRD
                      have hlen := HR.out.le
                      have HOP := Lib.hid (show Calls Tryd.prog 42 #[.pointer (some ⟨w4.heap.size, 0, none⟩)] wr.drew (fun e w' => ∃ v, e = .returned v ∧ (v = .int .i64 ((rdNum (x3 :: r3) 0).1.getD 0) ∧ Only (fun k => k = w4.heap.size) wr.drew w' ∧ RRAt w' w4.heap.size (rdNum (x3 :: r3) 0).2.1 (rdNum (x3 :: r3) 0).2.2 (fun i => w.heap.size + 1 ≤ i ∧ i < w1.heap.size))) from by
                        refine (num_ref w4.heap.size (x3 :: r3) 0 _ wr.drew HRD.out.st.rat HRD.out.st.kb HRD.out.st.good).mono ?_
                        rintro e w' ⟨rfl, h2, h3⟩
                        exact ⟨_, rfl, rfl, h2, h3⟩)
                      have HNV := Lib.hid (show ∃ nv, nv = (rdNum (x3 :: r3) 0).1.getD 0 from ⟨_, rfl⟩)
                      obtain ⟨nv, hnv⟩ := HNV.out
                      rw [← hnv] at HOP
                      have HVN := Lib.hid hnv
                      obtain ⟨ao4, no4, co4, rfl⟩ := own_slice2 HR.out.og
                      have k4 : wr.cell? ⟨w3.heap.size, 20, none⟩ = some (.slice ao4 no4 co4) := HR.out.st.ob.cell 20
                      obtain ⟨i0, hi0, hz0, hz1, hz2⟩ := info_parts Tryd.infoInt
                      clear hnv HNV
                      go_wp2_with fail
                      go_region_law (first
                        | (refine step_call rfl 42 #[.pointer (some ⟨w4.heap.size, 0, none⟩)] (by kernel_rfl) _ HOP.out ?_
                           refine Lib.hid ?_
                           rintro v6 w6 ⟨rfl, ho6, hr6⟩
                           have HO6 := Lib.hid ho6
                           have HR6 := Lib.hid hr6
                           clear ho6 hr6
                           have HB6 := Lib.hid (show Blk (w6.alloc (.cells #[.int .i64 nv] 3)) w3.heap.size 52 (rCells p vo (.slice ao4 no4 co4)) from (HRD.out.st.ob.only HO6.out (by have := HRD.out.st.o3; omega)).alloc _)
                           have HW6 := Lib.hid (show (w6.alloc (.cells #[.int .i64 nv] 3)).ownsRow (w4.heap.size + 1) 3 1 (.slice ao4 no4 co4) gone.length (intRow gone) from (own_only HRD.out.og HO6.out (fun g hg hh => by have := (HRD.out.og.lt g hg).1; omega)).alloc _)
                           have HNC := Lib.hid (new_cells [.int .i64 nv] w6 3)
                           have HBS := Lib.hid (show w4.heap.size + 1 ≤ (w6.alloc (.cells #[.int .i64 nv] 3)).heap.size by rw [World.size_alloc]; have := HRD.out.st.blt; have := HO6.out.size; omega)
                           have k6 : w6.cell? ⟨w3.heap.size, 20, none⟩ = some (.slice ao4 no4 co4) := HO6.out.cell k4 (by simp only; have := HRD.out.st.o3; omega)
                           have k6a : (w6.alloc (.cells #[.int .i64 nv] 3)).cell? ⟨w3.heap.size, 20, none⟩ = some (.slice ao4 no4 co4) := HB6.out.cell 20)
                        | (refine step_app rfl _ _ 23 rfl (w4.heap.size + 1) 3 i0 _ 1 8 Tryd.underlying23 hi0 hz0 hz1 hz2 rfl (by omega) (.slice ao4 no4 co4) gone.length (intRow gone) (by simp [Act.eval, Act.put]) HW6.out w6.heap.size [.int .i64 nv] (by simp [Act.eval, Act.put]) rfl HNC.out (by intro u hu; simp at hu; subst hu; rfl) (by omega) (by omega) HBS.out w3.heap.size 20 rfl 52 _ (.slice ao4 no4 co4) HB6.out rfl (by decide) ?_
                           intro g4 cap4 w7 hown4 hgrow4 hblk4 hcell4 hfz4))
                      all_goals
                        have HRL2 := Lib.hid (HRD.out.num_step HO6.out HR6.out HVN.out hgrow4 hblk4 hown4)
                        clear hown4 hgrow4 hblk4 hcell4 hfz4
                        generalize hw8 : w7.setCell ⟨w3.heap.size, 20, none⟩ (.slice (some ⟨g4, 0, none⟩) (gone.length + 1) cap4) = w8 at *
                        clear hw8
                        go_wp2_with fail
                        go_roundw
                        case rel => exact ⟨_, _, _, _, _, _, _, by rw [hk]; exact HRL2.out⟩
                        case measure =>
                          have h1 := HRL2.out.st.rat.leftE_le
                          have h2 := HR.out.st.rat.leftE0
                          have h3 := rdNum_cons_len x3 r3
                          simp only [List.length_cons] at h2
                          omega
                    · have hm1 : ((mr : Int) == 43) = false := by rw [hmr]; rfl
                      have hm2 : ((mr : Int) == 42) = false := by rw [hmr]; rfl
                      clear hmr HMR
                      rw [hk] at HR
                      go_wp2_with fail
                      go_roundw
                      case rel => exact ⟨_, _, _, _, _, _, _, by rw [hk]; exact HR.out.err_step⟩
                      case measure =>
                        have h1 := HR.out.err_step.st.rat.leftE4
                        have h2 := HR.out.st.rat.leftE0
                        omega
    · obtain rfl : k = 17 := by omega
      have HPW := Lib.hid (show parseW (x :: r) = (7, none) by
        have : verbs[verbIdx (encAll x)]? = none := refIdx_none (by have := HK.out; omega)
        simp only [parseW, this])
      have HZ4 := Lib.hid (HZ3.out.below HBE.out HZ3.out.lt)
      go_wp2_with (refine wpList_store_blk rfl 52 (.tmp 2) (.tmp 128) rfl w.heap.size rZero rfl rfl 52 rZero HZ4.out rfl Tryd.sizeR rZero_one ?_)
      refine Lib.hid ?_
      intro w5 hz5 ho5
      have HZ5 := Lib.hid hz5
      have HO5 := Lib.hid ho5
      clear hz5 ho5
      go_wp2_with fail
      refine bodyPost_ret (results_cell_tmp rfl _ _ w.heap.size 52 rZero (0, 0) _ rfl HZ5.out Tryd.underlying52 rfl Tryd.sizeR) rfl ?_
      exact ⟨((HO3.out.trans (Only.below_all HBE.out)).step HO5.out (fun k hk => .inr (Nat.le_of_eq hk.symm))).to_below (Nat.le_refl _) (fun _ _ h => h), .inl ⟨7, HPW.out, rfl⟩⟩
end Go.Proofs.YtjhmehmmpfnnkaaDoor
