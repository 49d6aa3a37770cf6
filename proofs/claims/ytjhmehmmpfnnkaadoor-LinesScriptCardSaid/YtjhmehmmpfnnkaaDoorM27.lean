/-
  The contract of tidewaterref31.Text.
-/
import Derived.Test.YtjhmehmmpfnnkaaDoorM25
namespace Go.Proofs.YtjhmehmmpfnnkaaDoor
open Go.RowKit Utf
set_option maxRecDepth 100000
set_option linter.unusedSimpArgs false
set_option linter.unusedVariables false

/-- What is told behind so many letters. -/
def rowR (v : Verb) (l : BL) (i : Nat) : List (Option (List Nat)) := if i ≤ v.flds.length then some (nameR v) :: (v.flds.take i).map (tellFld l.p) else lineRow v l
theorem rowR_zero (v : Verb) (l : BL) : rowR v l 0 = [some (nameR v)] := by unfold rowR; rw [if_pos (Nat.zero_le _)]; rfl
theorem rowR_succ (v : Verb) (l : BL) (i : Nat) (hi : i < v.flds.length) : rowR v l i ++ [tellFld l.p v.flds[i]] = rowR v l (i + 1) := by
  unfold rowR
  rw [if_pos (by omega), if_pos (by omega), List.take_succ_eq_append_getElem hi, List.map_append]
  rfl
theorem rowR_last (v : Verb) (l : BL) : rowR v l v.flds.length ++ restRow v.rest l = rowR v l (v.flds.length + 1) := by
  unfold rowR
  rw [if_pos (Nat.le_refl _), if_neg (by omega), List.take_length]
  rfl
theorem rowR_end (v : Verb) (l : BL) (hr : v.rest = 111 ∨ v.rest = 103 ∨ v.rest = 0) : rowR v l (fldsR v).length = lineRow v l := by
  have hl := fldsR_len v
  unfold rowR
  rcases hr with h | h | h
  · have : (restR v.rest).length = 1 := by rw [h]; rfl
    rw [if_neg (by omega)]
  · have : (restR v.rest).length = 1 := by rw [h]; rfl
    rw [if_neg (by omega)]
  · have h0 : (restR v.rest).length = 0 := by rw [h]; rfl
    rw [if_pos (by omega)]
    unfold lineRow restRow
    rw [h, if_neg (by omega), if_neg (by omega), List.append_nil, List.take_of_length_le (by omega)]
theorem rowR_ne (v : Verb) (l : BL) (i : Nat) : rowR v l i ≠ [] := by unfold rowR; split <;> simp [lineRow]
theorem rowR_len (v : Verb) (l : BL) (i : Nat) (hv : v.flds.length ≤ 4) : (rowR v l i).length ≤ 5 + 4 * l.ops.length + l.gone.length := by
  unfold rowR
  split
  · simp only [List.length_cons, List.length_map, List.length_take]; omega
  · exact lineRow_len v l hv
theorem refVerbs_flds : ∀ v ∈ refVerbs, v.flds.length ≤ 4 := by decide
theorem refVerbs_enc (v : Verb) (h : v ∈ refVerbs) : encAll (nameR v) = v.name := verb_enc v (List.mem_of_getElem? (refVerb_mem v h))
theorem refVerbs_nm : ∀ v ∈ refVerbs, v.name.length ≤ 100 := by decide

set_option maxHeartbeats 16000000 in
theorem refTextL (p : BP) (ops : List BOp) (gone : List Int) (ao ag : Option Addr) (co cg : Nat) (x : XC) (w : World) (hp : p.okR) (hops : ∀ o ∈ ops, BOp.okR o) (hgone : ∀ z ∈ gone, -9223372036854775808 ≤ z ∧ z ≤ 9223372036854775807)
    (hlo : ops.length ≤ 1000) (hlg : gone.length ≤ 1000) (ha : RowAt w ao (ops.flatMap bCells)) (hg : RowAt w ag (zRow gone)) :
    Calls Tryd.prog 22 #[.agg (qC p (.slice ao ops.length co) (.slice ag gone.length cg) x)] w (RefTextPost ⟨p, ops, gone⟩ w) := by
  have HA := Lib.hid ha
  have HG := Lib.hid hg
  have HP := Lib.hid hp
  have HOK := Lib.hid hops
  have HGK := Lib.hid hgone
  have HO0 := Lib.hid (Blk.new w 52 (qC p (.slice ao ops.length co) (.slice ag gone.length cg) x))
  clear ha hg hp hops hgone
  go_enter Tryd.func22, Tryd.ntmps22
  go_wp2_with fail
  refine (rows_any _).mono ?_
  rintro e w2 ⟨rfl, hw2⟩
  have HT := Lib.hid (show Blk w2 (w.heap.size + 1) 91 rowCells by
    rw [hw2]
    have := Blk.new (w.alloc (.cells (qC p (.slice ao ops.length co) (.slice ag gone.length cg) x) 52)) 91 rowCells
    rw [World.size_alloc] at this
    exact this)
  have HO2 := Lib.hid (show Blk w2 w.heap.size 52 (qC p (.slice ao ops.length co) (.slice ag gone.length cg) x) by rw [hw2]; exact HO0.out.alloc _)
  have HX2 := Lib.hid (show Only (fun _ => False) w w2 by rw [hw2]; exact ((Only.refl _ w).alloc _).alloc _)
  have HS2 := Lib.hid (show w2.heap.size = w.heap.size + 2 by rw [hw2]; simp)
  clear hw2 HO0
  rw [World.size_alloc]
  go_wp2_with fail
  go_loopw [17] (fun vi wr => ∃ k : Nat, vi = .int .i64 k ∧ k ≤ 17 ∧ Below w2.heap.size w2 wr ∧ Hid (k ≤ refKind p.kind p.ekind)) (fun vi _ => 17 - (intOf vi).toNat)
  case atStart => exact ⟨0, rfl, Nat.zero_le _, Below.refl _ _, Nat.zero_le _⟩
  case round =>
    obtain ⟨k, rfl, hk, hbel, HK⟩ := hrel
    have HBE := Lib.hid hbel
    have HBS := Lib.hid hbel.size
    clear hbel
    by_cases hlt : k < 17
    · have hk2 : k < refVerbs.length := hlt
      have hlt17 : (k : Int) < 17 := by omega
      have HBR := Lib.hid (HT.out.below HBE.out HT.out.lt)
      have HOR := Lib.hid (HO2.out.below HBE.out HO2.out.lt)
      have hcell : ∀ j, j < 4 → wr.cell? ⟨w.heap.size + 1, k * 4 + j, none⟩ = (rowOf refVerbs[k])[j]? := by
        intro j hj4
        rw [HBR.out.cell, Nat.mul_comm k 4, row_at k hk2 j hj4]
      have HST := Lib.hid (fun h => refKind_step hk2 HK.out h)
      have HTW := Lib.hid (fun (h : verbIs p.kind p.ekind refVerbs[k] = true) => show textW ⟨p, ops, gone⟩ = tellAll (lineRow refVerbs[k] ⟨p, ops, gone⟩) from by
        unfold textW
        simp only
        rw [verbT_ref, refKind_hit hk2 HK.out h, List.getElem?_eq_getElem hk2]
        rfl)
      have HVE := Lib.hid (refVerbs_enc _ (List.getElem_mem hk2))
      have HVN := Lib.hid (refVerbs_nm _ (List.getElem_mem hk2))
      have HRK := Lib.hid (refVerbs_rest _ (List.getElem_mem hk2))
      have hfl4 := refVerbs_flds _ (List.getElem_mem hk2)
      generalize refVerbs[k] = v at *
      have s0 : wr.cell? ⟨w.heap.size + 1, k * 4, none⟩ = some (.string (mkS v.name)) := hcell 0 (by omega)
      have s1 : wr.cell? ⟨w.heap.size + 1, k * 4 + 1, none⟩ = some (.int .i64 (v.kind : Int)) := hcell 1 (by omega)
      have s2 : wr.cell? ⟨w.heap.size + 1, k * 4 + 2, none⟩ = some (.int .i64 (v.ekind : Int)) := hcell 2 (by omega)
      have s3 : wr.cell? ⟨w.heap.size + 1, k * 4 + 3, none⟩ = some (.string (mkS ((fldsR v).map UInt8.ofNat))) := hcell 3 (by omega)
      have HFSZ := Lib.hid (flds_size v)
      have HFB := Lib.hid (flds_byte v)
      generalize hfs : mkS ((fldsR v).map UInt8.ofNat) = fs at *
      have HFS := Lib.hid hfs
      clear hcell hfs
      have hob : w.heap.size ≠ wr.heap.size := by have := HBS.out; have := HS2.out; omega
      have hobl : w.heap.size < wr.heap.size := by have := HBS.out; have := HS2.out; omega
      have o0 : (wr.alloc (.cells #[.string (mkS v.name), .int .i64 (v.kind : Int), .int .i64 (v.ekind : Int), .string fs] 91)).cell? ⟨w.heap.size, 0, none⟩ = some (.int .i64 p.kind) := (HOR.out.alloc _).cell 0
      have o5 : (wr.alloc (.cells #[.string (mkS v.name), .int .i64 (v.kind : Int), .int .i64 (v.ekind : Int), .string fs] 91)).cell? ⟨w.heap.size, 5, none⟩ = some (.int .i64 p.ekind) := (HOR.out.alloc _).cell 5
      have hsplit : (((v.kind : Int) != p.kind) = true ∧ verbIs p.kind p.ekind v = false) ∨ (((v.kind : Int) != p.kind) = false ∧ ((v.kind : Int) == 3) = false ∧ verbIs p.kind p.ekind v = true) ∨
          (((v.kind : Int) != p.kind) = false ∧ ((v.kind : Int) == 3) = true ∧ ((v.ekind : Int) != p.ekind) = false ∧ verbIs p.kind p.ekind v = true) ∨ (((v.kind : Int) != p.kind) = false ∧ ((v.kind : Int) == 3) = true ∧ ((v.ekind : Int) != p.ekind) = true ∧ verbIs p.kind p.ekind v = false) := by
        unfold verbIs
        by_cases c1 : (v.kind : Int) = p.kind
        · by_cases c2 : (v.kind : Int) = 3
          · by_cases c3 : (v.ekind : Int) = p.ekind
            · exact .inr (.inr (.inl ⟨by simp [c1], by simp [c2], by simp [c3], by simp [c1, c2, c3]⟩))
            · exact .inr (.inr (.inr ⟨by simp [c1], by simp [c2], by simp [c3], by simp [c2, c3]⟩))
          · exact .inr (.inl ⟨by simp [c1], by simp [c2], by rw [decide_eq_true c1, decide_eq_true (show (v.kind : Int) ≠ 3 from c2)]; rfl⟩)
        · exact .inl ⟨by simp [c1], by simp [c1]⟩
      rcases hsplit with ⟨b1, hv⟩ | ⟨b1, b2, hv⟩ | ⟨b1, b2, b3, hv⟩ | ⟨b1, b2, b3, hv⟩
      · have HQ := Lib.hid (HST.out hv)
        clear hv HTW
        generalize (v.kind : Int) = vk at *
        generalize (v.ekind : Int) = ve at *
        go_wp2_with fail
        go_roundw
        case rel => exact ⟨k + 1, by go_num, by omega, HBE.out.trans ((Below.refl _ _).alloc HBE.out.size _), HQ.out⟩
        case measure => simp [intOf]; omega
      rotate_left 2
      · have HQ := Lib.hid (HST.out hv)
        clear hv HTW
        generalize (v.kind : Int) = vk at *
        generalize (v.ekind : Int) = ve at *
        go_wp2_with fail
        go_roundw
        case rel => exact ⟨k + 1, by go_num, by omega, HBE.out.trans ((Below.refl _ _).alloc HBE.out.size _), HQ.out⟩
        case measure => simp [intOf]; omega
      all_goals
        have HTX := Lib.hid (HTW.out hv)
        have HQ0 := Lib.hid (show QSt w wr.heap.size w.heap.size (qC p (.slice ao ops.length co) (.slice ag gone.length cg) x) fs ((((wr.alloc (.cells #[.string (mkS v.name), .int .i64 (v.kind : Int), .int .i64 (v.ekind : Int), .string fs] 91)).alloc (.cells #[.string (mkS v.name)] 9)).alloc (.cells #[.bool true] 4)).alloc (.cells #[.pointer (some ⟨wr.heap.size + 1, 0, none⟩), .pointer (some ⟨wr.heap.size + 1 + 1, 0, none⟩)] 112)) (rowR v ⟨p, ops, gone⟩ 0) from by
          have q1 := Blk.new wr 91 #[.string (mkS v.name), .int .i64 (v.kind : Int), .int .i64 (v.ekind : Int), .string fs]
          have q2 := Blk.new (wr.alloc (.cells #[.string (mkS v.name), .int .i64 (v.kind : Int), .int .i64 (v.ekind : Int), .string fs] 91)) 9 #[.string (mkS v.name)]
          have q3 := Blk.new ((wr.alloc (.cells #[.string (mkS v.name), .int .i64 (v.kind : Int), .int .i64 (v.ekind : Int), .string fs] 91)).alloc (.cells #[.string (mkS v.name)] 9)) 4 #[.bool true]
          have q4 := Blk.new (((wr.alloc (.cells #[.string (mkS v.name), .int .i64 (v.kind : Int), .int .i64 (v.ekind : Int), .string fs] 91)).alloc (.cells #[.string (mkS v.name)] 9)).alloc (.cells #[.bool true] 4)) 112 #[.pointer (some ⟨wr.heap.size + 1, 0, none⟩), .pointer (some ⟨wr.heap.size + 1 + 1, 0, none⟩)]
          rw [World.size_alloc] at q2 q3 q4
          rw [World.size_alloc] at q3 q4
          rw [World.size_alloc] at q4
          refine ⟨(((((HX2.out.trans (Only.below_all HBE.out)).alloc _).alloc _).alloc _).alloc _), (((HOR.out.alloc _).alloc _).alloc _).alloc _, (((q1.alloc _).alloc _).alloc _).cell 3, q4, ?_, hobl, by omega⟩
          rw [rowR_zero]
          refine ⟨mkS v.name, true, (q2.alloc _).alloc _, q3.alloc _, ?_, ?_, ?_⟩
          · intro ws hw
            have : ws = [nameR v] := by
              have := (tellAll_iff _ _).1 hw
              cases ws with
              | nil => cases this
              | cons a r =>
                simp only [List.map_cons, List.cons.injEq, Option.some.injEq] at this
                obtain ⟨rfl, h2⟩ := this
                cases r with
                | nil => rfl
                | cons _ _ => cases h2
            subst this
            refine ⟨rfl, ?_⟩
            show _ = mkS (encAll (nameR v ++ []))
            rw [List.append_nil, HVE.out]
          · intro hw; cases hw
          · rw [mkS_size]; have := HVN.out; simp; omega)
        clear hv HTW
        go_wp2_with fail
        obtain ⟨wo, hwo⟩ : ∃ wo : World, wo = wr := ⟨_, rfl⟩
        subst hwo
        go_loopw [45] (fun vi wr => ∃ i : Nat, vi = .int .i64 i ∧ i ≤ (fldsR v).length ∧ Hid (QSt w wo.heap.size w.heap.size (qC p (.slice ao ops.length co) (.slice ag gone.length cg) x) fs wr (rowR v ⟨p, ops, gone⟩ i))) (fun vi _ => (fldsR v).length - (intOf vi).toNat)
        case atStart => exact ⟨0, rfl, Nat.zero_le _, HQ0.out⟩
        case round =>
          obtain ⟨i, rfl, hi, HQ⟩ := hrel
          have hrl := rowR_len v ⟨p, ops, gone⟩ i hfl4
          simp only at hrl
          have HRLN := Lib.hid hrl
          clear hrl
          have l0 := HQ.out.ln.cell 0
          have l1 := HQ.out.ln.cell 1
          by_cases hil : i < (fldsR v).length
          · have hi2 : i < fs.size := by rw [HFSZ.out]; exact hil
            have hid2 : decide (i < fs.size) = true := decide_eq_true hi2
            have d3 := HQ.out.rw
            by_cases hif : i < v.flds.length
            · have hbl := (HFB.out i hi2 hil).trans (fldsR_at v i hif hil)
              have HRS := Lib.hid (rowR_succ v ⟨p, ops, gone⟩ i hif)
              generalize v.flds[i] = f at *
              have t43 := letR_43 f
              have t42 := letR_42 f
              cases hnum : isNum f with
              | true =>
                have HNB := Lib.hid (show ∀ W, Calls Tryd.prog 41 #[.pointer (some ⟨w.heap.size, 0, none⟩), .int .u8 (letR f : Int)] W fun e w' => ∃ u, e = .returned u ∧ (u = .pointer (some ⟨w.heap.size, offF f, none⟩) ∧ W = w') from by
                  intro W
                  have := rnumber_any f w.heap.size W
                  unfold ptrR at this
                  rw [if_pos hnum] at this
                  exact this.mono (fun e w' h => ⟨_, h.1, rfl, h.2⟩))
                have HTF := Lib.hid (show tellFld p f = decL (p.getN f) by unfold tellFld; rw [if_pos hnum])
                have kc : wr.cell? ⟨w.heap.size, offF f, none⟩ = some (.int .i64 (p.getN f)) := (HQ.out.oo.cell _).trans (qC_getN p _ _ x f hnum)
                have HZ := Lib.hid (HP.out.num f hnum)
                have HLN := Lib.hid (show Calls Tryd.prog 52 #[.agg #[.pointer (some ⟨wo.heap.size + 1, 0, none⟩), .pointer (some ⟨wo.heap.size + 2, 0, none⟩)], .int .i64 (p.getN f)] wr.drew (fun e w' => ∃ u, e = .returned u ∧ (u = .tuple #[] ∧ Only (fun k => k = wo.heap.size + 1 ∨ k = wo.heap.size + 2) wr.drew w' ∧ LSt w' (wo.heap.size + 1) (wo.heap.size + 2) (rowR v ⟨p, ops, gone⟩ i ++ [decL (p.getN f)]))) from
                  (line_num (wo.heap.size + 1) (wo.heap.size + 2) _ (p.getN f) wr.drew HQ.out.draw.st (rowR_ne _ _ _) (by have := HRLN.out; omega) (by omega) HZ.out.1 HZ.out.2).mono (fun e w' h => ⟨_, h.1, rfl, h.2.1, h.2.2⟩))
                have HNB1 := Lib.hid (HNB.out wr)
                have HNB2 := Lib.hid (HNB.out wr.drew)
                clear hnum HNB
                generalize p.getN f = zz at *
                go_wp2_with fail
                refine HNB1.out.mono ?_
                rintro e w6 ⟨u6, rfl, rfl, rfl⟩
                go_wp2_with fail
                go_region_law (first
                  | (refine step_call2 rfl 92 rfl 41 #[.pointer (some ⟨w.heap.size, 0, none⟩), .int .u8 (letR f : Int)] (by kernel_rfl) _ HNB2.out ?_
                     refine Lib.hid ?_
                     rintro v6 w6 ⟨rfl, rfl⟩)
                  | (refine step_call2 rfl 95 rfl 52 #[.agg #[.pointer (some ⟨wo.heap.size + 1, 0, none⟩), .pointer (some ⟨wo.heap.size + 2, 0, none⟩)], .int .i64 zz] (by kernel_rfl) _ HLN.out ?_
                     refine Lib.hid ?_
                     rintro v7 w7 ⟨rfl, ho7, hs7⟩))
                all_goals
                  have HQ7 := Lib.hid (HQ.out.draw.told ho7 hs7)
                  rw [← HTF.out, HRS.out] at HQ7
                  clear ho7 hs7
                  go_wp2_with fail
                  go_roundw
                  case rel => exact ⟨i + 1, by go_num, by omega, HQ7.out⟩
                  case measure => simp [intOf]; omega
              | false =>
                have HNB := Lib.hid (show Calls Tryd.prog 41 #[.pointer (some ⟨w.heap.size, 0, none⟩), .int .u8 (letR f : Int)] wr fun e w' => e = .returned (.pointer none) ∧ wr = w' from by
                  have := rnumber_any f w.heap.size wr
                  unfold ptrR at this
                  rw [if_neg (by rw [hnum]; decide)] at this
                  exact this)
                have HNB2 := Lib.hid (show Calls Tryd.prog 44 #[.pointer (some ⟨w.heap.size, 0, none⟩), .int .u8 (letR f : Int)] wr.drew fun e w' => ∃ u, e = .returned u ∧ (u = .pointer (some ⟨w.heap.size, offF f, none⟩) ∧ wr.drew = w') from
                  (rtext_any f hnum w.heap.size wr.drew).mono (fun e w' h => ⟨_, h.1, rfl, h.2⟩))
                have HTF := Lib.hid (show tellFld p f = tellS (p.getS f) by unfold tellFld; rw [if_neg (by rw [hnum]; decide)])
                have kc : wr.cell? ⟨w.heap.size, offF f, none⟩ = some (.string (p.getS f)) := (HQ.out.oo.cell _).trans (qC_getS p _ _ x f hnum)
                have HZ := Lib.hid (HP.out.str f hnum)
                have HLN := Lib.hid (show Calls Tryd.prog 53 #[.agg #[.pointer (some ⟨wo.heap.size + 1, 0, none⟩), .pointer (some ⟨wo.heap.size + 2, 0, none⟩)], .string (p.getS f)] wr.drew (fun e w' => ∃ u, e = .returned u ∧ (u = .tuple #[] ∧ Only (fun k => k = wo.heap.size + 1 ∨ k = wo.heap.size + 2) wr.drew w' ∧ LSt w' (wo.heap.size + 1) (wo.heap.size + 2) (rowR v ⟨p, ops, gone⟩ i ++ [tellS (p.getS f)]))) from
                  (line_str (wo.heap.size + 1) (wo.heap.size + 2) _ (p.getS f) wr.drew HQ.out.draw.st (rowR_ne _ _ _) (by have := HRLN.out; omega) (by omega) HZ.out).mono (fun e w' h => ⟨_, h.1, rfl, h.2.1, h.2.2⟩))
                clear hnum
                generalize p.getS f = zz at *
                go_wp2_with fail
                refine HNB.out.mono ?_
                rintro e w6 ⟨rfl, rfl⟩
                go_wp2_with fail
                go_region_law (first
                  | (refine step_call2 rfl 54 rfl 44 #[.pointer (some ⟨w.heap.size, 0, none⟩), .int .u8 (letR f : Int)] (by kernel_rfl) _ HNB2.out ?_
                     refine Lib.hid ?_
                     rintro v6 w6 ⟨rfl, rfl⟩)
                  | (refine step_call2 rfl 57 rfl 53 #[.agg #[.pointer (some ⟨wo.heap.size + 1, 0, none⟩), .pointer (some ⟨wo.heap.size + 2, 0, none⟩)], .string zz] (by kernel_rfl) _ HLN.out ?_
                     refine Lib.hid ?_
                     rintro v7 w7 ⟨rfl, ho7, hs7⟩))
                all_goals
                  have HQ7 := Lib.hid (HQ.out.draw.told ho7 hs7)
                  rw [← HTF.out, HRS.out] at HQ7
                  clear ho7 hs7
                  go_wp2_with fail
                  go_roundw
                  case rel => exact ⟨i + 1, by go_num, by omega, HQ7.out⟩
                  case measure => simp [intOf]; omega
            · obtain rfl : i = v.flds.length := by have := fldsR_len v; have := restR_len v.rest; omega
              rcases fldsR_last v hil with ⟨hr, hby⟩ | ⟨hr, hby⟩
              · have hbl := (HFB.out v.flds.length hi2 hil).trans hby
                · have hone := hil
                  have HROW := Lib.hid (show rowR v ⟨p, ops, gone⟩ v.flds.length ++ ops.flatMap opRow = rowR v ⟨p, ops, gone⟩ (v.flds.length + 1) by rw [← rowR_last]; simp [restRow, hr])
                  have d4 : wr.cell? ⟨w.heap.size, 4, none⟩ = some (.slice ao ops.length co) := HQ.out.oo.cell 4
                  clear hr hby
                  go_wp2_with fail
                  go_loopw [64] (fun vi wz => ∃ j : Nat, vi = .int .i64 j ∧ j ≤ ops.length ∧ Hid (QSt w wo.heap.size w.heap.size (qC p (.slice ao ops.length co) (.slice ag gone.length cg) x) fs wz (rowR v ⟨p, ops, gone⟩ v.flds.length ++ (ops.take j).flatMap opRow))) (fun vi _ => ops.length - (intOf vi).toNat)
                  case atStart => exact ⟨0, rfl, Nat.zero_le _, Lib.hid (by simpa using HQ.out)⟩
                  case round =>
                    obtain ⟨j, rfl, hjl, HTZ⟩ := hrel
                    by_cases hlt2 : j < ops.length
                    · have HAR := Lib.hid (HA.out.only HTZ.out.only (fun _ _ h => h))
                      obtain ⟨ba, oa, rfl, hca⟩ := row_opB HAR.out j hlt2
                      have HTK := Lib.hid (show (rowR v ⟨p, ops, gone⟩ v.flds.length ++ (ops.take j).flatMap opRow) ++ opRow ops[j] = rowR v ⟨p, ops, gone⟩ v.flds.length ++ (ops.take (j + 1)).flatMap opRow by
                        rw [take_flat _ _ _ hlt2, List.append_assoc])
                      have HOJ := Lib.hid (HOK.out _ (List.getElem_mem hlt2))
                      have HRLJ := Lib.hid (show (rowR v ⟨p, ops, gone⟩ v.flds.length ++ (ops.take j).flatMap opRow).length + 5 ≤ 100000 by
                        have h1 := HRLN.out
                        have h3 := ops_rows (ops.take j)
                        have h2 : (ops.take j).length ≤ ops.length := by rw [List.length_take]; omega
                        rw [List.length_append]
                        omega)
                      have HNE := Lib.hid (show rowR v ⟨p, ops, gone⟩ v.flds.length ++ (ops.take j).flatMap opRow ≠ [] by
                        intro e
                        exact rowR_ne _ _ _ (List.append_eq_nil_iff.1 e).1)
                      generalize ops[j] = o at *
                      obtain ⟨kd, u1, u2, u3, vs⟩ := o
                      have a0 : wr.cell? ⟨ba, oa + j * 5, none⟩ = some (.int .i64 kd) := hca 0 (by omega)
                      have a1 : wr.cell? ⟨ba, oa + j * 5 + 1, none⟩ = some (.string u1) := hca 1 (by omega)
                      have a2 : wr.cell? ⟨ba, oa + j * 5 + 2, none⟩ = some (.string u2) := hca 2 (by omega)
                      have a3 : wr.cell? ⟨ba, oa + j * 5 + 3, none⟩ = some (.string u3) := hca 3 (by omega)
                      have a4 : wr.cell? ⟨ba, oa + j * 5 + 4, none⟩ = some (.int .i64 vs) := hca 4 (by omega)
                      have hlj : (j : Int) < (ops.length : Int) := by omega
                      have HTZ2 := Lib.hid (HTZ.out.alloc (.cells #[.int .i64 kd, .string u1, .string u2, .string u3, .int .i64 vs] 103))
                      have m0 := HTZ2.out.ln.cell 0
                      have m1 := HTZ2.out.ln.cell 1
                      have HTO := Lib.hid (lineop_any (wo.heap.size + 1) (wo.heap.size + 2) _ ⟨kd, u1, u2, u3, vs⟩ _ HTZ2.out.st HNE.out HRLJ.out (by omega) HOJ.out)
                      unfold bCells at HTO
                      clear hca
                      go_wp2_with fail
                      refine HTO.out.mono ?_
                      rintro e w6 ⟨rfl, ho6, hs6⟩
                      have HTX6 := Lib.hid (HTZ2.out.told ho6 hs6)
                      rw [HTK.out] at HTX6
                      clear ho6 hs6
                      go_wp2_with fail
                      go_roundw
                      case rel => exact ⟨j + 1, by go_num, by omega, HTX6.out⟩
                      case measure => simp [intOf]; omega
                    · obtain rfl : j = ops.length := by omega
                      rw [List.take_length, HROW.out] at HTZ
                      go_wp2_with fail
                      go_roundw
                      case rel => exact ⟨v.flds.length + 1, by go_num, by omega, HTZ.out⟩
                      case measure => simp [intOf]; omega
              · have hbl := (HFB.out v.flds.length hi2 hil).trans hby
                · have hone := hil
                  have HROW := Lib.hid (show rowR v ⟨p, ops, gone⟩ v.flds.length ++ gone.map decL = rowR v ⟨p, ops, gone⟩ (v.flds.length + 1) by rw [← rowR_last]; simp [restRow, hr])
                  have d4 : wr.cell? ⟨w.heap.size, 20, none⟩ = some (.slice ag gone.length cg) := HQ.out.oo.cell 20
                  clear hr hby
                  go_wp2_with fail
                  go_loopw [78] (fun vi wz => ∃ j : Nat, vi = .int .i64 j ∧ j ≤ gone.length ∧ Hid (QSt w wo.heap.size w.heap.size (qC p (.slice ao ops.length co) (.slice ag gone.length cg) x) fs wz (rowR v ⟨p, ops, gone⟩ v.flds.length ++ (gone.take j).map decL))) (fun vi _ => gone.length - (intOf vi).toNat)
                  case atStart => exact ⟨0, rfl, Nat.zero_le _, Lib.hid (by simpa using HQ.out)⟩
                  case round =>
                    obtain ⟨j, rfl, hjl, HTZ⟩ := hrel
                    by_cases hlt2 : j < gone.length
                    · have HAR := Lib.hid (HG.out.only HTZ.out.only (fun _ _ h => h))
                      obtain ⟨ba, oa, rfl, hca⟩ := HAR.out j (by rw [zRow_len]; exact hlt2)
                      rw [zRow_at] at hca
                      have HTK := Lib.hid (show (rowR v ⟨p, ops, gone⟩ v.flds.length ++ (gone.take j).map decL) ++ [decL gone[j]] = rowR v ⟨p, ops, gone⟩ v.flds.length ++ (gone.take (j + 1)).map decL by
                        rw [List.take_succ_eq_append_getElem hlt2, List.map_append, List.append_assoc]
                        rfl)
                      have HZ := Lib.hid (HGK.out _ (List.getElem_mem hlt2))
                      have HRLJ := Lib.hid (show (rowR v ⟨p, ops, gone⟩ v.flds.length ++ (gone.take j).map decL).length ≤ 100000 by
                        have h1 := HRLN.out
                        have h2 : (gone.take j).length ≤ gone.length := by rw [List.length_take]; omega
                        rw [List.length_append, List.length_map]
                        omega)
                      have HNE := Lib.hid (show rowR v ⟨p, ops, gone⟩ v.flds.length ++ (gone.take j).map decL ≠ [] by
                        intro e
                        exact rowR_ne _ _ _ (List.append_eq_nil_iff.1 e).1)
                      generalize gone[j] = z at *
                      have a0 : wr.cell? ⟨ba, oa + j, none⟩ = some (.int .i64 z) := hca
                      have hlj : (j : Int) < (gone.length : Int) := by omega
                      have m0 := HTZ.out.ln.cell 0
                      have m1 := HTZ.out.ln.cell 1
                      have HTO := Lib.hid (line_num (wo.heap.size + 1) (wo.heap.size + 2) _ z wr HTZ.out.st HNE.out HRLJ.out (by omega) HZ.out.1 HZ.out.2)
                      clear hca
                      go_wp2_with fail
                      refine HTO.out.mono ?_
                      rintro e w6 ⟨rfl, ho6, hs6⟩
                      have HTX6 := Lib.hid (HTZ.out.told ho6 hs6)
                      rw [HTK.out] at HTX6
                      clear ho6 hs6
                      go_wp2_with fail
                      go_roundw
                      case rel => exact ⟨j + 1, by go_num, by omega, HTX6.out⟩
                      case measure => simp [intOf]; omega
                    · obtain rfl : j = gone.length := by omega
                      rw [List.take_length, HROW.out] at HTZ
                      go_wp2_with fail
                      go_roundw
                      case rel => exact ⟨v.flds.length + 1, by go_num, by omega, HTZ.out⟩
                      case measure => simp [intOf]; omega
          · have hid2 : decide (i < fs.size) = false := decide_eq_false (by rw [HFSZ.out]; exact hil)
            obtain rfl : i = (fldsR v).length := by omega
            have HEND := Lib.hid (rowR_end v ⟨p, ops, gone⟩ HRK.out)
            have d3 := HQ.out.rw
            obtain ⟨t9, ok9, q1, q2, q3, q4, q5⟩ := HQ.out.st
            rw [HEND.out] at q3 q4
            have Q3 := Lib.hid q3
            have Q4 := Lib.hid q4
            have r1 : wr.cell? ⟨wo.heap.size + 1, 0, none⟩ = some (.string t9) := q1.cell 0
            have r2 : wr.cell? ⟨wo.heap.size + 1 + 1, 0, none⟩ = some (.bool ok9) := q2.cell 0
            have HB9 := Lib.hid (HQ.out.only.to_below (Nat.le_refl _) (fun _ _ h => h))
            clear q1 q2 q3 q4 q5
            go_wp2_with fail
            go_quiet (fail)
            go_wp2_with fail
            go_ret2
            refine ⟨below_drewN HB9.out _, ?_⟩
            cases htw : tellAll (lineRow v ⟨p, ops, gone⟩) with
            | none =>
              obtain rfl := Q4.out htw
              exact .inr ⟨HTX.out.trans htw, _, rfl⟩
            | some ws =>
              obtain ⟨rfl, rfl⟩ := Q3.out ws htw
              exact .inl ⟨ws, HTX.out.trans htw, rfl⟩
    · obtain rfl : k = 17 := by omega
      have HN := Lib.hid (show textW ⟨p, ops, gone⟩ = none by
        unfold textW
        simp only
        rw [verbT_ref, List.getElem?_eq_none (show refVerbs.length ≤ _ from HK.out)]
        rfl)
      go_wp2_with fail
      go_ret2
      exact ⟨(HX2.out.trans (Only.below_all HBE.out)).to_below (Nat.le_refl _) (fun _ _ h => h), .inr ⟨HN.out, _, rfl⟩⟩
end Go.Proofs.YtjhmehmmpfnnkaaDoor
