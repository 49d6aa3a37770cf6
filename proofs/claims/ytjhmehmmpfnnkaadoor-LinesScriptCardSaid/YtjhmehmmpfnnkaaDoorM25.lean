/-
  The contract of lines.Text.
  How the reference's telling of an op stands.
-/
import Derived.Test.YtjhmehmmpfnnkaaDoorM24
import Derived.Test.YtjhmehmmpfnnkaaDoorM23
import Derived.Test.YtjhmehmmpfnnkaaDoorM17
namespace Go.Proofs.YtjhmehmmpfnnkaaDoor
open Go.RowKit Utf
set_option maxRecDepth 100000
set_option linter.unusedSimpArgs false
set_option linter.unusedVariables false

def TextPost (ea : Nat → Addr) (l : BL) (w : World) (e : Ending) (w' : World) : Prop :=
  Below w.heap.size w w' ∧ ((∃ ws, textW l = some ws ∧ e = .returned (.tuple #[.string (mkS (encAll (joinW ws))), .nilIface])) ∨ (textW l = none ∧ e = .returned (.tuple #[.string ByteArray.empty, errOf ea 4])))
theorem row_opB {w : World} {ao : Option Addr} {ops : List BOp} (h : RowAt w ao (ops.flatMap bCells)) (k : Nat) (hk : k < ops.length) : ∃ b o, ao = some ⟨b, o, none⟩ ∧ ∀ j, j < 5 → w.cell? ⟨b, o + k * 5 + j, none⟩ = (bCells ops[k])[j]? := by
  have hl : (ops.flatMap bCells).length = ops.length * 5 := by
    clear h hk
    induction ops with
    | nil => rfl
    | cons p l ih => rw [List.flatMap_cons, List.length_append, ih]; simp [bCells]; omega
  have h0 : 5 * k + 0 < (ops.flatMap bCells).length := by omega
  obtain ⟨b, o, rfl, _⟩ := h _ h0
  refine ⟨b, o, rfl, fun j hj => ?_⟩
  obtain ⟨b', o', e, hc⟩ := h (5 * k + j) (by omega)
  cases e
  rw [show o + k * 5 + j = o + (5 * k + j) by omega, hc, ← flat5 bCells (fun _ => rfl) ops k hk j hj]
  exact (List.getElem?_eq_getElem _).symm
theorem opRow_len4 (o : BOp) : (opRow o).length ≤ 4 := by
  unfold opRow
  repeat' split
  all_goals simp
theorem ops_rows (l : List BOp) : (l.flatMap opRow).length ≤ 4 * l.length := by
  induction l with
  | nil => simp
  | cons o l ih => rw [List.flatMap_cons, List.length_append, List.length_cons]; have := opRow_len4 o; omega
theorem verbs_flds : ∀ v ∈ verbs, v.flds.length ≤ 4 := by decide
theorem lineRow_len (v : Verb) (l : BL) (hv : v.flds.length ≤ 4) : (lineRow v l).length ≤ 5 + 4 * l.ops.length + l.gone.length := by
  unfold lineRow restRow
  have := ops_rows l.ops
  split
  · simp only [List.length_cons, List.length_append, List.length_map]; omega
  · split
    · simp only [List.length_cons, List.length_append, List.length_map]; omega
    · simp only [List.length_cons, List.length_append, List.length_map, List.length_nil]; omega
theorem take_flat {α β : Type} (f : α → List β) (l : List α) (j : Nat) (hj : j < l.length) : (l.take (j + 1)).flatMap f = (l.take j).flatMap f ++ f l[j] := by
  rw [List.take_succ_eq_append_getElem hj, List.flatMap_append]
  simp

set_option maxHeartbeats 8000000 in
theorem text_any (ea : Nat → Addr) (p : BP) (ops : List BOp) (gone : List Int) (ao ag : Option Addr) (co cg : Nat) (x : XC) (c1 c2 c3 : Int) (w : World) (hp : p.ok) (hops : ∀ o ∈ ops, BOp.ok o) (hgone : ∀ z ∈ gone, -9223372036854775808 ≤ z ∧ z ≤ 9223372036854775807)
    (hlo : ops.length ≤ 1000) (hlg : gone.length ≤ 1000) (ha : RowAt w ao (ops.flatMap bCells)) (hg : RowAt w ag (zRow gone)) (hj : ∀ ws, textW ⟨p, ops, gone⟩ = some ws → (encAll (joinW ws)).length ≤ 1000000) (he : LErr w ea) :
    Calls Tryd.prog 21 #[.agg (oC p (.slice ao ops.length co) (.slice ag gone.length cg) x c1 c2 c3)] w (TextPost ea ⟨p, ops, gone⟩ w) := by
  have HA := Lib.hid ha
  have HG := Lib.hid hg
  have HP := Lib.hid hp
  have HOK := Lib.hid hops
  have HGK := Lib.hid hgone
  have HEE := Lib.hid he
  have HJJ := Lib.hid hj
  have HO0 := Lib.hid (Blk.new w 48 (oC p (.slice ao ops.length co) (.slice ag gone.length cg) x c1 c2 c3))
  clear ha hg hp hops hgone he hj
  have hj := HJJ.out
  clear HJJ
  have HJJ := Lib.hid hj
  clear hj
  go_enter Tryd.func21, Tryd.ntmps21
  go_wp2_with fail
  refine (shapes_any _).mono ?_
  rintro e w2 ⟨rfl, hw2⟩
  have HT := Lib.hid (show Blk w2 (w.heap.size + 1) 79 shapeCells by
    rw [hw2]
    have := Blk.new (w.alloc (.cells (oC p (.slice ao ops.length co) (.slice ag gone.length cg) x c1 c2 c3) 48)) 79 shapeCells
    rw [World.size_alloc] at this
    exact this)
  have HO2 := Lib.hid (show Blk w2 w.heap.size 48 (oC p (.slice ao ops.length co) (.slice ag gone.length cg) x c1 c2 c3) by rw [hw2]; exact HO0.out.alloc _)
  have HX2 := Lib.hid (show Only (fun _ => False) w w2 by rw [hw2]; exact ((Only.refl _ w).alloc _).alloc _)
  have HS2 := Lib.hid (show w2.heap.size = w.heap.size + 2 by rw [hw2]; simp)
  clear hw2 HO0
  rw [World.size_alloc]
  go_wp2_with fail
  refine (index_text (w.heap.size + 1) w.heap.size p.kind p.ekind w2 (HO2.out.cell 0) (HO2.out.cell 5) HT.out).mono ?_
  rintro e w3 ⟨rfl, hb3⟩
  have HT3 := Lib.hid (HT.out.below hb3 HT.out.lt)
  have HO3 := Lib.hid (HO2.out.below hb3 HO2.out.lt)
  have HX3 := Lib.hid (HX2.out.trans (Only.below_all hb3))
  have HS3 := Lib.hid (show w.heap.size + 2 ≤ w3.heap.size by have := hb3.size; have := HS2.out; omega)
  have HE3 := Lib.hid (HEE.out.only HX3.out (fun _ h => h.elim))
  have HTOP := Lib.hid HEE.out.top
  clear hb3 HT HO2 HX2 HS2
  by_cases hv : kindIdx p.kind p.ekind < 17
  rotate_left
  · have HN := Lib.hid (show textW ⟨p, ops, gone⟩ = none by
      unfold textW
      simp only
      rw [verbT_idx, List.getElem?_eq_none (show verbs.length ≤ _ by show 17 ≤ _; omega)]
      rfl)
    have hii : idxInt (kindIdx p.kind p.ekind) = -1 := by unfold idxInt; rw [if_neg hv]
    rw [hii]
    have ke := HE3.out.form
    clear hii hv
    go_wp2_with fail
    go_quiet (fail)
    go_wp2_with fail
    go_ret2
    exact ⟨below_drewN (HX3.out.to_below (Nat.le_refl _) (fun _ _ h => h)) _, .inr ⟨HN.out, rfl⟩⟩
  · have hk2 : kindIdx p.kind p.ekind < verbs.length := hv
    have hii : idxInt (kindIdx p.kind p.ekind) = (kindIdx p.kind p.ekind : Int) := by unfold idxInt; rw [if_pos hv]
    have hcell : ∀ j, j < 5 → w3.cell? ⟨w.heap.size + 1, kindIdx p.kind p.ekind * 5 + j, none⟩ = (shapeOf verbs[kindIdx p.kind p.ekind])[j]? := by
      intro j hj5
      rw [HT3.out.cell, Nat.mul_comm (kindIdx p.kind p.ekind) 5, shape_at _ hk2 j hj5]
    have HTW := Lib.hid (show textW ⟨p, ops, gone⟩ = tellAll (lineRow verbs[kindIdx p.kind p.ekind] ⟨p, ops, gone⟩) by
      unfold textW
      simp only
      rw [verbT_idx, List.getElem?_eq_getElem hk2]
      rfl)
    have HRK := Lib.hid (verbs_rest _ (List.getElem_mem hk2))
    have HVE := Lib.hid (verb_enc _ (List.getElem_mem hk2))
    have hfl4 := verbs_flds _ (List.getElem_mem hk2)
    rw [hii]
    generalize hkk : kindIdx p.kind p.ekind = k at *
    clear hkk hii
    generalize verbs[k] = v at *
    have s0 : w3.cell? ⟨w.heap.size + 1, k * 5, none⟩ = some (.string (mkS v.name)) := hcell 0 (by omega)
    have s3 : w3.cell? ⟨w.heap.size + 1, k * 5 + 3, none⟩ = some (.string (mkS (encAll (v.flds.map letP)))) := hcell 3 (by omega)
    have HC4 := Lib.hid (show shapeCells[k * 5 + 4]? = some (.int .i32 (v.rest : Int)) from (HT3.out.cell (k * 5 + 4)).symm.trans (hcell 4 (by omega)))
    have hlt3 : w.heap.size + 1 < w3.heap.size := HT3.out.lt
    have hk17 : (k : Int) < 17 := by omega
    have HLL := Lib.hid (show allOk (v.flds.map letP) from by intro c hc; obtain ⟨f, _, rfl⟩ := List.mem_map.1 hc; exact letP_ok f)
    have HFD := Lib.hid (show (mkS (encAll (v.flds.map letP))).data.toList = encAll (v.flds.map letP) from rfl)
    have HLP := Lib.hid (show (v.flds.map letP).length = v.flds.length from List.length_map ..)
    have HNX := Lib.hid (fun (W : World) b kk hb hk ty => next_at (P := Tryd.prog) HLL.out HFD.out W b kk hb hk ty)
    have HNE := Lib.hid (fun (W : World) b hb ty => next_at_end (P := Tryd.prog) HFD.out W b hb ty)
    have HME0 := Lib.hid (off_pos_lt HFD.out)
    have HGI := Lib.hid (fun kk (hk : kk < (v.flds.map letP).length) => show (v.flds.map letP)[kk] = letP (v.flds[kk]'(by rw [← HLP.out]; exact hk)) from List.getElem_map ..)
    generalize hfs : mkS (encAll (v.flds.map letP)) = fs at *
    generalize hls : v.flds.map letP = ls at *
    clear hfs hls hcell
    have s3a : ((w3.alloc (.cells #[.string (mkS v.name)] 9)).alloc (.cells #[.slice (some ⟨w3.heap.size, 0, none⟩) 1 1, .nilIface] 107)).cell? ⟨w.heap.size + 1, k * 5 + 3, none⟩ = some (.string fs) :=
      (World.cell?_alloc_lt _ _ ⟨w.heap.size + 1, k * 5 + 3, none⟩ (by simp; omega)).trans ((World.cell?_alloc_lt _ _ ⟨w.heap.size + 1, k * 5 + 3, none⟩ hlt3).trans s3)
    have HTX0 := Lib.hid (show TxSt w ea w3.heap.size (w3.heap.size + 1) w.heap.size (w.heap.size + 1) (oC p (.slice ao ops.length co) (.slice ag gone.length cg) x c1 c2 c3) (((w3.alloc (.cells #[.string (mkS v.name)] 9)).alloc (.cells #[.slice (some ⟨w3.heap.size, 0, none⟩) 1 1, .nilIface] 107)).iter fs 0) [some (nameR v)] from by
      have hx : TxSt w ea w3.heap.size (w3.heap.size + 1) w.heap.size (w.heap.size + 1) (oC p (.slice ao ops.length co) (.slice ag gone.length cg) x c1 c2 c3) ((w3.alloc (.cells #[.string (mkS v.name)] 9)).alloc (.cells #[.slice (some ⟨w3.heap.size, 0, none⟩) 1 1, .nilIface] 107)) [some (nameR v)] := by
        have hb0 := Blk.new (w3.alloc (.cells #[.string (mkS v.name)] 9)) 107 #[.slice (some ⟨w3.heap.size, 0, none⟩) 1 1, .nilIface]
        rw [World.size_alloc] at hb0
        have hst : TSt [some (nameR v)] [mkS v.name] 0 := by
          have h0 : TSt [] [] 0 := ⟨Nat.le_refl _, fun ws hw => ⟨rfl, by cases hw; rfl⟩, fun hw => by cases hw⟩
          exact h0.good (x := nameR v) rfl (by rw [HVE.out])
        exact ⟨(HX3.out.alloc _).alloc _, (HO3.out.alloc _).alloc _, (HT3.out.alloc _).alloc _, HE3.out.only (S := fun _ => False) (((Only.refl _ w3).alloc _).alloc _) (fun _ h => h.elim), ⟨_, [mkS v.name], 0, ⟨hb0, (World.ownsRow_lit (e := 9) (size := 1) w3 #[.string (mkS v.name)] 1 (Nat.le_refl _) (by simp [maxLen]) rfl).alloc _⟩, hst⟩, by omega, by omega, by omega, by omega, by have := HTOP.out; omega⟩
      exact hx.alloc _)
    have HIN := Lib.hid (show (((w3.alloc (.cells #[.string (mkS v.name)] 9)).alloc (.cells #[.slice (some ⟨w3.heap.size, 0, none⟩) 1 1, .nilIface] 107)).iter fs 0).heap[w3.heap.size + 2]? = some (.stringIter fs 0) from by
      have := iter_new ((w3.alloc (.cells #[.string (mkS v.name)] 9)).alloc (.cells #[.slice (some ⟨w3.heap.size, 0, none⟩) 1 1, .nilIface] 107)) fs 0
      rw [World.size_alloc, World.size_alloc] at this
      exact this)
    go_wp2_with fail
    go_loopw [8] (fun _ wr => ∃ kk : Nat, kk ≤ v.flds.length ∧ Hid (wr.heap[w3.heap.size + 2]? = some (.stringIter fs (off ls kk))) ∧ Hid (TxSt w ea w3.heap.size (w3.heap.size + 1) w.heap.size (w.heap.size + 1) (oC p (.slice ao ops.length co) (.slice ag gone.length cg) x c1 c2 c3) wr (some (nameR v) :: (v.flds.take kk).map (tellFld p)))) (fun _ wr => fs.size - wr.iterPos (w3.heap.size + 2))
    case atStart => exact ⟨0, Nat.zero_le _, HIN.out, HTX0.out⟩
    case round =>
      obtain ⟨kk, hkk, HIT, HTX⟩ := hrel
      have HPO := Lib.hid (show wr.iterPos (w3.heap.size + 2) = off ls kk by simp [World.iterPos, HIT.out])
      by_cases hlt : kk < v.flds.length
      · have hlt2 : kk < ls.length := by rw [HLP.out]; exact hlt
        have hnx := HNX.out wr (w3.heap.size + 2) kk HIT.out hlt2
        rw [HGI.out kk hlt2] at hnx
        have HME := Lib.hid (HME0.out kk hlt2)
        have HTK := Lib.hid (show (some (nameR v) :: (v.flds.take kk).map (tellFld p)) ++ [tellFld p v.flds[kk]] = some (nameR v) :: (v.flds.take (kk + 1)).map (tellFld p) by
          rw [List.take_succ_eq_append_getElem hlt, List.map_append]
          rfl)
        generalize v.flds[kk] = f at *
        generalize hoff1 : off ls (kk + 1) = p1 at *
        have HOF1 := Lib.hid hoff1
        clear hoff1
        have HIT2 := Lib.hid (Lib.iterAt_heap wr (w3.heap.size + 2) fs (off ls kk) p1 HIT.out)
        have HTX2 := Lib.hid (HTX.out.iterAt HIT.out (by omega) p1)
        generalize hw5 : wr.iterAt (w3.heap.size + 2) fs p1 = w5 at *
        clear hw5
        have HTF := Lib.hid (tell_fld f HTX2.out HP.out (by simp; omega))
        go_wp2_with fail
        refine (field_any f w.heap.size w5).mono ?_
        rintro e w6 ⟨rfl, rfl⟩
        go_wp2_with fail
        refine HTF.out.mono ?_
        rintro e w6 ⟨rfl, ho6, htx6⟩
        have HIT6 := Lib.hid (HTX2.out.iter ho6 HIT2.out (by omega))
        have HTX6 := Lib.hid htx6
        rw [HTK.out] at HTX6
        clear ho6 htx6
        go_wp2_with fail
        go_roundw
        case rel => exact ⟨kk + 1, by omega, by rw [HOF1.out]; exact HIT6.out, HTX6.out⟩
        case measure => rw [HPO.out]; have := HIT6.out; simp only [World.iterPos, this]; exact HME.out
      · obtain rfl : kk = v.flds.length := by omega
        have hnx := HNE.out wr (w3.heap.size + 2) (by rw [HLP.out]; exact HIT.out)
        rw [List.take_length] at HTX
        have s4 : wr.cell? ⟨w.heap.size + 1, k * 5 + 4, none⟩ = some (.int .i32 (v.rest : Int)) := (HTX.out.tab.cell _).trans HC4.out
        have hfl : v.flds.length ≤ 4 := hfl4
        rcases HRK.out with hr | hr | hr
        · have r1 : ((v.rest : Int) == 111) = true := by rw [hr]; rfl
          have HROW := Lib.hid (show some (nameR v) :: v.flds.map (tellFld p) ++ ops.flatMap opRow = lineRow v ⟨p, ops, gone⟩ by simp [lineRow, restRow, hr])
          have d4 : wr.cell? ⟨w.heap.size, 4, none⟩ = some (.slice ao ops.length co) := HTX.out.oo.cell 4
          clear hr
          go_wp2_with fail
          go_loopw [51] (fun vi wz => ∃ j : Nat, vi = .int .i64 j ∧ j ≤ ops.length ∧ Hid (TxSt w ea w3.heap.size (w3.heap.size + 1) w.heap.size (w.heap.size + 1) (oC p (.slice ao ops.length co) (.slice ag gone.length cg) x c1 c2 c3) wz (some (nameR v) :: v.flds.map (tellFld p) ++ (ops.take j).flatMap opRow))) (fun vi _ => ops.length - (intOf vi).toNat)
          case atStart => exact ⟨0, rfl, Nat.zero_le _, Lib.hid (by simpa using HTX.out)⟩
          case round =>
            obtain ⟨j, rfl, hjl, HTZ⟩ := hrel
            by_cases hlt2 : j < ops.length
            · have HAR := Lib.hid (HA.out.only HTZ.out.only (fun _ _ h => h))
              obtain ⟨ba, oa, rfl, hca⟩ := row_opB HAR.out j hlt2
              have HTK := Lib.hid (show (some (nameR v) :: v.flds.map (tellFld p) ++ (ops.take j).flatMap opRow) ++ opRow ops[j] = some (nameR v) :: v.flds.map (tellFld p) ++ (ops.take (j + 1)).flatMap opRow by
                rw [take_flat _ _ _ hlt2, List.append_assoc])
              have HOJ := Lib.hid (HOK.out _ (List.getElem_mem hlt2))
              have hrl : (some (nameR v) :: v.flds.map (tellFld p) ++ (ops.take j).flatMap opRow).length + 5 ≤ 1000000 := by
                have := ops_rows (ops.take j)
                have h2 : (ops.take j).length ≤ ops.length := by rw [List.length_take]; omega
                simp only [List.length_append, List.length_cons, List.length_map]
                omega
              have HRL := Lib.hid hrl
              generalize ops[j] = o at *
              obtain ⟨kd, u1, u2, u3, vs⟩ := o
              have a0 : wr.cell? ⟨ba, oa + j * 5, none⟩ = some (.int .i64 kd) := hca 0 (by omega)
              have a1 : wr.cell? ⟨ba, oa + j * 5 + 1, none⟩ = some (.string u1) := hca 1 (by omega)
              have a2 : wr.cell? ⟨ba, oa + j * 5 + 2, none⟩ = some (.string u2) := hca 2 (by omega)
              have a3 : wr.cell? ⟨ba, oa + j * 5 + 3, none⟩ = some (.string u3) := hca 3 (by omega)
              have a4 : wr.cell? ⟨ba, oa + j * 5 + 4, none⟩ = some (.int .i64 vs) := hca 4 (by omega)
              have hlj : (j : Int) < (ops.length : Int) := by omega
              have HTZ2 := Lib.hid (HTZ.out.alloc (.cells #[.int .i64 kd, .string u1, .string u2, .string u3, .int .i64 vs] 103))
              have HTEL := Lib.hid HTZ2.out.tel
              clear hca hrl
              obtain ⟨vt, xt, nt, tt, st⟩ := HTEL.out
              have HTO := Lib.hid (tellop_any (w3.heap.size + 1) w3.heap.size ea vt xt nt _ ⟨kd, u1, u2, u3, vs⟩ _ tt st HRL.out (by omega) HTZ2.out.top HOJ.out HTZ2.out.err (by have := HTZ2.out.blt; omega))
              unfold bCells at HTO
              clear tt st HTEL
              go_wp2_with fail
              refine HTO.out.mono ?_
              rintro e w6 ⟨rfl, ho6, htx6⟩
              have HTX6 := Lib.hid (HTZ2.out.told ho6 htx6)
              rw [HTK.out] at HTX6
              clear ho6 htx6
              go_wp2_with fail
              go_roundw
              case rel => exact ⟨j + 1, by go_num, by omega, HTX6.out⟩
              case measure => simp [intOf]; omega
            · obtain rfl : j = ops.length := by omega
              rw [List.take_length] at HTZ
              obtain ⟨wr9, hwr9⟩ : ∃ wr9, wr9 = wr := ⟨_, rfl⟩
              subst hwr9
              have HTX := Lib.hid HTZ.out
              have hj := HJJ.out
              obtain ⟨v9, xs9, n9, t9, s9⟩ := HTX.out.tel
              have HB9 := Lib.hid (HTX.out.only.to_below (Nat.le_refl _) (fun _ _ h => h))
              have e1 := t9.1.cell 1
              have e0 := t9.1.cell 0
              cases htw : tellAll (lineRow v ⟨p, ops, gone⟩) with
              | none =>
                have HN9 := Lib.hid (HTW.out.trans htw)
                obtain rfl : n9 = 4 := s9.2.2 (by rw [HROW.out]; exact htw)
                clear htw s9 t9
                rw [show errOf ea 4 = .iface 163 (.pointer (some (ea 3))) from rfl] at e1
                go_wp2_with fail
                go_quiet (fail)
                go_wp2_with fail
                go_ret2
                exact ⟨below_drewN HB9.out _, .inr ⟨HN9.out, rfl⟩⟩
              | some ws =>
                have HN9 := Lib.hid (HTW.out.trans htw)
                obtain ⟨rfl, rfl⟩ := s9.2.1 ws (by rw [HROW.out]; exact htw)
                have HJ := Lib.hid (hj ws (HTW.out.trans htw))
                have hws1 : 1 ≤ ws.length := by
                  have h1 := (tellAll_iff _ _).1 htw
                  have h2 := map_len h1
                  rw [h2]
                  simp [lineRow]
                have hws2 : ws.length ≤ 1000000 := by
                  have h2 := map_len ((tellAll_iff _ _).1 htw)
                  have h3 := lineRow_len v ⟨p, ops, gone⟩ hfl
                  simp only at h3
                  omega
                obtain ⟨ao9, cap9, rfl, hrow9, -, hcap9, -, -, hsp9⟩ := own_row t9.2
                obtain ⟨g9, o9, rfl, hx9⟩ := hrow9 0 (by rw [strRow_len, fieldTexts_len]; omega)
                have HJN := Lib.hid (Tryd.strings_Join g9 o9 cap9 (fieldTexts ws) ⟨#[32]⟩ wr9 (by
                  intro j xx hx
                  obtain ⟨hjl, rfl⟩ := List.getElem?_eq_some_iff.1 hx
                  obtain ⟨b', o', he', hc'⟩ := hrow9 j (by rw [strRow_len]; exact hjl)
                  cases he'
                  rw [strRow_at] at hc'
                  exact hc') (World.block_lt_of_cell? wr9 _ hx9) (by rw [fieldTexts_len]; omega) hcap9 (by
                    rw [show (⟨#[32]⟩ : ByteArray).data.toList = [32] from rfl, join_enc]
                    have := HJ.out
                    omega))
                rw [errOf_zero] at e1
                clear htw s9 t9 hrow9 hsp9 hx9
                go_wp2_with fail
                refine HJN.out.mono ?_
                rintro e w8 ⟨rfl, hb8⟩
                have HB8 := Lib.hid (HB9.out.trans (hb8.mono HB9.out.size))
                clear hb8
                go_wp2_with fail
                go_ret2
                refine ⟨HB8.out, .inl ⟨ws, HN9.out, ?_⟩⟩
                show Ending.returned (.tuple #[.string ⟨(Lib.join (List.map (fun x => x.data.toList) (fieldTexts ws)) [32]).toArray⟩, .nilIface]) = _
                rw [join_enc]
                rfl
        · have r1 : ((v.rest : Int) == 111) = false := by rw [hr]; rfl
          have r2 : ((v.rest : Int) == 103) = true := by rw [hr]; rfl
          have HROW := Lib.hid (show some (nameR v) :: v.flds.map (tellFld p) ++ gone.map decL = lineRow v ⟨p, ops, gone⟩ by simp [lineRow, restRow, hr])
          have d4 : wr.cell? ⟨w.heap.size, 20, none⟩ = some (.slice ag gone.length cg) := HTX.out.oo.cell 20
          clear hr
          go_wp2_with fail
          go_loopw [64] (fun vi wz => ∃ j : Nat, vi = .int .i64 j ∧ j ≤ gone.length ∧ Hid (TxSt w ea w3.heap.size (w3.heap.size + 1) w.heap.size (w.heap.size + 1) (oC p (.slice ao ops.length co) (.slice ag gone.length cg) x c1 c2 c3) wz (some (nameR v) :: v.flds.map (tellFld p) ++ (gone.take j).map decL))) (fun vi _ => gone.length - (intOf vi).toNat)
          case atStart => exact ⟨0, rfl, Nat.zero_le _, Lib.hid (by simpa using HTX.out)⟩
          case round =>
            obtain ⟨j, rfl, hjl, HTZ⟩ := hrel
            by_cases hlt2 : j < gone.length
            · have HAR := Lib.hid (HG.out.only HTZ.out.only (fun _ _ h => h))
              obtain ⟨ba, oa, rfl, hca⟩ := HAR.out j (by rw [zRow_len]; exact hlt2)
              rw [zRow_at] at hca
              have HTK := Lib.hid (show (some (nameR v) :: v.flds.map (tellFld p) ++ (gone.take j).map decL) ++ [decL gone[j]] = some (nameR v) :: v.flds.map (tellFld p) ++ (gone.take (j + 1)).map decL by
                rw [List.take_succ_eq_append_getElem hlt2, List.map_append, List.append_assoc]
                rfl)
              have HZ := Lib.hid (HGK.out _ (List.getElem_mem hlt2))
              have hrl : (some (nameR v) :: v.flds.map (tellFld p) ++ (gone.take j).map decL).length ≤ 1000000 := by
                have h2 : (gone.take j).length ≤ gone.length := by rw [List.length_take]; omega
                simp only [List.length_append, List.length_cons, List.length_map]
                omega
              have HRL := Lib.hid hrl
              generalize gone[j] = z at *
              have a0 : wr.cell? ⟨ba, oa + j, none⟩ = some (.int .i64 z) := hca
              have hlj : (j : Int) < (gone.length : Int) := by omega
              have HTZ2 := Lib.hid (HTZ.out.alloc (.cells #[.int .i64 z] 3))
              have HCZ := Lib.hid ((Blk.new wr 3 #[.int .i64 z]).cell 0)
              clear hca hrl
              obtain ⟨vt, xt, nt, tt, st⟩ := HTZ2.out.tel
              have HTO := Lib.hid (tell_num (w3.heap.size + 1) w3.heap.size wr.heap.size 0 ea vt xt nt _ z _ tt st HRL.out (by have := HTZ2.out.top; omega) HTZ2.out.top HCZ.out HZ.out.1 HZ.out.2 HTZ2.out.err (by have := HTZ2.out.blt; omega))
              clear tt st
              go_wp2_with fail
              refine HTO.out.mono ?_
              rintro e w6 ⟨rfl, ho6, htx6⟩
              have HTX6 := Lib.hid (HTZ2.out.told ho6 htx6)
              rw [HTK.out] at HTX6
              clear ho6 htx6
              go_wp2_with fail
              go_roundw
              case rel => exact ⟨j + 1, by go_num, by omega, HTX6.out⟩
              case measure => simp [intOf]; omega
            · obtain rfl : j = gone.length := by omega
              rw [List.take_length] at HTZ
              obtain ⟨wr9, hwr9⟩ : ∃ wr9, wr9 = wr := ⟨_, rfl⟩
              subst hwr9
              have HTX := Lib.hid HTZ.out
              have hj := HJJ.out
              obtain ⟨v9, xs9, n9, t9, s9⟩ := HTX.out.tel
              have HB9 := Lib.hid (HTX.out.only.to_below (Nat.le_refl _) (fun _ _ h => h))
              have e1 := t9.1.cell 1
              have e0 := t9.1.cell 0
              cases htw : tellAll (lineRow v ⟨p, ops, gone⟩) with
              | none =>
                have HN9 := Lib.hid (HTW.out.trans htw)
                obtain rfl : n9 = 4 := s9.2.2 (by rw [HROW.out]; exact htw)
                clear htw s9 t9
                rw [show errOf ea 4 = .iface 163 (.pointer (some (ea 3))) from rfl] at e1
                go_wp2_with fail
                go_quiet (fail)
                go_wp2_with fail
                go_ret2
                exact ⟨below_drewN HB9.out _, .inr ⟨HN9.out, rfl⟩⟩
              | some ws =>
                have HN9 := Lib.hid (HTW.out.trans htw)
                obtain ⟨rfl, rfl⟩ := s9.2.1 ws (by rw [HROW.out]; exact htw)
                have HJ := Lib.hid (hj ws (HTW.out.trans htw))
                have hws1 : 1 ≤ ws.length := by
                  have h1 := (tellAll_iff _ _).1 htw
                  have h2 := map_len h1
                  rw [h2]
                  simp [lineRow]
                have hws2 : ws.length ≤ 1000000 := by
                  have h2 := map_len ((tellAll_iff _ _).1 htw)
                  have h3 := lineRow_len v ⟨p, ops, gone⟩ hfl
                  simp only at h3
                  omega
                obtain ⟨ao9, cap9, rfl, hrow9, -, hcap9, -, -, hsp9⟩ := own_row t9.2
                obtain ⟨g9, o9, rfl, hx9⟩ := hrow9 0 (by rw [strRow_len, fieldTexts_len]; omega)
                have HJN := Lib.hid (Tryd.strings_Join g9 o9 cap9 (fieldTexts ws) ⟨#[32]⟩ wr9 (by
                  intro j xx hx
                  obtain ⟨hjl, rfl⟩ := List.getElem?_eq_some_iff.1 hx
                  obtain ⟨b', o', he', hc'⟩ := hrow9 j (by rw [strRow_len]; exact hjl)
                  cases he'
                  rw [strRow_at] at hc'
                  exact hc') (World.block_lt_of_cell? wr9 _ hx9) (by rw [fieldTexts_len]; omega) hcap9 (by
                    rw [show (⟨#[32]⟩ : ByteArray).data.toList = [32] from rfl, join_enc]
                    have := HJ.out
                    omega))
                rw [errOf_zero] at e1
                clear htw s9 t9 hrow9 hsp9 hx9
                go_wp2_with fail
                refine HJN.out.mono ?_
                rintro e w8 ⟨rfl, hb8⟩
                have HB8 := Lib.hid (HB9.out.trans (hb8.mono HB9.out.size))
                clear hb8
                go_wp2_with fail
                go_ret2
                refine ⟨HB8.out, .inl ⟨ws, HN9.out, ?_⟩⟩
                show Ending.returned (.tuple #[.string ⟨(Lib.join (List.map (fun x => x.data.toList) (fieldTexts ws)) [32]).toArray⟩, .nilIface]) = _
                rw [join_enc]
                rfl
        · have r1 : ((v.rest : Int) == 111) = false := by rw [hr]; rfl
          have r2 : ((v.rest : Int) == 103) = false := by rw [hr]; rfl
          have HROW := Lib.hid (show some (nameR v) :: v.flds.map (tellFld p) = lineRow v ⟨p, ops, gone⟩ by simp [lineRow, restRow, hr])
          clear hr
          obtain ⟨wr9, hwr9⟩ : ∃ wr9, wr9 = wr := ⟨_, rfl⟩
          subst hwr9
          have hj := HJJ.out
          obtain ⟨v9, xs9, n9, t9, s9⟩ := HTX.out.tel
          have HB9 := Lib.hid (HTX.out.only.to_below (Nat.le_refl _) (fun _ _ h => h))
          have e1 := t9.1.cell 1
          have e0 := t9.1.cell 0
          cases htw : tellAll (lineRow v ⟨p, ops, gone⟩) with
          | none =>
            have HN9 := Lib.hid (HTW.out.trans htw)
            obtain rfl : n9 = 4 := s9.2.2 (by rw [HROW.out]; exact htw)
            clear htw s9 t9
            rw [show errOf ea 4 = .iface 163 (.pointer (some (ea 3))) from rfl] at e1
            go_wp2_with fail
            go_quiet (fail)
            go_wp2_with fail
            go_ret2
            exact ⟨below_drewN HB9.out _, .inr ⟨HN9.out, rfl⟩⟩
          | some ws =>
            have HN9 := Lib.hid (HTW.out.trans htw)
            obtain ⟨rfl, rfl⟩ := s9.2.1 ws (by rw [HROW.out]; exact htw)
            have HJ := Lib.hid (hj ws (HTW.out.trans htw))
            have hws1 : 1 ≤ ws.length := by
              have h1 := (tellAll_iff _ _).1 htw
              have h2 := map_len h1
              rw [h2]
              simp [lineRow]
            have hws2 : ws.length ≤ 1000000 := by
              have h2 := map_len ((tellAll_iff _ _).1 htw)
              have h3 := lineRow_len v ⟨p, ops, gone⟩ hfl
              simp only at h3
              omega
            obtain ⟨ao9, cap9, rfl, hrow9, -, hcap9, -, -, hsp9⟩ := own_row t9.2
            obtain ⟨g9, o9, rfl, hx9⟩ := hrow9 0 (by rw [strRow_len, fieldTexts_len]; omega)
            have HJN := Lib.hid (Tryd.strings_Join g9 o9 cap9 (fieldTexts ws) ⟨#[32]⟩ wr9 (by
              intro j xx hx
              obtain ⟨hjl, rfl⟩ := List.getElem?_eq_some_iff.1 hx
              obtain ⟨b', o', he', hc'⟩ := hrow9 j (by rw [strRow_len]; exact hjl)
              cases he'
              rw [strRow_at] at hc'
              exact hc') (World.block_lt_of_cell? wr9 _ hx9) (by rw [fieldTexts_len]; omega) hcap9 (by
                rw [show (⟨#[32]⟩ : ByteArray).data.toList = [32] from rfl, join_enc]
                have := HJ.out
                omega))
            rw [errOf_zero] at e1
            clear htw s9 t9 hrow9 hsp9 hx9
            go_wp2_with fail
            refine HJN.out.mono ?_
            rintro e w8 ⟨rfl, hb8⟩
            have HB8 := Lib.hid (HB9.out.trans (hb8.mono HB9.out.size))
            clear hb8
            go_wp2_with fail
            go_ret2
            refine ⟨HB8.out, .inl ⟨ws, HN9.out, ?_⟩⟩
            show Ending.returned (.tuple #[.string ⟨(Lib.join (List.map (fun x => x.data.toList) (fieldTexts ws)) [32]).toArray⟩, .nilIface]) = _
            rw [join_enc]
            rfl
end Go.Proofs.YtjhmehmmpfnnkaaDoor

namespace Go.Proofs.YtjhmehmmpfnnkaaDoor
open Go.RowKit Utf
set_option maxRecDepth 100000
set_option linter.unusedSimpArgs false
set_option linter.unusedVariables false

def refKind (k e : Int) : Nat := refVerbs.findIdx (verbIs k e)
theorem refKind_step {k e : Int} {i : Nat} (hi : i < refVerbs.length) (h : i ≤ refKind k e) (hne : verbIs k e refVerbs[i] = false) : i + 1 ≤ refKind k e := by
  rcases Nat.lt_or_ge i (refKind k e) with h1 | h1
  · exact h1
  · exfalso
    have e1 : refVerbs.findIdx (verbIs k e) = i := Nat.le_antisymm h1 h
    have := List.findIdx_getElem (p := verbIs k e) (xs := refVerbs) (w := by rw [e1]; exact hi)
    have h2 : refVerbs[refVerbs.findIdx (verbIs k e)]'(by rw [e1]; exact hi) = refVerbs[i] := getElem_congr_idx e1
    rw [h2, hne] at this
    cases this
theorem refKind_hit {k e : Int} {i : Nat} (hi : i < refVerbs.length) (h : i ≤ refKind k e) (he : verbIs k e refVerbs[i] = true) : refKind k e = i := by
  refine Nat.le_antisymm (Nat.le_of_not_lt fun h1 => ?_) h
  have := List.not_of_lt_findIdx (p := verbIs k e) (xs := refVerbs) (i := i) h1
  rw [he] at this
  cases this
theorem ref_find : ∀ v ∈ verbs, refVerbs.find? (verbIs v.kind v.ekind) = some v := by
  intro v hv
  simp only [verbs, List.mem_cons, List.not_mem_nil, or_false] at hv
  rcases hv with rfl | rfl | rfl | rfl | rfl | rfl | rfl | rfl | rfl | rfl | rfl | rfl | rfl | rfl | rfl | rfl | rfl <;> rfl
theorem verbIs_fun {k e : Int} {v : Verb} (h : verbIs k e v = true) : verbIs k e = verbIs v.kind v.ekind := by
  unfold verbIs at h
  simp only [Bool.and_eq_true, Bool.or_eq_true, decide_eq_true_eq] at h
  obtain ⟨rfl, h2⟩ := h
  funext u
  unfold verbIs
  rw [Bool.eq_iff_iff]
  simp only [Bool.and_eq_true, Bool.or_eq_true, decide_eq_true_eq]
  constructor
  · rintro ⟨h3, h4⟩
    refine ⟨h3, ?_⟩
    rcases h4 with h4 | h4
    · exact .inl h4
    · rcases h2 with h2 | h2
      · exact .inl (by rw [h3]; exact h2)
      · exact .inr (by rw [h4, h2])
  · rintro ⟨h3, h4⟩
    refine ⟨h3, ?_⟩
    rcases h4 with h4 | h4
    · exact .inl h4
    · rcases h2 with h2 | h2
      · exact .inl (by rw [h3]; exact h2)
      · exact .inr (by rw [h4, h2])
/-- The same verb by either table. -/
theorem verbT_ref (k e : Int) : verbT k e = refVerbs[refKind k e]? := by
  rw [show refVerbs[refKind k e]? = refVerbs.find? (verbIs k e) from (find_idx _ _).symm]
  unfold verbT
  cases hf : verbs.find? (verbIs k e) with
  | some v =>
    rw [verbIs_fun (List.find?_some hf), ref_find v (List.mem_of_find?_eq_some hf)]
  | none =>
    cases hr : refVerbs.find? (verbIs k e) with
    | none => rfl
    | some u =>
      have hm := refVerb_mem u (List.mem_of_find?_eq_some hr)
      have := List.find?_eq_none.1 hf u (List.mem_of_getElem? hm)
      exact absurd (List.find?_some hr) this

/-- A call of a Go function, as one step of a region; the operation is told by where its answer goes (the proof of 'hrun' is looked at by the kernel alone, too late to choose by). -/
theorem step_call2 {P : Program} {ops : Array Oper} {o : Oper} {a : Act} {w : World} {K : Act → World → Prop} {Q : Exit → Act → World → Prop} {E : Prop} (hgd : o.guard = none) (d : Tmp) (hd : o.dst = some d)
    (f : FuncId) (args : Array Value) (hrun : (execOp a.eval o).run P w = .ok (.enter f args) w) (R : Value → World → Prop) (hc : Calls P f args w fun e w' => ∃ v, e = .returned v ∧ R v w')
    (h : Hid (∀ v w', R v w' → K (a.put o.dst v) w')) : if Region.wanted o (yielded ops a.tmps) = true then Oper.wp P o a w K Q else E :=
  step_call hgd f args hrun R hc h
structure QSt (w : World) (d ob : Nat) (ocs : Array Value) (fs : ByteArray) (wr : World) (row : List (Option (List Nat))) : Prop where
  only : Only (fun _ => False) w wr
  oo : Blk wr ob 52 ocs
  rw : wr.cell? ⟨d, 3, none⟩ = some (.string fs)
  ln : Blk wr (d + 3) 112 #[.pointer (some ⟨d + 1, 0, none⟩), .pointer (some ⟨d + 2, 0, none⟩)]
  st : LSt wr (d + 1) (d + 2) row
  hob : ob < d
  base : w.heap.size ≤ d
section
variable {w : World} {d ob : Nat} {ocs : Array Value} {fs : ByteArray} {wr w' : World} {row more : List (Option (List Nat))}
theorem QSt.told (h : QSt w d ob ocs fs wr row) (ho : Only (fun k => k = d + 1 ∨ k = d + 2) wr w') (hs : LSt w' (d + 1) (d + 2) (row ++ more)) : QSt w d ob ocs fs w' (row ++ more) := by
  have h1 := h.hob
  have h2 := h.base
  exact ⟨h.only.step ho (fun k hk => .inr (by omega)), h.oo.only ho (by omega), ho.cell h.rw (by simp only; omega), h.ln.only ho (by omega), hs, h1, h2⟩
theorem QSt.alloc (h : QSt w d ob ocs fs wr row) (o : Obj) : QSt w d ob ocs fs (wr.alloc o) row := by
  obtain ⟨t, ok, h1, h2, h3⟩ := h.st
  exact ⟨h.only.alloc _, h.oo.alloc _, (World.cell?_alloc_lt wr o ⟨d, 3, none⟩ (World.block_lt_of_cell? wr _ h.rw)).trans h.rw, h.ln.alloc _, ⟨t, ok, h1.alloc _, h2.alloc _, h3⟩, h.hob, h.base⟩
theorem QSt.draw (h : QSt w d ob ocs fs wr row) : QSt w d ob ocs fs wr.drew row := by
  obtain ⟨t, ok, h1, h2, h3⟩ := h.st
  exact ⟨h.only.drewN 1, h.oo, h.rw, h.ln, ⟨t, ok, h1, h2, h3⟩, h.hob, h.base⟩
end
structure BP.okR (p : BP) : Prop where
  num : ∀ f, isNum f = true → -9223372036854775808 ≤ p.getN f ∧ p.getN f ≤ 9223372036854775807
  str : ∀ f, isNum f = false → (p.getS f).size ≤ 100000
/-- What tidewaterref31.Text answers. -/
def RefTextPost (l : BL) (w : World) (e : Ending) (w' : World) : Prop :=
  Below w.heap.size w w' ∧ ((∃ ws, textW l = some ws ∧ e = .returned (.tuple #[.string (mkS (encAll (joinW ws))), .bool true])) ∨ (textW l = none ∧ ∃ t, e = .returned (.tuple #[.string t, .bool false])))
end Go.Proofs.YtjhmehmmpfnnkaaDoor
