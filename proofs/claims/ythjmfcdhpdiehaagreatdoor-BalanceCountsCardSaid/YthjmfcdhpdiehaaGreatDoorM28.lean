/-
  The walk of the law BalanceCounts.
  What the row's list of variables gives: the errors of package api, each a pointer of its own.
-/
import Derived.Test.YthjmfcdhpdiehaaGreatDoorM26
import Derived.Test.YthjmfcdhpdiehaaGreatDoorM27
import Derived.Test.YthjmfcdhpdiehaaGreatDoorM04
import Derived.LaidLaws
namespace Go.Proofs.YthjmfcdhpdiehaaGreatDoor
open Go.RowKit Utf
set_option maxRecDepth 100000
set_option linter.unusedSimpArgs false
set_option linter.unusedVariables false

/-- What was made behind a map is none of its blocks. -/
theorem not_mset {w W : World} {b B q : Nat} {m : PM} (hm : MapAt w B b m) (hb : Below w.heap.size w W) (hq : w.heap.size ≤ q) : ¬ (q = b ∨ (∃ v, W.cell? ⟨b, 0, none⟩ = some v ∧ ownB v = some q) ∨ (∃ v, W.cell? ⟨b, 14, none⟩ = some v ∧ ownB v = some q)) := by
  obtain ⟨vl, ve, h⟩ := hm
  have hbl := h.blk.lt
  have k0 : W.cell? ⟨b, 0, none⟩ = some vl := (hb.cell hbl).trans (h.blk.cell 0)
  have k14 : W.cell? ⟨b, 14, none⟩ = some ve := (hb.cell hbl).trans (h.blk.cell 14)
  have far : ∀ {v : Value} {e : TypeId} {sz n : Nat} {xs : List Value}, OwnE w B e sz v n xs → ownB v = some q → False := fun h1 h2 => by
    obtain ⟨-, c, t, fr, h3, -⟩ := ownE_ty h1 h2
    have := (Array.getElem?_eq_some_iff.1 h3).1
    omega
  rintro (h1 | ⟨v, h1, h2⟩ | ⟨v, h1, h2⟩)
  · omega
  · rw [k0] at h1
    cases h1
    exact far (.inr h.live) h2
  · rw [k14] at h1
    cases h1
    exact far (EvOwn.ownE h.ev) h2
theorem wpList_load_hidW {P : Program} {ops : Array Oper} {rest : List Oper} {o : Oper} {a : Act} {w : World} {Q : Exit → Act → World → Prop} (hw : Region.wanted o (yielded ops a.tmps) = true) (ty : TypeId) (x : Operand) (ho : o.op = .load ty x) (g : Nat) (hx : a.eval x = .pointer (some ⟨g, 0, none⟩)) (t : TypeId) (cs : Array Value) (hB : Blk w g t cs) (d : TypeDesc)
    (hu : P.underlying ty = some d) (hd : (match d with | .struct _ | .array _ _ => true | _ => false) = true) (hi : (P.info? ty).map (·.size) = some cs.size) (h : Hid (wpList P ops Q rest (a.put o.dst (.agg cs)) w)) : wpList P ops Q (o :: rest) a w :=
  BigFrame.wpList_want hw fun _ hK => wp_load_row ty x ho g hx t cs (0, 0) d hB hu hd hi (hK _ _ h.out)
/-- How the second loop stands. -/
structure CW (wc : World) (b3 : Nat) (mk : PM) (W : World) : Prop where
  bel : Below wc.heap.size wc W
  mp : MapAt W wc.heap.size b3 mk
theorem CW.next {wc W W' : World} {b3 : Nat} {mk : PM} (h : CW wc b3 mk W) (hb : Below W.heap.size W W') : CW wc b3 mk W' := ⟨h.bel.trans (hb.mono h.bel.size), h.mp.below hb⟩
/-- What Plan answers, in one. -/
theorem planR_open {ea : Nat → Addr} {B c : Nat} {o : List EN × PM} {e : Ending} {w' : World} (h : PlanR ea B c o e w') (hc : c = 4 ∨ c = 1 ∨ c = 0) : ∃ oo n oc vp ve, e = .returned (.tuple #[.slice oo n oc, vp, ve]) ∧ ((∃ a, ve = .iface 184 (.pointer (some a))) ∨ (c = 0 ∧ ve = .nilIface ∧ n = o.1.length ∧ RowAt w' oo (enRow o.1))) := by
  unfold PlanR at h
  rcases hc with rfl | rfl | rfl
  · rw [if_neg (by decide)] at h
    exact ⟨none, 0, 0, _, _, h, .inl ⟨ea 3, rfl⟩⟩
  · rw [if_neg (by decide)] at h
    exact ⟨none, 0, 0, _, _, h, .inl ⟨ea 0, rfl⟩⟩
  · rw [if_pos rfl] at h
    obtain ⟨v, b', rfl, h1, -⟩ := h
    obtain ⟨oo, oc, rfl, hr⟩ := ownE_row h1
    exact ⟨oo, _, oc, _, _, rfl, .inr ⟨rfl, rfl, rfl, hr⟩⟩

set_option maxHeartbeats 16000000 in
theorem counts_walk (ea : Nat → Addr) (acs : List Ac) (l : List LD) (ao lo : Option Addr) (ac lc : Nat) (s most : Int) (w : World) (hra : RowAt w ao (acRow acs)) (hrl : RowAt w lo (ldRow l)) (hat : ∀ x ∈ acs, AcAt w x) (he : BErr w ea) (hea : ∀ n, (ea n).block < w.heap.size) :
    Calls Tryz.prog 4 #[.slice ao acs.length ac, .slice lo l.length lc, .agg #[.int .i64 s, .int .i64 most]] w fun e w' => e = .returned (.bool true) ∧ Below w.heap.size w w' := by
  have hq : ∀ (a : Addr) (w : World), (Op.equal 34 (.iface 184 (.pointer (some a))) .nilIface).run Tryz.prog w = .ok false w := fun a w => by kernel_rfl
  have S0 := Lib.hid (EW.new (s := s) (most := most) hrl he)
  have HA := Lib.hid (fun W (hb : Below w.heap.size w W) => balive_any ea W (he.below hb))
  have HL := Lib.hid (fun W (hb : Below w.heap.size w W) => long_any acs l ao lo ac lc W (hra.below hb) (hrl.below hb) (fun x hx => by
    obtain ⟨ops, h1, h2, h3⟩ := hat x hx
    exact ⟨ops, h1, h2.below hb, h3⟩))
  have HMD := Lib.hid (fun W (hb : Below w.heap.size w W) (h : acs.length ≤ 40) (ha : ∀ x ∈ acs, x.1.at W) => made_any ea acs ao ac W (by omega) (hra.below hb) ha (he.below hb) (fun n => Nat.lt_of_lt_of_le (hea n) hb.size))
  have HEA := Lib.hid hea
  clear hra hrl hat he hea
  go_enter Tryz.func4, Tryz.ntmps4
  go_wp2_with fail
  refine (HA.out _ S0.out.bel).mono ?_
  rintro e w1 ⟨rfl, hb1⟩
  have S1 := Lib.hid (S0.out.next hb1)
  clear hb1 HA
  go_wp2_with fail
  refine (HL.out _ S1.out.bel).mono ?_
  rintro e w2 ⟨⟨bb, rfl, hnl⟩, hb2⟩
  have S2 := Lib.hid (S1.out.next hb2)
  have HN := Lib.hid hnl
  have HB2 := Lib.hid hb2
  clear hb2 hnl HL
  cases bb with
  | true =>
    clear HN
    go_wp2_with fail
    go_ret
    exact ⟨rfl, S2.out.bel⟩
  | false =>
    have HNL := Lib.hid (HN.out rfl)
    have h30 := HNL.out.list
    clear HN
    go_wp2_with fail
    refine (HMD.out _ S2.out.bel HNL.out.acts (fun x hx => (HNL.out.ents x hx).below HB2.out)).mono ?_
    rintro e w3 ⟨b, b2, rfl, hmd⟩
    have S3 := Lib.hid (S2.out.next hmd.bel)
    have HM3 := Lib.hid hmd.mp
    have h40 := HNL.out.acts
    have HK := Lib.hid HNL.out.ldok
    have HMO := Lib.hid (made_all acs)
    have HMI := Lib.hid (made_inv acs)
    clear hmd HMD HB2 HNL
    generalize madeP acs = m at *
    have HML := Lib.hid (show 1 ≤ m.live.length ∧ m.live.length ≤ 10000 from by obtain ⟨vl, ve, h⟩ := HM3.out; exact ⟨h.l1, h.len.1⟩)
    go_wp2_with fail
    refine (shards_any b w2.heap.size m w3 HM3.out).mono ?_
    rintro e w4 ⟨v1, rfl, h1, hb4⟩
    obtain ⟨g1, c1, rfl, -, -, -, hr1⟩ := own_some h1 HML.out.1
    have S4 := Lib.hid (S3.out.next hb4)
    have HM4 := Lib.hid (HM3.out.below hb4)
    have HR1 := Lib.hid hr1
    have c0 : w4.cell? ⟨w.heap.size, 0, none⟩ = some (.int .i64 s) := S4.out.box.cell 0
    have c1' : w4.cell? ⟨w.heap.size, 1, none⟩ = some (.int .i64 most) := S4.out.box.cell 1
    have HPL := Lib.hid (plan_any ea b w2.heap.size m l lo lc s most w4 HM4.out (by omega) S4.out.row S4.out.err (fun n => Nat.lt_of_lt_of_le (HEA.out n) S4.out.bel.size) HK.out (HMO.out.mono (by omega)))
    have HPS := Lib.hid (plan_steps l s.toNat most m 24 m [] rfl (fun k hk => by cases hk))
    have HPN := Lib.hid (plan_len l s.toNat most 24 m [])
    clear h1 hr1 hb4
    generalize hsn : s.toNat = sn at *
    generalize planS l sn most 24 m [] = fin at *
    obtain ⟨out, to⟩ := fin
    dsimp only at HPS HPN
    go_wp2_with fail
    refine HPL.out.mono ?_
    rintro e w5 ⟨hpr, hb5⟩
    have S5 := Lib.hid (S4.out.next hb5)
    have HM5 := Lib.hid (HM4.out.below hb5)
    have HR1 := Lib.hid (HR1.out.below hb5)
    have HCC := checkN_cases l s most
    obtain ⟨oo, on, oc, vp, verr, rfl, hres⟩ := planR_open hpr (by rcases HCC with h | h | h <;> simp [h])
    have HRES := Lib.hid hres
    have HC := Lib.hid HCC
    clear hb5 HPL c0 c1' hpr hres HCC
    go_wp2_with fail
    refine (shards_any b w2.heap.size m w5 HM5.out).mono ?_
    rintro e w6 ⟨v2, rfl, h2, hb6⟩
    obtain ⟨g2, c2, rfl, -, -, -, hr2⟩ := own_some h2 HML.out.1
    have S6 := Lib.hid (S5.out.next hb6)
    have HM6 := Lib.hid (HM5.out.below hb6)
    have HR1 := Lib.hid (HR1.out.below hb6)
    have HR2 := Lib.hid hr2
    have HOW := Lib.hid (show verr = .nilIface → RowAt w5 oo (enRow out) ∧ on = out.length ∧ checkN l s most = 0 from fun h => by
      rcases HRES.out with ⟨a, ha⟩ | ⟨h3, -, h4, h5⟩
      · rw [h] at ha; cases ha
      · exact ⟨h5, h4, h3⟩)
    have HOW6 := Lib.hid (show verr = .nilIface → RowAt w6 oo (enRow out) from fun h => (HOW.out h).1.below hb6)
    have HVE := Lib.hid (show (∃ a, verr = .iface 184 (.pointer (some a))) ∨ verr = .nilIface from HRES.out.imp id (fun h => h.2.1))
    clear h2 hr2 hb6 HRES
    have hne : (((m.live.length : Nat) : Int) != ((m.live.length : Nat) : Int)) = false := by simp
    have hml := HML.out.2
    go_wp2_with fail
    clear hne
    go_loopw [56] (fun i wr => ∃ k : Nat, k ≤ m.live.length ∧ i = .int .i64 k ∧ Hid (Below w6.heap.size w6 wr)) (fun i _ => m.live.length - (intOf i).toNat)
    case atStart => exact ⟨0, Nat.zero_le _, rfl, Lib.hid (Below.refl _ _)⟩
    case round =>
      obtain ⟨k, hk, rfl, HB⟩ := hrel
      by_cases hlt : k < m.live.length
      · have HG1 := Lib.hid (fun W (hb : Below w6.heap.size w6 W) => show W.rangeAt g1 (k * 5) (shAt m.live k).cells from fun j v hj => by
          have hj5 : j < 5 := by have := (List.getElem?_eq_some_iff.1 hj).1; rw [Sh.cells_len] at this; exact this
          rw [row_sh (HR1.out.below hb) hlt j hj5]; exact hj)
        have HG2 := Lib.hid (fun W (hb : Below w6.heap.size w6 W) => show W.rangeAt g2 (k * 5) (shAt m.live k).cells from fun j v hj => by
          have hj5 : j < 5 := by have := (List.getElem?_eq_some_iff.1 hj).1; rw [Sh.cells_len] at this; exact this
          rw [row_sh (HR2.out.below hb) hlt j hj5]; exact hj)
        generalize shAt m.live k = x at *
        obtain ⟨sid, server, since, slo, shi⟩ := x
        unfold Sh.cells at HG1 HG2
        dsimp only at HG1 HG2
        go_wp2_with fail
        refine wp_region_class ((Below w6.heap.size w6)) (by kernel_rfl) (by kernel_rfl) (tame_drewN HB.out 1) ?_
        refine wq_val (.slice (some ⟨g1, 0, none⟩) m.live.length c1) (by kernel_rfl) (fun W hW => by kernel_rfl) ?_
        refine wq_val (.int .i64 ((k : Nat) : Int)) (by kernel_rfl) (fun W hW => by kernel_rfl) ?_
        refine wq_val (.pointer (some ⟨g1, k * 5, none⟩)) (by kernel_rfl) (fun W hW => run_eqv (run_idx 48 (Operand.tmp 59) (Operand.tmp 60) rfl g1 0 m.live.length c1 k 54 5 (by kernel_rfl) (by kernel_rfl) (by omega) Tryz.underlying48 (by kernel_rfl)) (by rw [Nat.zero_add])) ?_
        refine wq_val (.agg #[.int .i64 sid, .int .i64 server, .int .i64 since, .string slo, .string shi]) (by kernel_rfl) (fun W hW => run_eqv (run_loadN 54 (Operand.tmp 61) rfl g1 (k * 5) (by kernel_rfl) [.int .i64 sid, .int .i64 server, .int .i64 since, .string slo, .string shi] (HG1.out W hW) _ Tryz.underlying54 rfl (by kernel_rfl)) rfl) ?_
        refine wq_val (.slice (some ⟨g2, 0, none⟩) m.live.length c2) (by kernel_rfl) (fun W hW => by kernel_rfl) ?_
        refine wq_val (.int .i64 ((k : Nat) : Int)) (by kernel_rfl) (fun W hW => by kernel_rfl) ?_
        refine wq_val (.pointer (some ⟨g2, k * 5, none⟩)) (by kernel_rfl) (fun W hW => run_eqv (run_idx 48 (Operand.tmp 63) (Operand.tmp 64) rfl g2 0 m.live.length c2 k 54 5 (by kernel_rfl) (by kernel_rfl) (by omega) Tryz.underlying48 (by kernel_rfl)) (by rw [Nat.zero_add])) ?_
        refine wq_val (.agg #[.int .i64 sid, .int .i64 server, .int .i64 since, .string slo, .string shi]) (by kernel_rfl) (fun W hW => run_eqv (run_loadN 54 (Operand.tmp 65) rfl g2 (k * 5) (by kernel_rfl) [.int .i64 sid, .int .i64 server, .int .i64 since, .string slo, .string shi] (HG2.out W hW) _ Tryz.underlying54 rfl (by kernel_rfl)) rfl) ?_
        refine wq_val (.bool false) (by kernel_rfl) (fun W hW => run_shneq (.tmp 62) (.tmp 66) rfl sid server since slo shi (by kernel_rfl) (by kernel_rfl)) ?_
        refine quiet_end rfl (Lib.hid ?_)
        refine Lib.hid ?_
        intro w7 hW
        have HB7 := Lib.hid hW
        clear hW
        dsimp only [Exit.then, Act.put]
        simp only [List.setIfInBounds_toArray, List.set_cons_succ, List.set_cons_zero]
        go_wp2_with fail
        go_roundw
        case rel => exact ⟨k + 1, by omega, by go_num, HB7⟩
        case measure => simp [intOf]; omega
      · obtain rfl : k = m.live.length := by omega
        rcases HVE.out with ⟨a, hva⟩ | hva
        · subst hva
          have S7 := Lib.hid (S6.out.next HB.out)
          clear HOW HOW6 HVE
          go_wp2_with fail
          go_ret
          exact ⟨rfl, S7.out.bel⟩
        · subst hva
          obtain ⟨-, rfl, hc0⟩ := HOW.out rfl
          have HOC := Lib.hid ((HOW6.out rfl).below HB.out)
          have SC := Lib.hid (S6.out.next HB.out)
          have HMC := Lib.hid (HM6.out.below HB.out)
          have hgood : rightB l = true ∧ 1 ≤ s ∧ s ≤ 4 := by
            rcases HC.out with h | h | ⟨-, h1, h2, h3, -⟩
            · omega
            · omega
            · exact ⟨h1, h2, h3⟩
          obtain ⟨hrb, hs1, hs4⟩ := hgood
          have hsn2 : (sn : Int) = s := by omega
          have HRB := Lib.hid hrb
          have HNO := Lib.hid (rightB_num hrb)
          have HSN := Lib.hid hsn2
          have HCS := Lib.hid (show checkN l s 1 = 0 by unfold checkN; rw [if_neg (by rw [hrb]; decide), if_neg (by omega), if_neg (by omega), if_neg (by decide)])
          have hol : out.length ≤ 24 := by have := HPN.out; simpa using this
          have hsl : 1 ≤ sn ∧ sn ≤ 4 := by omega
          have HSF := Lib.hid (fun k (hk : k < out.length) (hn : nextP (stepAt m out k) l sn most = some (out.getD k EN.zero)) => step_facts (k := k) (step_inv HMI.out out k) hrb hsl (by omega) hn)
          have HMV := Lib.hid (fun k (hk : k < out.length) i (hn : nextP (stepAt m out k) l sn most = some (out.getD k EN.zero)) (h2 : (out.getD k EN.zero).kind = 2) (hf : findN (out.getD k EN.zero).shard (stepAt m out k).live = some i) hsv => move_evens (t := ((k : Nat) : Int)) (step_inv HMI.out out k) (step_ok HMO.out out k).srv hrb hsl ⟨by omega, by omega⟩ hn h2 hf hsv)
          have HSO := Lib.hid (fun k => step_ok HMO.out out k)
          clear hc0 hrb HOW HOW6 HVE HC HPN HB HR1 HR2 hsn hsn2
          generalize wr = wc at *
          go_wp2_with fail
          refine (copy_any b w2.heap.size m wc HMC.out).mono ?_
          rintro e w8 ⟨b3, rfl, hm8, hb8⟩
          have S8 := Lib.hid (show CW wc b3 (stepAt m out 0) w8 from ⟨hb8, hm8⟩)
          clear hm8 hb8
          go_wp2_with fail
          go_loopw [75] (fun i wr => ∃ k : Nat, k ≤ out.length ∧ i = .int .i64 k ∧ Hid (CW wc b3 (stepAt m out k) wr)) (fun i _ => out.length - (intOf i).toNat)
          case atStart => exact ⟨0, Nat.zero_le _, rfl, S8⟩
          case round =>
            obtain ⟨k, hk, rfl, HB⟩ := hrel
            by_cases hlt : k < out.length
            · have hnx := HPS.out k hlt
              obtain ⟨hct, hap, i, hfi, hil⟩ := HSF.out k hlt hnx
              have HMK := Lib.hid (HMV.out k hlt i hnx)
              have HPE := Lib.hid (next_plain HK.out hnx)
              have HOK := Lib.hid ((HSO.out k).mono (show 1 + acs.length + k ≤ 9000 by omega))
              have HOK2 := Lib.hid ((HSO.out (k + 1)).mono (show 1 + acs.length + (k + 1) ≤ 9000 by omega))
              have HNK := Lib.hid (stepAt_succ m out k)
              obtain ⟨b', o', rfl, hc⟩ := row_flat EN.cells 12 (by decide) EN.cells_len (HOC.out.below HB.out.bel) k hlt
              have hge : out.getD k EN.zero = out[k] := by rw [List.getD_eq_getElem?_getD, List.getElem?_eq_getElem hlt]; rfl
              rw [hge] at hct hap hfi HMK HPE HNK
              have HRG := Lib.hid (show wr.rangeAt b' (o' + k * 12) (EN.cells out[k]) from fun j v hj => by
                have hj5 : j < 12 := by have := (List.getElem?_eq_some_iff.1 hj).1; rw [EN.cells_len] at this; exact this
                rw [hc j hj5]; exact hj)
              have HSI := Lib.hid (show (Tryz.prog.info? 44).map (·.size) = some (EN.cells out[k]).length by rw [EN.cells_len]; kernel_rfl)
              have HZ1 := Lib.hid (Blk.new wr 44 zeroEn)
              unfold zeroEn at HZ1
              have HCT := Lib.hid hct
              have HAP := Lib.hid hap
              have HFI := Lib.hid hfi
              have hk24 : k ≤ 24 := by omega
              clear hc hnx hct hap hfi hge
              generalize hq2 : stepAt m out (k + 1) = mk2 at *
              have HQ2 := Lib.hid hq2
              clear hq2
              generalize stepAt m out k = mk at *
              generalize out[k] = en at *
              have HSV1 := Lib.hid (HOK.out.srv _ (shAt_mem hil))
              have HSHE := Lib.hid (show (mk.live[i]).cells.toArray = (shAt mk.live i).cells.toArray by rw [shAt_eq hil])
              obtain ⟨kd, sh, ot, sv, cl, sq, eo, no, co, ky, up, pt, ps, ad, nd, cd⟩ := en
              unfold EN.cells at HRG HSI
              dsimp only at HRG HSI HMK HFI
              go_wp2_with (first | (refine wpList_load_mid rfl 44 (.tmp 78) rfl b' (o' + k * 12) rfl _ _ HRG.out Tryz.underlying44 rfl HSI.out ?_) | (refine wpList_store_blk rfl 44 (.tmp 17) (.tmp 79) rfl wr.heap.size #[.int .i64 kd, .int .i64 sh, .int .i64 ot, .int .i64 sv, .int .i64 cl, .int .i64 sq, .slice eo no co, .string ky, .int .i64 up, .int .i64 pt, .int .i64 ps, .slice ad nd cd] rfl rfl 44 _ HZ1.out rfl (by kernel_rfl) (by kernel_rfl) ?_))
              refine Lib.hid ?_
              intro w10 hz ho
              have T10 := Lib.hid (HB.out.next ((below_alloc wr _).trans (ho.to_below (B := wr.heap.size) (by simp) (fun q hq e => by omega))))
              have E10 := Lib.hid hz
              have d1 : w10.cell? ⟨wr.heap.size, 1, none⟩ = some (.int .i64 sh) := hz.cell 1
              have HQW : Hid (wc.heap.size ≤ wr.heap.size) := Lib.hid HB.out.bel.size
              clear hz ho HZ1 HRG HB
              go_wp2_with fail
              refine (shardOf_any b3 wc.heap.size mk sh w10 T10.out.mp).mono ?_
              rintro e w11 ⟨hso, hb11⟩
              rw [HFI.out] at hso
              have hso2 := hso hil
              rw [HSHE.out] at hso2
              subst hso2
              have T11 := Lib.hid (T10.out.next hb11)
              have E11 := Lib.hid (E10.out.below hb11 E10.out.lt)
              have HZ2 := Lib.hid (Blk.new w11 54 #[.int .i64 0, .int .i64 0, .int .i64 0, .string ⟨#[]⟩, .string ⟨#[]⟩])
              clear hso hb11 T10 E10 d1 HSHE
              generalize shAt mk.live i = x at *
              obtain ⟨sid, server, since, slo, shi⟩ := x
              dsimp only at HSV1 HMK
              unfold Sh.cells
              dsimp only
              go_wp2_with (refine wpList_store_blk rfl 54 (.tmp 18) (.tmp 85) rfl w11.heap.size #[.int .i64 sid, .int .i64 server, .int .i64 since, .string slo, .string shi] rfl rfl 54 _ HZ2.out rfl (by kernel_rfl) (by kernel_rfl) ?_)
              refine Lib.hid ?_
              intro w12 hz ho
              have B12 := Lib.hid ((below_alloc w11 (.cells #[.int .i64 0, .int .i64 0, .int .i64 0, .string ⟨#[]⟩, .string ⟨#[]⟩] 54)).trans (ho.to_below (B := w11.heap.size) (by simp) (fun q hq e => by omega)))
              have T12 := Lib.hid (T11.out.next B12.out)
              have E12 := Lib.hid (E11.out.below B12.out E11.out.lt)
              have X12 := Lib.hid hz
              have K12 := Lib.hid (SC.out.next T12.out.bel)
              have c0 : w12.cell? ⟨w.heap.size, 0, none⟩ = some (.int .i64 s) := K12.out.box.cell 0
              clear hz ho HZ2 E11
              go_wp2_with fail
              refine (bservers_any ea b3 wc.heap.size mk l lo lc s w12 T12.out.mp (by omega) K12.out.row K12.out.err HK.out HOK.out.srv).mono ?_
              rintro e w13 ⟨hsr, hb13⟩
              unfold ServersR at hsr
              rw [if_pos HCS.out] at hsr
              obtain ⟨v5, rfl, h5⟩ := hsr
              have hsn3 : s.toNat = sn := by have := HSN.out; omega
              rw [hsn3] at h5
              obtain ⟨g5, c5, rfl, hg5, -, -, hr5⟩ := own_some h5 hsl.1
              have T13 := Lib.hid (T12.out.next hb13)
              have E13 := Lib.hid (E12.out.below hb13 E12.out.lt)
              have X13 := Lib.hid (X12.out.below hb13 X12.out.lt)
              have O13 := Lib.hid h5
              have B13 := Lib.hid (B12.out.trans (hb13.mono B12.out.size))
              clear hb13 h5 hr5 c0 E12 X12 T12 B12 K12
              go_wp2_with (refine wpList_load_hidW (by kernel_rfl) 44 (.tmp 17) rfl wr.heap.size rfl 44 #[.int .i64 kd, .int .i64 sh, .int .i64 ot, .int .i64 sv, .int .i64 cl, .int .i64 sq, .slice eo no co, .string ky, .int .i64 up, .int .i64 pt, .int .i64 ps, .slice ad nd cd] E13.out _ Tryz.underlying44 rfl (by kernel_rfl) ?_)
              refine Lib.hid ?_
              go_wp2_with fail
              refine (counts_any ea b3 wc.heap.size mk ⟨kd, sh, ot, sv, cl, sq, eo, no, co, ky, up, pt, ps, ad, nd, cd⟩ w13 T13.out.mp (SC.out.next T13.out.bel).err (EN.zero_at _ HPE.out.1 HPE.out.2.1 HPE.out.2.2.1 HPE.out.2.2.2 w13)).mono ?_
              rintro e w14 ⟨rfl, hb14⟩
              rw [HCT.out]
              have T14 := Lib.hid (T13.out.next hb14)
              have E14 := Lib.hid (E13.out.below hb14 E13.out.lt)
              have X14 := Lib.hid (X13.out.below hb14 X13.out.lt)
              have O14 := Lib.hid (own_below O13.out hb14)
              have B14 := Lib.hid (B13.out.trans (hb14.mono B13.out.size))
              clear hb14 E13 X13 O13 T13 B13
              go_wp2_with (refine wpList_load_hidW (by kernel_rfl) 44 (.tmp 17) rfl wr.heap.size rfl 44 #[.int .i64 kd, .int .i64 sh, .int .i64 ot, .int .i64 sv, .int .i64 cl, .int .i64 sq, .slice eo no co, .string ky, .int .i64 up, .int .i64 pt, .int .i64 ps, .slice ad nd cd] E14.out _ Tryz.underlying44 rfl (by kernel_rfl) ?_)
              refine Lib.hid ?_
              go_wp2_with fail
              refine (apply_anyO ea b3 wc.heap.size mk ⟨kd, sh, ot, sv, cl, sq, eo, no, co, ky, up, pt, ps, ad, nd, cd⟩ (k : Nat) w14 T14.out.mp (SC.out.next T14.out.bel).err (EN.zero_at _ HPE.out.1 HPE.out.2.1 HPE.out.2.2.1 HPE.out.2.2.2 w14) (fun n => Nat.lt_of_lt_of_le (HEA.out n) SC.out.bel.size) HOK.out.live HOK.out.evs T14.out.bel.size).mono ?_
              rintro e w15 ⟨rfl, hm15, hc15, ho15⟩
              rw [HAP.out]
              rw [← HNK.out] at hm15
              have T15 := Lib.hid (show CW wc b3 mk2 w15 from ⟨T14.out.bel.trans (hc15.below T14.out.bel.size), hm15⟩)
              have E15 := Lib.hid (E14.out.chg hc15 (.inr (by unfold PT; decide)))
              have X15 := Lib.hid (X14.out.only ho15 (not_mset T11.out.mp B14.out (Nat.le_refl _)))
              have O15 := Lib.hid (own_chg O14.out hc15 (by unfold PT; decide))
              have K15 := Lib.hid (SC.out.next T15.out.bel)
              have c0 : w15.cell? ⟨w.heap.size, 0, none⟩ = some (.int .i64 s) := K15.out.box.cell 0
              clear hm15 hc15 ho15 E14 X14 O14 T14 B14 T11
              go_wp2_with fail
              refine (bservers_any ea b3 wc.heap.size mk2 l lo lc s w15 T15.out.mp (by omega) K15.out.row K15.out.err HK.out HOK2.out.srv).mono ?_
              rintro e w16 ⟨hsr, hb16⟩
              unfold ServersR at hsr
              rw [if_pos HCS.out, hsn3] at hsr
              obtain ⟨v6, rfl, h6⟩ := hsr
              obtain ⟨g6, c6, rfl, -, -, -, hr6⟩ := own_some h6 hsl.1
              have T16 := Lib.hid (T15.out.next hb16)
              have E16 := Lib.hid (E15.out.below hb16 E15.out.lt)
              have X16 := Lib.hid (X15.out.below hb16 X15.out.lt)
              have R5 := Lib.hid (own_row1 (own_below O15.out hb16))
              have R6 := Lib.hid hr6
              have K16 := Lib.hid (SC.out.next T16.out.bel)
              obtain ⟨hg, rfl⟩ : ∃ hg : Nat, server = (hg : Int) + 1 := ⟨(server - 1).toNat, by have := HSV1.out; omega⟩
              have hgs : hg ≤ 9223372036854775806 ∨ True := .inr trivial
              clear hb16 h6 hr6 c0 E15 X15 O15 K15 T15 hgs hsn3
              by_cases hk2 : kd = 2
              · have HK2 := Lib.hid (show (kd == 2) = true by simp [hk2])
                by_cases hle : (hg : Int) + 1 ≤ s
                · have HLE := Lib.hid (decide_eq_true hle)
                  obtain ⟨hmax, hv1, hv2⟩ := HMK.out hk2 HFI.out (by have := HSN.out; omega)
                  obtain ⟨lw, rfl⟩ : ∃ lw : Nat, sv = (lw : Int) + 1 := ⟨(sv - 1).toNat, by omega⟩
                  rw [show ((hg : Int) + 1 - 1).toNat = hg by omega, show ((lw : Int) + 1 - 1).toNat = lw by omega, ← HNK.out] at hmax
                  have hhs : hg < sn := by have := HSN.out; omega
                  have hls : lw < sn := by have := HSN.out; omega
                  have K5h := Lib.hid (fun W (hb : Below w16.heap.size w16 W) => zRow_cell (R5.out.below hb) (i := hg) (by rw [srvP_len]; exact hhs))
                  have K5l := Lib.hid (fun W (hb : Below w16.heap.size w16 W) => zRow_cell (R5.out.below hb) (i := lw) (by rw [srvP_len]; exact hls))
                  have K6h := Lib.hid (fun W (hb : Below w16.heap.size w16 W) => zRow_cell (R6.out.below hb) (i := hg) (by rw [srvP_len]; exact hhs))
                  have K6l := Lib.hid (fun W (hb : Below w16.heap.size w16 W) => zRow_cell (R6.out.below hb) (i := lw) (by rw [srvP_len]; exact hls))
                  simp only [Nat.zero_add] at K5h K5l K6h K6l
                  generalize (srvP sn (loadsP mk.live l)).getD hg 0 = bh at *
                  generalize (srvP sn (loadsP mk.live l)).getD lw 0 = bl at *
                  generalize (srvP sn (loadsP mk2.live l)).getD hg 0 = ah at *
                  generalize (srvP sn (loadsP mk2.live l)).getD lw 0 = al at *
                  have HMX := Lib.hid (show decide (max bh bl ≤ max ah al) = false from decide_eq_false (by omega))
                  clear hmax hv1 hv2 hle hk2
                  go_wp2_with fail
                  refine wp_region_class ((Below w16.heap.size w16)) (by kernel_rfl) (by kernel_rfl) (tame_drewN (Below.refl _ w16) 1) ?_
                  refine wq_val (.pointer (some ⟨wr.heap.size, 0, none⟩)) (by kernel_rfl) (fun W hW => by kernel_rfl) ?_
                  refine wq_val (.int .i64 kd) (by kernel_rfl) (fun W hW => run_load1 3 (Operand.tmp 124) rfl ⟨wr.heap.size, 0, none⟩ (by kernel_rfl) (.int .i64 kd) ((E16.out.below hW E16.out.lt).cell 0) _ Tryz.underlying3 rfl) ?_
                  refine wq_val (.bool true) (by kernel_rfl) (fun W hW => run_eqv (v := .bool (kd == 2)) (by kernel_rfl) ((by rw [HK2.out]))) ?_
                  refine wq_val (.bool true) (by kernel_rfl) (fun W hW => by kernel_rfl) ?_
                  refine wq_val (.pointer (some ⟨w11.heap.size, 1, none⟩)) (by kernel_rfl) (fun W hW => by kernel_rfl) ?_
                  refine wq_val (.int .i64 ((hg : Int) + 1)) (by kernel_rfl) (fun W hW => run_load1 3 (Operand.tmp 128) rfl ⟨w11.heap.size, 1, none⟩ (by kernel_rfl) (.int .i64 ((hg : Int) + 1)) ((X16.out.below hW X16.out.lt).cell 1) _ Tryz.underlying3 rfl) ?_
                  refine wq_val (.pointer (some ⟨w.heap.size, 0, none⟩)) (by kernel_rfl) (fun W hW => by kernel_rfl) ?_
                  refine wq_val (.int .i64 s) (by kernel_rfl) (fun W hW => run_load1 3 (Operand.tmp 130) rfl ⟨w.heap.size, 0, none⟩ (by kernel_rfl) (.int .i64 s) ((K16.out.next hW).box.cell 0) _ Tryz.underlying3 rfl) ?_
                  refine wq_val (.bool true) (by kernel_rfl) (fun W hW => run_eqv (v := .bool (decide ((hg : Int) + 1 ≤ s))) (by kernel_rfl) ((by rw [HLE.out]))) ?_
                  refine wq_val (.bool true) (by kernel_rfl) (fun W hW => by kernel_rfl) ?_
                  refine wq_val (.bool true) (by kernel_rfl) (fun W hW => by kernel_rfl) ?_
                  refine wq_val (.slice (some ⟨g6, 0, none⟩) sn c6) (by kernel_rfl) (fun W hW => by kernel_rfl) ?_
                  refine wq_val (.pointer (some ⟨w11.heap.size, 1, none⟩)) (by kernel_rfl) (fun W hW => by kernel_rfl) ?_
                  refine wq_val (.int .i64 ((hg : Int) + 1)) (by kernel_rfl) (fun W hW => run_load1 3 (Operand.tmp 136) rfl ⟨w11.heap.size, 1, none⟩ (by kernel_rfl) (.int .i64 ((hg : Int) + 1)) ((X16.out.below hW X16.out.lt).cell 1) _ Tryz.underlying3 rfl) ?_
                  refine wq_val (.int .i64 ((hg : Nat) : Int)) (by kernel_rfl) (fun W hW => run_eqv (v := .int .i64 (IntKind.i64.wrap (((hg : Int) + 1) - 1))) (by kernel_rfl) (wrap_nat _ hg (by omega) (by omega))) ?_
                  refine wq_val (.pointer (some ⟨g6, hg * 1, none⟩)) (by kernel_rfl) (fun W hW => run_eqv (run_idx 37 (Operand.tmp 135) (Operand.tmp 138) rfl g6 0 sn c6 hg 3 1 (by kernel_rfl) (by kernel_rfl) (by omega) Tryz.underlying37 (by kernel_rfl)) (by rw [Nat.zero_add])) ?_
                  refine wq_val (.int .i64 ah) (by kernel_rfl) (fun W hW => run_load1 3 (Operand.tmp 139) rfl ⟨g6, hg * 1, none⟩ (by kernel_rfl) (.int .i64 ah) ((by rw [Nat.mul_one]; exact K6h.out W hW)) _ Tryz.underlying3 rfl) ?_
                  refine wq_val (.slice (some ⟨g6, 0, none⟩) sn c6) (by kernel_rfl) (fun W hW => by kernel_rfl) ?_
                  refine wq_val (.pointer (some ⟨wr.heap.size, 3, none⟩)) (by kernel_rfl) (fun W hW => by kernel_rfl) ?_
                  refine wq_val (.int .i64 ((lw : Int) + 1)) (by kernel_rfl) (fun W hW => run_load1 3 (Operand.tmp 142) rfl ⟨wr.heap.size, 3, none⟩ (by kernel_rfl) (.int .i64 ((lw : Int) + 1)) ((E16.out.below hW E16.out.lt).cell 3) _ Tryz.underlying3 rfl) ?_
                  refine wq_val (.int .i64 ((lw : Nat) : Int)) (by kernel_rfl) (fun W hW => run_eqv (v := .int .i64 (IntKind.i64.wrap (((lw : Int) + 1) - 1))) (by kernel_rfl) (wrap_nat _ lw (by omega) (by omega))) ?_
                  refine wq_val (.pointer (some ⟨g6, lw * 1, none⟩)) (by kernel_rfl) (fun W hW => run_eqv (run_idx 37 (Operand.tmp 141) (Operand.tmp 144) rfl g6 0 sn c6 lw 3 1 (by kernel_rfl) (by kernel_rfl) (by omega) Tryz.underlying37 (by kernel_rfl)) (by rw [Nat.zero_add])) ?_
                  refine wq_val (.int .i64 al) (by kernel_rfl) (fun W hW => run_load1 3 (Operand.tmp 145) rfl ⟨g6, lw * 1, none⟩ (by kernel_rfl) (.int .i64 al) ((by rw [Nat.mul_one]; exact K6l.out W hW)) _ Tryz.underlying3 rfl) ?_
                  refine wq_val (.int .i64 (max ah al)) (by kernel_rfl) (fun W hW => run_max2 (.tmp 140) (.tmp 146) 3 rfl ah al (by kernel_rfl) (by kernel_rfl) _ rfl) ?_
                  refine wq_val (.slice (some ⟨g5, 0, none⟩) sn c5) (by kernel_rfl) (fun W hW => by kernel_rfl) ?_
                  refine wq_val (.pointer (some ⟨w11.heap.size, 1, none⟩)) (by kernel_rfl) (fun W hW => by kernel_rfl) ?_
                  refine wq_val (.int .i64 ((hg : Int) + 1)) (by kernel_rfl) (fun W hW => run_load1 3 (Operand.tmp 149) rfl ⟨w11.heap.size, 1, none⟩ (by kernel_rfl) (.int .i64 ((hg : Int) + 1)) ((X16.out.below hW X16.out.lt).cell 1) _ Tryz.underlying3 rfl) ?_
                  refine wq_val (.int .i64 ((hg : Nat) : Int)) (by kernel_rfl) (fun W hW => run_eqv (v := .int .i64 (IntKind.i64.wrap (((hg : Int) + 1) - 1))) (by kernel_rfl) (wrap_nat _ hg (by omega) (by omega))) ?_
                  refine wq_val (.pointer (some ⟨g5, hg * 1, none⟩)) (by kernel_rfl) (fun W hW => run_eqv (run_idx 37 (Operand.tmp 148) (Operand.tmp 151) rfl g5 0 sn c5 hg 3 1 (by kernel_rfl) (by kernel_rfl) (by omega) Tryz.underlying37 (by kernel_rfl)) (by rw [Nat.zero_add])) ?_
                  refine wq_val (.int .i64 bh) (by kernel_rfl) (fun W hW => run_load1 3 (Operand.tmp 152) rfl ⟨g5, hg * 1, none⟩ (by kernel_rfl) (.int .i64 bh) ((by rw [Nat.mul_one]; exact K5h.out W hW)) _ Tryz.underlying3 rfl) ?_
                  refine wq_val (.slice (some ⟨g5, 0, none⟩) sn c5) (by kernel_rfl) (fun W hW => by kernel_rfl) ?_
                  refine wq_val (.pointer (some ⟨wr.heap.size, 3, none⟩)) (by kernel_rfl) (fun W hW => by kernel_rfl) ?_
                  refine wq_val (.int .i64 ((lw : Int) + 1)) (by kernel_rfl) (fun W hW => run_load1 3 (Operand.tmp 155) rfl ⟨wr.heap.size, 3, none⟩ (by kernel_rfl) (.int .i64 ((lw : Int) + 1)) ((E16.out.below hW E16.out.lt).cell 3) _ Tryz.underlying3 rfl) ?_
                  refine wq_val (.int .i64 ((lw : Nat) : Int)) (by kernel_rfl) (fun W hW => run_eqv (v := .int .i64 (IntKind.i64.wrap (((lw : Int) + 1) - 1))) (by kernel_rfl) (wrap_nat _ lw (by omega) (by omega))) ?_
                  refine wq_val (.pointer (some ⟨g5, lw * 1, none⟩)) (by kernel_rfl) (fun W hW => run_eqv (run_idx 37 (Operand.tmp 154) (Operand.tmp 157) rfl g5 0 sn c5 lw 3 1 (by kernel_rfl) (by kernel_rfl) (by omega) Tryz.underlying37 (by kernel_rfl)) (by rw [Nat.zero_add])) ?_
                  refine wq_val (.int .i64 bl) (by kernel_rfl) (fun W hW => run_load1 3 (Operand.tmp 158) rfl ⟨g5, lw * 1, none⟩ (by kernel_rfl) (.int .i64 bl) ((by rw [Nat.mul_one]; exact K5l.out W hW)) _ Tryz.underlying3 rfl) ?_
                  refine wq_val (.int .i64 (max bh bl)) (by kernel_rfl) (fun W hW => run_max2 (.tmp 153) (.tmp 159) 3 rfl bh bl (by kernel_rfl) (by kernel_rfl) _ rfl) ?_
                  refine wq_val (.bool false) (by kernel_rfl) (fun W hW => run_eqv (v := .bool (decide (max bh bl ≤ max ah al))) (by kernel_rfl) ((by rw [HMX.out]))) ?_
                  refine wq_val (.bool false) (by kernel_rfl) (fun W hW => by kernel_rfl) ?_
                  refine quiet_end rfl (Lib.hid ?_)
                  refine Lib.hid ?_
                  intro w17 hW
                  have T17 := Lib.hid (T16.out.next hW)
                  clear hW
                  dsimp only [Exit.then, Act.put]
                  simp only [List.setIfInBounds_toArray, List.set_cons_succ, List.set_cons_zero]
                  go_wp2_with fail
                  go_roundw
                  case rel => exact ⟨k + 1, by omega, by go_num, by rw [HQ2.out]; exact T17⟩
                  case measure => simp [intOf]; omega
                · have HLE := Lib.hid (decide_eq_false hle)
                  clear hle hk2 HMK
                  go_wp2_with fail
                  refine wp_region_class ((Below w16.heap.size w16)) (by kernel_rfl) (by kernel_rfl) (tame_drewN (Below.refl _ w16) 1) ?_
                  refine wq_val (.pointer (some ⟨wr.heap.size, 0, none⟩)) (by kernel_rfl) (fun W hW => by kernel_rfl) ?_
                  refine wq_val (.int .i64 kd) (by kernel_rfl) (fun W hW => run_load1 3 (Operand.tmp 124) rfl ⟨wr.heap.size, 0, none⟩ (by kernel_rfl) (.int .i64 kd) ((E16.out.below hW E16.out.lt).cell 0) _ Tryz.underlying3 rfl) ?_
                  refine wq_val (.bool true) (by kernel_rfl) (fun W hW => run_eqv (v := .bool (kd == 2)) (by kernel_rfl) ((by rw [HK2.out]))) ?_
                  refine wq_val (.bool true) (by kernel_rfl) (fun W hW => by kernel_rfl) ?_
                  refine wq_val (.pointer (some ⟨w11.heap.size, 1, none⟩)) (by kernel_rfl) (fun W hW => by kernel_rfl) ?_
                  refine wq_val (.int .i64 ((hg : Int) + 1)) (by kernel_rfl) (fun W hW => run_load1 3 (Operand.tmp 128) rfl ⟨w11.heap.size, 1, none⟩ (by kernel_rfl) (.int .i64 ((hg : Int) + 1)) ((X16.out.below hW X16.out.lt).cell 1) _ Tryz.underlying3 rfl) ?_
                  refine wq_val (.pointer (some ⟨w.heap.size, 0, none⟩)) (by kernel_rfl) (fun W hW => by kernel_rfl) ?_
                  refine wq_val (.int .i64 s) (by kernel_rfl) (fun W hW => run_load1 3 (Operand.tmp 130) rfl ⟨w.heap.size, 0, none⟩ (by kernel_rfl) (.int .i64 s) ((K16.out.next hW).box.cell 0) _ Tryz.underlying3 rfl) ?_
                  refine wq_val (.bool false) (by kernel_rfl) (fun W hW => run_eqv (v := .bool (decide ((hg : Int) + 1 ≤ s))) (by kernel_rfl) ((by rw [HLE.out]))) ?_
                  refine wq_val (.bool false) (by kernel_rfl) (fun W hW => by kernel_rfl) ?_
                  refine wq_val (.bool false) (by kernel_rfl) (fun W hW => by kernel_rfl) ?_
                  refine wq_no (by kernel_rfl) ?_
                  refine wq_no (by kernel_rfl) ?_
                  refine wq_no (by kernel_rfl) ?_
                  refine wq_no (by kernel_rfl) ?_
                  refine wq_no (by kernel_rfl) ?_
                  refine wq_no (by kernel_rfl) ?_
                  refine wq_no (by kernel_rfl) ?_
                  refine wq_no (by kernel_rfl) ?_
                  refine wq_no (by kernel_rfl) ?_
                  refine wq_no (by kernel_rfl) ?_
                  refine wq_no (by kernel_rfl) ?_
                  refine wq_no (by kernel_rfl) ?_
                  refine wq_no (by kernel_rfl) ?_
                  refine wq_no (by kernel_rfl) ?_
                  refine wq_no (by kernel_rfl) ?_
                  refine wq_no (by kernel_rfl) ?_
                  refine wq_no (by kernel_rfl) ?_
                  refine wq_no (by kernel_rfl) ?_
                  refine wq_no (by kernel_rfl) ?_
                  refine wq_no (by kernel_rfl) ?_
                  refine wq_no (by kernel_rfl) ?_
                  refine wq_no (by kernel_rfl) ?_
                  refine wq_no (by kernel_rfl) ?_
                  refine wq_no (by kernel_rfl) ?_
                  refine wq_no (by kernel_rfl) ?_
                  refine wq_no (by kernel_rfl) ?_
                  refine wq_no (by kernel_rfl) ?_
                  refine wq_val (.bool false) (by kernel_rfl) (fun W hW => by kernel_rfl) ?_
                  refine quiet_end rfl (Lib.hid ?_)
                  refine Lib.hid ?_
                  intro w17 hW
                  have T17 := Lib.hid (T16.out.next hW)
                  clear hW
                  dsimp only [Exit.then, Act.put]
                  simp only [List.setIfInBounds_toArray, List.set_cons_succ, List.set_cons_zero]
                  go_wp2_with fail
                  go_roundw
                  case rel => exact ⟨k + 1, by omega, by go_num, by rw [HQ2.out]; exact T17⟩
                  case measure => simp [intOf]; omega
              · have HK2 := Lib.hid (show (kd == 2) = false by simp [hk2])
                clear hk2 HMK
                go_wp2_with fail
                refine wp_region_class ((Below w16.heap.size w16)) (by kernel_rfl) (by kernel_rfl) (tame_drewN (Below.refl _ w16) 1) ?_
                refine wq_val (.pointer (some ⟨wr.heap.size, 0, none⟩)) (by kernel_rfl) (fun W hW => by kernel_rfl) ?_
                refine wq_val (.int .i64 kd) (by kernel_rfl) (fun W hW => run_load1 3 (Operand.tmp 124) rfl ⟨wr.heap.size, 0, none⟩ (by kernel_rfl) (.int .i64 kd) ((E16.out.below hW E16.out.lt).cell 0) _ Tryz.underlying3 rfl) ?_
                refine wq_val (.bool false) (by kernel_rfl) (fun W hW => run_eqv (v := .bool (kd == 2)) (by kernel_rfl) ((by rw [HK2.out]))) ?_
                refine wq_val (.bool false) (by kernel_rfl) (fun W hW => by kernel_rfl) ?_
                refine wq_no (by kernel_rfl) ?_
                refine wq_no (by kernel_rfl) ?_
                refine wq_no (by kernel_rfl) ?_
                refine wq_no (by kernel_rfl) ?_
                refine wq_no (by kernel_rfl) ?_
                refine wq_val (.bool false) (by kernel_rfl) (fun W hW => by kernel_rfl) ?_
                refine wq_val (.bool false) (by kernel_rfl) (fun W hW => by kernel_rfl) ?_
                refine wq_no (by kernel_rfl) ?_
                refine wq_no (by kernel_rfl) ?_
                refine wq_no (by kernel_rfl) ?_
                refine wq_no (by kernel_rfl) ?_
                refine wq_no (by kernel_rfl) ?_
                refine wq_no (by kernel_rfl) ?_
                refine wq_no (by kernel_rfl) ?_
                refine wq_no (by kernel_rfl) ?_
                refine wq_no (by kernel_rfl) ?_
                refine wq_no (by kernel_rfl) ?_
                refine wq_no (by kernel_rfl) ?_
                refine wq_no (by kernel_rfl) ?_
                refine wq_no (by kernel_rfl) ?_
                refine wq_no (by kernel_rfl) ?_
                refine wq_no (by kernel_rfl) ?_
                refine wq_no (by kernel_rfl) ?_
                refine wq_no (by kernel_rfl) ?_
                refine wq_no (by kernel_rfl) ?_
                refine wq_no (by kernel_rfl) ?_
                refine wq_no (by kernel_rfl) ?_
                refine wq_no (by kernel_rfl) ?_
                refine wq_no (by kernel_rfl) ?_
                refine wq_no (by kernel_rfl) ?_
                refine wq_no (by kernel_rfl) ?_
                refine wq_no (by kernel_rfl) ?_
                refine wq_no (by kernel_rfl) ?_
                refine wq_no (by kernel_rfl) ?_
                refine wq_val (.bool false) (by kernel_rfl) (fun W hW => by kernel_rfl) ?_
                refine quiet_end rfl (Lib.hid ?_)
                refine Lib.hid ?_
                intro w17 hW
                have T17 := Lib.hid (T16.out.next hW)
                clear hW
                dsimp only [Exit.then, Act.put]
                simp only [List.setIfInBounds_toArray, List.set_cons_succ, List.set_cons_zero]
                go_wp2_with fail
                go_roundw
                case rel => exact ⟨k + 1, by omega, by go_num, by rw [HQ2.out]; exact T17⟩
                case measure => simp [intOf]; omega
            · obtain rfl : k = out.length := by omega
              have SF := Lib.hid (SC.out.next HB.out.bel)
              go_wp2_with fail
              go_ret
              exact ⟨rfl, SF.out.bel⟩
end Go.Proofs.YthjmfcdhpdiehaaGreatDoor

namespace Go.Proofs.YthjmfcdhpdiehaaGreatDoor
open Go.RowKit Go.ChangeShapes
set_option maxRecDepth 100000
set_option linter.unusedSimpArgs false
set_option linter.unusedVariables false

def mkD (x : String × List UInt8) : String × DataW Unit := (x.1, .iface "*errors.errorString" (.ptr (.agg [.lit (.string x.2)])))

/-- All errors of package api, with their texts. -/
def errL : List (String × List UInt8) := [("tidewater/api.ErrRange", [116, 105, 100, 101, 119, 97, 116, 101, 114, 58, 32, 114, 97, 110, 103, 101]), ("tidewater/api.ErrShort", [116, 105, 100, 101, 119, 97, 116, 101, 114, 58, 32, 115, 104, 111, 114, 116]), ("tidewater/api.ErrLong", [116, 105, 100, 101, 119, 97, 116, 101, 114, 58, 32, 108, 111, 110, 103]), ("tidewater/api.ErrForm", [116, 105, 100, 101, 119, 97, 116, 101, 114, 58, 32, 102, 111, 114, 109]), ("tidewater/api.ErrSum", [116, 105, 100, 101, 119, 97, 116, 101, 114, 58, 32, 115, 117, 109]), ("tidewater/api.ErrRune", [116, 105, 100, 101, 119, 97, 116, 101, 114, 58, 32, 114, 117, 110, 101]), ("tidewater/api.ErrName", [116, 105, 100, 101, 119, 97, 116, 101, 114, 58, 32, 110, 97, 109, 101]), ("tidewater/api.ErrSealed", [116, 105, 100, 101, 119, 97, 116, 101, 114, 58, 32, 115, 101, 97, 108, 101, 100]), ("tidewater/api.ErrWritten", [116, 105, 100, 101, 119, 97, 116, 101, 114, 58, 32, 119, 114, 105, 116, 116, 101, 110]), ("tidewater/api.ErrUnwritten", [116, 105, 100, 101, 119, 97, 116, 101, 114, 58, 32, 117, 110, 119, 114, 105, 116, 116, 101, 110]), ("tidewater/api.ErrTrimmed", [116, 105, 100, 101, 119, 97, 116, 101, 114, 58, 32, 116, 114, 105, 109, 109, 101, 100]), ("tidewater/api.ErrDown", [116, 105, 100, 101, 119, 97, 116, 101, 114, 58, 32, 100, 111, 119, 110]), ("tidewater/api.ErrFull", [116, 105, 100, 101, 119, 97, 116, 101, 114, 58, 32, 102, 117, 108, 108]), ("tidewater/api.ErrEpoch", [116, 105, 100, 101, 119, 97, 116, 101, 114, 58, 32, 101, 112, 111, 99, 104]), ("tidewater/api.ErrMoved", [116, 105, 100, 101, 119, 97, 116, 101, 114, 58, 32, 109, 111, 118, 101, 100]), ("tidewater/api.ErrNone", [116, 105, 100, 101, 119, 97, 116, 101, 114, 58, 32, 110, 111, 110, 101]), ("tidewater/api.ErrState", [116, 105, 100, 101, 119, 97, 116, 101, 114, 58, 32, 115, 116, 97, 116, 101]), ("tidewater/api.ErrClash", [116, 105, 100, 101, 119, 97, 116, 101, 114, 58, 32, 99, 108, 97, 115, 104]), ("tidewater/api.ErrStale", [116, 105, 100, 101, 119, 97, 116, 101, 114, 58, 32, 115, 116, 97, 108, 101])]

theorem Tryz.cellsErrStr : Tryz.prog.cellsOf 216 = 1 := by kernel_rfl
theorem Tryz.cellsStr : Tryz.prog.cellsOf 9 = 1 := by kernel_rfl
theorem Tryz.errGs : (List.range 19).all (fun i => Tryz.prog.globalNamed (errL.getD i ("", [])).1 == some (errG i)) = true := by kernel_rfl
theorem Tryz.errTs : (List.range 19).all (fun i => (Tryz.prog.globals[errG i]?).map (·.type) == some 34) = true := by kernel_rfl
theorem Tryz.star : ("*errors.errorString" : String) = "*" ++ "errors.errorString" := by decide
theorem Tryz.errName (u : TypeId) (h : Tryz.prog.typeName? 3 u = some "*errors.errorString") : u = 184 := typeName_ptr_named (nm := "errors.errorString") (by rw [← Tryz.star]; kernel_rfl) (by kernel_rfl) (by decide) u (by rw [← Tryz.star]; exact h)

theorem errL_global (i : Nat) (hi : i < 19) : Tryz.prog.globalNamed (errL.getD i ("", [])).1 = some (errG i) := by
  have := List.all_eq_true.1 Tryz.errGs i (List.mem_range.2 hi)
  exact eq_of_beq this
theorem errG_type (i : Nat) (hi : i < 19) : (Tryz.prog.globals[errG i]?).map (·.type) = some 34 := by
  have := List.all_eq_true.1 Tryz.errTs i (List.mem_range.2 hi)
  exact eq_of_beq this

end Go.Proofs.YthjmfcdhpdiehaaGreatDoor
