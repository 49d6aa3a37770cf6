/-
  The walk of the law BalanceNext. (Printed by wip/gen/wnext.py.)
-/
import Derived.Test.YthjmfcdhpdiehaaGreatDoorM30
import Derived.Test.YthjmfcdhpdiehaaGreatDoorM32
import Derived.Test.YthjmfcdhpdiehaaGreatDoorM34
import Derived.Test.YthjmfcdhpdiehaaGreatDoorM35
namespace Go.Proofs.YthjmfcdhpdiehaaGreatDoor
open Go.RowKit Utf
set_option maxRecDepth 100000
set_option linter.unusedSimpArgs false
set_option linter.unusedVariables false

theorem fields_rsh : (Tryz.prog.fieldsOf 75).toList = [⟨"ID", 3, 0, false, "", "", 0⟩, ⟨"Server", 3, 1, false, "", "", 8⟩, ⟨"Since", 3, 2, false, "", "", 16⟩, ⟨"Span", 52, 3, false, "", "", 24⟩] := by kernel_rfl
theorem equal_rsh (id server since : Int) (lo hi : ByteArray) (w : World) : (Op.equalIn 10000 75 (.agg #[.int .i64 id, .int .i64 server, .int .i64 since, .string lo, .string hi]) (.agg #[.int .i64 id, .int .i64 server, .int .i64 since, .string lo, .string hi])).run Tryz.prog w = .ok true w := by
  rw [run_equalIn_agg w 9999 _ _ _ (by kernel_rfl) (by kernel_rfl), fields_rsh]
  rw [eqF_step w _ _ _ _ (by decide) (.int .i64 id) (by kernel_rfl) (equal_int 9998 id w)]
  rw [eqF_step w _ _ _ _ (by decide) (.int .i64 server) (by kernel_rfl) (equal_int 9998 server w)]
  rw [eqF_step w _ _ _ _ (by decide) (.int .i64 since) (by kernel_rfl) (equal_int 9998 since w)]
  rw [eqF_step w _ _ _ _ (by decide) (.agg #[.string lo, .string hi]) (by kernel_rfl) (equal_sp 9997 lo hi w)]
  rfl
section
variable {o : Oper} {a : Act} {w : World}
theorem run_rshneq (x y : Operand) (ho : o.op = .binOp .neq 75 x y 75) (id server since : Int) (lo hi : ByteArray) (hx : a.eval x = .agg #[.int .i64 id, .int .i64 server, .int .i64 since, .string lo, .string hi]) (hy : a.eval y = .agg #[.int .i64 id, .int .i64 server, .int .i64 since, .string lo, .string hi]) : (execOp a.eval o).run Tryz.prog w = .ok (.value (.bool false)) w := by
  have h1 := run_neq_struct (P := Tryz.prog) w 75 #[.int .i64 id, .int .i64 server, .int .i64 since, .string lo, .string hi] #[.int .i64 id, .int .i64 server, .int .i64 since, .string lo, .string hi]
  rw [equal_rsh] at h1
  have h2 := run_eqGuard_agg (P := Tryz.prog) w .neq 75 x y #[.int .i64 id, .int .i64 server, .int .i64 since, .string lo, .string hi] #[.int .i64 id, .int .i64 server, .int .i64 since, .string lo, .string hi] (by kernel_rfl)
  unfold execOp
  simp [ho, hx, hy, h1, h2, Result.andThen]
end

/-- What stands all the while. -/
structure NW (w : World) (ea : Nat → Addr) (lo : Option Addr) (l : List LD) (s most : Int) (W : World) : Prop where
  bel : Below w.heap.size w W
  row : RowAt W lo (ldRow l)
  err : ErrsAt W ea
  box : Blk W w.heap.size 25 #[.int .i64 s, .int .i64 most]
theorem NW.next {w W W' : World} {ea : Nat → Addr} {lo : Option Addr} {l : List LD} {s most : Int} (h : NW w ea lo l s most W) (hb : Below W.heap.size W W') : NW w ea lo l s most W' :=
  ⟨h.bel.trans (hb.mono h.bel.size), h.row.below hb, h.err.below hb, h.box.below hb h.box.lt⟩
theorem NW.new {w : World} {ea : Nat → Addr} {lo : Option Addr} {l : List LD} {s most : Int} (hr : RowAt w lo (ldRow l)) (he : ErrsAt w ea) : NW w ea lo l s most (w.alloc (.cells #[.int .i64 s, .int .i64 most] 25)) :=
  ⟨below_alloc _ _, hr.below (below_alloc _ _), he.below (below_alloc _ _), Blk.new _ _ _⟩
/-- How the loop stands: the plan, its map, the reference's map, its loads, what Next gave. -/
structure NK (w2 : World) (D E b2 b' px : Nat) (oo ra : Option Addr) (oc rc : Nat) (out : List EN) (l : List LD) (to : PM) (x : EN) (rk : RM) (W : World) : Prop where
  bel : Below w2.heap.size w2 W
  rp : RMAt W w2.heap.size b2 rk
  mp : MapAt W D b' to
  got : OwnE W D 44 12 (.slice oo out.length oc) out.length (enRow out)
  lr : OwnE W E 109 2 (.slice ra l.length rc) l.length (ldRow l)
  xb : Blk W px 44 x.cells.toArray
section
variable {w2 W W' : World} {D E b2 b' px : Nat} {oo ra : Option Addr} {oc rc : Nat} {out : List EN} {l : List LD} {to : PM} {x : EN} {rk rk' : RM}
theorem NK.next (h : NK w2 D E b2 b' px oo ra oc rc out l to x rk W) (hb : Below W.heap.size W W') : NK w2 D E b2 b' px oo ra oc rc out l to x rk W' :=
  ⟨h.bel.trans (hb.mono h.bel.size), h.rp.below hb, h.mp.below hb, h.got.below hb, h.lr.below hb, h.xb.below hb h.xb.lt⟩
theorem NK.turn (h : NK w2 D E b2 b' px oo ra oc rc out l to x rk W) (hr : RMAt W' w2.heap.size b2 rk') (hc : Chg RT w2.heap.size W W') : NK w2 D E b2 b' px oo ra oc rc out l to x rk' W' :=
  ⟨h.bel.trans (hc.below h.bel.size), hr, h.mp.chg hc (by unfold RT; decide) (by unfold RT; decide) (by unfold RT; decide), h.got.chg hc (by unfold RT; decide), h.lr.chg hc (by unfold RT; decide), h.xb.chg hc (.inr (by unfold RT; decide))⟩
theorem NK.lrow (h : NK w2 D E b2 b' px oo ra oc rc out l to x rk W) : RowAt W ra (ldRow l) := by
  obtain ⟨a, c, hv, hr⟩ := ownE_row h.lr
  cases hv
  exact hr
theorem NK.grow (h : NK w2 D E b2 b' px oo ra oc rc out l to x rk W) : RowAt W oo (enRow out) := by
  obtain ⟨a, c, hv, hr⟩ := ownE_row h.got
  cases hv
  exact hr
end
/-- What is known of a plan and the two maps at each step. -/
theorem plan_at {m : PM} {r : RM} {l : List LD} {s : Nat} {most : Int} {out : List EN} {to : PM} {n : Nat} (hsm : SameM m r) (hi : Inv m) (hok : PMok m n) (hrl : RLen r n) (hn : n ≤ 1000) (hrb : rightB l = true) (hsl : 1 ≤ s ∧ s ≤ 4)
    (hpl : planS l s most 24 m [] = (out, to)) :
    out.length ≤ 24 ∧ stepAt m out out.length = to ∧ (∀ k, k < out.length → nextP (stepAt m out k) l s most = some (out.getD k EN.zero)) ∧ (out.length < 24 → nextP (stepAt m out out.length) l s most = none) := by
  have h1 := plan_len l s most 24 m []
  have h2 := plan_map l s most m 24 m [] rfl
  have h3 := plan_steps l s most m 24 m [] rfl (fun k hk => by cases hk)
  have h4 := plan_end l s most 24 m []
  rw [hpl] at h1 h2 h3 h4
  dsimp only at h1 h2 h3 h4
  simp only [List.length_nil, Nat.zero_add] at h1 h4
  exact ⟨h1, h2, h3, fun h => by rw [h2]; exact h4 h⟩

set_option maxHeartbeats 16000000 in
theorem next_walk (ea : Nat → Addr) (acs : List Ac) (l : List LD) (ao lo : Option Addr) (ac lc : Nat) (s most : Int) (w : World) (hra : RowAt w ao (acRow acs)) (hrl : RowAt w lo (ldRow l)) (hat : ∀ x ∈ acs, AcAt w x) (he : ErrsAt w ea) (hea : ∀ n, (ea n).block < w.heap.size) :
    Calls Tryz.prog 6 #[.slice ao acs.length ac, .slice lo l.length lc, .agg #[.int .i64 s, .int .i64 most]] w fun e w' => e = .returned (.bool true) ∧ Below w.heap.size w w' := by
  have S0 := Lib.hid (NW.new (s := s) (most := most) hrl he)
  have HA := Lib.hid (fun W (hb : Below w.heap.size w W) => balive_any ea W (he.berr.below hb))
  have HL := Lib.hid (fun W (hb : Below w.heap.size w W) => long_any acs l ao lo ac lc W (hra.below hb) (hrl.below hb) (fun x hx => by
    obtain ⟨ops, h1, h2, h3⟩ := hat x hx
    exact ⟨ops, h1, h2.below hb, h3⟩))
  have HMD := Lib.hid (fun W (hb : Below w.heap.size w W) (h : acs.length ≤ 40) (ha : ∀ x ∈ acs, x.1.at W) => made_any ea acs ao ac W (by omega) (hra.below hb) ha (he.berr.below hb) (fun n => Nat.lt_of_lt_of_le (hea n) hb.size))
  have HEA := Lib.hid hea
  clear hra hrl hat he hea
  go_enter Tryz.func6, Tryz.ntmps6
  go_wp2_with fail
  refine (HA.out _ S0.out.bel).mono ?_
  rintro e w1 ⟨rfl, hb1⟩
  have S1 := Lib.hid (S0.out.next hb1)
  clear hb1 HA
  go_wp2_with fail
  refine (HL.out _ S1.out.bel).mono ?_
  rintro e w2 ⟨⟨bb, rfl, hnl⟩, hb2⟩
  have S2 := Lib.hid (S1.out.next hb2)
  have HN := Lib.hid hnl
  have HB2 := Lib.hid hb2
  clear hb2 hnl HL
  cases bb with
  | true =>
    clear HN
    go_wp2_with fail
    go_ret
    exact ⟨rfl, S2.out.bel⟩
  | false =>
    have HNL := Lib.hid (HN.out rfl)
    have h30 := HNL.out.list
    clear HN
    go_wp2_with fail
    refine (HMD.out _ S2.out.bel HNL.out.acts (fun x hx => (HNL.out.ents x hx).below HB2.out)).mono ?_
    rintro e w3 ⟨b, b2, rfl, hmd⟩
    have S3 := Lib.hid (S2.out.next hmd.bel)
    have M3 := Lib.hid hmd
    have h40 := HNL.out.acts
    have HK := Lib.hid HNL.out.ldok
    have HMO := Lib.hid (made_all acs)
    have HSI := Lib.hid (made_same acs)
    have HRL := Lib.hid (show RLen (rmadeP acs) (1 + acs.length) from by
      have := rmade_len acs acs.length (Nat.le_refl _)
      rwa [List.take_length] at this)
    clear hmd HMD HB2 HNL
    generalize madeP acs = m at *
    generalize rmadeP acs = r at *
    go_wp2_with fail
    refine (ofLd_any l lo lc w3 (by omega) S3.out.row).mono ?_
    rintro e w4 ⟨v, rfl, ho, hb4⟩
    obtain ⟨ra, rc, rfl, hrr⟩ := ownE_row ho
    have S4 := Lib.hid (S3.out.next hb4)
    have M4 := Lib.hid (M3.out.next hb4)
    have L4 := Lib.hid ho
    have R4 := Lib.hid hrr
    have c0 : w4.cell? ⟨w.heap.size, 0, none⟩ = some (.int .i64 s) := S4.out.box.cell 0
    have c1 : w4.cell? ⟨w.heap.size, 1, none⟩ = some (.int .i64 most) := S4.out.box.cell 1
    obtain ⟨ci, hci⟩ : ∃ ci : Int, ((checkN l s most : Nat) : Int) = ci := ⟨_, rfl⟩
    have HCH := Lib.hid (rcheckN_any l ra rc s most w4 (by omega) R4.out HK.out)
    rw [hci] at HCH
    have HCI := Lib.hid hci
    clear ho hb4 hrr M3 S3 hci
    go_wp2_with fail
    refine HCH.out.mono ?_
    rintro e w5 ⟨rfl, hb5⟩
    have S5 := Lib.hid (S4.out.next hb5)
    have M5 := Lib.hid (M4.out.next hb5)
    have L5 := Lib.hid (L4.out.below hb5)
    have c0 : w5.cell? ⟨w.heap.size, 0, none⟩ = some (.int .i64 s) := S5.out.box.cell 0
    have c1 : w5.cell? ⟨w.heap.size, 1, none⟩ = some (.int .i64 most) := S5.out.box.cell 1
    have HPL := Lib.hid (plan_any ea b w2.heap.size m l lo lc s most w5 M5.out.mp (by omega) S5.out.row S5.out.err.berr (fun n => Nat.lt_of_lt_of_le (HEA.out n) S5.out.bel.size) HK.out (HMO.out.mono (by omega)))
    clear hb5 S4 M4 L4 R4 HCH
    go_wp2_with fail
    refine HPL.out.mono ?_
    rintro e w6 ⟨hpr, hb6⟩
    have S6 := Lib.hid (S5.out.next hb6)
    have M6 := Lib.hid (M5.out.next hb6)
    have L6 := Lib.hid (L5.out.below hb6)
    have c0 : w6.cell? ⟨w.heap.size, 0, none⟩ = some (.int .i64 s) := S6.out.box.cell 0
    have c1 : w6.cell? ⟨w.heap.size, 1, none⟩ = some (.int .i64 most) := S6.out.box.cell 1
    have HNX := Lib.hid (next_any ea b w2.heap.size m l lo lc s most w6 M6.out.mp (by omega) S6.out.row S6.out.err.berr HK.out HMO.out.srv HMO.out.ev)
    have HCC := Lib.hid (checkN_cases l s most)
    generalize checkN l s most = c at *
    clear hb6 HPL S5 M5 L5
    by_cases hc0 : c = 0
    · subst hc0
      have hci0 : ci = 0 := HCI.out.symm
      subst hci0
      have hgood : rightB l = true ∧ 1 ≤ s ∧ s ≤ 4 := by
        rcases HCC.out with h | h | ⟨-, h1, h2, h3, -⟩
        · omega
        · omega
        · exact ⟨h1, h2, h3⟩
      obtain ⟨hrb, hs1, hs4⟩ := hgood
      obtain ⟨sn, rfl⟩ : ∃ sn : Nat, s = (sn : Int) := ⟨s.toNat, by omega⟩
      have hsl : 1 ≤ sn ∧ sn ≤ 4 := by omega
      rw [Int.toNat_natCast] at hpr HNX
      obtain ⟨fin, hfin⟩ : ∃ fin, planS l sn most 24 m [] = fin := ⟨_, rfl⟩
      rw [hfin] at hpr
      obtain ⟨out, to⟩ := fin
      obtain ⟨ho24, hto, hst, hen⟩ := plan_at HSI.out.1 HSI.out.2 HMO.out HRL.out (by omega) hrb hsl hfin
      have HTO := Lib.hid hto
      have HST := Lib.hid hst
      have HEN := Lib.hid hen
      have HNO := Lib.hid (rightB_num hrb)
      have HRB := Lib.hid hrb
      unfold PlanR at hpr
      rw [if_pos rfl] at hpr
      obtain ⟨vg, b', rfl, hg6, hp6⟩ := hpr
      obtain ⟨oo, oc, rfl, -⟩ := ownE_row hg6
      dsimp only at hg6 hp6
      have G6 := Lib.hid hg6
      have P6 := Lib.hid hp6
      have HX0 := Lib.hid (show nextP m l sn most = if 0 < out.length then some (out.getD 0 EN.zero) else none from by
        by_cases h : 0 < out.length
        · rw [if_pos h]
          exact hst 0 h
        · rw [if_neg h]
          have := hen (by omega)
          rw [show out.length = 0 by omega] at this
          exact this)
      obtain ⟨is0, his0⟩ : ∃ is0 : Bool, decide (0 < out.length) = is0 := ⟨_, rfl⟩
      obtain ⟨x0, hx0⟩ : ∃ x0, out.getD 0 EN.zero = x0 := ⟨_, rfl⟩
      have HIS := Lib.hid his0
      have HXE := Lib.hid hx0
      have HNR := Lib.hid (fun e (h : NextR ea 0 (nextP m l sn most) e) => show e = .returned (.tuple #[.agg x0.cells.toArray, .bool is0, .nilIface]) from by
        unfold NextR at h
        rw [if_pos rfl, HX0.out] at h
        rw [h, ← hx0, ← his0]
        by_cases h0 : 0 < out.length
        · rw [if_pos h0, decide_eq_true h0]; rfl
        · rw [if_neg h0, decide_eq_false h0]
          have : out = [] := List.length_eq_zero_iff.1 (by omega)
          rw [this]; rfl)
      clear hg6 hp6 hto hst hen hrb his0 hx0 HX0 hfin HCC HCI
      go_wp2_with fail
      refine HNX.out.mono ?_
      rintro e w7 ⟨hnr, hb7⟩
      have hnr2 := HNR.out _ hnr
      subst hnr2
      have S7 := Lib.hid (S6.out.next hb7)
      have M7 := Lib.hid (M6.out.next hb7)
      have L7 := Lib.hid (L6.out.below hb7)
      have G7 := Lib.hid (G6.out.below hb7)
      have P7 := Lib.hid (P6.out.below hb7)
      have HZ7 := Lib.hid (Blk.new w7 44 zeroEn)
      unfold zeroEn at HZ7
      clear hnr hb7 HNX HNR M6 L6 G6 P6 c0 c1 S6
      go_wp2_with (refine wpList_store_blk rfl 44 (.tmp 14) (.tmp 60) rfl w7.heap.size x0.cells.toArray rfl rfl 44 _ HZ7.out rfl (by kernel_rfl) (by kernel_rfl) ?_)
      refine Lib.hid ?_
      intro w8 hz ho
      have B8 := Lib.hid ((below_alloc w7 (.cells #[.int .i64 0, .int .i64 0, .int .i64 0, .int .i64 0, .int .i64 0, .int .i64 0, .slice none 0 0, .string ⟨#[]⟩, .int .i64 0, .int .i64 0, .int .i64 0, .slice none 0 0] 44)).trans (ho.to_below (B := w7.heap.size) (by simp) (fun q hq e => by omega)))
      have S8 := Lib.hid (S7.out.next B8.out)
      have N8 := Lib.hid (show NK w2 w5.heap.size w3.heap.size b2 b' w7.heap.size oo ra oc rc out l to x0 (rstepAt r out 0) w8 from ⟨(M7.out.next B8.out).bel, M7.out.rp.below B8.out, P7.out.below B8.out, G7.out.below B8.out, L7.out.below B8.out, hz⟩)
      clear hz ho HZ7 S7 M7 L7 G7 P7 B8
      go_wp2_with fail
      refine (num_nil w8).mono ?_
      rintro e w9 ⟨rfl, hb9⟩
      have N9 := Lib.hid (N8.out.next hb9)
      clear hb9 N8 S8
      go_wp2_with fail
      refine (num_nil w9).mono ?_
      rintro e w10 ⟨rfl, hb10⟩
      have N10 := Lib.hid (N9.out.next hb10)
      clear hb10 N9
      generalize w7.heap.size = px at *
      generalize w5.heap.size = D at *
      generalize w3.heap.size = E at *
      have HAL := Lib.hid (fun k (hk : k ≤ 24) => And.intro (step_same HSI.out.1 HSI.out.2 out k) (And.intro (step_inv HSI.out.2 out k) (And.intro ((step_ok HMO.out out k).mono (show 1 + acs.length + k ≤ 9000 by omega)) ((rstep_len HRL.out out k).mono (show 1 + acs.length + k ≤ 9000 by omega)))))
      clear HSI HMO HRL
      go_wp2_with fail
      go_loopw [94] (fun i wr => ∃ k : Nat, k ≤ 24 ∧ k ≤ out.length ∧ i = .int .i64 k ∧ Hid (NK w2 D E b2 b' px oo ra oc rc out l to x0 (rstepAt r out k) wr)) (fun i _ => 25 - (intOf i).toNat)
      case atStart => exact ⟨0, by omega, Nat.zero_le _, rfl, N10⟩
      case round =>
        obtain ⟨k, hk24, hkl, rfl, HB⟩ := hrel
        obtain ⟨hsm, hinv, hpok, hrln⟩ := HAL.out k hk24
        have K1 := Lib.hid (S2.out.next HB.out.bel)
        have c0 : wr.cell? ⟨w.heap.size, 0, none⟩ = some (.int .i64 ((sn : Nat) : Int)) := K1.out.box.cell 0
        have c1 : wr.cell? ⟨w.heap.size, 1, none⟩ = some (.int .i64 most) := K1.out.box.cell 1
        have HRV := HB.out.rp
        obtain ⟨vl', vu', ve', hrv⟩ := HRV
        have HRX := Lib.hid (rnext_any b2 w2.heap.size (stepAt m out k) (rstepAt r out k) l ra rc sn most wr HB.out.rp hsm hinv (by rw [← hsm.perm.length_eq]; exact ⟨hrv.l1.1, hrv.len.1⟩) hpok.srv (fun x hx => hrv.ok x (hsm.perm.mem_iff.2 hx)) hsl (by omega) HB.out.lrow HK.out HNO.out)
        have HAB := Lib.hid (show ∃ en mo, (nextP (stepAt m out k) l sn most).getD EN.zero = en ∧ (nextP (stepAt m out k) l sn most).isSome = mo ∧ ((k < out.length ∧ en = out.getD k EN.zero ∧ mo = true ∧ nextP (stepAt m out k) l sn most = some en) ∨ (k = out.length ∧ (k = 24 ∨ mo = false))) from by
          by_cases h : k < out.length
          · have := HST.out k h
            exact ⟨_, _, rfl, rfl, .inl ⟨h, by rw [this]; rfl, by rw [this]; rfl, by rw [this]; rfl⟩⟩
          · obtain rfl : k = out.length := by omega
            refine ⟨_, _, rfl, rfl, .inr ⟨rfl, ?_⟩⟩
            by_cases h24 : out.length = 24
            · exact .inl h24
            · exact .inr (by rw [HEN.out (by omega)]; rfl))
        obtain ⟨en, mo, hen, hmo, hab⟩ := HAB.out
        have HAB := Lib.hid hab
        have HSM := Lib.hid hsm
        have HIV := Lib.hid hinv
        have HRN := Lib.hid hrln
        unfold EntR at HRX
        rw [hen, hmo] at HRX
        clear hab hsm hinv hpok hrln hrv hen hmo N10 K1
        go_wp2_with fail
        refine HRX.out.mono ?_
        rintro e w11 ⟨rfl, hb11⟩
        have N11 := Lib.hid (HB.out.next hb11)
        have HZ11 := Lib.hid (Blk.new w11 44 zeroEn)
        unfold zeroEn at HZ11
        clear hb11 HRX HB c0 c1
        go_wp2_with (refine wpList_store_blk rfl 44 (.tmp 18) (.tmp 105) rfl w11.heap.size en.cells.toArray rfl rfl 44 _ HZ11.out rfl (by kernel_rfl) (by kernel_rfl) ?_)
        refine Lib.hid ?_
        intro w12 hz ho
        have B12 := Lib.hid ((below_alloc w11 (.cells #[.int .i64 0, .int .i64 0, .int .i64 0, .int .i64 0, .int .i64 0, .int .i64 0, .slice none 0 0, .string ⟨#[]⟩, .int .i64 0, .int .i64 0, .int .i64 0, .slice none 0 0] 44)).trans (ho.to_below (B := w11.heap.size) (by simp) (fun q hq e => by omega)))
        have N12 := Lib.hid (N11.out.next B12.out)
        have V12 := Lib.hid hz
        clear hz ho HZ11 N11 B12
        generalize w11.heap.size = pv at *
        rcases HAB.out with ⟨hlt, hen, rfl, hnx⟩ | ⟨hke, hor⟩
        · have HEE := Lib.hid hen
          have hrc := counts_right (next_counts HIV.out HRB.out hsl hnx)
          have HRC := Lib.hid hrc
          have HPE := Lib.hid (next_plain HK.out hnx)
          have HTR := Lib.hid (rapply_true HSM.out HIV.out (show k ≤ 4095 by omega) (next_counts HIV.out HRB.out hsl hnx))
          have HNK := Lib.hid (rstepAt_succ r out k)
          rw [← hen] at HNK
          have HSA := Lib.hid (fun W => rsame_any en W (EN.zero_at _ HPE.out.1 HPE.out.2.1 HPE.out.2.2.1 HPE.out.2.2.2 W) HRC.out.1 HRC.out.2)
          have HAP := Lib.hid (fun W (h : RMAt W w2.heap.size b2 (rstepAt r out k)) (hs : w2.heap.size ≤ W.heap.size) => rapply_any b2 w2.heap.size (rstepAt r out k) en (k : Nat) W h (EN.zero_at _ HPE.out.1 HPE.out.2.1 HPE.out.2.2.1 HPE.out.2.2.2 W) HRN.out.live HRN.out.used HRN.out.evs hs)
          rw [HTR.out, ← HNK.out] at HAP
          have h24 : (((k : Nat) : Int) == 24) = false := by simp; omega
          have hcase : (k = 0 ∧ is0 = true ∧ en = x0) ∨ ¬ k = 0 := by
            by_cases h0 : k = 0
            · subst h0
              exact .inl ⟨rfl, by rw [← HIS.out]; exact decide_eq_true hlt, by rw [← HXE.out]; exact hen⟩
            · exact .inr h0
          clear hrc hnx hen HAB HPE HSM HIV HRN HNK HTR
          rcases hcase with ⟨h0, his, hxe⟩ | h0
          case inl =>
            subst h0 his hxe
            go_wp2_with (refine wpList_load_hidW (by kernel_rfl) 44 (.tmp 14) rfl px rfl 44 en.cells.toArray N12.out.xb _ Tryz.underlying44 rfl (by kernel_rfl) ?_)
            refine Lib.hid ?_
            go_wp2_with (refine wpList_load_hidW (by kernel_rfl) 44 (.tmp 18) rfl pv rfl 44 en.cells.toArray V12.out _ Tryz.underlying44 rfl (by kernel_rfl) ?_)
            refine Lib.hid ?_
            go_wp2_with fail
            refine (HSA.out w12).mono ?_
            rintro e w13 ⟨rfl, hb13⟩
            have N13 := Lib.hid (N12.out.next hb13)
            have V13 := Lib.hid (V12.out.below hb13 V12.out.lt)
            clear hb13 N12 V12
            go_wp2_with fail
            have HGE := Lib.hid (show en = out[0] from by rw [HEE.out, List.getD_eq_getElem?_getD, List.getElem?_eq_getElem hlt]; rfl)
            obtain ⟨gb, go, rfl, -⟩ := row_flat EN.cells 12 (by decide) EN.cells_len N13.out.grow 0 hlt
            have HRG := Lib.hid (fun W (hW : Chg RT w2.heap.size w13 W) => show W.rangeAt gb (go + 0 * 12) en.cells from by
              obtain ⟨a, c, hv, hr⟩ := ownE_row (N13.out.got.chg hW (by unfold RT; decide))
              cases hv
              obtain ⟨b9, o9, e9, hc⟩ := row_flat EN.cells 12 (by decide) EN.cells_len hr 0 hlt
              cases e9
              intro j v hj
              have hj5 : j < 12 := by have := (List.getElem?_eq_some_iff.1 hj).1; rw [EN.cells_len] at this; exact this
              rw [hc j hj5, ← HGE.out]
              exact hj)
            have HVB := Lib.hid (fun W (hW : Chg RT w2.heap.size w13 W) => show W.rangeAt pv 0 en.cells from (V13.out.chg hW (.inr (by unfold RT; decide))).range (fun j v hj => by rw [Nat.zero_add]; simpa using hj))
            have N14 := Lib.hid (N13.out.next (tame_drewN (Below.refl _ w13) 1))
            clear HEE HGE V13 HXE
            obtain ⟨kind, shard, other, server, client, seq, ao, no, co, key, upto, part, parts, ad, nd, cd⟩ := en
            unfold EN.cells at HRG HVB HSA HAP
            dsimp only at HRG HVB HSA HAP
            refine wp_region_wb ((Chg RT w2.heap.size w13)) (by kernel_rfl) (Chg.draw (Chg.refl _ _ _) 1) (fun _ _ _ _ _ h => h) ?_
            intro hS HZQ
            refine wa_k 0 133 (.int .i64 ((0 : Nat) : Int)) hS HZQ (wa_k 1 134 (.slice (some ⟨gb, go, none⟩) out.length oc) hS HZQ (wa_k 2 135 (.int .i64 (out.length : Int)) hS HZQ (wa_v 3 136 (.bool false) hS HZQ (fun W hW => run_eqv (v := .bool (decide (((out.length : Nat) : Int) ≤ ((0 : Nat) : Int)))) (by kernel_rfl) ((by rw [decide_eq_false (by omega)]))) (wa_k 4 137 (.bool false) hS HZQ (wa_k 5 138 (.slice (some ⟨gb, go, none⟩) out.length oc) hS HZQ (wa_k 6 139 (.int .i64 ((0 : Nat) : Int)) hS HZQ (wa_v 7 140 (.pointer (some ⟨gb, go + 0 * 12, none⟩)) hS HZQ (fun W hW => run_eqv (run_idx 32 (.tmp 138) (.tmp 139) (by kernel_rfl) gb go out.length oc 0 44 12 (by kernel_rfl) (by kernel_rfl) (by omega) Tryz.underlying32 (by kernel_rfl)) rfl) ?_)))))))
            refine wa_v 8 141 (.agg #[.int .i64 kind, .int .i64 shard, .int .i64 other, .int .i64 server, .int .i64 client, .int .i64 seq, .slice ao no co, .string key, .int .i64 upto, .int .i64 part, .int .i64 parts, .slice ad nd cd]) hS HZQ (fun W hW => run_eqv (run_loadN 44 (.tmp 140) (by kernel_rfl) gb (go + 0 * 12) (by kernel_rfl) [.int .i64 kind, .int .i64 shard, .int .i64 other, .int .i64 server, .int .i64 client, .int .i64 seq, .slice ao no co, .string key, .int .i64 upto, .int .i64 part, .int .i64 parts, .slice ad nd cd] (HRG.out W hW) _ Tryz.underlying44 rfl (by kernel_rfl)) rfl) (wa_v 9 142 (.agg #[.int .i64 kind, .int .i64 shard, .int .i64 other, .int .i64 server, .int .i64 client, .int .i64 seq, .slice ao no co, .string key, .int .i64 upto, .int .i64 part, .int .i64 parts, .slice ad nd cd]) hS HZQ (fun W hW => run_eqv (run_loadN 44 (.tmp 18) (by kernel_rfl) pv 0 (by kernel_rfl) [.int .i64 kind, .int .i64 shard, .int .i64 other, .int .i64 server, .int .i64 client, .int .i64 seq, .slice ao no co, .string key, .int .i64 upto, .int .i64 part, .int .i64 parts, .slice ad nd cd] (HVB.out W hW) _ Tryz.underlying44 rfl (by kernel_rfl)) rfl) ?_)
            refine wa_r [10] ?_
            refine ar_a (some 143) (fun K hK => ?_) ar_nil
            refine ow_call 29 #[.agg #[.int .i64 kind, .int .i64 shard, .int .i64 other, .int .i64 server, .int .i64 client, .int .i64 seq, .slice ao no co, .string key, .int .i64 upto, .int .i64 part, .int .i64 parts, .slice ad nd cd], .agg #[.int .i64 kind, .int .i64 shard, .int .i64 other, .int .i64 server, .int .i64 client, .int .i64 seq, .slice ao no co, .string key, .int .i64 upto, .int .i64 part, .int .i64 parts, .slice ad nd cd]] (by kernel_rfl) (fun v w' => v = .bool true ∧ Below _ _ w') ((HSA.out _).mono fun e' w' h => ⟨_, h.1, rfl, h.2⟩) (Lib.hid ?_)
            rintro v wx ⟨rfl, hbx⟩
            refine hK.out _ _ (Chg.step hS hbx) (fun hS => ?_)
            have NX := Lib.hid (N14.out.next hbx)
            clear hK K hbx
            refine wa_k 11 144 (.bool false) hS HZQ (wa_k 12 145 (.bool false) hS HZQ (wa_k 13 146 (.bool false) hS HZQ (wa_k 14 147 (.pointer (some ⟨b2, 0, none⟩)) hS HZQ (wa_v 15 148 (.agg #[.int .i64 kind, .int .i64 shard, .int .i64 other, .int .i64 server, .int .i64 client, .int .i64 seq, .slice ao no co, .string key, .int .i64 upto, .int .i64 part, .int .i64 parts, .slice ad nd cd]) hS HZQ (fun W hW => run_eqv (run_loadN 44 (.tmp 18) (by kernel_rfl) pv 0 (by kernel_rfl) [.int .i64 kind, .int .i64 shard, .int .i64 other, .int .i64 server, .int .i64 client, .int .i64 seq, .slice ao no co, .string key, .int .i64 upto, .int .i64 part, .int .i64 parts, .slice ad nd cd] (HVB.out W hW) _ Tryz.underlying44 rfl (by kernel_rfl)) rfl) (wa_k 16 149 (.int .i64 ((0 : Nat) : Int)) hS HZQ ?_)))))
            refine wa_r [17] ?_
            refine ar_a (some 150) (fun K hK => ?_) ar_nil
            refine ow_call 30 #[.pointer (some ⟨b2, 0, none⟩), .agg #[.int .i64 kind, .int .i64 shard, .int .i64 other, .int .i64 server, .int .i64 client, .int .i64 seq, .slice ao no co, .string key, .int .i64 upto, .int .i64 part, .int .i64 parts, .slice ad nd cd], .int .i64 ((0 : Nat) : Int)] (by kernel_rfl) (fun v w' => v = .bool true ∧ RMAt w' w2.heap.size b2 (rstepAt r out (0 + 1)) ∧ Chg RT w2.heap.size _ w') ((HAP.out _ NX.out.rp NX.out.bel.size).mono fun e' w' h => ⟨_, h.1, rfl, h.2⟩) (Lib.hid ?_)
            rintro v wy ⟨rfl, hrm, hcy⟩
            refine hK.out _ _ (Chg.trans hS hcy) (fun hS => ?_)
            have N15 := Lib.hid (NX.out.turn hrm hcy)
            clear hK K hrm hcy NX
            refine wa_k 18 151 (.bool false) hS HZQ (wa_k 19 152 (.bool false) hS HZQ ?_)
            refine wa_done (by kernel_rfl) ?_
            dsimp only [Exit.then, Act.put]
            simp only [List.setIfInBounds_toArray, List.set_cons_succ, List.set_cons_zero]
            go_wp2_with fail
            go_roundw
            case rel => exact ⟨0 + 1, by omega, by omega, by go_num, N15⟩
            case measure => simp [intOf]
          case inr =>
            have hk0 : (((k : Nat) : Int) == 0) = false := by simp; omega
            have N13 := N12
            have V13 := V12
            clear N12 V12
            generalize w12 = w13 at *
            go_wp2_with fail
            have HGE := Lib.hid (show en = out[k] from by rw [HEE.out, List.getD_eq_getElem?_getD, List.getElem?_eq_getElem hlt]; rfl)
            obtain ⟨gb, go, rfl, -⟩ := row_flat EN.cells 12 (by decide) EN.cells_len N13.out.grow k hlt
            have HRG := Lib.hid (fun W (hW : Chg RT w2.heap.size w13 W) => show W.rangeAt gb (go + k * 12) en.cells from by
              obtain ⟨a, c, hv, hr⟩ := ownE_row (N13.out.got.chg hW (by unfold RT; decide))
              cases hv
              obtain ⟨b9, o9, e9, hc⟩ := row_flat EN.cells 12 (by decide) EN.cells_len hr k hlt
              cases e9
              intro j v hj
              have hj5 : j < 12 := by have := (List.getElem?_eq_some_iff.1 hj).1; rw [EN.cells_len] at this; exact this
              rw [hc j hj5, ← HGE.out]
              exact hj)
            have HVB := Lib.hid (fun W (hW : Chg RT w2.heap.size w13 W) => show W.rangeAt pv 0 en.cells from (V13.out.chg hW (.inr (by unfold RT; decide))).range (fun j v hj => by rw [Nat.zero_add]; simpa using hj))
            have N14 := Lib.hid (N13.out.next (tame_drewN (Below.refl _ w13) 1))
            clear HEE HGE V13 HXE
            obtain ⟨kind, shard, other, server, client, seq, ao, no, co, key, upto, part, parts, ad, nd, cd⟩ := en
            unfold EN.cells at HRG HVB HSA HAP
            dsimp only at HRG HVB HSA HAP
            refine wp_region_wb ((Chg RT w2.heap.size w13)) (by kernel_rfl) (Chg.draw (Chg.refl _ _ _) 1) (fun _ _ _ _ _ h => h) ?_
            intro hS HZQ
            refine wa_k 0 133 (.int .i64 ((k : Nat) : Int)) hS HZQ (wa_k 1 134 (.slice (some ⟨gb, go, none⟩) out.length oc) hS HZQ (wa_k 2 135 (.int .i64 (out.length : Int)) hS HZQ (wa_v 3 136 (.bool false) hS HZQ (fun W hW => run_eqv (v := .bool (decide (((out.length : Nat) : Int) ≤ ((k : Nat) : Int)))) (by kernel_rfl) ((by rw [decide_eq_false (by omega)]))) (wa_k 4 137 (.bool false) hS HZQ (wa_k 5 138 (.slice (some ⟨gb, go, none⟩) out.length oc) hS HZQ (wa_k 6 139 (.int .i64 ((k : Nat) : Int)) hS HZQ (wa_v 7 140 (.pointer (some ⟨gb, go + k * 12, none⟩)) hS HZQ (fun W hW => run_eqv (run_idx 32 (.tmp 138) (.tmp 139) (by kernel_rfl) gb go out.length oc k 44 12 (by kernel_rfl) (by kernel_rfl) (by omega) Tryz.underlying32 (by kernel_rfl)) rfl) ?_)))))))
            refine wa_v 8 141 (.agg #[.int .i64 kind, .int .i64 shard, .int .i64 other, .int .i64 server, .int .i64 client, .int .i64 seq, .slice ao no co, .string key, .int .i64 upto, .int .i64 part, .int .i64 parts, .slice ad nd cd]) hS HZQ (fun W hW => run_eqv (run_loadN 44 (.tmp 140) (by kernel_rfl) gb (go + k * 12) (by kernel_rfl) [.int .i64 kind, .int .i64 shard, .int .i64 other, .int .i64 server, .int .i64 client, .int .i64 seq, .slice ao no co, .string key, .int .i64 upto, .int .i64 part, .int .i64 parts, .slice ad nd cd] (HRG.out W hW) _ Tryz.underlying44 rfl (by kernel_rfl)) rfl) (wa_v 9 142 (.agg #[.int .i64 kind, .int .i64 shard, .int .i64 other, .int .i64 server, .int .i64 client, .int .i64 seq, .slice ao no co, .string key, .int .i64 upto, .int .i64 part, .int .i64 parts, .slice ad nd cd]) hS HZQ (fun W hW => run_eqv (run_loadN 44 (.tmp 18) (by kernel_rfl) pv 0 (by kernel_rfl) [.int .i64 kind, .int .i64 shard, .int .i64 other, .int .i64 server, .int .i64 client, .int .i64 seq, .slice ao no co, .string key, .int .i64 upto, .int .i64 part, .int .i64 parts, .slice ad nd cd] (HVB.out W hW) _ Tryz.underlying44 rfl (by kernel_rfl)) rfl) ?_)
            refine wa_r [10] ?_
            refine ar_a (some 143) (fun K hK => ?_) ar_nil
            refine ow_call 29 #[.agg #[.int .i64 kind, .int .i64 shard, .int .i64 other, .int .i64 server, .int .i64 client, .int .i64 seq, .slice ao no co, .string key, .int .i64 upto, .int .i64 part, .int .i64 parts, .slice ad nd cd], .agg #[.int .i64 kind, .int .i64 shard, .int .i64 other, .int .i64 server, .int .i64 client, .int .i64 seq, .slice ao no co, .string key, .int .i64 upto, .int .i64 part, .int .i64 parts, .slice ad nd cd]] (by kernel_rfl) (fun v w' => v = .bool true ∧ Below _ _ w') ((HSA.out _).mono fun e' w' h => ⟨_, h.1, rfl, h.2⟩) (Lib.hid ?_)
            rintro v wx ⟨rfl, hbx⟩
            refine hK.out _ _ (Chg.step hS hbx) (fun hS => ?_)
            have NX := Lib.hid (N14.out.next hbx)
            clear hK K hbx
            refine wa_k 11 144 (.bool false) hS HZQ (wa_k 12 145 (.bool false) hS HZQ (wa_k 13 146 (.bool false) hS HZQ (wa_k 14 147 (.pointer (some ⟨b2, 0, none⟩)) hS HZQ (wa_v 15 148 (.agg #[.int .i64 kind, .int .i64 shard, .int .i64 other, .int .i64 server, .int .i64 client, .int .i64 seq, .slice ao no co, .string key, .int .i64 upto, .int .i64 part, .int .i64 parts, .slice ad nd cd]) hS HZQ (fun W hW => run_eqv (run_loadN 44 (.tmp 18) (by kernel_rfl) pv 0 (by kernel_rfl) [.int .i64 kind, .int .i64 shard, .int .i64 other, .int .i64 server, .int .i64 client, .int .i64 seq, .slice ao no co, .string key, .int .i64 upto, .int .i64 part, .int .i64 parts, .slice ad nd cd] (HVB.out W hW) _ Tryz.underlying44 rfl (by kernel_rfl)) rfl) (wa_k 16 149 (.int .i64 ((k : Nat) : Int)) hS HZQ ?_)))))
            refine wa_r [17] ?_
            refine ar_a (some 150) (fun K hK => ?_) ar_nil
            refine ow_call 30 #[.pointer (some ⟨b2, 0, none⟩), .agg #[.int .i64 kind, .int .i64 shard, .int .i64 other, .int .i64 server, .int .i64 client, .int .i64 seq, .slice ao no co, .string key, .int .i64 upto, .int .i64 part, .int .i64 parts, .slice ad nd cd], .int .i64 ((k : Nat) : Int)] (by kernel_rfl) (fun v w' => v = .bool true ∧ RMAt w' w2.heap.size b2 (rstepAt r out (k + 1)) ∧ Chg RT w2.heap.size _ w') ((HAP.out _ NX.out.rp NX.out.bel.size).mono fun e' w' h => ⟨_, h.1, rfl, h.2⟩) (Lib.hid ?_)
            rintro v wy ⟨rfl, hrm, hcy⟩
            refine hK.out _ _ (Chg.trans hS hcy) (fun hS => ?_)
            have N15 := Lib.hid (NX.out.turn hrm hcy)
            clear hK K hrm hcy NX
            refine wa_k 18 151 (.bool false) hS HZQ (wa_k 19 152 (.bool false) hS HZQ ?_)
            refine wa_done (by kernel_rfl) ?_
            dsimp only [Exit.then, Act.put]
            simp only [List.setIfInBounds_toArray, List.set_cons_succ, List.set_cons_zero]
            go_wp2_with fail
            go_roundw
            case rel => exact ⟨k + 1, by omega, by omega, by go_num, N15⟩
            case measure => simp [intOf]; omega
        · subst hke
          have HLV := Lib.hid (show 1 ≤ to.live.length ∧ to.live.length ≤ 10000 from by obtain ⟨vl, ve, h⟩ := N12.out.mp; exact ⟨h.l1, h.len.1⟩)
          have HSS := Lib.hid (show sortN (rstepAt r out out.length).live (rstepAt r out out.length).live.length = to.live from by rw [sort_same HSM.out HIV.out, HTO.out])
          have HSO := Lib.hid (fun W h => rsorted_any b2 w2.heap.size (rstepAt r out out.length) W h)
          rw [HSS.out] at HSO
          have hBB : ((((out.length : Nat) : Int) == 0) = true ∧ mo = false ∧ is0 = false ∧ (((out.length : Nat) : Int) == 24) = false) ∨ ((((out.length : Nat) : Int) == 0) = false ∧ (((out.length : Nat) : Int) == 24) = false ∧ mo = false) ∨ ((((out.length : Nat) : Int) == 0) = false ∧ (((out.length : Nat) : Int) == 24) = true) := by
            by_cases h24 : out.length = 24
            · exact .inr (.inr ⟨beq_eq_false_iff_ne.2 (by omega), by rw [h24]; rfl⟩)
            · have hm : mo = false := by rcases hor with h | h; · exact absurd h h24
                                         · exact h
              by_cases h0 : out.length = 0
              · exact .inl ⟨by rw [h0]; rfl, hm, by rw [← HIS.out, h0]; rfl, beq_eq_false_iff_ne.2 (by omega)⟩
              · exact .inr (.inl ⟨beq_eq_false_iff_ne.2 (by omega), beq_eq_false_iff_ne.2 (by omega), hm⟩)
          have hne : (((out.length : Nat) : Int) != ((out.length : Nat) : Int)) = false := by simp
          have hnl : (((to.live.length : Nat) : Int) != ((to.live.length : Nat) : Int)) = false := by simp
          clear hor HAB HSM HIV HRN HXE HIS HST HEN HAL HSS
          rcases hBB with ⟨h0, rfl, rfl, h24⟩ | ⟨h0, h24, rfl⟩ | ⟨h0, h24⟩
          all_goals
            go_wp2_with fail
            refine (shards_any b' D to w12 N12.out.mp).mono ?_
            rintro e w13 ⟨v, rfl, h1, hb⟩
            obtain ⟨g1, c1, rfl, -, -, -, hr1⟩ := own_some h1 HLV.out.1
            have HR1 := Lib.hid hr1
            have N13 := Lib.hid (N12.out.next hb)
            clear h1 hb hr1 h0 h24 N12 V12
            go_wp2_with fail
            refine (HSO.out w13 N13.out.rp).mono ?_
            rintro e w14 ⟨v, rfl, h2, hb⟩
            obtain ⟨g2, c2, rfl, -, -, -, hr2⟩ := own_some (ownE_owns h2 HLV.out.1) HLV.out.1
            have HR1 := Lib.hid (HR1.out.below hb)
            have HR2 := Lib.hid hr2
            have N14 := Lib.hid (N13.out.next hb)
            have hml := HLV.out.2
            clear h2 hb hr2 N13 HSO
            go_wp2_with fail
            go_loopw [165] (fun i wr => ∃ k : Nat, k ≤ to.live.length ∧ i = .int .i64 k ∧ Hid (Below w14.heap.size w14 wr)) (fun i _ => to.live.length - (intOf i).toNat)
            case atStart => exact ⟨0, Nat.zero_le _, rfl, Lib.hid (Below.refl _ _)⟩
            case round =>
              obtain ⟨k, hk, rfl, HB⟩ := hrel
              by_cases hlt : k < to.live.length
              · have HG1 := Lib.hid (fun W (hb : Below w14.heap.size w14 W) => show W.rangeAt g1 (k * 5) (shAt to.live k).cells from fun j v hj => by
                  have hj5 : j < 5 := by have := (List.getElem?_eq_some_iff.1 hj).1; rw [Sh.cells_len] at this; exact this
                  rw [row_sh (HR1.out.below hb) hlt j hj5]; exact hj)
                have HG2 := Lib.hid (fun W (hb : Below w14.heap.size w14 W) => show W.rangeAt g2 (k * 5) (shAt to.live k).cells from fun j v hj => by
                  have hj5 : j < 5 := by have := (List.getElem?_eq_some_iff.1 hj).1; rw [Sh.cells_len] at this; exact this
                  rw [row_sh (HR2.out.below hb) hlt j hj5]; exact hj)
                generalize shAt to.live k = x at *
                obtain ⟨sid, server, since, slo, shi⟩ := x
                unfold Sh.cells at HG1 HG2
                dsimp only at HG1 HG2
                go_wp2_with fail
                refine wp_region_class ((Below w14.heap.size w14)) (by kernel_rfl) (by kernel_rfl) (tame_drewN HB.out 1) ?_
                refine wq_k (.slice (some ⟨g1, 0, none⟩) to.live.length c1) (wq_k (.int .i64 ((k : Nat) : Int)) (wq_v (.pointer (some ⟨g1, k * 5, none⟩)) (fun W hW => run_eqv (run_idx 48 (.tmp 168) (.tmp 169) (by kernel_rfl) g1 0 to.live.length c1 k 54 5 (by kernel_rfl) (by kernel_rfl) (by omega) Tryz.underlying48 (by kernel_rfl)) (by rw [Nat.zero_add])) (wq_v (.agg #[.int .i64 sid, .int .i64 server, .int .i64 since, .string slo, .string shi]) (fun W hW => run_eqv (run_loadN 54 (.tmp 170) (by kernel_rfl) g1 (k * 5) (by kernel_rfl) [.int .i64 sid, .int .i64 server, .int .i64 since, .string slo, .string shi] (HG1.out W hW) _ Tryz.underlying54 rfl (by kernel_rfl)) rfl) (wq_k (.slice (some ⟨g2, 0, none⟩) to.live.length c2) (wq_k (.int .i64 ((k : Nat) : Int)) (wq_v (.pointer (some ⟨g2, k * 5, none⟩)) (fun W hW => run_eqv (run_idx 73 (.tmp 172) (.tmp 173) (by kernel_rfl) g2 0 to.live.length c2 k 75 5 (by kernel_rfl) (by kernel_rfl) (by omega) Tryz.underlying73 (by kernel_rfl)) (by rw [Nat.zero_add])) (wq_v (.agg #[.int .i64 sid, .int .i64 server, .int .i64 since, .string slo, .string shi]) (fun W hW => run_eqv (run_loadN 75 (.tmp 174) (by kernel_rfl) g2 (k * 5) (by kernel_rfl) [.int .i64 sid, .int .i64 server, .int .i64 since, .string slo, .string shi] (HG2.out W hW) _ Tryz.underlying75 rfl (by kernel_rfl)) rfl) ?_)))))))
                refine wq_v (.bool false) (fun W hW => run_rshneq (.tmp 171) (.tmp 175) (by kernel_rfl) sid server since slo shi (by kernel_rfl) (by kernel_rfl)) ?_
                refine quiet_end rfl (Lib.hid ?_)
                refine Lib.hid ?_
                intro w15 hW
                have HB15 := Lib.hid hW
                clear hW
                dsimp only [Exit.then, Act.put]
                simp only [List.setIfInBounds_toArray, List.set_cons_succ, List.set_cons_zero]
                go_wp2_with fail
                go_roundw
                case rel => exact ⟨k + 1, by omega, by go_num, HB15⟩
                case measure => simp [intOf]; omega
              · obtain rfl : k = to.live.length := by omega
                have SF := Lib.hid (S2.out.next (N14.out.next HB.out).bel)
                go_wp2_with fail
                go_ret
                exact ⟨rfl, SF.out.bel⟩
    · obtain ⟨n, hn, rfl⟩ : ∃ n, n < 19 ∧ c = n + 1 := by
        rcases HCC.out with h | h | ⟨h, -⟩
        · exact ⟨3, by omega, h⟩
        · exact ⟨0, by omega, h⟩
        · exact absurd h hc0
      have hcin : ci = (n : Int) + 1 := by have := HCI.out; omega
      subst hcin
      unfold PlanR at hpr
      rw [if_neg hc0] at hpr
      have hpr2 : e = .returned (.tuple #[.slice none 0 0, .pointer none, errV ea n]) := hpr
      subst hpr2
      have HNR := Lib.hid (fun e (h : NextR ea (n + 1) (nextP m l s.toNat most) e) => show e = .returned (.tuple #[.agg #[.int .i64 0, .int .i64 0, .int .i64 0, .int .i64 0, .int .i64 0, .int .i64 0, .slice none 0 0, .string ⟨#[]⟩, .int .i64 0, .int .i64 0, .int .i64 0, .slice none 0 0], .bool false, errV ea n]) from by
        unfold NextR at h
        rw [if_neg hc0] at h
        exact h)
      clear hpr HCC HCI
      go_wp2_with fail
      refine HNX.out.mono ?_
      rintro e w7 ⟨hnr, hb7⟩
      have hnr2 := HNR.out _ hnr
      subst hnr2
      have S7 := Lib.hid (S6.out.next hb7)
      have HZ7 := Lib.hid (Blk.new w7 44 zeroEn)
      unfold zeroEn at HZ7
      clear hnr hb7 HNX HNR S6 M6 L6 c0 c1
      go_wp2_with (refine wpList_store_blk rfl 44 (.tmp 14) (.tmp 60) rfl w7.heap.size #[.int .i64 0, .int .i64 0, .int .i64 0, .int .i64 0, .int .i64 0, .int .i64 0, .slice none 0 0, .string ⟨#[]⟩, .int .i64 0, .int .i64 0, .int .i64 0, .slice none 0 0] rfl rfl 44 _ HZ7.out rfl (by kernel_rfl) (by kernel_rfl) ?_)
      refine Lib.hid ?_
      intro w8 hz ho
      have S8 := Lib.hid (S7.out.next ((below_alloc w7 (.cells #[.int .i64 0, .int .i64 0, .int .i64 0, .int .i64 0, .int .i64 0, .int .i64 0, .slice none 0 0, .string ⟨#[]⟩, .int .i64 0, .int .i64 0, .int .i64 0, .slice none 0 0] 44)).trans (ho.to_below (B := w7.heap.size) (by simp) (fun q hq e => by omega))))
      have X8 := Lib.hid hz
      clear hz ho HZ7 S7
      generalize w7.heap.size = px at *
      go_wp2_with fail
      refine (num_err ea n w8 hn S8.out.err).mono ?_
      rintro e w9 ⟨rfl, hb9⟩
      have S9 := Lib.hid (S8.out.next hb9)
      have X9 := Lib.hid (X8.out.below hb9 X8.out.lt)
      have hne : (((n : Nat) : Int) + 1 != ((n : Nat) : Int) + 1) = false := by simp
      have hnz : (((n : Nat) : Int) + 1 != 0) = true := by simp; omega
      clear hb9 S8 X8
      go_wp2_with fail
      refine (num_err ea n w9 hn S9.out.err).mono ?_
      rintro e w10 ⟨rfl, hb10⟩
      have S10 := Lib.hid (S9.out.next hb10)
      have x0 : w10.cell? ⟨px, 0, none⟩ = some (.int .i64 0) := (X9.out.below hb10 X9.out.lt).cell 0
      clear hb10 S9 X9
      go_wp2_with fail
      go_ret
      exact ⟨rfl, S10.out.bel⟩
end Go.Proofs.YthjmfcdhpdiehaaGreatDoor
