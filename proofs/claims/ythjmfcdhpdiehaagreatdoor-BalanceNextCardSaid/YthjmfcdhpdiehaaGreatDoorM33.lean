/-
  The reference's cut: the Split of the shard with the greatest load.
-/
import Derived.Test.YthjmfcdhpdiehaaGreatDoorM30
import Derived.Test.YthjmfcdhpdiehaaGreatDoorM31
namespace Go.Proofs.YthjmfcdhpdiehaaGreatDoor
open Go.RowKit Utf
set_option maxRecDepth 100000
set_option linter.unusedSimpArgs false
set_option linter.unusedVariables false

/-- What stands all the while. -/
structure CR (w : World) (B b : Nat) (r : RM) (ra lo : Option Addr) (xs : List Sh) (l : List LD) (W : World) : Prop where
  bel : Below w.heap.size w W
  ebox : Blk W w.heap.size 44 zeroEn
  mp : RMAt W B b r
  row : RowAt W ra (shRow xs)
  lrow : RowAt W lo (ldRow l)
structure CX (w : World) (B b : Nat) (r : RM) (ra lo : Option Addr) (xs : List Sh) (l : List LD) (q : Nat) (x : Sh) (W : World) : Prop extends CR w B b r ra lo xs l W where
  box : Blk W q 75 x.cells.toArray
structure CK (w : World) (B b : Nat) (r : RM) (ra lo : Option Addr) (xs : List Sh) (l : List LD) (ka : Option Addr) (ks : List LD) (W : World) : Prop extends CR w B b r ra lo xs l W where
  krow : RowAt W ka (ldRow ks)
section
variable {w W W' : World} {B b q : Nat} {r : RM} {ra lo ka : Option Addr} {xs : List Sh} {l ks : List LD} {x : Sh}
theorem CR.next (h : CR w B b r ra lo xs l W) (hb : Below W.heap.size W W') : CR w B b r ra lo xs l W' :=
  ⟨h.bel.trans (hb.mono h.bel.size), h.ebox.below hb h.ebox.lt, h.mp.below hb, h.row.below hb, h.lrow.below hb⟩
theorem CX.next (h : CX w B b r ra lo xs l q x W) (hb : Below W.heap.size W W') : CX w B b r ra lo xs l q x W' := ⟨h.toCR.next hb, h.box.below hb h.box.lt⟩
theorem CK.next (h : CK w B b r ra lo xs l ka ks W) (hb : Below W.heap.size W W') : CK w B b r ra lo xs l ka ks W' := ⟨h.toCR.next hb, h.krow.below hb⟩
end
theorem row_shc {w : World} {b o : Nat} {l : List Sh} (h : RowAt w (some ⟨b, o, none⟩) (shRow l)) {i : Nat} (hi : i < l.length) : w.rangeAt b (o + i * 5) (shAt l i).cells := by
  obtain ⟨b', o', e', hc⟩ := row_flat Sh.cells 5 (by decide) Sh.cells_len h i hi
  cases e'
  intro j v hj
  have hj5 : j < 5 := by have := (List.getElem?_eq_some_iff.1 hj).1; rw [Sh.cells_len] at this; exact this
  rw [hc j hj5, ← shAt_eq hi]
  exact hj
theorem ldRow_pre {w : World} {ao : Option Addr} {ks : List LD} (h : RowAt w ao (ldRow ks)) (n : Nat) : RowAt w ao (ldRow (ks.take n)) := fun i hi => by
  have e : ldRow ks = ldRow (ks.take n) ++ ldRow (ks.drop n) := by
    unfold ldRow
    rw [← List.flatMap_append, List.take_append_drop]
  obtain ⟨b, o, h1, h2⟩ := h i (by rw [e, List.length_append]; omega)
  refine ⟨b, o, h1, h2.trans ?_⟩
  congr 1
  rw [List.getElem_of_eq e, List.getElem_append_left hi]
/-- The best so far; 0 at first. -/
def BestR (p : List (Sh × List LD)) (k q : Nat) : Prop := if k = 0 then q = 0 else bestTo (fun _ => true) p k = some q
theorem best_yes {p : List (Sh × List LD)} {k q : Nat} (h : BestR p k q) (hg : decide (sumN (plAt p q).2 < sumN (plAt p k).2) = true) : BestR p (k + 1) k := by
  unfold BestR at *
  rw [if_neg (by omega), bestTo_succ]
  by_cases hk : k = 0
  · rw [if_pos hk] at h
    subst hk; subst h
    rw [decide_eq_true_eq] at hg
    omega
  · rw [if_neg hk] at h
    rw [h]
    exact bestStep_more rfl hg
theorem best_no {p : List (Sh × List LD)} {k q : Nat} (h : BestR p k q) (hg : decide (sumN (plAt p q).2 < sumN (plAt p k).2) = false) : BestR p (k + 1) q := by
  unfold BestR at *
  rw [if_neg (by omega), bestTo_succ]
  by_cases hk : k = 0
  · rw [if_pos hk] at h
    subst hk; subst h
    exact bestStep_first rfl
  · rw [if_neg hk] at h
    rw [h]
    exact bestStep_less rfl hg
/-- The least number above j that is fresh; 0: none. -/
def FreshR (u : Nat → Bool) (j f : Nat) : Prop := (f = 0 ∧ ∀ i, j < i → i ≤ 12 → u i = true) ∨ (j < f ∧ f ≤ 12 ∧ u f = false ∧ ∀ i, j < i → i < f → u i = true)
theorem fresh_yes {u : Nat → Bool} {j f : Nat} (h : FreshR u (j + 1) f) (hu : u (j + 1) = false) (hj : j + 1 ≤ 12) : FreshR u j (j + 1) := .inr ⟨by omega, hj, hu, fun i h1 h2 => by omega⟩
theorem fresh_no {u : Nat → Bool} {j f : Nat} (h : FreshR u (j + 1) f) (hu : u (j + 1) = true) : FreshR u j f := by
  rcases h with ⟨h1, h2⟩ | ⟨h1, h2, h3, h4⟩
  · refine .inl ⟨h1, fun i a b => ?_⟩
    by_cases hi : i = j + 1
    · subst hi; exact hu
    · exact h2 i (by omega) b
  · refine .inr ⟨by omega, h2, h3, fun i a b => ?_⟩
    by_cases hi : i = j + 1
    · subst hi; exact hu
    · exact h4 i (by omega) b
theorem fresh_end {evs : List Ev} {f : Nat} (h : FreshR (fun n => usedIn evs (n : Int)) 0 f) : freshP evs = f := by
  rcases h with ⟨h1, h2⟩ | ⟨h1, h2, h3, h4⟩
  · subst h1
    refine fresh_none (fun j hj => ?_)
    have := h2 (j + 1) (by omega) (by omega)
    rw [← this]
    rfl
  · obtain ⟨g, rfl⟩ : ∃ g, f = g + 1 := ⟨f - 1, by omega⟩
    exact fresh_some (by omega) h3 (fun j hj => h4 (j + 1) (by omega) (by omega))
/-- The first place from which half lies ahead, of those above j. -/
def HalfR (ks : List LD) (j a : Nat) : Prop := (a = ks.length - 1 ∧ ∀ t, j < t → t < ks.length → halfAt ks t = false) ∨ (j < a ∧ a < ks.length ∧ halfAt ks a = true ∧ ∀ t, j < t → t < a → halfAt ks t = false)
theorem halfR_yes {ks : List LD} {j a : Nat} (h : HalfR ks (j + 1) a) (hu : halfAt ks (j + 1) = true) (hj : j + 1 < ks.length) : HalfR ks j (j + 1) := .inr ⟨by omega, hj, hu, fun i h1 h2 => by omega⟩
theorem halfR_no {ks : List LD} {j a : Nat} (h : HalfR ks (j + 1) a) (hu : halfAt ks (j + 1) = false) : HalfR ks j a := by
  rcases h with ⟨h1, h2⟩ | ⟨h1, h2, h3, h4⟩
  · refine .inl ⟨h1, fun i a b => ?_⟩
    by_cases hi : i = j + 1
    · subst hi; exact hu
    · exact h2 i (by omega) b
  · refine .inr ⟨by omega, h2, h3, fun i a b => ?_⟩
    by_cases hi : i = j + 1
    · subst hi; exact hu
    · exact h4 i (by omega) b
theorem half_end {ks : List LD} {a : Nat} (h : HalfR ks 0 a) : halfN ks = a := by
  have h0 : halfAt ks 0 = false := rfl
  rcases h with ⟨h1, h2⟩ | ⟨h1, h2, h3, h4⟩
  · subst h1
    exact half_none (fun j hj => by
      by_cases hj0 : j = 0
      · subst hj0; exact h0
      · exact h2 j (by omega) hj)
  · exact half_some h2 h3 (fun j hj => by
      by_cases hj0 : j = 0
      · subst hj0; exact h0
      · exact h4 j (by omega) hj)

set_option maxHeartbeats 16000000 in
theorem rcut_any (b B : Nat) (r : RM) (evs : List Ev) (xs : List Sh) (l : List LD) (ra lo : Option Addr) (rc lc : Nat) (most server : Int) (w : World) (hm : RMAt w B b r) (hu : ∀ k : Nat, 1 ≤ k → k ≤ 12 → inL r.used (k : Int) = usedIn evs (k : Int)) (hx : 1 ≤ xs.length ∧ xs.length ≤ 10000) (hok : ∀ s ∈ xs, s.ok) (hn : l.length ≤ 1000) (hrx : RowAt w ra (shRow xs)) (hr : RowAt w lo (ldRow l)) (hk : LdOk l) (hno : NumOk l) :
    Calls Tryz.prog 55 #[.pointer (some ⟨b, 0, none⟩), .slice ra xs.length rc, .slice lo l.length lc, .int .i64 most, .int .i64 server] w fun e w' => EntR (cutsP evs (loadsP xs l) most server) e ∧ Below w.heap.size w w' := by
  have hba := below_alloc w (.cells zeroEn 44)
  have S0 := Lib.hid (show CR w B b r ra lo xs l (w.alloc (.cells zeroEn 44)) from ⟨hba, Blk.new w _ _, hm.below hba, hrx.below hba, hr.below hba⟩)
  have HU := Lib.hid hu
  have HOK := Lib.hid hok
  have HKF := Lib.hid (fun s W (h1 : s.ok) (h2 : RowAt W lo (ldRow l)) => rkeys_any s l lo lc W h1 hn h2 hk)
  have HNK := Lib.hid (fun s => show NumOk (keysP s l) from by have := hno.keys s l.length; rw [List.take_length] at this; exact this)
  have HKL := Lib.hid (fun s => show (keysP s l).length ≤ 1000 from Nat.le_trans (keysP_len _ _) hn)
  have HPL := Lib.hid (fun i h => plAt_loads (live := xs) (l := l) (i := i) h)
  obtain ⟨hx1, hx2⟩ := hx
  have HBX := Lib.hid (fun b' o' (e : ra = some ⟨b', o', none⟩) => show b' < w.heap.size from by
    subst e
    obtain ⟨b2, o2, e2, hc⟩ := row_flat Sh.cells 5 (by decide) Sh.cells_len hrx 0 (by omega)
    cases e2
    have h1 := hc 0 (by decide)
    exact World.block_lt_of_cell? w ⟨b', o' + 0 * 5 + 0, none⟩ (h1.trans rfl))
  clear hba hm hu hok hrx hr hk hno
  unfold zeroEn at S0
  go_enter Tryz.func55, Tryz.ntmps55
  go_wp2_with fail
  go_loopw [12, 22] (fun bv i wr => ∃ k q : Nat, k ≤ xs.length ∧ i = .int .i64 k ∧ bv = .int .i64 q ∧ q < xs.length ∧ Hid (BestR (loadsP xs l) k q) ∧ Hid (CR w B b r ra lo xs l wr)) (fun _ i _ => xs.length - (intOf i).toNat)
  case atStart => exact ⟨0, 0, Nat.zero_le _, rfl, rfl, by omega, Lib.hid rfl, S0⟩
  case round =>
    obtain ⟨k, q, hk, rfl, rfl, hq, HBR, HB⟩ := hrel
    by_cases hlt : k < xs.length
    · obtain ⟨b', o', rfl, -⟩ := row_flat Sh.cells 5 (by decide) Sh.cells_len HB.out.row k hlt
      have HRG := Lib.hid (row_shc HB.out.row hlt)
      have HSI := Lib.hid (show (Tryz.prog.info? 75).map (·.size) = some (shAt xs k).cells.length by rw [Sh.cells_len]; kernel_rfl)
      have HZ1 := Lib.hid (Blk.new wr 75 #[.int .i64 0, .int .i64 0, .int .i64 0, .string ⟨#[]⟩, .string ⟨#[]⟩])
      have HSO := Lib.hid (show (shAt xs k).ok from HOK.out _ (shAt_mem hlt))
      have HSQ := Lib.hid (show (shAt xs q).ok from HOK.out _ (shAt_mem hq))
      have HY := Lib.hid (fun h => best_yes (p := loadsP xs l) (k := k) (q := q) HBR.out h)
      have HN := Lib.hid (fun h => best_no (p := loadsP xs l) (k := k) (q := q) HBR.out h)
      rw [HPL.out k hlt, HPL.out q hq] at HY HN
      dsimp only at HY HN
      have HKX := Lib.hid (fun W (h2 : RowAt W lo (ldRow l)) => HKF.out (shAt xs k) W HSO.out h2)
      have HKQ := Lib.hid (fun W (h2 : RowAt W lo (ldRow l)) => HKF.out (shAt xs q) W HSQ.out h2)
      have HNX := Lib.hid (HNK.out (shAt xs k))
      have HNQ := Lib.hid (HNK.out (shAt xs q))
      have HLX := Lib.hid (HKL.out (shAt xs k))
      have HLQ := Lib.hid (HKL.out (shAt xs q))
      have HRQ := Lib.hid (fun W (h : RowAt W (some ⟨b', o', none⟩) (shRow xs)) => row_shc h hq)
      generalize keysP (shAt xs k) l = kx at *
      generalize keysP (shAt xs q) l = kq at *
      generalize shAt xs k = x at *
      generalize shAt xs q = xq at *
      obtain ⟨sid, server', since, slo, shi⟩ := x
      obtain ⟨qid, qserver, qsince, qlo, qhi⟩ := xq
      unfold Sh.cells at HRG HSI HKX HKQ HRQ
      dsimp only at HRG HSI HKX HKQ HRQ
      clear HSO HSQ HBR
      go_wp2_with (first | (refine wpList_load_mid rfl 75 (.tmp 25) rfl b' (o' + k * 5) rfl _ _ HRG.out Tryz.underlying75 rfl HSI.out ?_) | (refine wpList_store_blk rfl 75 (.tmp 14) (.tmp 26) rfl wr.heap.size #[.int .i64 sid, .int .i64 server', .int .i64 since, .string slo, .string shi] rfl rfl 75 _ HZ1.out rfl (by kernel_rfl) (by kernel_rfl) ?_))
      refine Lib.hid ?_
      intro w2 hz ho
      have S2 := Lib.hid (show CX w B b r (some ⟨b', o', none⟩) lo xs l wr.heap.size ⟨sid, server', since, slo, shi⟩ w2 from ⟨HB.out.next ((below_alloc wr _).trans (ho.to_below (B := wr.heap.size) (by simp) (fun q hq e => by omega))), hz⟩)
      clear hz ho HZ1 HRG HB
      cases hgt : decide (sumN kq < sumN kx) with
      | false =>
        have HGT := Lib.hid hgt
        have HNX2 := Lib.hid (HN.out hgt)
        clear hgt HY HN
        go_wp2_with fail
        refine wp_region_wb ((CX w B b r (some ⟨b', o', none⟩) lo xs l wr.heap.size ⟨sid, server', since, slo, shi⟩)) (by kernel_rfl) (S2.out.next (tame_drewN (Below.refl _ w2) 1)) (fun _ _ _ _ _ h => h) ?_
        intro hS HZQ
        refine wa_v 0 27 (.agg #[.int .i64 sid, .int .i64 server', .int .i64 since, .string slo, .string shi]) hS HZQ (fun W hW => run_eqv (run_loadN 75 (.tmp 14) (by kernel_rfl) wr.heap.size 0 (by kernel_rfl) [.int .i64 sid, .int .i64 server', .int .i64 since, .string slo, .string shi] (hW.box.range (o := 0) (fun j v hj => by rw [Nat.zero_add]; simpa [Sh.cells] using hj)) _ Tryz.underlying75 rfl (by kernel_rfl)) rfl) (wa_k 1 28 (.slice lo l.length lc) hS HZQ (wa_k 4 31 (.slice (some ⟨b', o', none⟩) xs.length rc) hS HZQ (wa_k 5 32 (.int .i64 ((q : Nat) : Int)) hS HZQ (wa_v 6 33 (.pointer (some ⟨b', o' + q * 5, none⟩)) hS HZQ (fun W hW => run_eqv (run_idx 73 (.tmp 31) (.tmp 32) (by kernel_rfl) (b') (o') xs.length rc q 75 5 (by kernel_rfl) (by kernel_rfl) (by omega) Tryz.underlying73 (by kernel_rfl)) rfl) (wa_v 7 34 (.agg #[.int .i64 qid, .int .i64 qserver, .int .i64 qsince, .string qlo, .string qhi]) hS HZQ (fun W hW => run_eqv (run_loadN 75 (.tmp 33) (by kernel_rfl) (b') (o' + q * 5) (by kernel_rfl) [.int .i64 qid, .int .i64 qserver, .int .i64 qsince, .string qlo, .string qhi] (HRQ.out W hW.row) _ Tryz.underlying75 rfl (by kernel_rfl)) rfl) (wa_k 8 35 (.slice lo l.length lc) hS HZQ ?_))))))
        refine wa_r [2] ?_
        refine ar_a (some 29) (fun K hK => ?_) ar_nil
        refine ow_call 54 #[.agg #[.int .i64 sid, .int .i64 server', .int .i64 since, .string slo, .string shi], .slice lo l.length lc] (by kernel_rfl) (fun v w' => OwnE w' _ 109 2 v kx.length (ldRow kx) ∧ Below _ _ w') ((HKX.out _ hS.lrow).mono fun e' w' h => h) (Lib.hid ?_)
        rintro v wx ⟨hox, hbx⟩
        obtain ⟨kxa, kxc, rfl, hkr⟩ := ownE_row hox
        have HKR := Lib.hid hkr
        refine hK.out _ _ (hS.next hbx) (fun hS => ?_)
        clear hK K hbx hox hkr
        refine wa_r [3] ?_
        refine ar_a (some 30) (fun K hK => ?_) ar_nil
        refine ow_call 53 #[.slice kxa kx.length kxc] (by kernel_rfl) (fun v w' => v = .int .i64 (sumN kx) ∧ Below _ _ w') ((rsum_any kx kxa kxc _ HLX.out HKR.out HNX.out).mono fun e' w' h => ⟨_, h.1, rfl, h.2⟩) (Lib.hid ?_)
        rintro v wy ⟨rfl, hby⟩
        refine hK.out _ _ (hS.next hby) (fun hS => ?_)
        clear hK K hby HKR
        refine wa_r [9] ?_
        refine ar_a (some 36) (fun K hK => ?_) ar_nil
        refine ow_call 54 #[.agg #[.int .i64 qid, .int .i64 qserver, .int .i64 qsince, .string qlo, .string qhi], .slice lo l.length lc] (by kernel_rfl) (fun v w' => OwnE w' _ 109 2 v kq.length (ldRow kq) ∧ Below _ _ w') ((HKQ.out _ hS.lrow).mono fun e' w' h => h) (Lib.hid ?_)
        rintro v wx ⟨hox, hbx⟩
        obtain ⟨kqa, kqc, rfl, hkr⟩ := ownE_row hox
        have HKR := Lib.hid hkr
        refine hK.out _ _ (hS.next hbx) (fun hS => ?_)
        clear hK K hbx hox hkr
        refine wa_r [10] ?_
        refine ar_a (some 37) (fun K hK => ?_) ar_nil
        refine ow_call 53 #[.slice kqa kq.length kqc] (by kernel_rfl) (fun v w' => v = .int .i64 (sumN kq) ∧ Below _ _ w') ((rsum_any kq kqa kqc _ HLQ.out HKR.out HNQ.out).mono fun e' w' h => ⟨_, h.1, rfl, h.2⟩) (Lib.hid ?_)
        rintro v wy ⟨rfl, hby⟩
        refine hK.out _ _ (hS.next hby) (fun hS => ?_)
        clear hK K hby HKR
        refine wa_v 11 38 (.bool false) hS HZQ (fun W hW => run_eqv (v := .bool (decide (sumN kq < sumN kx))) (by kernel_rfl) ((by rw [HGT.out]))) ?_
        refine wa_done (by kernel_rfl) ?_
        dsimp only [Exit.then, Act.put]
        simp only [List.setIfInBounds_toArray, List.set_cons_succ, List.set_cons_zero]
        have S5 := Lib.hid hS.toCR
        clear hS S2
        go_wp2_with fail
        go_roundw
        case rel => exact ⟨k + 1, q, by omega, by go_num, by go_num, by omega, HNX2, S5⟩
        case measure => simp [intOf]; omega
      | true =>
        have HGT := Lib.hid hgt
        have HNX2 := Lib.hid (HY.out hgt)
        clear hgt HY HN
        go_wp2_with fail
        refine wp_region_wb ((CX w B b r (some ⟨b', o', none⟩) lo xs l wr.heap.size ⟨sid, server', since, slo, shi⟩)) (by kernel_rfl) (S2.out.next (tame_drewN (Below.refl _ w2) 1)) (fun _ _ _ _ _ h => h) ?_
        intro hS HZQ
        refine wa_v 0 27 (.agg #[.int .i64 sid, .int .i64 server', .int .i64 since, .string slo, .string shi]) hS HZQ (fun W hW => run_eqv (run_loadN 75 (.tmp 14) (by kernel_rfl) wr.heap.size 0 (by kernel_rfl) [.int .i64 sid, .int .i64 server', .int .i64 since, .string slo, .string shi] (hW.box.range (o := 0) (fun j v hj => by rw [Nat.zero_add]; simpa [Sh.cells] using hj)) _ Tryz.underlying75 rfl (by kernel_rfl)) rfl) (wa_k 1 28 (.slice lo l.length lc) hS HZQ (wa_k 4 31 (.slice (some ⟨b', o', none⟩) xs.length rc) hS HZQ (wa_k 5 32 (.int .i64 ((q : Nat) : Int)) hS HZQ (wa_v 6 33 (.pointer (some ⟨b', o' + q * 5, none⟩)) hS HZQ (fun W hW => run_eqv (run_idx 73 (.tmp 31) (.tmp 32) (by kernel_rfl) (b') (o') xs.length rc q 75 5 (by kernel_rfl) (by kernel_rfl) (by omega) Tryz.underlying73 (by kernel_rfl)) rfl) (wa_v 7 34 (.agg #[.int .i64 qid, .int .i64 qserver, .int .i64 qsince, .string qlo, .string qhi]) hS HZQ (fun W hW => run_eqv (run_loadN 75 (.tmp 33) (by kernel_rfl) (b') (o' + q * 5) (by kernel_rfl) [.int .i64 qid, .int .i64 qserver, .int .i64 qsince, .string qlo, .string qhi] (HRQ.out W hW.row) _ Tryz.underlying75 rfl (by kernel_rfl)) rfl) (wa_k 8 35 (.slice lo l.length lc) hS HZQ ?_))))))
        refine wa_r [2] ?_
        refine ar_a (some 29) (fun K hK => ?_) ar_nil
        refine ow_call 54 #[.agg #[.int .i64 sid, .int .i64 server', .int .i64 since, .string slo, .string shi], .slice lo l.length lc] (by kernel_rfl) (fun v w' => OwnE w' _ 109 2 v kx.length (ldRow kx) ∧ Below _ _ w') ((HKX.out _ hS.lrow).mono fun e' w' h => h) (Lib.hid ?_)
        rintro v wx ⟨hox, hbx⟩
        obtain ⟨kxa, kxc, rfl, hkr⟩ := ownE_row hox
        have HKR := Lib.hid hkr
        refine hK.out _ _ (hS.next hbx) (fun hS => ?_)
        clear hK K hbx hox hkr
        refine wa_r [3] ?_
        refine ar_a (some 30) (fun K hK => ?_) ar_nil
        refine ow_call 53 #[.slice kxa kx.length kxc] (by kernel_rfl) (fun v w' => v = .int .i64 (sumN kx) ∧ Below _ _ w') ((rsum_any kx kxa kxc _ HLX.out HKR.out HNX.out).mono fun e' w' h => ⟨_, h.1, rfl, h.2⟩) (Lib.hid ?_)
        rintro v wy ⟨rfl, hby⟩
        refine hK.out _ _ (hS.next hby) (fun hS => ?_)
        clear hK K hby HKR
        refine wa_r [9] ?_
        refine ar_a (some 36) (fun K hK => ?_) ar_nil
        refine ow_call 54 #[.agg #[.int .i64 qid, .int .i64 qserver, .int .i64 qsince, .string qlo, .string qhi], .slice lo l.length lc] (by kernel_rfl) (fun v w' => OwnE w' _ 109 2 v kq.length (ldRow kq) ∧ Below _ _ w') ((HKQ.out _ hS.lrow).mono fun e' w' h => h) (Lib.hid ?_)
        rintro v wx ⟨hox, hbx⟩
        obtain ⟨kqa, kqc, rfl, hkr⟩ := ownE_row hox
        have HKR := Lib.hid hkr
        refine hK.out _ _ (hS.next hbx) (fun hS => ?_)
        clear hK K hbx hox hkr
        refine wa_r [10] ?_
        refine ar_a (some 37) (fun K hK => ?_) ar_nil
        refine ow_call 53 #[.slice kqa kq.length kqc] (by kernel_rfl) (fun v w' => v = .int .i64 (sumN kq) ∧ Below _ _ w') ((rsum_any kq kqa kqc _ HLQ.out HKR.out HNQ.out).mono fun e' w' h => ⟨_, h.1, rfl, h.2⟩) (Lib.hid ?_)
        rintro v wy ⟨rfl, hby⟩
        refine hK.out _ _ (hS.next hby) (fun hS => ?_)
        clear hK K hby HKR
        refine wa_v 11 38 (.bool true) hS HZQ (fun W hW => run_eqv (v := .bool (decide (sumN kq < sumN kx))) (by kernel_rfl) ((by rw [HGT.out]))) ?_
        refine wa_done (by kernel_rfl) ?_
        dsimp only [Exit.then, Act.put]
        simp only [List.setIfInBounds_toArray, List.set_cons_succ, List.set_cons_zero]
        have S5 := Lib.hid hS.toCR
        clear hS S2
        go_wp2_with fail
        go_roundw
        case rel => exact ⟨k + 1, k, by omega, by go_num, by go_num, by omega, HNX2, S5⟩
        case measure => simp [intOf]; omega
    · obtain rfl : k = xs.length := by omega
      have HBN := Lib.hid (show bestN (fun _ => true) (loadsP xs l) = some q by
        have h := HBR.out
        unfold BestR at h
        rw [if_neg (by omega)] at h
        unfold bestN
        rw [loads_len]
        exact h)
      have HCA := Lib.hid (cuts_at (evs := evs) (most := most) (least := server) HBN.out)
      rw [HPL.out q hq] at HCA
      dsimp only at HCA
      obtain ⟨b', o', rfl, -⟩ := row_flat Sh.cells 5 (by decide) Sh.cells_len HB.out.row q hq
      have HRG := Lib.hid (row_shc HB.out.row hq)
      have HRQ := Lib.hid (fun W (h : RowAt W (some ⟨b', o', none⟩) (shRow xs)) => row_shc h hq)
      have HSI := Lib.hid (show (Tryz.prog.info? 75).map (·.size) = some (shAt xs q).cells.length by rw [Sh.cells_len]; kernel_rfl)
      have HKX := Lib.hid (fun W (h2 : RowAt W lo (ldRow l)) => HKF.out (shAt xs q) W (HOK.out _ (shAt_mem hq)) h2)
      have HNX := Lib.hid (HNK.out (shAt xs q))
      have HLX := Lib.hid (HKL.out (shAt xs q))
      clear HBR HBN HKF HNK HKL HPL HOK
      generalize keysP (shAt xs q) l = ks at *
      generalize shAt xs q = x at *
      obtain ⟨sid, server', since, slo, shi⟩ := x
      unfold Sh.cells at HRG HSI HKX HRQ
      dsimp only at HRG HSI HKX HCA HRQ
      go_wp2_with (refine wpList_load_mid rfl 75 (.tmp 43) rfl b' (o' + q * 5) rfl _ _ HRG.out Tryz.underlying75 rfl HSI.out ?_)
      refine (HKX.out wr HB.out.lrow).mono ?_
      rintro e w2 ⟨v2, rfl, h2, hb2⟩
      obtain ⟨ka, kc, rfl, hkr⟩ := ownE_row h2
      have S2 := Lib.hid (show CK w B b r (some ⟨b', o', none⟩) lo xs l ka ks w2 from ⟨HB.out.next hb2, hkr⟩)
      have HKN := Lib.hid (fun (h : 1 ≤ ks.length) kb ko (e : ka = some ⟨kb, ko, none⟩) => show w.heap.size < kb ∧ ks.length ≤ kc from by
        rcases h2 with ⟨-, h0, -⟩ | h2
        · omega
        · obtain ⟨g, cp, hv, hg, -, hcp, -⟩ := own_some h2 h
          cases hv
          cases e
          have := HB.out.ebox.lt
          exact ⟨by omega, hcp⟩)
      clear h2 hb2 hkr HB HKX HRG
      go_wp2_with fail
      go_loopw [16, 17] (fun fv i wq => ∃ j f : Nat, j ≤ 12 ∧ i = .int .i64 j ∧ fv = .int .i64 f ∧ Hid (FreshR (fun n => usedIn evs (n : Int)) j f) ∧ Hid (CK w B b r (some ⟨b', o', none⟩) lo xs l ka ks wq)) (fun _ i _ => (intOf i).toNat)
      case atStart => exact ⟨12, 0, by omega, rfl, rfl, Lib.hid (.inl ⟨rfl, fun i h1 h2 => by omega⟩), S2⟩
      case round =>
        obtain ⟨j, f, hj, rfl, rfl, HF, HC⟩ := hrel
        rename World => wq
        clear S2
        rcases j with _ | j
        · have HFR := Lib.hid (fresh_end HF.out)
          rw [HFR.out] at HCA
          have hf0 : 0 ≤ f := Nat.zero_le _
          clear HF HFR
          go_wp2_with fail
          refine (rsum_any ks ka kc wq HLX.out HC.out.krow HNX.out).mono ?_
          rintro e w3 ⟨rfl, hb3⟩
          have S3 := Lib.hid (HC.out.next hb3)
          clear hb3 HC
          have HEB := Lib.hid S3.out.ebox
          unfold zeroEn at HEB
          by_cases h1 : sumN ks ≤ most
          · have HS := Lib.hid (show cutsP evs (loadsP xs l) most server = none by rw [HCA.out, if_pos h1])
            clear HCA
            go_wp2_with (refine wpList_store_blk rfl 44 (.tmp 10) (.tmp 72) rfl w.heap.size #[.int .i64 0, .int .i64 0, .int .i64 0, .int .i64 0, .int .i64 0, .int .i64 0, .slice none 0 0, .string ⟨#[]⟩, .int .i64 0, .int .i64 0, .int .i64 0, .slice none 0 0] rfl rfl 44 _ HEB.out rfl (by kernel_rfl) (by kernel_rfl) ?_)
            refine Lib.hid ?_
            intro w4 hz ho
            have HZ4 := Lib.hid hz
            have B4 := Lib.hid (S3.out.bel.trans (ho.to_below S3.out.bel.size (fun k hk e => by omega)))
            clear hz ho
            go_wp2_with fail
            refine bodyPost_ret (results_cell_tmp rfl _ _ w.heap.size 44 _ (0, 0) _ rfl HZ4.out Tryz.underlying44 rfl (by kernel_rfl)) rfl ?_
            exact ⟨by rw [HS.out]; rfl, B4.out⟩
          by_cases h2 : ks.length < 2
          · have HS := Lib.hid (show cutsP evs (loadsP xs l) most server = none by rw [HCA.out, if_neg h1, if_pos h2])
            have h2i : (ks.length : Int) < 2 := by omega
            clear HCA
            go_wp2_with (refine wpList_store_blk rfl 44 (.tmp 10) (.tmp 72) rfl w.heap.size #[.int .i64 0, .int .i64 0, .int .i64 0, .int .i64 0, .int .i64 0, .int .i64 0, .slice none 0 0, .string ⟨#[]⟩, .int .i64 0, .int .i64 0, .int .i64 0, .slice none 0 0] rfl rfl 44 _ HEB.out rfl (by kernel_rfl) (by kernel_rfl) ?_)
            refine Lib.hid ?_
            intro w4 hz ho
            have HZ4 := Lib.hid hz
            have B4 := Lib.hid (S3.out.bel.trans (ho.to_below S3.out.bel.size (fun k hk e => by omega)))
            clear hz ho
            go_wp2_with fail
            refine bodyPost_ret (results_cell_tmp rfl _ _ w.heap.size 44 _ (0, 0) _ rfl HZ4.out Tryz.underlying44 rfl (by kernel_rfl)) rfl ?_
            exact ⟨by rw [HS.out]; rfl, B4.out⟩
          have h2i : ¬ (ks.length : Int) < 2 := by omega
          by_cases h3 : f = 0
          · have HS := Lib.hid (show cutsP evs (loadsP xs l) most server = none by rw [HCA.out, if_neg h1, if_neg h2, if_pos h3])
            subst h3
            clear HCA
            go_wp2_with (refine wpList_store_blk rfl 44 (.tmp 10) (.tmp 72) rfl w.heap.size #[.int .i64 0, .int .i64 0, .int .i64 0, .int .i64 0, .int .i64 0, .int .i64 0, .slice none 0 0, .string ⟨#[]⟩, .int .i64 0, .int .i64 0, .int .i64 0, .slice none 0 0] rfl rfl 44 _ HEB.out rfl (by kernel_rfl) (by kernel_rfl) ?_)
            refine Lib.hid ?_
            intro w4 hz ho
            have HZ4 := Lib.hid hz
            have B4 := Lib.hid (S3.out.bel.trans (ho.to_below S3.out.bel.size (fun k hk e => by omega)))
            clear hz ho
            go_wp2_with fail
            refine bodyPost_ret (results_cell_tmp rfl _ _ w.heap.size 44 _ (0, 0) _ rfl HZ4.out Tryz.underlying44 rfl (by kernel_rfl)) rfl ?_
            exact ⟨by rw [HS.out]; rfl, B4.out⟩
          have HS := Lib.hid (show cutsP evs (loadsP xs l) most server = some (splitE sid f server (halfP ks)) by rw [HCA.out, if_neg h1, if_neg h2, if_neg h3])
          have hfz : ((f : Int) == 0) = false := by simp [h3]
          obtain ⟨kb, ko, rfl, -⟩ := row_flat LD.cells 2 (by decide) LD.cells_len S3.out.krow 0 (by omega)
          have HHE := Lib.hid (fun a h => half_end (ks := ks) (a := a) h)
          have HKB := Lib.hid (HKN.out (by omega) kb ko rfl).1
          have hkc := (HKN.out (by omega) kb ko rfl).2
          clear HCA h3 HEB
          go_wp2_with fail
          go_loopw [18, 19] (fun av i wz => ∃ j a : Nat, j + 1 ≤ ks.length ∧ i = .int .i64 j ∧ av = .int .i64 a ∧ a < ks.length ∧ Hid (HalfR ks j a) ∧ Hid (CK w B b r (some ⟨b', o', none⟩) lo xs l (some ⟨kb, ko, none⟩) ks wz)) (fun _ i _ => (intOf i).toNat)
          case atStart => exact ⟨ks.length - 1, ks.length - 1, by omega, (by have := HLX.out; rw [Go.IntWalk.wrap64_in _ (by omega)]; congr 1; omega), (by have := HLX.out; rw [Go.IntWalk.wrap64_in _ (by omega)]; congr 1; omega), by omega, Lib.hid (.inl ⟨rfl, fun i h1 h2 => by omega⟩), S3⟩
          case round =>
            obtain ⟨j, a, hj, rfl, rfl, ha, HH, HZ⟩ := hrel
            rename World => wz
            clear S3
            rcases j with _ | j
            · have HHP := Lib.hid (show halfP ks = (ldAt ks a).key by unfold halfP; rw [HHE.out a HH.out])
              rw [HHP.out] at HS
              have HK2 := Lib.hid HZ.out.krow
              have HR2 := Lib.hid HZ.out.row
              have HEB2 := Lib.hid HZ.out.ebox
              unfold zeroEn at HEB2
              have HBZ := Lib.hid HZ.out.bel
              have HNB := Lib.hid (fun (ad : Addr) (e : some (⟨b', o', none⟩ : Addr) = some ad) (h : ad.block = w.heap.size) => show False from by
                cases e
                have := HBX.out b' o' rfl
                dsimp only at h
                omega)
              have HNK2 := Lib.hid (fun (ad : Addr) (e : some (⟨kb, ko, none⟩ : Addr) = some ad) (h : ad.block = w.heap.size) => show False from by
                cases e
                have := HKB.out
                dsimp only at h
                omega)
              have HKY := Lib.hid (fun W (h : RowAt W (some ⟨kb, ko, none⟩) (ldRow ks)) => show W.cell? ⟨kb, ko + a * 2 + 0, none⟩ = some (.string (ldAt ks a).key) from row_ld h ha 0 (by decide))
              generalize (ldAt ks a).key = ky at *
              have hj1 : ((0 : Nat) : Int) < 1 := by omega
              clear HH HHE HHP HZ
              go_wp2_with fail
              refine wp_region_wb ((Only (fun q => q = w.heap.size) wz)) (by kernel_rfl) (((Only.refl (fun q => q = w.heap.size) wz).drewN 1)) (fun _ _ _ _ _ h => h) ?_
              intro hS HZQ
              refine wa_k 0 92 (.slice (some ⟨b', o', none⟩) xs.length rc) hS HZQ (wa_k 1 93 (.int .i64 ((q : Nat) : Int)) hS HZQ (wa_v 2 94 (.pointer (some ⟨b', o' + q * 5, none⟩)) hS HZQ (fun W hW => run_eqv (run_idx 73 (.tmp 92) (.tmp 93) (by kernel_rfl) (b') (o') xs.length rc q 75 5 (by kernel_rfl) (by kernel_rfl) (by omega) Tryz.underlying73 (by kernel_rfl)) rfl) (wa_k 3 95 (.pointer (some ⟨b', o' + q * 5, none⟩)) hS HZQ (wa_v 4 96 (.int .i64 sid) hS HZQ (fun W hW => run_load1 3 (.tmp 95) (by kernel_rfl) ⟨b', o' + q * 5, none⟩ (by kernel_rfl) (.int .i64 sid) (HRQ.out W (HR2.out.only hW HNB.out) 0 _ rfl) _ Tryz.underlying3 rfl) (wa_k 5 97 (.int .i64 ((f : Nat) : Int)) hS HZQ (wa_k 6 98 (.int .i64 server) hS HZQ (wa_k 7 99 (.slice (some ⟨kb, ko, none⟩) ks.length kc) hS HZQ ?_)))))))
              refine wa_k 8 100 (.int .i64 ((a : Nat) : Int)) hS HZQ (wa_v 9 101 (.pointer (some ⟨kb, ko + a * 2, none⟩)) hS HZQ (fun W hW => run_eqv (run_idx 61 (.tmp 99) (.tmp 100) (by kernel_rfl) kb ko ks.length kc a 109 2 (by kernel_rfl) (by kernel_rfl) (by omega) Tryz.underlying61 (by kernel_rfl)) rfl) (wa_k 10 102 (.pointer (some ⟨kb, ko + a * 2, none⟩)) hS HZQ (wa_v 11 103 (.string ky) hS HZQ (fun W hW => run_load1 9 (.tmp 102) (by kernel_rfl) ⟨kb, ko + a * 2, none⟩ (by kernel_rfl) (.string ky) (HKY.out W (HK2.out.only hW HNK2.out)) _ Tryz.underlying9 rfl) (wa_k 12 104 (.agg #[.int .i64 3, .int .i64 sid, .int .i64 (f : Nat), .int .i64 server, .int .i64 0, .int .i64 0, .slice none 0 0, .string ky, .int .i64 0, .int .i64 0, .int .i64 0, .slice none 0 0]) hS HZQ ?_))))
              refine wa_r [13] ?_
              refine ar_a none (fun K hK => ?_) ar_nil
              refine ow_store_blk 44 (.tmp 10) (.tmp 104) (by kernel_rfl) w.heap.size #[.int .i64 3, .int .i64 sid, .int .i64 (f : Nat), .int .i64 server, .int .i64 0, .int .i64 0, .slice none 0 0, .string ky, .int .i64 0, .int .i64 0, .int .i64 0, .slice none 0 0] (by kernel_rfl) (by kernel_rfl) 44 _ (HEB2.out.drewN 1) rfl (by kernel_rfl) (by kernel_rfl) (Lib.hid ?_)
              intro w4 hz hox
              refine hK.out _ _ (hS.trans hox) (fun hS => ?_)
              have HZ4 := Lib.hid hz
              clear hK K hz hox
              refine wa_k 14 11 (.bool true) hS HZQ ?_
              refine wa_done (by kernel_rfl) ?_
              dsimp only [Exit.then, Act.put]
              simp only [List.setIfInBounds_toArray, List.set_cons_succ, List.set_cons_zero]
              have O4 := Lib.hid hS
              clear hS
              go_wp2_with fail
              refine bodyPost_ret (results_cell_tmp rfl _ _ w.heap.size 44 _ (0, 0) _ rfl HZ4.out Tryz.underlying44 rfl (by kernel_rfl)) rfl ?_
              exact ⟨by rw [HS.out]; rfl, HBZ.out.trans (O4.out.to_below HBZ.out.size (fun q hq e => by omega))⟩
            · have HSU := Lib.hid (fun W (h : RowAt W (some ⟨kb, ko, none⟩) (ldRow ks)) => show Calls Tryz.prog 53 #[.slice (some ⟨kb, ko, none⟩) (j + 1) kc] W _ from by
                have h9 := rsum_any (ks.take (j + 1)) (some ⟨kb, ko, none⟩) kc W (by rw [List.length_take]; have := HLX.out; omega) (ldRow_pre h _) (HNX.out.take _)
                rw [List.length_take, Nat.min_eq_left (by omega)] at h9
                exact h9)
              have hs1 := sumN_bound (HNX.out.take (j + 1))
              have hs2 := sumN_bound HNX.out
              have hl1 := HLX.out
              have hl2 : (ks.take (j + 1)).length ≤ 1000 := by rw [List.length_take]; omega
              have HHA := Lib.hid (show halfAt ks (j + 1) = decide (2 * sumN (ks.take (j + 1)) ≥ sumN ks) by unfold halfAt; rw [decide_eq_true (show 0 < j + 1 by omega), Bool.true_and])
              have hs3 : 0 ≤ sumN (ks.take (j + 1)) ∧ sumN (ks.take (j + 1)) ≤ 1000000000 := by omega
              have HYS := Lib.hid (fun h => halfR_yes HH.out h (by omega))
              have HNS := Lib.hid (fun h => halfR_no HH.out h)
              rw [HHA.out] at HYS HNS
              clear hs1 hl2 HHA HH
              generalize sumN (ks.take (j + 1)) = S at *
              have hj1 : ¬ ((j + 1 : Nat) : Int) < 1 := by omega
              have hjl : j + 1 ≤ ks.length := by omega
              go_wp2_with fail
              refine (HSU.out wz HZ.out.krow).mono ?_
              rintro e w4 ⟨rfl, hb4⟩
              have S4 := Lib.hid (HZ.out.next hb4)
              clear hb4
              go_wp2_with fail
              refine (rsum_any ks (some ⟨kb, ko, none⟩) kc w4 HLX.out S4.out.krow HNX.out).mono ?_
              rintro e w5 ⟨rfl, hb5⟩
              have S5 := Lib.hid (S4.out.next hb5)
              clear hb5 S4 HZ
              have hwr : wrap64 (2 * S) = 2 * S := Go.IntWalk.wrap64_in _ (by omega)
              by_cases hge : sumN ks ≤ 2 * S
              · have HNW := Lib.hid (HYS.out (decide_eq_true hge))
                clear HYS HNS
                go_wp2_with fail
                go_roundw
                case rel => exact ⟨j, j + 1, by omega, by go_num, by go_num, by omega, HNW, S5⟩
                case measure => simp [intOf]
              · have HNW := Lib.hid (HNS.out (decide_eq_false hge))
                clear HYS HNS
                go_wp2_with fail
                go_roundw
                case rel => exact ⟨j, a, by omega, by go_num, by go_num, by omega, HNW, S5⟩
                case measure => simp [intOf]
        · obtain ⟨vl, vu, ve, hm⟩ := HC.out.mp
          obtain ⟨gu, cu, rfl, -, -, -, hru⟩ := own_some hm.used hm.l1.2
          have c1 : wq.cell? ⟨b, 1, none⟩ = some (.slice (some ⟨gu, 0, none⟩) r.used.length cu) := hm.blk.cell 1
          have HRU := Lib.hid hru
          have hul := hm.len.2.1
          have HUJ := Lib.hid (HU.out (j + 1) (by omega) hj)
          have hj1 : ¬ ((j + 1 : Nat) : Int) < 1 := by omega
          clear hm hru
          go_wp2_with fail
          refine (in_any r.used ((j + 1 : Nat) : Int) gu 0 cu wq (by omega) HRU.out).mono ?_
          rintro e w3 ⟨rfl, hb3⟩
          rw [HUJ.out]
          have S3 := Lib.hid (HC.out.next hb3)
          clear hb3 HRU HC c1
          cases hus : usedIn evs ((j + 1 : Nat) : Int) with
          | true =>
            have HFN := Lib.hid (fresh_no HF.out hus)
            clear hus HF
            go_wp2_with fail
            go_roundw
            case rel => exact ⟨j, f, by omega, by go_num, by go_num, HFN, S3⟩
            case measure => simp [intOf]
          | false =>
            have HFN := Lib.hid (fresh_yes HF.out hus hj)
            clear hus HF
            go_wp2_with fail
            go_roundw
            case rel => exact ⟨j, j + 1, by omega, by go_num, by go_num, HFN, S3⟩
            case measure => simp [intOf]
end Go.Proofs.YthjmfcdhpdiehaaGreatDoor
