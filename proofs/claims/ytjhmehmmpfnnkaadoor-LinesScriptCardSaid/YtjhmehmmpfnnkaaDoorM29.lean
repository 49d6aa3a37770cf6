/-
  The walk of the law LinesParse.
  What a text's lines tell, up to the first that isn't right; a list of ops in memory; what a fenced walk needs of whole blocks.
-/
import Derived.Test.YtjhmehmmpfnnkaaDoorM26
import Derived.Test.YtjhmehmmpfnnkaaDoorM25
import Derived.Test.YtjhmehmmpfnnkaaDoorM27
import Derived.Test.YtjhmehmmpfnnkaaDoorM28
import Derived.Test.YtjhmehmmpfnnkaaDoorM24
import Derived.Test.YtjhmehmmpfnnkaaDoorM03
import Derived.Test.YtjhmehmmpfnnkaaDoorM09
import Derived.Deep.MidRow
namespace Go.Proofs.YtjhmehmmpfnnkaaDoor
open Go.RowKit Utf
set_option maxRecDepth 100000
set_option linter.unusedSimpArgs false
set_option linter.unusedVariables false

/-- What is kept of both ops while the law runs. -/
structure PS (w : World) (ob qb : Nat) (ocs qcs : Array Value) (ao ag bo bg : Option Addr) (os gs : List Value) (W : World) : Prop where
  bel : Below w.heap.size w W
  o : Blk W ob 48 ocs
  q : Blk W qb 52 qcs
  ra : RowAt W ao os
  rg : RowAt W ag gs
  sa : RowAt W bo os
  sg : RowAt W bg gs
  hob : w.heap.size ≤ ob
  hqb : w.heap.size ≤ qb
section
variable {w W W' : World} {ob qb : Nat} {ocs qcs : Array Value} {ao ag bo bg : Option Addr} {os gs : List Value}
theorem PS.below (h : PS w ob qb ocs qcs ao ag bo bg os gs W) (hb : Below W.heap.size W W') : PS w ob qb ocs qcs ao ag bo bg os gs W' :=
  ⟨h.bel.trans (hb.mono h.bel.size), h.o.below hb h.o.lt, h.q.below hb h.q.lt, h.ra.below hb, h.rg.below hb, h.sa.below hb, h.sg.below hb, h.hob, h.hqb⟩
theorem PS.draw (h : PS w ob qb ocs qcs ao ag bo bg os gs W) : PS w ob qb ocs qcs ao ag bo bg os gs W.drew := h.below (below_drewN (Below.refl _ W) 1)
end
theorem store_new {W W' : World} {t : TypeId} {cs : Array Value} (h : Only (fun k => k = W.heap.size) (W.alloc (.cells cs t)) W') : Below W.heap.size W W' :=
  ((Below.refl _ W).alloc (Nat.le_refl _) _).trans (h.to_below (by simp) (fun k hk h => by subst h; omega))
theorem oC_one (p : BP) (ao ag : Option Addr) (no ng co cg : Nat) (x : XC) (a b c : Int) : (oC p (.slice ao no co) (.slice ag ng cg) x a b c).all (·.oneCell') = true := by simp [oC, Value.oneCell']
theorem qC_one (p : BP) (ao ag : Option Addr) (no ng co cg : Nat) (x : XC) : (qC p (.slice ao no co) (.slice ag ng cg) x).all (·.oneCell') = true := by simp [qC, Value.oneCell']
theorem oC_wZero (p : BP) (vo vg : Value) (x : XC) (a b c : Int) : (oC p vo vg x a b c).size = wZero.size := (oC_size ..).trans wZero_size.symm
theorem qC_rZero (p : BP) (vo vg : Value) (x : XC) : (qC p vo vg x).size = rZero.size := (qC_size ..).trans rZero_size.symm
theorem Tryd.sizeOC (p : BP) (vo vg : Value) (x : XC) (a b c : Int) : (Tryd.prog.info? 48).map (·.size) = some (oC p vo vg x a b c).size := by rw [oC_size]; exact Tryd.sizeW
theorem Tryd.sizeQC (p : BP) (vo vg : Value) (x : XC) : (Tryd.prog.info? 52).map (·.size) = some (qC p vo vg x).size := by rw [qC_size]; exact Tryd.sizeR
theorem same_b (l : PL) (ao ag bo bg : Option Addr) (co cg do_ dg : Nat) (w : World) (hl : l.ops.length ≤ 1000000) (hg : l.gone.length ≤ 1000000)
    (ha : RowAt w ao (l.ops.flatMap opCells)) (hb : RowAt w bo (l.ops.flatMap opCells)) (hc : RowAt w ag (zRow l.gone)) (hd : RowAt w bg (zRow l.gone)) :
    Calls Tryd.prog 19 #[.agg (qC l.p.b (.slice ao l.ops.length co) (.slice ag l.gone.length cg) XC.zero), .agg (qC l.p.b (.slice bo l.ops.length do_) (.slice bg l.gone.length dg) XC.zero)] w fun e w' => ∃ v, e = .returned v ∧ v = .bool true ∧ Below w.heap.size w w' := by
  rw [← rCells_qC, ← rCells_qC]
  exact (same_true l.p l.ops l.gone ao ag bo bg _ _ _ _ co cg do_ dg w hl hg rfl rfl rfl rfl ha hb hc hd).mono fun e w' ⟨h1, h2⟩ => ⟨_, h1, rfl, h2⟩

theorem text_l (ea : Nat → Addr) (l : PL) (ws : List (List Nat)) (ao ag : Option Addr) (co cg : Nat) (w : World) (hb : LB 500 501 l) (ht : textW l.b = some ws) (hs : (encAll (joinW ws)).length ≤ 1000000)
    (ha : RowAt w ao (l.ops.flatMap opCells)) (hg : RowAt w ag (zRow l.gone)) (he : LErr w ea) :
    Calls Tryd.prog 21 #[.agg (oC l.p.b (.slice ao l.ops.length co) (.slice ag l.gone.length cg) XC.zero 0 0 0)] w fun e w' => e = .returned (.tuple #[.string (mkS (encAll (joinW ws))), .nilIface]) ∧ Below w.heap.size w w' := by
  have h := text_any ea l.b.p l.b.ops l.b.gone ao ag co cg XC.zero 0 0 0 w (hb.bp (by omega)).1 (hb.bops (by omega)).1 (fun z hz => by have := hb.gone z hz; omega) (by rw [b_len]; have := hb.lo; omega) (by have := hb.lg; show l.gone.length ≤ 1000; omega) (by rw [cells_b]; exact ha) hg (fun ws' hw' => by
    have e : textW l.b = some ws' := hw'
    rw [ht] at e
    cases e
    exact hs) he
  rw [b_len] at h
  refine Calls.mono h fun e w' ⟨h1, h2⟩ => ?_
  rcases h2 with ⟨ws', hw', h2⟩ | ⟨hw', _⟩
  · have e : textW l.b = some ws' := hw'
    rw [ht] at e
    cases e
    exact ⟨h2, h1⟩
  · have e : textW l.b = none := hw'
    rw [ht] at e
    cases e
theorem refText_l (l : PL) (ws : List (List Nat)) (ao ag : Option Addr) (co cg : Nat) (w : World) (hb : LB 500 501 l) (ht : textW l.b = some ws)
    (ha : RowAt w ao (l.ops.flatMap opCells)) (hg : RowAt w ag (zRow l.gone)) :
    Calls Tryd.prog 22 #[.agg (qC l.p.b (.slice ao l.ops.length co) (.slice ag l.gone.length cg) XC.zero)] w fun e w' => e = .returned (.tuple #[.string (mkS (encAll (joinW ws))), .bool true]) ∧ Below w.heap.size w w' := by
  have h := refTextL l.b.p l.b.ops l.b.gone ao ag co cg XC.zero w (hb.bp (by omega)).2 (hb.bops (by omega)).2 (fun z hz => by have := hb.gone z hz; omega) (by rw [b_len]; have := hb.lo; omega) (by have := hb.lg; show l.gone.length ≤ 1000; omega) (by rw [cells_b]; exact ha) hg
  rw [b_len] at h
  refine Calls.mono h fun e w' ⟨h1, h2⟩ => ?_
  rcases h2 with ⟨ws', hw', h2⟩ | ⟨hw', _⟩
  · have e : textW l.b = some ws' := hw'
    rw [ht] at e
    cases e
    exact ⟨h2, h1⟩
  · have e : textW l.b = none := hw'
    rw [ht] at e
    cases e
theorem parse_back (ea : Nat → Addr) (t : ByteArray) (l : PL) (w : World) (hp : parseR t = (0, some l)) (hs : t.size ≤ 1000000) (he : LErr w ea) :
    Calls Tryd.prog 17 #[.string t] w (ParseU .nilIface (fun vo vg => oC l.p.b vo vg XC.zero 0 0 0) l w) := by
  have h := parse_uni ea t w hs he
  rw [hp] at h
  exact h

set_option maxHeartbeats 8000000 in
theorem parse_walk (ea : Nat → Addr) (s : ByteArray) (w : World) (hm : s.size ≤ maxLen) (he : ErrsAt w ea) :
    Calls Tryd.prog 5 #[.string s] w fun e w' => e = .returned (.bool true) ∧ Below w.heap.size w w' := by
  have HA := Lib.hid (alive_any ea w he.lerr)
  by_cases h500 : (500 : Int) < (s.size : Int)
  · clear he
    unfold maxLen at hm
    go_enter Tryd.func5, Tryd.ntmps5
    go_wp2_with fail
    refine HA.out.mono ?_
    rintro e w1 ⟨rfl, hb1⟩
    go_wp2_with fail
    go_ret
    exact ⟨rfl, hb1⟩
  · have hs : s.size ≤ 500 := by omega
    have h5d : decide ((500 : Int) < (s.size : Int)) = false := decide_eq_false h500
    have HE := Lib.hid he
    obtain ⟨hlb, htold⟩ := short_line hs
    have HLB := Lib.hid hlb
    have HTD := Lib.hid htold
    have HP := Lib.hid (fun W (h : ErrsAt W ea) => parse_uni ea s W (by omega) h.lerr)
    have HR := Lib.hid (fun W => refParse_uni s W (by omega))
    have HN := Lib.hid (fun W h => num_of ea (parseR s).1 W (parseR_lt s).1 h)
    clear he hlb htold
    generalize hl : plOf (parseR s) = l at *
    generalize hn : (parseR s).1 = n at *
    clear hl hn
    have n1 := i64ne (n : Int)
    unfold maxLen at hm
    go_enter Tryd.func5, Tryd.ntmps5
    go_wp2_with fail
    refine HA.out.mono ?_
    rintro e w1 ⟨rfl, hb1⟩
    have B1 := Lib.hid hb1
    clear hb1
    go_wp2_with fail
    refine (HP.out _ (HE.out.below B1.out)).mono ?_
    rintro e w2 ⟨ao, ag, co, cg, rfl, ha2, hg2, hb2⟩
    have B2 := Lib.hid (B1.out.trans (hb2.mono B1.out.size))
    have RA2 := Lib.hid ha2
    have RG2 := Lib.hid hg2
    have HZ := Lib.hid (Blk.new w2 48 wZero)
    clear hb2 ha2 hg2 B1
    go_wp2_with (refine wpList_store_blk rfl 48 (.tmp 3) (.tmp 19) rfl w2.heap.size (oC l.p.b (.slice ao l.ops.length co) (.slice ag l.gone.length cg) XC.zero 0 0 0) rfl rfl 48 wZero HZ.out (oC_wZero ..) (Tryd.sizeOC ..) (oC_one ..) ?_)
    refine Lib.hid ?_
    intro w3 hz3 ho3
    have N3 := Lib.hid (store_new ho3)
    have O3 := Lib.hid hz3
    have B3 := Lib.hid (B2.out.trans (N3.out.mono B2.out.size))
    have S2 := Lib.hid B2.out.size
    clear hz3 ho3 HZ B2
    go_wp2_with fail
    refine (HR.out _).mono ?_
    rintro e w4 ⟨bo, bg, do_, dg, rfl, ha4, hg4, hb4⟩
    have B4 := Lib.hid (B3.out.trans (hb4.mono B3.out.size))
    have N4 := Lib.hid hb4
    have RA4 := Lib.hid ha4
    have RG4 := Lib.hid hg4
    have HZ := Lib.hid (Blk.new w4 52 rZero)
    clear hb4 ha4 hg4
    go_wp2_with (refine wpList_store_blk rfl 52 (.tmp 5) (.tmp 24) rfl w4.heap.size (qC l.p.b (.slice bo l.ops.length do_) (.slice bg l.gone.length dg) XC.zero) rfl rfl 52 rZero HZ.out (qC_rZero ..) (Tryd.sizeQC ..) (qC_one ..) ?_)
    refine Lib.hid ?_
    intro w5 hz5 ho5
    have HPS := Lib.hid (show PS w w2.heap.size w4.heap.size (oC l.p.b (.slice ao l.ops.length co) (.slice ag l.gone.length cg) XC.zero 0 0 0) (qC l.p.b (.slice bo l.ops.length do_) (.slice bg l.gone.length dg) XC.zero) ao ag bo bg (l.ops.flatMap opCells) (zRow l.gone) w5 from by
      have n5 := store_new ho5
      exact ⟨B4.out.trans (n5.mono B4.out.size), (O3.out.below N4.out O3.out.lt).below n5 (by have := O3.out.lt; have := N4.out.size; omega), hz5, ((RA2.out.below N3.out).below N4.out).below n5, ((RG2.out.below N3.out).below N4.out).below n5, RA4.out.below n5, RG4.out.below n5, S2.out, B4.out.size⟩)
    clear hz5 ho5 HZ B4 N4 O3 N3 B3 S2 RA2 RG2 RA4 RG4
    go_wp2_with fail
    have HOF := Lib.hid (fun W => Calls.mono (R' := fun e w' => ∃ v, e = .returned v ∧ v = .agg (qC l.p.b (.slice ao l.ops.length co) (.slice ag l.gone.length cg) XC.zero) ∧ Below W.heap.size W w') (of_any l.p.b ao ag l.ops.length l.gone.length co cg XC.zero 0 0 0 W) (fun e w' ⟨h1, h2⟩ => ⟨_, h1, rfl, h2⟩))
    have HSM := Lib.hid (fun W ha hb hc hd => same_b l ao ag bo bg co cg do_ dg W (by have := HLB.out.lo; omega) (by have := HLB.out.lg; omega) ha hb hc hd)
    refine wp_region_held_drew (S := PS w w2.heap.size w4.heap.size (oC l.p.b (.slice ao l.ops.length co) (.slice ag l.gone.length cg) XC.zero 0 0 0) (qC l.p.b (.slice bo l.ops.length do_) (.slice bg l.gone.length dg) XC.zero) ao ag bo bg (l.ops.flatMap opCells) (zRow l.gone)) (by kernel_rfl) HPS.out.draw ?_
    intro hS
    clear HPS
    generalize w5.drew = w6 at *
    refine wpAnyH_take (i := 2) (oi := ⟨some 28, _, _, _, _, _⟩) (v := .int .i64 (n : Nat)) rfl (by kernel_rfl) (by kernel_rfl) (by kernel_rfl) (fun _ _ _ h => h) (.inl ⟨by rfl, fun W hW => by go_simp⟩) hS ?_
    refine wpAnyH_take (i := 0) (oi := ⟨some 26, _, _, _, _, _⟩) (v := errOf ea n) rfl (by kernel_rfl) (by kernel_rfl) (by kernel_rfl) (fun _ _ _ h => h) (.inl ⟨by rfl, fun W hW => by go_simp⟩) hS ?_
    refine wpAnyH_ready (rs := [1]) (by kernel_rfl) (by simp) ?_
    refine AllReadyH.cons (o := { dst := some 27, op := Op.call { callee := Callee.value (Operand.func 14), args := #[Operand.tmp 26], argTypes := #[26] }, type := 3, pos := "law.go:62", after := #[{ on := 0, ground := Ground.data }], guard := none }) (by kernel_rfl) (fun K hK => ?_) AllReadyH.nil
    rw [if_pos (by kernel_rfl)]
    refine wp_call_of 14 #[errOf ea n] (by kernel_rfl) (fun v w' => v = .int .i64 (n : Nat) ∧ Below w6.heap.size w6 w') ((HN.out w6 (HE.out.below hS.bel)).mono fun e w' ⟨h1, h2⟩ => ⟨_, h1, rfl, h2⟩) (Lib.hid ?_)
    rintro v w7 ⟨rfl, hb7⟩
    refine hK.out _ _ (hS.below hb7) (fun hS7 => ?_)
    clear hK K hb7 hS
    refine wpAnyH_take (i := 3) (oi := ⟨some 29, _, _, _, _, _⟩) (v := .bool false) rfl (by kernel_rfl) (by kernel_rfl) (by kernel_rfl) (fun _ _ _ h => h) (.inl ⟨by rfl, fun W hW => by go_simp⟩) hS7 ?_
    refine wpAnyH_take (i := 4) (oi := ⟨some 30, _, _, _, _, _⟩) (v := .bool false) rfl (by kernel_rfl) (by kernel_rfl) (by kernel_rfl) (fun _ _ _ h => h) (.inl ⟨by rfl, fun W hW => by go_simp⟩) hS7 ?_
    refine wpAnyH_take (i := 5) (oi := ⟨some 31, _, _, _, _, _⟩) (v := .agg (oC l.p.b (.slice ao l.ops.length co) (.slice ag l.gone.length cg) XC.zero 0 0 0)) rfl (by kernel_rfl) (by kernel_rfl) (by kernel_rfl) (fun _ _ _ h => h) (yieldsIf_load_mid (by rfl) _ _ rfl w2.heap.size 0 (by kernel_rfl) (oC l.p.b (.slice ao l.ops.length co) (.slice ag l.gone.length cg) XC.zero 0 0 0).toList _ (fun W hW j v hj => (hW.o.cell _).trans (by rw [Nat.zero_add]; simpa using hj)) Tryd.underlying48 rfl Tryd.sizeW) hS7 ?_
    refine wpAnyH_take (i := 7) (oi := { dst := some 33, op := Op.load 52 (Operand.tmp 5), type := 52, pos := "law.go:62", after := #[{ on := 4, ground := Ground.guard }], guard := some (4, false) }) (v := .agg (qC l.p.b (.slice bo l.ops.length do_) (.slice bg l.gone.length dg) XC.zero)) (by kernel_rfl) (by kernel_rfl) (by kernel_rfl) (by kernel_rfl) (fun _ _ _ h => h) (yieldsIf_load_mid (by rfl) _ _ rfl w4.heap.size 0 (by kernel_rfl) (qC l.p.b (.slice bo l.ops.length do_) (.slice bg l.gone.length dg) XC.zero).toList _ (fun W hW j v hj => (hW.q.cell _).trans (by rw [Nat.zero_add]; simpa using hj)) Tryd.underlying52 rfl Tryd.sizeR) hS7 ?_
    refine wpAnyH_ready (rs := [6]) (by kernel_rfl) (by simp) ?_
    refine AllReadyH.cons (o := { dst := some 32, op := Op.call { callee := Callee.value (Operand.func 20), args := #[Operand.tmp 31], argTypes := #[48] }, type := 52, pos := "law.go:62", after := #[{ on := 5, ground := Ground.data }, { on := 4, ground := Ground.chain }, { on := 4, ground := Ground.guard }], guard := some (4, false) }) (by kernel_rfl) (fun K hK => ?_) AllReadyH.nil
    rw [if_pos (by kernel_rfl)]
    refine wp_call_of 20 #[.agg (oC l.p.b (.slice ao l.ops.length co) (.slice ag l.gone.length cg) XC.zero 0 0 0)] (by kernel_rfl) (fun v w' => v = .agg (qC l.p.b (.slice ao l.ops.length co) (.slice ag l.gone.length cg) XC.zero) ∧ Below w7.heap.size w7 w') (HOF.out w7) (Lib.hid ?_)
    rintro v w8 ⟨rfl, hb8⟩
    refine hK.out _ _ (hS7.below hb8) (fun hS8 => ?_)
    clear hK K hb8 hS7
    refine wpAnyH_ready (rs := [8]) (by kernel_rfl) (by simp) ?_
    refine AllReadyH.cons (o := { dst := some 34, op := Op.call { callee := Callee.value (Operand.func 19), args := #[Operand.tmp 32, Operand.tmp 33], argTypes := #[52, 52] }, type := 4, pos := "law.go:62", after := #[{ on := 6, ground := Ground.data }, { on := 7, ground := Ground.data }, { on := 6, ground := Ground.chain }, { on := 4, ground := Ground.guard }], guard := some (4, false) }) (by kernel_rfl) (fun K hK => ?_) AllReadyH.nil
    rw [if_pos (by kernel_rfl)]
    refine wp_call_of 19 #[.agg (qC l.p.b (.slice ao l.ops.length co) (.slice ag l.gone.length cg) XC.zero), .agg (qC l.p.b (.slice bo l.ops.length do_) (.slice bg l.gone.length dg) XC.zero)] (by kernel_rfl) (fun v w' => v = .bool true ∧ Below w8.heap.size w8 w') (HSM.out w8 hS8.ra hS8.sa hS8.rg hS8.sg) (Lib.hid ?_)
    rintro v w9 ⟨rfl, hb9⟩
    refine hK.out _ _ (hS8.below hb9) (fun hS9 => ?_)
    clear hK K hb9 hS8
    refine wpAnyH_take (i := 9) (oi := { dst := some 35, op := Op.unOp UnOp.not 4 (Operand.tmp 34), type := 4, pos := "law.go:62", after := #[{ on := 8, ground := Ground.data }, { on := 4, ground := Ground.guard }], guard := some (4, false) }) (v := .bool false) (by kernel_rfl) (by kernel_rfl) (by kernel_rfl) (by kernel_rfl) (fun _ _ _ h => h) (.inl ⟨by kernel_rfl, fun W hW => by kernel_rfl⟩) hS9 ?_
    refine wpAnyH_take (i := 10) (oi := { dst := some 36, op := Op.pick (Operand.tmp 30) (Operand.const (Value.bool true)) (Operand.tmp 35), type := 4, pos := "law.go:62", after := #[{ on := 4, ground := Ground.data }, { on := 9, ground := Ground.data }], guard := none }) (v := .bool false) (by kernel_rfl) (by kernel_rfl) (by kernel_rfl) (by kernel_rfl) (fun _ _ _ h => h) (.inl ⟨by kernel_rfl, fun W hW => by kernel_rfl⟩) hS9 ?_
    refine wpAnyH_done (by kernel_rfl) ?_ _
    have HS9 := Lib.hid hS9
    clear hS9
    dsimp only [Exit.then, Act.put]
    simp only [List.setIfInBounds_toArray, List.set_cons_succ, List.set_cons_zero]
    by_cases h0 : n = 0
    rotate_left
    · have n0 : ((n : Int) != 0) = true := by simp; omega
      clear HTD h0 HN HP HR HSM HOF HLB
      go_wp2_with fail
      go_ret
      exact ⟨rfl, HS9.out.bel⟩
    have n0 : ((n : Int) != 0) = false := by simp [h0]
    obtain ⟨ws, hw1, hw2, hw3⟩ := HTD.out h0
    have hb5 := HLB.out
    have HTX := Lib.hid (fun W ha hg (h : ErrsAt W ea) => text_l ea l ws ao ag co cg W hb5 hw1 (by omega) ha hg h.lerr)
    have HTR := Lib.hid (fun W ha hg => refText_l l ws bo bg do_ dg W hb5 hw1 ha hg)
    have HPB := Lib.hid (fun W (h : ErrsAt W ea) => parse_back ea _ l W hw3 (by rw [mkS_size]; omega) h.lerr)
    clear hw1 hw2 hw3 hb5 HTD h0 HN HP HR HSM HOF
    generalize mkS (encAll (joinW ws)) = t at *
    have hsb := str_beq t t
    rw [decide_eq_true rfl] at hsb
    go_wp2_with (refine wpList_load_row rfl 48 (.tmp 3) rfl w2.heap.size rfl 48 (oC l.p.b (.slice ao l.ops.length co) (.slice ag l.gone.length cg) XC.zero 0 0 0) (0, 0) _ HS9.out.o Tryd.underlying48 rfl (Tryd.sizeOC ..) ?_)
    refine (HTX.out _ HS9.out.ra HS9.out.rg (HE.out.below HS9.out.bel)).mono ?_
    rintro e w10 ⟨rfl, hb10⟩
    have HS10 := Lib.hid (HS9.out.below hb10)
    clear hb10 HS9
    go_wp2_with (refine wpList_load_row rfl 52 (.tmp 5) rfl w4.heap.size rfl 52 (qC l.p.b (.slice bo l.ops.length do_) (.slice bg l.gone.length dg) XC.zero) (0, 0) _ HS10.out.q Tryd.underlying52 rfl (Tryd.sizeQC ..) ?_)
    refine (HTR.out _ HS10.out.sa HS10.out.sg).mono ?_
    rintro e w11 ⟨rfl, hb11⟩
    have HS11 := Lib.hid (HS10.out.below hb11)
    clear hb11 HS10
    go_wp2_with fail
    refine (HPB.out _ (HE.out.below HS11.out.bel)).mono ?_
    rintro e w12 ⟨eo, eg, ec, ed, rfl, ha12, hg12, hb12⟩
    have HS12 := Lib.hid (HS11.out.below hb12)
    have RA12 := Lib.hid ha12
    have RG12 := Lib.hid hg12
    have HZ := Lib.hid (Blk.new w12 48 wZero)
    clear hb12 ha12 hg12 HS11
    go_wp2_with (refine wpList_store_blk rfl 48 (.tmp 10) (.tmp 63) rfl w12.heap.size (oC l.p.b (.slice eo l.ops.length ec) (.slice eg l.gone.length ed) XC.zero 0 0 0) rfl rfl 48 wZero HZ.out (oC_wZero ..) (Tryd.sizeOC ..) (oC_one ..) ?_)
    refine Lib.hid ?_
    intro w13 hz13 ho13
    have HT := Lib.hid (show PS w w12.heap.size w4.heap.size (oC l.p.b (.slice eo l.ops.length ec) (.slice eg l.gone.length ed) XC.zero 0 0 0) (qC l.p.b (.slice bo l.ops.length do_) (.slice bg l.gone.length dg) XC.zero) eo eg bo bg (l.ops.flatMap opCells) (zRow l.gone) w13 from by
      have n13 := store_new ho13
      have h13 := HS12.out.below n13
      exact ⟨h13.bel, hz13, h13.q, RA12.out.below n13, RG12.out.below n13, h13.sa, h13.sg, HS12.out.bel.size, h13.hqb⟩)
    clear hz13 ho13 HZ HS12 RA12 RG12
    have HOF := Lib.hid (fun W => Calls.mono (R' := fun e w' => ∃ v, e = .returned v ∧ v = .agg (qC l.p.b (.slice eo l.ops.length ec) (.slice eg l.gone.length ed) XC.zero) ∧ Below W.heap.size W w') (of_any l.p.b eo eg l.ops.length l.gone.length ec ed XC.zero 0 0 0 W) (fun e w' ⟨h1, h2⟩ => ⟨_, h1, rfl, h2⟩))
    have HSM := Lib.hid (fun W ha hb hc hd => same_b l eo eg bo bg ec ed do_ dg W (by have := HLB.out.lo; omega) (by have := HLB.out.lg; omega) ha hb hc hd)
    go_wp2_with fail
    refine wp_region_held_drew (S := PS w w12.heap.size w4.heap.size (oC l.p.b (.slice eo l.ops.length ec) (.slice eg l.gone.length ed) XC.zero 0 0 0) (qC l.p.b (.slice bo l.ops.length do_) (.slice bg l.gone.length dg) XC.zero) eo eg bo bg (l.ops.flatMap opCells) (zRow l.gone)) (by kernel_rfl) HT.out.draw ?_
    intro hS
    clear HT
    generalize w13.drew = w14 at *
    refine wpAnyH_take (i := 0) (oi := { dst := some 65, op := Op.move (Operand.tmp 4), type := 26, pos := "law.go:74", after := #[], guard := none }) (v := .nilIface) (by kernel_rfl) (by kernel_rfl) (by kernel_rfl) (by kernel_rfl) (fun _ _ _ h => h) (.inl ⟨by kernel_rfl, fun W hW => by kernel_rfl⟩) hS ?_
    refine wpAnyH_take (i := 1) (oi := { dst := some 66, op := Op.binOp BinOp.eql 26 (Operand.tmp 65) (Operand.const Value.nilIface) 26, type := 4, pos := "law.go:74", after := #[{ on := 0, ground := Ground.data }], guard := none }) (v := .bool true) (by kernel_rfl) (by kernel_rfl) (by kernel_rfl) (by kernel_rfl) (fun _ _ _ h => h) (.inl ⟨by kernel_rfl, fun W hW => by kernel_rfl⟩) hS ?_
    refine wpAnyH_take (i := 2) (oi := { dst := some 67, op := Op.move (Operand.tmp 66), type := 4, pos := "law.go:74", after := #[{ on := 1, ground := Ground.data }], guard := none }) (v := .bool true) (by kernel_rfl) (by kernel_rfl) (by kernel_rfl) (by kernel_rfl) (fun _ _ _ h => h) (.inl ⟨by kernel_rfl, fun W hW => by kernel_rfl⟩) hS ?_
    refine wpAnyH_take (i := 3) (oi := { dst := some 68, op := Op.load 48 (Operand.tmp 10), type := 48, pos := "law.go:74", after := #[{ on := 2, ground := Ground.guard }], guard := some (2, true) }) (v := .agg (oC l.p.b (.slice eo l.ops.length ec) (.slice eg l.gone.length ed) XC.zero 0 0 0)) (by kernel_rfl) (by kernel_rfl) (by kernel_rfl) (by kernel_rfl) (fun _ _ _ h => h) (yieldsIf_load_mid (by kernel_rfl) _ _ rfl w12.heap.size 0 (by kernel_rfl) (oC l.p.b (.slice eo l.ops.length ec) (.slice eg l.gone.length ed) XC.zero 0 0 0).toList _ (fun W hW j v hj => (hW.o.cell _).trans (by rw [Nat.zero_add]; simpa using hj)) Tryd.underlying48 rfl Tryd.sizeW) hS ?_
    refine wpAnyH_take (i := 5) (oi := { dst := some 70, op := Op.load 52 (Operand.tmp 5), type := 52, pos := "law.go:74", after := #[{ on := 2, ground := Ground.guard }], guard := some (2, true) }) (v := .agg (qC l.p.b (.slice bo l.ops.length do_) (.slice bg l.gone.length dg) XC.zero)) (by kernel_rfl) (by kernel_rfl) (by kernel_rfl) (by kernel_rfl) (fun _ _ _ h => h) (yieldsIf_load_mid (by kernel_rfl) _ _ rfl w4.heap.size 0 (by kernel_rfl) (qC l.p.b (.slice bo l.ops.length do_) (.slice bg l.gone.length dg) XC.zero).toList _ (fun W hW j v hj => (hW.q.cell _).trans (by rw [Nat.zero_add]; simpa using hj)) Tryd.underlying52 rfl Tryd.sizeR) hS ?_
    refine wpAnyH_ready (rs := [4]) (by kernel_rfl) (by simp) ?_
    refine AllReadyH.cons (o := { dst := some 69, op := Op.call { callee := Callee.value (Operand.func 20), args := #[Operand.tmp 68], argTypes := #[48] }, type := 52, pos := "law.go:74", after := #[{ on := 3, ground := Ground.data }, { on := 2, ground := Ground.chain }, { on := 2, ground := Ground.guard }], guard := some (2, true) }) (by kernel_rfl) (fun K hK => ?_) AllReadyH.nil
    rw [if_pos (by kernel_rfl)]
    refine wp_call_of 20 #[.agg (oC l.p.b (.slice eo l.ops.length ec) (.slice eg l.gone.length ed) XC.zero 0 0 0)] (by kernel_rfl) (fun v w' => v = .agg (qC l.p.b (.slice eo l.ops.length ec) (.slice eg l.gone.length ed) XC.zero) ∧ Below w14.heap.size w14 w') (HOF.out w14) (Lib.hid ?_)
    rintro v w15 ⟨rfl, hb15⟩
    refine hK.out _ _ (hS.below hb15) (fun hS15 => ?_)
    clear hK K hb15 hS
    refine wpAnyH_ready (rs := [6]) (by kernel_rfl) (by simp) ?_
    refine AllReadyH.cons (o := { dst := some 71, op := Op.call { callee := Callee.value (Operand.func 19), args := #[Operand.tmp 69, Operand.tmp 70], argTypes := #[52, 52] }, type := 4, pos := "law.go:74", after := #[{ on := 4, ground := Ground.data }, { on := 5, ground := Ground.data }, { on := 4, ground := Ground.chain }, { on := 2, ground := Ground.guard }], guard := some (2, true) }) (by kernel_rfl) (fun K hK => ?_) AllReadyH.nil
    rw [if_pos (by kernel_rfl)]
    refine wp_call_of 19 #[.agg (qC l.p.b (.slice eo l.ops.length ec) (.slice eg l.gone.length ed) XC.zero), .agg (qC l.p.b (.slice bo l.ops.length do_) (.slice bg l.gone.length dg) XC.zero)] (by kernel_rfl) (fun v w' => v = .bool true ∧ Below w15.heap.size w15 w') (HSM.out w15 hS15.ra hS15.sa hS15.rg hS15.sg) (Lib.hid ?_)
    rintro v w16 ⟨rfl, hb16⟩
    refine hK.out _ _ (hS15.below hb16) (fun hS16 => ?_)
    clear hK K hb16 hS15
    refine wpAnyH_take (i := 7) (oi := { dst := some 72, op := Op.pick (Operand.tmp 67) (Operand.tmp 71) (Operand.const (Value.bool false)), type := 4, pos := "law.go:74", after := #[{ on := 2, ground := Ground.data }, { on := 6, ground := Ground.data }], guard := none }) (v := .bool true) (by kernel_rfl) (by kernel_rfl) (by kernel_rfl) (by kernel_rfl) (fun _ _ _ h => h) (.inl ⟨by kernel_rfl, fun W hW => by kernel_rfl⟩) hS16 ?_
    refine wpAnyH_take (i := 8) (oi := { dst := some 2, op := Op.assign (Operand.tmp 72), type := 4, pos := "law.go:74", after := #[{ on := 7, ground := Ground.data }, { on := 6, ground := Ground.chain }, { on := 0, ground := Ground.phase }, { on := 1, ground := Ground.phase }, { on := 2, ground := Ground.phase }, { on := 3, ground := Ground.phase }, { on := 4, ground := Ground.phase }, { on := 5, ground := Ground.phase }, { on := 6, ground := Ground.phase }, { on := 7, ground := Ground.phase }], guard := none }) (v := .bool true) (by kernel_rfl) (by kernel_rfl) (by kernel_rfl) (by kernel_rfl) (fun _ _ _ h => h) (.inl ⟨by kernel_rfl, fun W hW => by kernel_rfl⟩) hS16 ?_
    refine wpAnyH_done (by kernel_rfl) ?_ _
    have HB16 := Lib.hid hS16.bel
    clear hS16
    dsimp only [Exit.then, Act.put]
    simp only [List.setIfInBounds_toArray, List.set_cons_succ, List.set_cons_zero]
    go_wp2_with fail
    go_ret
    exact ⟨rfl, HB16.out⟩
end Go.Proofs.YtjhmehmmpfnnkaaDoor

namespace Go.Proofs.YtjhmehmmpfnnkaaDoor
open Go.RowKit Utf
set_option maxRecDepth 100000
set_option linter.unusedSimpArgs false
set_option linter.unusedVariables false

/-! ### Plain -/
def scriptR : List ByteArray → List PL × Nat
  | [] => ([], 0)
  | s :: r => if (parseR s).1 = 16 then scriptR r else if (parseR s).1 = 0 then (plOf (parseR s) :: (scriptR r).1, (scriptR r).2) else ([], (parseR s).1)
theorem scriptR_lt : ∀ l, (scriptR l).2 < 20 ∧ (scriptR l).1.length ≤ l.length
  | [] => ⟨by decide, Nat.le_refl _⟩
  | s :: r => by
    have ih := scriptR_lt r
    simp only [scriptR]
    split
    · exact ⟨ih.1, by simp only [List.length_cons]; omega⟩
    · split
      · exact ⟨ih.1, by simp only [List.length_cons]; omega⟩
      · exact ⟨(parseR_lt s).1, Nat.zero_le _⟩
theorem drop_at1 {α : Type} {l : List α} {k : Nat} {x : α} (h : l[k]? = some x) : l.drop k = x :: l.drop (k + 1) := by
  obtain ⟨hk, rfl⟩ := List.getElem?_eq_some_iff.1 h
  exact List.drop_eq_getElem_cons hk
theorem script_skip {L : List ByteArray} {k : Nat} {s : ByteArray} (h : L[k]? = some s) (h16 : (parseR s).1 = 16) : scriptR (L.drop k) = scriptR (L.drop (k + 1)) := by
  rw [drop_at1 h]
  simp only [scriptR, if_pos h16]
theorem script_good {L : List ByteArray} {k : Nat} {s : ByteArray} (h : L[k]? = some s) (h0 : (parseR s).1 = 0) : scriptR (L.drop k) = (plOf (parseR s) :: (scriptR (L.drop (k + 1))).1, (scriptR (L.drop (k + 1))).2) := by
  rw [drop_at1 h]
  simp only [scriptR]
  rw [if_neg (by omega), if_pos h0]
theorem script_bad {L : List ByteArray} {k : Nat} {s : ByteArray} (h : L[k]? = some s) (h16 : (parseR s).1 ≠ 16) (h0 : (parseR s).1 ≠ 0) : scriptR (L.drop k) = ([], (parseR s).1) := by
  rw [drop_at1 h]
  simp only [scriptR]
  rw [if_neg h16, if_neg h0]
theorem splitL_len : ∀ l, (splitL l).length ≤ l.length + 1 ∧ ∀ x ∈ splitL l, x.length ≤ l.length
  | [] => ⟨Nat.le_refl _, fun x hx => by simp [splitL] at hx; subst hx; exact Nat.le_refl _⟩
  | b :: l => by
    obtain ⟨h1, h2⟩ := splitL_len l
    simp only [splitL]
    split
    · exact ⟨by simp only [List.length_cons]; omega, fun x hx => by
        rcases List.mem_cons.1 hx with rfl | hx
        · exact Nat.zero_le _
        · have := h2 x hx; simp only [List.length_cons]; omega⟩
    · split
      · exact ⟨by simp, fun x hx => by simp at hx; subst hx; simp⟩
      · rename_i y r he
        rw [he] at h1 h2
        exact ⟨by simp only [List.length_cons] at h1 ⊢; omega, fun x hx => by
          rcases List.mem_cons.1 hx with rfl | hx
          · have := h2 y (by simp); simp only [List.length_cons]; omega
          · have := h2 x (List.mem_cons_of_mem _ hx); simp only [List.length_cons]; omega⟩
theorem linesB_len (s : ByteArray) : (linesB s).length ≤ s.size + 1 ∧ ∀ x ∈ linesB s, x.size ≤ s.size := by
  obtain ⟨h1, h2⟩ := splitL_len s.data.toList
  unfold linesB
  rw [List.length_map, Lib.size_eq s]
  refine ⟨h1, fun x hx => ?_⟩
  obtain ⟨y, hy, rfl⟩ := List.mem_map.1 hx
  rw [Lib.size_eq]
  exact h2 y hy

/-! ### errors.Is(err, ErrNone) -/
theorem is_none (ea : Nat → Addr) (n : Nat) (w : World) (hn : n < 20) (h : ErrsAt w ea) :
    Calls Tryd.prog 33 #[errOf ea n, .iface 163 (.pointer (some (ea 15)))] w fun e w' => e = .returned (.bool (decide (n = 16))) ∧ w' = w := by
  by_cases h16 : n = 16
  · subst h16
    exact is_same (ea 15) w
  · rw [decide_eq_false h16]
    cases n with
    | zero => exact is_nil (ea 15) w
    | succ n =>
      obtain ⟨ca, ta, ha⟩ := h.block n (by omega)
      obtain ⟨cb, tb, hb⟩ := h.block 15 (by omega)
      exact is_other (ea n) (ea 15) ca cb ta tb w (h.apart n 15 (by omega) (by omega) (by omega)) ha hb

/-! ### Whole blocks in a fenced walk -/
section
variable {F : Fence} {n : Nat} {P : Program} {ops : Array Oper} {rest : List Oper} {o : Oper} {a : Act} {w : World} {Q : Exit → Act → World → Prop}
theorem wpListIn_load_blk (hgd : o.guard = none) (ty : TypeId) (x : Operand) (ho : o.op = .load ty x) (g : Nat) (hx : a.eval x = .pointer (some ⟨g, 0, none⟩)) (t : TypeId) (cs : Array Value) (hB : Blk w g t cs) (d : TypeDesc)
    (hu : P.underlying ty = some d) (hd : d.isRow = true) (hi : (P.info? ty).map (·.size) = some cs.size) (h : Hid (wpListIn F n P ops Q rest (a.put o.dst (.agg cs)) w)) : wpListIn F n P ops Q (o :: rest) a w := by
  refine wpListIn_plain hgd fun K hK => ?_
  unfold Oper.wpIn
  refine ⟨?_, ?_⟩
  · simp [Oper.about, ho]
  · rw [Oper.semAt_plain F _ _ (by rw [ho]; intro c hc; cases hc)]
    have hr : (execOp a.eval o).run P w = .ok (.value (.agg cs)) w := by
      unfold execOp
      have hm := run_loadVar_mid w g 0 ty cs.toList d (fun j v hj => by rw [Nat.zero_add, hB.cell j]; simpa using hj) hu hd (by simpa using hi)
      simp only [ho, hx, Instr.loadAt, Instr.sureAddr, Sem.run_bind, Sem.run_pure, Result.andThen_ok, hm, Array.toArray_toList]
    rw [hr, Oper.uponIn_value]
    exact hK _ _ h.out
/-- Any operation that yields a value and enters no function. -/
theorem wpListIn_value (hgd : o.guard = none) (hab : o.about P w a.eval = none) (hnd : ∀ c, o.op ≠ .defer c) (v : Value) (w' : World) (hrun : (execOp a.eval o).run P w = .ok (.value v) w') (h : wpListIn F n P ops Q rest (a.put o.dst v) w') : wpListIn F n P ops Q (o :: rest) a w := by
  refine wpListIn_plain hgd fun K hK => ?_
  unfold Oper.wpIn
  refine ⟨fun f hf => (by rw [hab] at hf; cases hf), ?_⟩
  rw [Oper.semAt_plain F _ _ hnd, hrun, Oper.uponIn_value]
  exact hK _ _ h
theorem wpListIn_store_blk (hgd : o.guard = none) (ty : TypeId) (x y : Operand) (ho : o.op = .store ty x y) (g : Nat) (vs : Array Value) (hx : a.eval x = .pointer (some ⟨g, 0, none⟩)) (hy : a.eval y = .agg vs)
    (t : TypeId) (cs : Array Value) (hB : Blk w g t cs) (hsz : vs.size = cs.size) (hi : (P.info? ty).map (·.size) = some vs.size) (h1 : vs.all (·.oneCell') = true)
    (h : Hid (∀ w', Blk w' g t vs → Only (fun k => k = g) w w' → wpListIn F n P ops Q rest (a.put o.dst undef) w')) : wpListIn F n P ops Q (o :: rest) a w := by
  refine wpListIn_plain hgd fun K hK => ?_
  unfold Oper.wpIn
  refine ⟨?_, ?_⟩
  · simp [Oper.about, ho]
  · rw [Oper.semAt_plain F _ _ (by rw [ho]; intro c hc; cases hc)]
    have hb := Blk.putAll (w := w) vs.toList 0 w cs hB (by simp; exact hsz)
    simp only [List.take_zero, List.nil_append, Array.toArray_toList] at hb
    have hr : (execOp a.eval o).run P w = .ok .skip (w.setCells g 0 vs.toList) := by
      unfold execOp
      simp only [ho, hx, hy, Instr.storeAt, Instr.sureAddr, Sem.run_bind, Sem.run_pure, Result.andThen_ok, run_storeVar_mid w g 0 ty vs (hB.there _ (Nat.le_of_eq hsz)) hi h1]
    rw [hr, Oper.uponIn_skip]
    exact hK _ _ (h.out _ hb (Only.putAll (S := fun k => k = g) rfl vs.toList 0 w w (Only.refl _ w)))
end
theorem Tryd.infoWOp : (Tryd.prog.info? 48).map (fun i => (i.zero, i.size, i.bytes)) = some (some (.agg wZero), 24, 288) := by kernel_rfl
theorem Tryd.infoROp : (Tryd.prog.info? 52).map (fun i => (i.zero, i.size, i.bytes)) = some (some (.agg rZero), 21, 264) := by kernel_rfl

/-! ### A list of ops in memory -/
structure SE where
  l : PL
  vo : Value
  vg : Value
def SE.cells (e : SE) : List Value := (oC e.l.p.b e.vo e.vg XC.zero 0 0 0).toList
/-- An op's own lists. -/
def SEat (W : World) (B : Nat) (e : SE) : Prop := W.ownsRow B 103 5 e.vo e.l.ops.length (e.l.ops.flatMap opCells) ∧ W.ownsRow B 3 1 e.vg e.l.gone.length (intRow e.l.gone)
theorem ownsRow_base {w : World} {B B' : Nat} {e : TypeId} {sz : Nat} {v : Value} {n : Nat} {xs : List Value} (h : w.ownsRow B e sz v n xs) (hb : B' ≤ B) : w.ownsRow B' e sz v n xs := by
  refine ⟨h.1, ?_⟩
  rcases h.2 with h2 | ⟨g, cap, cur, hv, hB, hg, r⟩
  · exact .inl h2
  · exact .inr ⟨g, cap, cur, hv, Nat.le_trans hb hB, hg, r⟩
theorem SEat.base {W : World} {B B' : Nat} {e : SE} (h : SEat W B e) (hb : B' ≤ B) : SEat W B' e := ⟨ownsRow_base h.1 hb, ownsRow_base h.2 hb⟩
/-- What a list's row turns leaves the ops' own lists. -/
theorem SEat.kept {W W' : World} {B : Nat} {e : SE} {row : Option Nat} (h : SEat W B e) (hg : W.grownBy W' row) (h1 : e.vo.ownBlock = none ∨ e.vo.ownBlock ≠ row) (h2 : e.vg.ownBlock = none ∨ e.vg.ownBlock ≠ row) : SEat W' B e := ⟨h.1.kept hg h1, h.2.kept hg h2⟩
end Go.Proofs.YtjhmehmmpfnnkaaDoor
