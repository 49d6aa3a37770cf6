/-
  balance.evens.
  What joins, fresh, cuts, Next and Plan answer, in plain Lean.
  A call's own map from ints to bools, that answers as a function.
  balance.fresh.
  balance.cuts.
-/
import Derived.Test.YthjmfcdhpdiehaaGreatDoorM16
import Derived.Maps.OwnSet
import Derived.Maps.Views
namespace Go.Proofs.YthjmfcdhpdiehaaGreatDoor
open Go.RowKit Utf
set_option maxRecDepth 100000
set_option linter.unusedSimpArgs false
set_option linter.unusedVariables false

theorem Tryz.infoI1 : (Tryz.prog.info? 3).map (fun i => (i.zero, i.size, i.bytes)) = some (some (.int .i64 0), 1, 8) := by kernel_rfl
theorem ite_or {α : Type} (c : Bool) (x y : α) : (if c = true then x else y) = x ∨ (if c = true then x else y) = y := by
  cases c
  · exact .inr rfl
  · exact .inl rfl
theorem bestStep_or (may : Sh × List LD → Bool) (p : List (Sh × List LD)) (best : Option Nat) (k : Nat) : bestStep may p best k = some k ∨ bestStep may p best k = best := ite_or _ _ _
theorem bestTo_lt (may : Sh × List LD → Bool) (p : List (Sh × List LD)) : ∀ (k q : Nat), bestTo may p k = some q → q < k
  | 0, q, h => by cases h
  | k + 1, q, h => by
    rw [bestTo_succ] at h
    rcases bestStep_or may p (bestTo may p k) k with e | e
    · rw [e] at h
      cases h
      omega
    · rw [e] at h
      have := bestTo_lt may p k q h
      omega
theorem bestN_lt {may : Sh × List LD → Bool} {p : List (Sh × List LD)} {q : Nat} (h : bestN may p = some q) : q < p.length := bestTo_lt may p p.length q h
/-- What evens answers. -/
def evensP (p : List (Sh × List LD)) (by' : List Int) (low high : Nat) : Option EN :=
  (bestN (evenMay (high : Int) (by'.getD (high - 1) 0 - by'.getD (low - 1) 0)) p).map (fun i => moveE (plAt p i).1.id (low : Int))

set_option maxHeartbeats 2000000 in
theorem evens_any (l : List LO) (b o c : Nat) (bs : List Int) (bb bo bc i j : Nat) (w : World) (hn : l.length ≤ 10000) (hr : RowAt w (some ⟨b, o, none⟩) (loRow l)) (hone : ∀ x ∈ l, x.kv.oneCell' = true)
    (hb : RowAt w (some ⟨bb, bo, none⟩) (zRow bs)) (hi : i < bs.length) (hj : j < bs.length) (hbl : bs.length ≤ 1000) (hbd : ∀ k, 0 ≤ bs.getD k 0 ∧ bs.getD k 0 ≤ 1000000000000000) :
    Calls Tryz.prog 41 #[.slice (some ⟨b, o, none⟩) l.length c, .slice (some ⟨bb, bo, none⟩) bs.length bc, .int .i64 ((i : Int) + 1), .int .i64 ((j : Int) + 1)] w fun e w' => EntR (evensP (l.map LO.plain) bs (i + 1) (j + 1)) e ∧ Below w.heap.size w w' := by
  have HR := Lib.hid hr
  have HO := Lib.hid hone
  have HC := Lib.hid (fun W (h : Below w.heap.size w W) k (hk : k < bs.length) => zRow_cell (hb.below h) hk)
  have hd1 := hbd i
  have hd2 := hbd j
  have HP0 := Lib.hid (show evensP (l.map LO.plain) bs (i + 1) (j + 1) = (bestN (evenMay ((j : Int) + 1) (bs.getD j 0 - bs.getD i 0)) (l.map LO.plain)).map (fun q => moveE (plAt (l.map LO.plain) q).1.id ((i : Int) + 1)) from rfl)
  have B0 := Lib.hid (below_alloc2 w (.cells #[.int .i64 ((j : Int) + 1)] 3) (.cells zeroEn 44))
  have HP := Lib.hid (show Blk ((w.alloc (.cells #[.int .i64 ((j : Int) + 1)] 3)).alloc (.cells zeroEn 44)) w.heap.size 3 #[.int .i64 ((j : Int) + 1)] from (Blk.new w _ _).alloc _)
  have HZ := Lib.hid (show Blk ((w.alloc (.cells #[.int .i64 ((j : Int) + 1)] 3)).alloc (.cells zeroEn 44)) (w.heap.size + 1) 44 zeroEn from by
    have := Blk.new (w.alloc (.cells #[.int .i64 ((j : Int) + 1)] 3)) 44 zeroEn
    simpa using this)
  unfold zeroEn at B0 HP HZ
  clear hr hone hb hbd
  go_enter Tryz.func41, Tryz.ntmps41
  go_wp2_with fail
  generalize (w.alloc (.cells #[.int .i64 ((j : Int) + 1)] 3)).alloc (.cells #[.int .i64 0, .int .i64 0, .int .i64 0, .int .i64 0, .int .i64 0, .int .i64 0, .slice none 0 0, .string ⟨#[]⟩, .int .i64 0, .int .i64 0, .int .i64 0, .slice none 0 0] 44) = w0 at *
  have HCI := Lib.hid (fun W h => HC.out W h i hi)
  have HCJ := Lib.hid (fun W h => HC.out W h j hj)
  clear HC
  generalize bs.getD i 0 = lowv at *
  generalize bs.getD j 0 = topv at *
  apply merge1 (F := fun g w' => Below w0.heap.size w0 w' ∧ Blk w' g 3 #[.int .i64 (topv - lowv)])
  case h1 =>
    obtain ⟨i0, hinf, hz0, -, -⟩ := info_parts Tryz.infoI1
    have HI := Lib.hid (And.intro hinf hz0)
    clear hinf hz0
    refine wp_region_wb ((Below w0.heap.size w0)) (by kernel_rfl) (tame_drewN (Below.refl _ w0) 1) (fun _ _ _ _ _ h => nomatch h.1) ?_
    intro hS HZQ
    refine wa_k 0 12 (.slice (some ⟨bb, bo, none⟩) bs.length bc) hS HZQ (wa_v 1 13 (.int .i64 ((j : Int) + 1)) hS HZQ (fun W hW => run_load1 3 (.tmp 7) (by kernel_rfl) ⟨w.heap.size, 0, none⟩ (by kernel_rfl) (.int .i64 ((j : Int) + 1)) ((HP.out.below hW HP.out.lt).cell 0) _ Tryz.underlying3 rfl) (wa_v 2 14 (.int .i64 ((j : Nat) : Int)) hS HZQ (fun W hW => run_eqv (v := .int .i64 (IntKind.i64.wrap (((j : Int) + 1) - 1))) (by kernel_rfl) (wrap_nat _ j (by omega) (by omega))) (wa_v 3 15 (.pointer (some ⟨bb, bo + j * 1, none⟩)) hS HZQ (fun W hW => run_eqv (run_idx 37 (.tmp 12) (.tmp 14) (by kernel_rfl) bb bo bs.length bc j 3 1 (by kernel_rfl) (by kernel_rfl) (by omega) Tryz.underlying37 (by kernel_rfl)) rfl) (wa_v 4 16 (.int .i64 topv) hS HZQ (fun W hW => run_load1 3 (.tmp 15) (by kernel_rfl) ⟨bb, bo + j * 1, none⟩ (by kernel_rfl) (.int .i64 topv) ((by rw [Nat.mul_one]; exact HCJ.out W (B0.out.trans (hW.mono B0.out.size)))) _ Tryz.underlying3 rfl) (wa_k 5 17 (.slice (some ⟨bb, bo, none⟩) bs.length bc) hS HZQ (wa_k 6 18 (.int .i64 ((i : Int) + 1)) hS HZQ (wa_v 7 19 (.int .i64 ((i : Nat) : Int)) hS HZQ (fun W hW => run_eqv (v := .int .i64 (IntKind.i64.wrap (((i : Int) + 1) - 1))) (by kernel_rfl) (wrap_nat _ i (by omega) (by omega))) ?_)))))))
    refine wa_v 8 20 (.pointer (some ⟨bb, bo + i * 1, none⟩)) hS HZQ (fun W hW => run_eqv (run_idx 37 (.tmp 17) (.tmp 19) (by kernel_rfl) bb bo bs.length bc i 3 1 (by kernel_rfl) (by kernel_rfl) (by omega) Tryz.underlying37 (by kernel_rfl)) rfl) (wa_v 9 21 (.int .i64 lowv) hS HZQ (fun W hW => run_load1 3 (.tmp 20) (by kernel_rfl) ⟨bb, bo + i * 1, none⟩ (by kernel_rfl) (.int .i64 lowv) ((by rw [Nat.mul_one]; exact HCI.out W (B0.out.trans (hW.mono B0.out.size)))) _ Tryz.underlying3 rfl) (wa_v 10 22 (.int .i64 (topv - lowv)) hS HZQ (fun W hW => run_eqv (v := .int .i64 (IntKind.i64.wrap (topv - lowv))) (by kernel_rfl) ((by rw [Go.IntWalk.i64_in _ (by omega)]))) ?_))
    refine wa_r [11] ?_
    refine ar_a (some 10) (fun K hK => ?_) ar_nil
    refine ow_alloc 3 (by kernel_rfl) i0 _ HI.out.1 HI.out.2 (Lib.hid ?_)
    intro g8 wx hg8 hz hbx
    refine hK.out _ _ (hS.trans (hbx.mono hS.size)) (fun hS' => ?_)
    have G8 := Lib.hid (show w0.heap.size ≤ g8 by rw [hg8]; exact hS.size)
    have H8 := Lib.hid hz
    clear hK K hbx hg8 hz
    have hS := hS'
    clear hS'
    refine wa_r [12] ?_
    refine ar_a none (fun K hK => ?_) ar_nil
    refine ow_storeN 3 (.tmp 10) (.tmp 22) (by kernel_rfl) g8 0 (.int .i64 (topv - lowv)) [.int .i64 (topv - lowv)] (by kernel_rfl) (by kernel_rfl) rfl [.int .i64 0] 3 H8.out (by simp) (by kernel_rfl) (by intro u hu; simp at hu; subst hu; rfl) (Lib.hid ?_)
    intro wx hz hox
    refine hK.out _ _ (hS.trans (hox.to_below hS.size (fun q hq e => by have := G8.out; omega))) (fun hS => ?_)
    have H8 := Lib.hid hz
    clear hK K hz hox
    refine wa_done (by kernel_rfl) ?_
    dsimp only [Exit.then, Act.put]
    simp only [List.setIfInBounds_toArray, List.set_cons_succ, List.set_cons_zero]
    refine ⟨by trivial, g8, rfl, hS, H8.out⟩
  case h2 =>
    rintro g w1 ⟨hb1, hg⟩
    have B1 := Lib.hid (B0.out.trans (hb1.mono B0.out.size))
    have HZ1 := Lib.hid (HZ.out.below hb1 HZ.out.lt)
    have HX := Lib.hid (great_evens l b o c w.heap.size g ((j : Int) + 1) (topv - lowv) w1 hn (HR.out.below B1.out) HO.out ⟨(HP.out.below hb1 HP.out.lt).cell 0, hg.cell 0⟩)
    clear hb1 hg
    go_wp2_with fail
    refine HX.out.mono ?_
    rintro e w2 ⟨rfl, hb2⟩
    have B2 := Lib.hid (B1.out.trans (hb2.mono B1.out.size))
    have HZ2 := Lib.hid (HZ1.out.below hb2 HZ1.out.lt)
    clear hb2 HX
    cases hs : bestN (evenMay ((j : Int) + 1) (topv - lowv)) (l.map LO.plain) with
    | none =>
      have HS := Lib.hid (show evensP (l.map LO.plain) bs (i + 1) (j + 1) = none by rw [HP0.out]; rw [hs]; rfl)
      clear hs
      dsimp only [idxI]
      go_wp2_with (refine wpList_store_blk rfl 44 (.tmp 8) (.tmp 28) rfl (w.heap.size + 1) #[.int .i64 0, .int .i64 0, .int .i64 0, .int .i64 0, .int .i64 0, .int .i64 0, .slice none 0 0, .string ⟨#[]⟩, .int .i64 0, .int .i64 0, .int .i64 0, .slice none 0 0] rfl rfl 44 _ HZ2.out rfl (by kernel_rfl) (by kernel_rfl) ?_)
      refine Lib.hid ?_
      intro w3 hz ho
      have HZ3 := Lib.hid hz
      have B3 := Lib.hid (B2.out.trans (ho.to_below B2.out.size (fun k hk e => by omega)))
      clear hz ho
      go_wp2_with fail
      refine bodyPost_ret (results_cell_tmp rfl _ _ (w.heap.size + 1) 44 _ (0, 0) _ rfl HZ3.out Tryz.underlying44 rfl (by kernel_rfl)) rfl ?_
      exact ⟨by rw [HS.out]; rfl, B3.out⟩
    | some q =>
      have hql : q < l.length := by have := bestN_lt hs; simpa using this
      have HS := Lib.hid (show evensP (l.map LO.plain) bs (i + 1) (j + 1) = some (moveE (l[q]).sh.id ((i : Int) + 1)) by rw [HP0.out, hs, Option.map_some, plAt_of hql]; rfl)
      have c0 : w2.cell? ⟨b, o + q * 7, none⟩ = some (.int .i64 (l[q]).sh.id) := row_lo (HR.out.below B2.out) hql 0 _ rfl
      generalize (l[q]).sh.id = id at *
      have hneg : ¬ (q : Int) < 0 := by omega
      clear hs
      dsimp only [idxI]
      go_wp2_with (refine wpList_store_blk rfl 44 (.tmp 8) (.tmp 36) rfl (w.heap.size + 1) #[.int .i64 2, .int .i64 id, .int .i64 0, .int .i64 ((i : Int) + 1), .int .i64 0, .int .i64 0, .slice none 0 0, .string ⟨#[]⟩, .int .i64 0, .int .i64 0, .int .i64 0, .slice none 0 0] rfl rfl 44 _ HZ2.out rfl (by kernel_rfl) (by kernel_rfl) ?_)
      refine Lib.hid ?_
      intro w3 hz ho
      have HZ3 := Lib.hid hz
      have B3 := Lib.hid (B2.out.trans (ho.to_below B2.out.size (fun k hk e => by omega)))
      clear hz ho
      go_wp2_with fail
      refine bodyPost_ret (results_cell_tmp rfl _ _ (w.heap.size + 1) 44 _ (0, 0) _ rfl HZ3.out Tryz.underlying44 rfl (by kernel_rfl)) rfl ?_
      exact ⟨by rw [HS.out]; rfl, B3.out⟩
end Go.Proofs.YthjmfcdhpdiehaaGreatDoor

namespace Go.Proofs.YthjmfcdhpdiehaaGreatDoor
open Go.RowKit Utf
set_option maxRecDepth 100000
set_option linter.unusedSimpArgs false
set_option linter.unusedVariables false

def joinAt (p : List (Sh × List LD)) (most : Int) (i : Nat) : Bool :=
  decide (i + 1 < p.length) && (decide ((plAt p i).1.server = (plAt p (i + 1)).1.server) && decide (4 * (sumN (plAt p i).2 + sumN (plAt p (i + 1)).2) ≤ most))
def joinsN (p : List (Sh × List LD)) (most : Int) : Option Nat := (List.range p.length).find? (joinAt p most)
def joinE (a b : Int) : EN := { EN.zero with kind := 4, shard := a, other := b }
/-- What joins answers. -/
def joinsP (p : List (Sh × List LD)) (most : Int) : Option EN := (joinsN p most).map (fun i => joinE (plAt p i).1.id (plAt p (i + 1)).1.id)
/-- Has a number been used? -/
def usedIn (evs : List Ev) (k : Int) : Bool := decide (k = 1) || evs.any (fun x => decide (x.2.kind = 3) && decide (x.2.other = k))
def freshN (evs : List Ev) : Option Nat := (List.range 12).find? (fun n => !usedIn evs ((n : Int) + 1))
/-- The least number that is fresh; 0: there is none. -/
def freshP (evs : List Ev) : Nat := match freshN evs with
  | none => 0
  | some n => n + 1
def splitE (id : Int) (n : Nat) (sv : Int) (key : ByteArray) : EN := { EN.zero with kind := 3, shard := id, other := (n : Int), server := sv, key := key }
/-- What cuts answers. -/
def cutsP (evs : List Ev) (p : List (Sh × List LD)) (most least : Int) : Option EN :=
  match bestN (fun _ => true) p with
  | none => none
  | some i =>
    if sumN (plAt p i).2 ≤ most then none
    else if (plAt p i).2.length < 2 then none
    else if freshP evs = 0 then none
    else some (splitE (plAt p i).1.id (freshP evs) least (halfP (plAt p i).2))
/-- What is to be done next. -/
def nextP (m : PM) (l : List LD) (s : Nat) (most : Int) : Option EN :=
  match straysP (loadsP m.live l) s ((endsL (srvP s (loadsP m.live l))).1 : Nat) with
  | some e => some e
  | none =>
    match cutsP m.evs (loadsP m.live l) most ((endsL (srvP s (loadsP m.live l))).1 : Nat) with
    | some e => some e
    | none =>
      match evensP (loadsP m.live l) (srvP s (loadsP m.live l)) (endsL (srvP s (loadsP m.live l))).1 (endsL (srvP s (loadsP m.live l))).2 with
      | some e => some e
      | none => joinsP (loadsP m.live l) most
/-- All that is to be done. -/
def planS (l : List LD) (s : Nat) (most : Int) : Nat → PM → List EN → List EN × PM
  | 0, m, out => (out, m)
  | k + 1, m, out => match nextP m l s most with
    | none => (out, m)
    | some e => planS l s most k (applyP m e (out.length : Nat)).2 (out ++ [e])
/-- How a map stands: not long, its servers and its events right. -/
structure PMok (m : PM) (n : Nat) : Prop where
  live : m.live.length ≤ n
  evs : m.evs.length ≤ n
  srv : SrvOk m
  ev : ∀ x ∈ m.evs, x.2.kind = 3 → 1 ≤ x.2.other ∧ x.2.other ≤ 12
theorem findN_ix {id : Int} {l : List Sh} {k : Nat} (h : findN id l = some k) : k < l.length := (findN_lt h).1
theorem shAt_mem {l : List Sh} {i : Nat} (h : i < l.length) : shAt l i ∈ l := by
  rw [shAt_eq h]
  exact List.getElem_mem h
theorem within_le {n m : Int} (h : within n m = true) : 1 ≤ n ∧ n ≤ m := by
  unfold within at h
  simpa using h
theorem mem_set_or {α : Type} {l : List α} {i : Nat} {x y : α} (h : y ∈ l.set i x) : y = x ∨ y ∈ l := (List.mem_or_eq_of_mem_set h).symm
/-- What Apply leaves stands as well. -/
theorem PMok.apply {m : PM} {n : Nat} (h : PMok m n) (e : EN) (t : Int) : PMok (applyP m e t).2 (n + 1) := by
  have h0 : PMok m (n + 1) := ⟨by have := h.live; omega, by have := h.evs; omega, h.srv, h.ev⟩
  unfold applyP
  by_cases hc : (countsP m e && decide (0 ≤ t) && decide (t ≤ 4095)) = true
  · rw [if_pos hc]
    simp only [Bool.and_eq_true] at hc
    have hcc := hc.1.1
    unfold countsP at hcc
    cases hf : findN e.shard m.live with
    | none => rw [hf] at hcc; cases hcc
    | some i =>
      rw [hf] at hcc
      dsimp only at hcc
      have hi := findN_ix hf
      have hsi := h.srv _ (shAt_mem hi)
      by_cases h2 : e.kind = 2
      · rw [if_pos h2] at hcc
        dsimp only
        rw [if_pos h2]
        unfold rightE at hcc
        rw [if_pos h2] at hcc
        simp only [Bool.and_eq_true] at hcc
        have hw := within_le hcc.2
        unfold moveP
        rw [hf]
        refine ⟨by have := h0.live; simpa using this, h0.evs, fun s hs => ?_, h0.ev⟩
        rcases mem_set_or hs with rfl | hs
        · exact hw.1
        · exact h.srv s hs
      · rw [if_neg h2] at hcc
        dsimp only
        rw [if_neg h2]
        by_cases h3 : e.kind = 3
        · rw [if_pos h3] at hcc
          rw [if_pos h3]
          simp only [Bool.and_eq_true] at hcc
          have hr := hcc.1.1.1
          unfold rightE at hr
          rw [if_neg h2, if_pos h3] at hr
          simp only [Bool.and_eq_true] at hr
          have hw := within_le hr.1.2
          have ht := hr.1.1
          unfold twoR at ht
          simp only [Bool.and_eq_true] at ht
          have ho := within_le ht.1.2
          unfold PM.event splitP
          rw [hf]
          dsimp only
          refine ⟨?_, ?_, fun s hs => ?_, fun x hx hk => ?_⟩
          · have := h.live
            simp only [List.length_append, List.length_take, List.length_cons, List.length_drop, List.length_set]
            omega
          · have := h.evs
            simp only [List.length_append, List.length_cons, List.length_nil]
            omega
          · rcases List.mem_append.1 hs with hs | hs
            · rcases mem_set_or (List.mem_of_mem_take hs) with rfl | hs
              · exact hsi
              · exact h.srv s hs
            · rcases List.mem_cons.1 hs with rfl | hs
              · exact hw.1
              · rcases mem_set_or (List.mem_of_mem_drop hs) with rfl | hs
                · exact hsi
                · exact h.srv s hs
          · rcases List.mem_append.1 hx with hx | hx
            · exact h.ev x hx hk
            · rw [List.mem_singleton] at hx
              subst hx
              exact ho
        · rw [if_neg h3] at hcc
          rw [if_neg h3]
          by_cases h4 : e.kind = 4
          · have hev : ∀ x ∈ m.evs ++ [(t, e)], x.2.kind = 3 → 1 ≤ x.2.other ∧ x.2.other ≤ 12 := fun x hx hk => by
              rcases List.mem_append.1 hx with hx | hx
              · exact h.ev x hx hk
              · rw [List.mem_singleton] at hx
                subst hx
                exact absurd hk h3
            have hel : (m.evs ++ [(t, e)]).length ≤ n + 1 := by
              have := h.evs
              simp only [List.length_append, List.length_cons, List.length_nil]
              omega
            unfold PM.event mergeP
            rw [hf]
            cases hf2 : findN e.other m.live with
            | none => exact ⟨h0.live, hel, h0.srv, hev⟩
            | some k =>
              dsimp only
              cases hj : joinB (shAt m.live i).lo (shAt m.live i).hi (shAt m.live k).lo (shAt m.live k).hi with
              | none => exact ⟨h0.live, hel, h0.srv, hev⟩
              | some sp =>
                dsimp only
                refine ⟨?_, hel, fun s hs => ?_, hev⟩
                · have := h.live
                  simp only [List.length_append, List.length_take, List.length_drop, List.length_set]
                  omega
                · rcases List.mem_append.1 hs with hs | hs
                  · rcases mem_set_or (List.mem_of_mem_take hs) with rfl | hs
                    · exact hsi
                    · exact h.srv s hs
                  · rcases mem_set_or (List.mem_of_mem_drop hs) with rfl | hs
                    · exact hsi
                    · exact h.srv s hs
          · rw [if_neg h4] at hcc
            cases hcc
  · rw [if_neg hc]
    exact h0
theorem PMok.new : PMok PM.new 1 := ⟨by decide, by decide, fun s hs => by
  unfold PM.new at hs
  rw [List.mem_singleton] at hs
  subst hs
  decide, fun x hx => by cases hx⟩
theorem PMok.mono {m : PM} {n k : Nat} (h : PMok m n) (hk : n ≤ k) : PMok m k := ⟨Nat.le_trans h.live hk, Nat.le_trans h.evs hk, h.srv, h.ev⟩
/-- Entries that are planned begin with nothing. -/
theorem EN.zero_at (e : EN) (h1 : e.ao = none) (h2 : e.no = 0) (h3 : e.nd = 0) (hk : e.key.size ≤ 1000000) (w : World) : e.at w := by
  refine ⟨⟨[], by rw [h2]; rfl, by simp, ?_, ?_⟩, hk, by rw [h3]; omega⟩
  · intro o ho
    cases ho
  · rw [h1]
    intro i h
    cases h
end Go.Proofs.YthjmfcdhpdiehaaGreatDoor

namespace Go.Proofs.YthjmfcdhpdiehaaGreatDoor
open Go.RowKit Utf Go.Maps
set_option maxRecDepth 100000
set_option linter.unusedSimpArgs false
set_option linter.unusedVariables false

theorem Tryz.keyInt : Keyed Tryz.prog 3 := int_keyed Tryz.underlying3
theorem Tryz.zeroBool (w : World) : (zeroValue 4).run Tryz.prog w = .ok (.bool false) w := by kernel_rfl
/-- Block b is such a map, of at most n entries. -/
def BMap (w : World) (b n : Nat) (u : Int → Bool) : Prop := ∃ D : DataW Unit, w.ownsMap Tryz.prog 3 (plainElem Tryz.prog 4) b n D ∧ ∀ x : Int, D.atKey (.int .i64 x) (.lit (.bool false)) = .lit (.bool (u x))
theorem BMap.made (w : World) : BMap (w.alloc (.map #[] 0)) w.heap.size 0 (fun _ => false) := ⟨_, World.ownsMap_made w _ _ _, fun x => WideAt.atKey_none _ (by simp)⟩
theorem BMap.lt {w : World} {b n : Nat} {u : Int → Bool} (h : BMap w b n u) : b < w.heap.size := by
  obtain ⟨D, hD, -⟩ := h
  exact hD.lt
theorem BMap.below {w w' : World} {b n : Nat} {u : Int → Bool} (h : BMap w b n u) (hb : Below w.heap.size w w') : BMap w' b n u := by
  have hl := h.lt
  obtain ⟨D, ⟨es, clock, h1, h2, h3, h4⟩, hat⟩ := h
  exact ⟨D, ⟨es, clock, (hb.block b hl).trans h1, h2, h3, h4⟩, hat⟩
theorem BMap.only {S : Nat → Prop} {w w' : World} {b n : Nat} {u : Int → Bool} (h : BMap w b n u) (hb : Only S w w') (hs : ¬ S b) : BMap w' b n u := by
  have hl := h.lt
  obtain ⟨D, ⟨es, clock, h1, h2, h3, h4⟩, hat⟩ := h
  exact ⟨D, ⟨es, clock, (hb.block b hl hs).trans h1, h2, h3, h4⟩, hat⟩
theorem BMap.congr {w : World} {b n : Nat} {u u' : Int → Bool} (h : BMap w b n u) (e : ∀ x, u x = u' x) : BMap w b n u' := by
  obtain ⟨D, hD, hat⟩ := h
  exact ⟨D, hD, fun x => by rw [hat x, e x]⟩
theorem only_grown {w w' : World} {p : Nat} (h : w.grownBy w' (some p)) : Only (fun k => k = p) w w' := ⟨h.os, h.tape, h.output, h.size, fun k hk hs => h.block k hk (fun e => hs (by cases e; rfl))⟩
theorem BMap.drewN {w : World} {b n : Nat} {u : Int → Bool} (h : BMap w b n u) (k : Nat) : BMap (w.drewN k) b n u := h
theorem plainElem_bool_inv {P : Program} {e : TypeId} (he : P.underlying e = some .bool) {v : Value} {x : Bool} {ps : List MemPlace} (h : plainElem (H := Unit) P e v = some (.lit (.bool x), ps)) : v = .bool x := by
  unfold plainElem at h
  rw [he] at h
  cases v <;> simp at h
  rw [h.1]
theorem bmap_get {w : World} {b n : Nat} {u : Int → Bool} (h : BMap w b n u) (z : Int) (hwf : (Lit.int .i64 z).wf = true) : (Instr.lookup 158 (.map (some b)) (.int .i64 z) false).run Tryz.prog w = .ok (.bool (u z)) w := by
  obtain ⟨D, hD, hat⟩ := h
  obtain ⟨v, ps, hrun, hv⟩ := hD.lookup Tryz.keyInt Tryz.underlying158 (Tryz.zeroBool w) (plainElem_bool Tryz.underlying4 false) (keyOf_int_mk Tryz.underlying3 hwf)
  rw [hat z] at hv
  rw [← plainElem_bool_inv Tryz.underlying4 hv]
  exact hrun
theorem bmap_set {w : World} {b n : Nat} {u : Int → Bool} (h : BMap w b n u) (hn : n < maxLen) (z : Int) (x : Bool) (hwf : (Lit.int .i64 z).wf = true) :
    ∃ w', (Instr.mapUpdate 158 (.map (some b)) (.int .i64 z) (.bool x)).run Tryz.prog w = .ok () w' ∧ BMap w' b (n + 1) (fun k => if k = z then x else u k) ∧ w.grownBy w' (some b) := by
  obtain ⟨D, hD, hat⟩ := h
  obtain ⟨w', hrun, r1, r2⟩ := hD.update Tryz.keyInt Tryz.underlying158 hn (keyOf_int_mk Tryz.underlying3 hwf) (plainElem_bool Tryz.underlying4 x)
  refine ⟨w', hrun, ⟨_, r1, fun k => ?_⟩, r2⟩
  dsimp only
  by_cases hk : k = z
  · subst hk
    rw [if_pos rfl, Maps.atKey_put_same hD.isMap (by simp [WideAt.IsKeyLit])]
  · rw [if_neg hk, Maps.atKey_put_other (by simpa using hk)]
    exact hat k
section
variable {ops : Array Oper} {rest : List Oper} {o : Oper} {a : Act} {Q : Exit → Act → World → Prop} {w : World}
theorem wpList_bget (hg : o.guard = none) (m x : Operand) (hop : o.op = Op.lookup 158 m x false) (b n : Nat) (u : Int → Bool) (hm : a.eval m = .map (some b)) (hown : BMap w b n u) (z : Int) (hx : a.eval x = .int .i64 z) (hwf : (Lit.int .i64 z).wf = true) (y : Bool) (hy : u z = y)
    (hK : wpList Tryz.prog ops Q rest (a.put o.dst (.bool y)) w) : wpList Tryz.prog ops Q (o :: rest) a w := by
  refine wpList_plain hg fun K' hK' => ?_
  have hrun := bmap_get hown z hwf
  rw [hy] at hrun
  unfold Oper.wp
  simp [execOp, hop, hm, hx, hrun, Result.andThen]
  exact hK' _ _ hK
theorem wpList_bset (hg : o.guard = none) (m x v : Operand) (hop : o.op = Op.mapUpdate 158 m x v ∨ o.op = Op.insert 158 m x v) (b n : Nat) (u : Int → Bool) (hm : a.eval m = .map (some b)) (hown : BMap w b n u) (hn : n < maxLen) (z : Int) (y : Bool) (hx : a.eval x = .int .i64 z) (hv : a.eval v = .bool y) (hwf : (Lit.int .i64 z).wf = true) (u' : Int → Bool) (hu : ∀ k, (if k = z then y else u k) = u' k)
    (hK : Hid (∀ w', BMap w' b (n + 1) u' → w.grownBy w' (some b) → wpList Tryz.prog ops Q rest (a.put o.dst undef) w')) : wpList Tryz.prog ops Q (o :: rest) a w := by
  refine wpList_plain hg fun K' hK' => ?_
  obtain ⟨w', hrun, r1, r2⟩ := bmap_set hown hn z y hwf
  unfold Oper.wp
  rcases hop with hop | hop <;> simp [execOp, hop, hm, hx, hv, hrun, Result.andThen] <;> exact hK' _ _ (hK.out w' (r1.congr hu) r2)
end
end Go.Proofs.YthjmfcdhpdiehaaGreatDoor

namespace Go.Proofs.YthjmfcdhpdiehaaGreatDoor
open Go.RowKit Utf Go.Maps
set_option maxRecDepth 100000
set_option linter.unusedSimpArgs false
set_option linter.unusedVariables false

theorem used_take (evs : List Ev) (k : Nat) (hk : k < evs.length) (x : Int) : usedIn (evs.take (k + 1)) x = (usedIn (evs.take k) x || (decide (evs[k].2.kind = 3) && decide (evs[k].2.other = x))) := by
  unfold usedIn
  rw [List.take_succ_eq_append_getElem hk, List.any_append, List.any_cons, List.any_nil, Bool.or_false, Bool.or_assoc]
theorem used_no {evs : List Ev} {k : Nat} (hk : k < evs.length) (h : ¬ evs[k].2.kind = 3) (x : Int) : usedIn (evs.take k) x = usedIn (evs.take (k + 1)) x := by
  rw [used_take evs k hk, decide_eq_false h, Bool.false_and, Bool.or_false]
theorem used_yes {evs : List Ev} {k : Nat} (hk : k < evs.length) (h : evs[k].2.kind = 3) (x : Int) : (if x = evs[k].2.other then true else usedIn (evs.take k) x) = usedIn (evs.take (k + 1)) x := by
  rw [used_take evs k hk, decide_eq_true h, Bool.true_and]
  by_cases hx : x = evs[k].2.other
  · rw [if_pos hx, decide_eq_true hx.symm, Bool.or_true]
  · rw [if_neg hx, decide_eq_false (fun e => hx e.symm), Bool.or_false]
theorem used_first (l : List Ev) (x : Int) : (if x = 1 then true else (fun _ => false) x) = usedIn (List.take 0 l) x := by
  rw [List.take_zero]
  unfold usedIn
  by_cases hx : x = 1
  · rw [if_pos hx, decide_eq_true hx]; rfl
  · rw [if_neg hx, decide_eq_false hx]; rfl
theorem fresh_some {evs : List Ev} {k : Nat} (hk : k < 12) (h : usedIn evs ((k : Int) + 1) = false) (hn : ∀ j, j < k → usedIn evs ((j : Int) + 1) = true) : freshP evs = k + 1 := by
  have : freshN evs = some k := by
    unfold freshN
    rw [List.find?_range_eq_some]
    exact ⟨by rw [h]; rfl, List.mem_range.2 hk, fun j hj => by rw [hn j hj]; rfl⟩
  unfold freshP
  rw [this]
theorem fresh_none {evs : List Ev} (hn : ∀ j : Nat, j < 12 → usedIn evs ((j : Int) + 1) = true) : freshP evs = 0 := by
  have : freshN evs = none := by
    unfold freshN
    rw [List.find?_eq_none]
    intro j hj
    rw [hn j (List.mem_range.1 hj)]
    simp
  unfold freshP
  rw [this]
/-- How the loops stand. -/
structure FE (w : World) (p n : Nat) (u : Int → Bool) (ao : Option Addr) (evs : List Ev) (W : World) : Prop where
  bel : Below w.heap.size w W
  ge : w.heap.size ≤ p
  mp : BMap W p n u
  row : RowAt W ao (evRow evs)
  far : ∀ ad, ao = some ad → ¬ ad.block = p
theorem FE.next {w W W' : World} {p n : Nat} {u : Int → Bool} {ao : Option Addr} {evs : List Ev} (h : FE w p n u ao evs W) (hb : Below W.heap.size W W') : FE w p n u ao evs W' :=
  ⟨h.bel.trans (hb.mono h.bel.size), h.ge, h.mp.below hb, h.row.below hb, h.far⟩
theorem FE.congr {w W : World} {p n : Nat} {u u' : Int → Bool} {ao : Option Addr} {evs : List Ev} (h : FE w p n u ao evs W) (e : ∀ x, u x = u' x) : FE w p n u' ao evs W := ⟨h.bel, h.ge, h.mp.congr e, h.row, h.far⟩
theorem FE.set {w W W' : World} {p n k : Nat} {u u' : Int → Bool} {ao : Option Addr} {evs : List Ev} (h : FE w p n u ao evs W) (hm : BMap W' p k u') (hg : W.grownBy W' (some p)) : FE w p k u' ao evs W' :=
  ⟨h.bel.trans ((only_grown hg).to_below h.bel.size (fun q hq e => by have := h.ge; omega)), h.ge, hm, h.row.only (only_grown hg) h.far, h.far⟩

theorem evOwn_row {w : World} {B : Nat} {v : Value} {l : List Ev} (h : EvOwn w B v l) : ∃ ao c, v = .slice ao l.length c ∧ RowAt w ao (evRow l) ∧ ∀ ad, ao = some ad → B ≤ ad.block := by
  rcases h with ⟨rfl, rfl⟩ | ⟨h1, h2⟩
  · exact ⟨none, 0, rfl, (fun i h => by cases h), (fun ad h => by cases h)⟩
  · obtain ⟨g, cap, rfl, hB, -, -, hr⟩ := own_some h2 h1
    exact ⟨_, _, rfl, hr, (fun ad h => by cases h; exact hB)⟩

set_option maxHeartbeats 4000000 in
theorem fresh_any (b B : Nat) (m : PM) (w : World) (hm : MapAt w B b m) (hev : ∀ x ∈ m.evs, x.2.kind = 3 → 1 ≤ x.2.other ∧ x.2.other ≤ 12) :
    Calls Tryz.prog 71 #[.pointer (some ⟨b, 0, none⟩)] w fun e w' => e = .returned (.int .i64 (freshP m.evs : Nat)) ∧ Below w.heap.size w w' := by
  have hnl : m.evs.length ≤ 10000 := by obtain ⟨vl, ve, h⟩ := hm; exact h.len.2
  have HM := Lib.hid hm
  have HEV := Lib.hid (show ∀ k, (hk : k < m.evs.length) → m.evs[k].2.kind = 3 → 1 ≤ m.evs[k].2.other ∧ m.evs[k].2.other ≤ 12 from fun k hk => hev _ (List.getElem_mem hk))
  have HU1 := Lib.hid (fun k (hk : k < m.evs.length) h x => used_yes hk h x)
  have HU0 := Lib.hid (fun k (hk : k < m.evs.length) h x => used_no hk h x)
  have HFS := Lib.hid (fun k a b c => fresh_some (evs := m.evs) (k := k) a b c)
  have HFN := Lib.hid (fun a => fresh_none (evs := m.evs) a)
  have HB0 := Lib.hid (BMap.made w)
  have hmm := @run_makeMap Tryz.prog
  clear hm hev
  go_enter Tryz.func71, Tryz.ntmps71
  go_wp2_with (refine wpList_bset rfl (.tmp 7) (.const (.int .i64 1)) (.const (.bool true)) (.inr rfl) w.heap.size 0 _ rfl HB0.out (by unfold maxLen; omega) 1 true rfl rfl (by decide) (usedIn (m.evs.take 0)) (used_first m.evs) ?_)
  refine Lib.hid ?_
  intro w1 hm1 hg1
  have HM1 := Lib.hid hm1
  have B1 := Lib.hid (((below_alloc w (.map #[] 0)).grown hg1 (by simp) (fun k hk => by cases hk; exact Nat.le_refl _) : Below w.heap.size w w1))
  clear hm1 hg1 hmm
  go_wp2_with fail
  refine (events_any b B m w1 (HM.out.below B1.out)).mono ?_
  rintro e w2 ⟨v, rfl, hv, hb2⟩
  obtain ⟨ao, c, rfl, hrow, hfar⟩ := evOwn_row hv
  have S2 := Lib.hid (show FE w w.heap.size 1 (usedIn (m.evs.take 0)) ao m.evs w2 from ⟨B1.out.trans (hb2.mono B1.out.size), Nat.le_refl _, HM1.out.below hb2, hrow, fun ad h e => by
    have h1 := hfar ad h
    have h2 := HM1.out.lt
    omega⟩)
  clear hv hb2 hrow hfar HM1 B1
  generalize hme : m.evs = evs at *
  have HME := Lib.hid hme
  clear hme
  go_wp2_with fail
  go_loopw [12] (fun i wr => ∃ k n : Nat, k ≤ evs.length ∧ n ≤ k + 1 ∧ i = .int .i64 k ∧ Hid (FE w w.heap.size n (usedIn (evs.take k)) ao evs wr)) (fun i _ => evs.length - (intOf i).toNat)
  case atStart => exact ⟨0, 1, Nat.zero_le _, by omega, rfl, S2⟩
  case round =>
    obtain ⟨k, n, hk, hnk, rfl, HB⟩ := hrel
    by_cases hlt : k < evs.length
    · obtain ⟨b', o', rfl, hc⟩ := row_flat evC 13 (by decide) evC_len HB.out.row k hlt
      have HRG := Lib.hid (show wr.rangeAt b' (o' + k * 13) (evC evs[k]) from fun j v hj => by
        have hj5 : j < 13 := by have := (List.getElem?_eq_some_iff.1 hj).1; rw [evC_len] at this; exact this
        rw [hc j hj5]; exact hj)
      have HSI := Lib.hid (show (Tryz.prog.info? 103).map (·.size) = some (evC evs[k]).length by rw [evC_len]; kernel_rfl)
      have HZ1 := Lib.hid (Blk.new wr 103 (Value.int .i64 0 :: EN.zero.cells).toArray)
      have HEK := Lib.hid (HEV.out k hlt)
      have HY := Lib.hid (HU1.out k hlt)
      have HN := Lib.hid (HU0.out k hlt)
      clear hc
      generalize hx : evs[k] = x at *
      obtain ⟨t, e⟩ := x
      obtain ⟨kind, shard, other, server, client, seq, eao, no, co, key, upto, part, parts, ad, nd, cd⟩ := e
      unfold evC EN.cells at HRG HSI
      unfold EN.zero EN.cells at HZ1
      dsimp only at HRG HSI HZ1 HEK HY HN
      clear hx
      go_wp2_with (first | (refine wpList_load_mid rfl 103 (.tmp 14) rfl b' (o' + k * 13) rfl _ _ HRG.out Tryz.underlying103 rfl HSI.out ?_) | (refine wpList_store_blk rfl 103 (.tmp 5) (.tmp 15) rfl wr.heap.size #[.int .i64 t, .int .i64 kind, .int .i64 shard, .int .i64 other, .int .i64 server, .int .i64 client, .int .i64 seq, .slice eao no co, .string key, .int .i64 upto, .int .i64 part, .int .i64 parts, .slice ad nd cd] rfl rfl 103 _ HZ1.out rfl (by kernel_rfl) (by kernel_rfl) ?_))
      refine Lib.hid ?_
      intro w3 hz ho
      have HB3 := Lib.hid (HB.out.next ((below_alloc wr _).trans (ho.to_below (B := wr.heap.size) (by simp) (fun q hq e => by omega))))
      have d1 : w3.cell? ⟨wr.heap.size, 1, none⟩ = some (.int .i64 kind) := hz.cell 1
      have d3 : w3.cell? ⟨wr.heap.size, 3, none⟩ = some (.int .i64 other) := hz.cell 3
      clear hz ho HZ1 HRG
      by_cases h3 : kind = 3
      · subst h3
        have hoth := HEK.out rfl
        have HYY := Lib.hid (HY.out rfl)
        clear HY HN HEK
        go_wp2_with (refine wpList_bset rfl (.tmp 20) (.tmp 23) (.const (.bool true)) (.inl rfl) w.heap.size n _ rfl HB3.out.mp (by unfold maxLen; omega) other true rfl rfl (WalkArith.wf_i64 (by omega)) (usedIn (evs.take (k + 1))) HYY.out ?_)
        refine Lib.hid ?_
        intro w4 hm4 hg4
        have HB4 := Lib.hid (HB3.out.set hm4 hg4)
        clear hm4 hg4
        go_wp2_with fail
        go_roundw
        case rel => exact ⟨k + 1, n + 1, by omega, by omega, by go_num, HB4⟩
        case measure => simp [intOf]; omega
      · have hq : (kind == 3) = false := by simp [h3]
        have HB4 := Lib.hid (HB3.out.congr (HN.out h3))
        clear HY HN HEK h3
        go_wp2_with fail
        go_roundw
        case rel => exact ⟨k + 1, n, by omega, by omega, by go_num, HB4⟩
        case measure => simp [intOf]; omega
    · obtain rfl : k = evs.length := by omega
      have HB2 := Lib.hid (show FE w w.heap.size n (usedIn evs) ao evs wr by have := HB.out; rw [List.take_length] at this; exact this)
      clear HB
      go_wp2_with fail
      go_loopw [25] (fun i w5 => ∃ j : Nat, j ≤ 12 ∧ i = .int .i64 j ∧ w5 = wr ∧ Hid (∀ q, q < j → usedIn evs ((q : Int) + 1) = true)) (fun i _ => 12 - (intOf i).toNat)
      case atStart => exact ⟨0, by omega, rfl, rfl, Lib.hid (fun q hq => by omega)⟩
      case round =>
        obtain ⟨j, hj, rfl, rfl, HP⟩ := hrel
        by_cases hl12 : j < 12
        · have HJS := Lib.hid (fun h => HFS.out j hl12 h HP.out)
          cases hu : usedIn evs ((j : Int) + 1) with
          | true =>
            have HU := Lib.hid hu
            have HPN := Lib.hid (fun q (hq : q < j + 1) => show usedIn evs ((q : Int) + 1) = true from by
              by_cases hqj : q < j
              · exact HP.out q hqj
              · obtain rfl : q = j := by omega
                exact hu)
            clear hu HJS
            go_wp2_with (refine wpList_bget rfl (.tmp 28) (.tmp 30) rfl w.heap.size n _ rfl HB2.out.mp ((j : Int) + 1) rfl (WalkArith.wf_i64 (by omega)) true HU.out ?_)
            go_roundw
            case rel => exact ⟨j + 1, by omega, by go_num, trivial, HPN⟩
            case measure => simp [intOf]; omega
          | false =>
            have HU := Lib.hid hu
            have HRS := Lib.hid (HJS.out hu)
            clear hu HJS
            go_wp2_with (refine wpList_bget rfl (.tmp 28) (.tmp 30) rfl w.heap.size n _ rfl HB2.out.mp ((j : Int) + 1) rfl (WalkArith.wf_i64 (by omega)) false HU.out ?_)
            go_ret
            exact ⟨by rw [HME.out, HRS.out]; rfl, HB2.out.bel⟩
        · obtain rfl : j = 12 := by omega
          have HRS := Lib.hid (HFN.out HP.out)
          go_wp2_with fail
          go_ret
          exact ⟨by rw [HME.out, HRS.out]; rfl, HB2.out.bel⟩
end Go.Proofs.YthjmfcdhpdiehaaGreatDoor

namespace Go.Proofs.YthjmfcdhpdiehaaGreatDoor
open Go.RowKit Utf
set_option maxRecDepth 100000
set_option linter.unusedSimpArgs false
set_option linter.unusedVariables false

/-- How the walk stands: a row, and the cell of the result. -/
structure CU (w : World) (b o : Nat) (l : List LO) (W : World) : Prop where
  bel : Below w.heap.size w W
  row : RowAt W (some ⟨b, o, none⟩) (loRow l)
  box : Blk W w.heap.size 44 zeroEn
theorem CU.next {w W W' : World} {b o : Nat} {l : List LO} (h : CU w b o l W) (hb : Below W.heap.size W W') : CU w b o l W' :=
  ⟨h.bel.trans (hb.mono h.bel.size), h.row.below hb, h.box.below hb h.box.lt⟩
/-- Loads' keys lie in memory, and their numbers are right. -/
structure KeysAt (w : World) (x : LO) : Prop where
  row : ∃ ao c, x.kv = .slice ao x.keys.length c ∧ RowAt w ao (ldRow x.keys)
  num : NumOk x.keys
  len : x.keys.length ≤ 1000
theorem cuts_none {evs : List Ev} {p : List (Sh × List LD)} {most least : Int} (h : bestN (fun _ => true) p = none) : cutsP evs p most least = none := by
  unfold cutsP
  rw [h]
theorem cuts_at {evs : List Ev} {p : List (Sh × List LD)} {most least : Int} {i : Nat} (h : bestN (fun _ => true) p = some i) :
    cutsP evs p most least = if sumN (plAt p i).2 ≤ most then none else if (plAt p i).2.length < 2 then none else if freshP evs = 0 then none else some (splitE (plAt p i).1.id (freshP evs) least (halfP (plAt p i).2)) := by
  unfold cutsP
  rw [h]

set_option maxHeartbeats 4000000 in
theorem cuts_any (b B : Nat) (m : PM) (l : List LO) (lb lo lc : Nat) (most least : Int) (w : World) (hm : MapAt w B b m) (hev : ∀ x ∈ m.evs, x.2.kind = 3 → 1 ≤ x.2.other ∧ x.2.other ≤ 12)
    (hn : l.length ≤ 10000) (hr : RowAt w (some ⟨lb, lo, none⟩) (loRow l)) (hks : ∀ x ∈ l, KeysAt w x) :
    Calls Tryz.prog 40 #[.pointer (some ⟨b, 0, none⟩), .slice (some ⟨lb, lo, none⟩) l.length lc, .int .i64 most, .int .i64 least] w fun e w' => EntR (cutsP m.evs (l.map LO.plain) most least) e ∧ Below w.heap.size w w' := by
  have S0 := Lib.hid (show CU w lb lo l (w.alloc (.cells zeroEn 44)) from ⟨below_alloc _ _, hr.below (below_alloc _ _), Blk.new _ _ _⟩)
  unfold zeroEn at S0
  have HM := Lib.hid hm
  have HKS := Lib.hid hks
  have HG := Lib.hid (fun W hrow => great_cuts l lb lo lc W hn hrow (fun x hx => by obtain ⟨ao, c, h, -⟩ := (hks x hx).row; rw [h]; rfl))
  have HFR := Lib.hid (fun W hmw => fresh_any b B m W hmw hev)
  have HR := Lib.hid hr
  have HCN := Lib.hid (fun h => cuts_none (evs := m.evs) (p := l.map LO.plain) (most := most) (least := least) h)
  have HCA := Lib.hid (fun i h => cuts_at (evs := m.evs) (p := l.map LO.plain) (most := most) (least := least) (i := i) h)
  clear hm hks hev hr
  go_enter Tryz.func40, Tryz.ntmps40
  go_wp2_with fail
  refine (HG.out _ S0.out.row).mono ?_
  rintro e w1 ⟨rfl, hb1⟩
  have S1 := Lib.hid (S0.out.next hb1)
  clear hb1 HG
  go_wp2_with fail
  refine (HFR.out _ (HM.out.below S1.out.bel)).mono ?_
  rintro e w2 ⟨rfl, hb2⟩
  have S2 := Lib.hid (S1.out.next hb2)
  clear hb2 HFR
  cases hs : bestN (fun _ => true) (l.map LO.plain) with
  | none =>
    have HS := Lib.hid (HCN.out hs)
    clear hs HCN HCA
    dsimp only [idxI]
    go_wp2_with (refine wpList_store_blk rfl 44 (.tmp 8) (.tmp 40) rfl w.heap.size #[.int .i64 0, .int .i64 0, .int .i64 0, .int .i64 0, .int .i64 0, .int .i64 0, .slice none 0 0, .string ⟨#[]⟩, .int .i64 0, .int .i64 0, .int .i64 0, .slice none 0 0] rfl rfl 44 _ S2.out.box rfl (by kernel_rfl) (by kernel_rfl) ?_)
    refine Lib.hid ?_
    intro w3 hz ho
    have HZ3 := Lib.hid hz
    have B3 := Lib.hid (S2.out.bel.trans (ho.to_below S2.out.bel.size (fun k hk e => by omega)))
    clear hz ho
    go_wp2_with fail
    refine bodyPost_ret (results_cell_tmp rfl _ _ w.heap.size 44 _ (0, 0) _ rfl HZ3.out Tryz.underlying44 rfl (by kernel_rfl)) rfl ?_
    exact ⟨by rw [HS.out]; rfl, B3.out⟩
  | some i =>
    have hil : i < l.length := by have := bestN_lt hs; simpa using this
    have HSS : Hid (cutsP m.evs (l.map LO.plain) most least = if sumN l[i].keys ≤ most then none else if l[i].keys.length < 2 then none else if freshP m.evs = 0 then none else some (splitE l[i].sh.id (freshP m.evs) least (halfP l[i].keys))) := Lib.hid (by rw [HCA.out i hs, plAt_of hil]; rfl)
    have hneg : ¬ (i : Int) < 0 := by omega
    have HKX := HKS.out _ (List.getElem_mem hil)
    have HLB : Hid (lb < w.heap.size) := Lib.hid (World.block_lt_of_cell? w ⟨lb, lo + i * 7 + 0, none⟩ (row_lo HR.out hil 0 _ rfl))
    have HRL := Lib.hid (fun W (h : RowAt W (some ⟨lb, lo, none⟩) (loRow l)) => row_lo h hil)
    generalize l[i] = x at *
    obtain ⟨⟨sid, server, since, slo, shi⟩, kv, ks⟩ := x
    obtain ⟨⟨ko, kc, hkv, hkr⟩, hkn, hkl⟩ := HKX
    dsimp only at hkv hkr hkn hkl HSS
    subst hkv
    have HKR := Lib.hid hkr
    have HKN := Lib.hid hkn
    unfold LO.cells at HRL
    dsimp only at HRL
    have c5 : w2.cell? ⟨lb, lo + i * 7 + 5, none⟩ = some (.slice ko ks.length kc) := HRL.out _ S2.out.row 5 _ rfl
    have c6 : w2.cell? ⟨lb, lo + i * 7 + 6, none⟩ = some (.int .i64 (sumN ks)) := HRL.out _ S2.out.row 6 _ rfl
    have HRG := Lib.hid (HRL.out _ S2.out.row)
    have HHF := Lib.hid (fun kb kof (e : ko = some ⟨kb, kof, none⟩) h1 W (hrow : RowAt W (some ⟨kb, kof, none⟩) (ldRow ks)) => half_any ⟨sid, server, since, slo, shi⟩ ks kb kof kc W h1 hkl hkn hrow)
    unfold LO.cells at HHF
    dsimp only at HHF
    clear hs HCN HCA hkr hkn
    generalize sumN ks = S at *
    generalize halfP ks = ky at *
    generalize freshP m.evs = F at *
    have hz0 : ∀ (hw : cutsP m.evs (l.map LO.plain) most least = none), True := fun _ => trivial
    clear hz0
    by_cases h1 : S ≤ most
    · have HS := Lib.hid (show cutsP m.evs (l.map LO.plain) most least = none by rw [HSS.out, if_pos h1])
      clear HSS HHF HRG
      dsimp only [idxI]
      go_wp2_with (refine wpList_store_blk rfl 44 (.tmp 8) (.tmp 40) rfl w.heap.size #[.int .i64 0, .int .i64 0, .int .i64 0, .int .i64 0, .int .i64 0, .int .i64 0, .slice none 0 0, .string ⟨#[]⟩, .int .i64 0, .int .i64 0, .int .i64 0, .slice none 0 0] rfl rfl 44 _ S2.out.box rfl (by kernel_rfl) (by kernel_rfl) ?_)
      refine Lib.hid ?_
      intro w3 hz ho
      have HZ3 := Lib.hid hz
      have B3 := Lib.hid (S2.out.bel.trans (ho.to_below S2.out.bel.size (fun k hk e => by omega)))
      clear hz ho
      go_wp2_with fail
      refine bodyPost_ret (results_cell_tmp rfl _ _ w.heap.size 44 _ (0, 0) _ rfl HZ3.out Tryz.underlying44 rfl (by kernel_rfl)) rfl ?_
      exact ⟨by rw [HS.out]; rfl, B3.out⟩
    · by_cases h2 : ks.length < 2
      · have HS := Lib.hid (show cutsP m.evs (l.map LO.plain) most least = none by rw [HSS.out, if_neg h1, if_pos h2])
        have h2i : (ks.length : Int) < 2 := by omega
        clear HSS HHF HRG
        dsimp only [idxI]
        go_wp2_with (refine wpList_store_blk rfl 44 (.tmp 8) (.tmp 40) rfl w.heap.size #[.int .i64 0, .int .i64 0, .int .i64 0, .int .i64 0, .int .i64 0, .int .i64 0, .slice none 0 0, .string ⟨#[]⟩, .int .i64 0, .int .i64 0, .int .i64 0, .slice none 0 0] rfl rfl 44 _ S2.out.box rfl (by kernel_rfl) (by kernel_rfl) ?_)
        refine Lib.hid ?_
        intro w3 hz ho
        have HZ3 := Lib.hid hz
        have B3 := Lib.hid (S2.out.bel.trans (ho.to_below S2.out.bel.size (fun k hk e => by omega)))
        clear hz ho
        go_wp2_with fail
        refine bodyPost_ret (results_cell_tmp rfl _ _ w.heap.size 44 _ (0, 0) _ rfl HZ3.out Tryz.underlying44 rfl (by kernel_rfl)) rfl ?_
        exact ⟨by rw [HS.out]; rfl, B3.out⟩
      · have h2i : ¬ (ks.length : Int) < 2 := by omega
        by_cases h3 : F = 0
        · have HS := Lib.hid (show cutsP m.evs (l.map LO.plain) most least = none by rw [HSS.out, if_neg h1, if_neg h2, if_pos h3])
          subst h3
          clear HSS HHF HRG
          dsimp only [idxI]
          go_wp2_with (refine wpList_store_blk rfl 44 (.tmp 8) (.tmp 40) rfl w.heap.size #[.int .i64 0, .int .i64 0, .int .i64 0, .int .i64 0, .int .i64 0, .int .i64 0, .slice none 0 0, .string ⟨#[]⟩, .int .i64 0, .int .i64 0, .int .i64 0, .slice none 0 0] rfl rfl 44 _ S2.out.box rfl (by kernel_rfl) (by kernel_rfl) ?_)
          refine Lib.hid ?_
          intro w3 hz ho
          have HZ3 := Lib.hid hz
          have B3 := Lib.hid (S2.out.bel.trans (ho.to_below S2.out.bel.size (fun k hk e => by omega)))
          clear hz ho
          go_wp2_with fail
          refine bodyPost_ret (results_cell_tmp rfl _ _ w.heap.size 44 _ (0, 0) _ rfl HZ3.out Tryz.underlying44 rfl (by kernel_rfl)) rfl ?_
          exact ⟨by rw [HS.out]; rfl, B3.out⟩
        · have HS := Lib.hid (show cutsP m.evs (l.map LO.plain) most least = some (splitE sid F least ky) by rw [HSS.out, if_neg h1, if_neg h2, if_neg h3])
          have hq : ((F : Int) == 0) = false := by simp [h3]
          obtain ⟨kb, kof, e0, -⟩ := row_flat LD.cells 2 (by decide) LD.cells_len HKR.out 0 (by omega)
          subst e0
          have HHX := Lib.hid (HHF.out kb kof rfl (by omega))
          have HKB : Hid (kb < w.heap.size) := Lib.hid (by
            have := row_ld HKR.out (i := 0) (by omega) 0 (by decide)
            exact World.block_lt_of_cell? w ⟨kb, kof + 0 * 2 + 0, none⟩ this)
          have HR2 := Lib.hid S2.out.row
          have HK2 := Lib.hid (HKR.out.below S2.out.bel)
          have HNB := Lib.hid (fun (ad : Addr) (e : some (⟨lb, lo, none⟩ : Addr) = some ad) (h : ad.block = w.heap.size) => show False from by
            cases e
            have := HLB.out
            dsimp only at h
            omega)
          clear HSS HHF h3
          dsimp only [idxI]
          go_wp2_with fail
          refine wp_region_wb ((Only (fun q => q = w.heap.size) w2)) (by kernel_rfl) (((Only.refl (fun q => q = w.heap.size) w2).drewN 1)) (fun _ _ _ _ _ h => h) ?_
          intro hS HZQ
          refine wa_k 0 41 (.slice (some ⟨lb, lo, none⟩) l.length lc) hS HZQ (wa_k 1 42 (.int .i64 ((i : Nat) : Int)) hS HZQ (wa_v 2 43 (.pointer (some ⟨lb, lo + i * 7, none⟩)) hS HZQ (fun W hW => run_eqv (run_idx 84 (.tmp 41) (.tmp 42) (by kernel_rfl) lb lo l.length lc i 87 7 (by kernel_rfl) (by kernel_rfl) (by omega) Tryz.underlying84 (by kernel_rfl)) rfl) (wa_k 3 44 (.pointer (some ⟨lb, lo + i * 7, none⟩)) hS HZQ (wa_k 4 45 (.pointer (some ⟨lb, lo + i * 7, none⟩)) hS HZQ (wa_v 5 46 (.int .i64 sid) hS HZQ (fun W hW => run_load1 3 (.tmp 45) (by kernel_rfl) ⟨lb, lo + i * 7, none⟩ (by kernel_rfl) (.int .i64 sid) (HRL.out W (HR2.out.only hW HNB.out) 0 _ rfl) _ Tryz.underlying3 rfl) (wa_k 6 47 (.int .i64 ((F : Nat) : Int)) hS HZQ (wa_k 7 48 (.int .i64 least) hS HZQ ?_)))))))
          refine wa_k 8 49 (.slice (some ⟨lb, lo, none⟩) l.length lc) hS HZQ (wa_k 9 50 (.int .i64 ((i : Nat) : Int)) hS HZQ (wa_v 10 51 (.pointer (some ⟨lb, lo + i * 7, none⟩)) hS HZQ (fun W hW => run_eqv (run_idx 84 (.tmp 49) (.tmp 50) (by kernel_rfl) lb lo l.length lc i 87 7 (by kernel_rfl) (by kernel_rfl) (by omega) Tryz.underlying84 (by kernel_rfl)) rfl) (wa_v 11 52 (.agg #[.int .i64 sid, .int .i64 server, .int .i64 since, .string slo, .string shi, .slice (some ⟨kb, kof, none⟩) ks.length kc, .int .i64 S]) hS HZQ (fun W hW => run_eqv (run_loadN 87 (.tmp 51) (by kernel_rfl) lb (lo + i * 7) (by kernel_rfl) [.int .i64 sid, .int .i64 server, .int .i64 since, .string slo, .string shi, .slice (some ⟨kb, kof, none⟩) ks.length kc, .int .i64 S] (HRL.out W (HR2.out.only hW HNB.out)) _ Tryz.underlying87 rfl (by kernel_rfl)) rfl) ?_)))
          refine wa_r [12] ?_
          refine ar_a (some 53) (fun K hK => ?_) ar_nil
          refine ow_call 72 #[.agg #[.int .i64 sid, .int .i64 server, .int .i64 since, .string slo, .string shi, .slice (some ⟨kb, kof, none⟩) ks.length kc, .int .i64 S]] (by kernel_rfl) (fun v w' => v = .string ky ∧ Below _ _ w') ((HHX.out _ (HK2.out.below (tame_drewN (Below.refl _ w2) 1))).mono fun e' w' h => ⟨_, h.1, rfl, h.2⟩) (Lib.hid ?_)
          rintro v wx ⟨rfl, hbx⟩
          refine hK.out _ _ (hS.trans (Only.below_all hbx)) (fun hS => ?_)
          have HZX := Lib.hid ((S2.out.box.drewN 1).below hbx (S2.out.box.drewN 1).lt)
          clear hK K hbx
          refine wa_k 13 54 (.agg #[.int .i64 3, .int .i64 sid, .int .i64 (F : Nat), .int .i64 least, .int .i64 0, .int .i64 0, .slice none 0 0, .string ky, .int .i64 0, .int .i64 0, .int .i64 0, .slice none 0 0]) hS HZQ ?_
          refine wa_r [14] ?_
          refine ar_a none (fun K hK => ?_) ar_nil
          refine ow_store_blk 44 (.tmp 8) (.tmp 54) (by kernel_rfl) w.heap.size #[.int .i64 3, .int .i64 sid, .int .i64 (F : Nat), .int .i64 least, .int .i64 0, .int .i64 0, .slice none 0 0, .string ky, .int .i64 0, .int .i64 0, .int .i64 0, .slice none 0 0] (by kernel_rfl) (by kernel_rfl) 44 _ HZX.out rfl (by kernel_rfl) (by kernel_rfl) (Lib.hid ?_)
          intro w4 hz hox
          refine hK.out _ _ (hS.trans hox) (fun hS => ?_)
          have HZ4 := Lib.hid hz
          clear hK K hz hox
          refine wa_k 15 9 (.bool true) hS HZQ ?_
          refine wa_done (by kernel_rfl) ?_
          dsimp only [Exit.then, Act.put]
          simp only [List.setIfInBounds_toArray, List.set_cons_succ, List.set_cons_zero]
          have O4 := Lib.hid hS
          clear hS
          go_wp2_with fail
          refine bodyPost_ret (results_cell_tmp rfl _ _ w.heap.size 44 _ (0, 0) _ rfl HZ4.out Tryz.underlying44 rfl (by kernel_rfl)) rfl ?_
          exact ⟨by rw [HS.out]; rfl, S2.out.bel.trans (O4.out.to_below S2.out.bel.size (fun q hq e => by omega))⟩
end Go.Proofs.YthjmfcdhpdiehaaGreatDoor
