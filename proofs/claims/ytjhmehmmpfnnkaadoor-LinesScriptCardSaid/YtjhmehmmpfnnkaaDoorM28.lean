/-
  The contract of tidewaterref31.Same at two ops that are the same; the law's own op as of the document.
  The chapter's example: lines.Parse of 'get 1 "a"'.
  Contracts: sameTexts_any.
  The walk of the law LinesWords.
-/
import Derived.Test.YtjhmehmmpfnnkaaDoorM24
import Derived.Test.YtjhmehmmpfnnkaaDoorM17
import Derived.Test.YtjhmehmmpfnnkaaDoorM10
import Derived.Test.YtjhmehmmpfnnkaaDoorM02
import Derived.Test.YtjhmehmmpfnnkaaDoorM16
namespace Go.Proofs.YtjhmehmmpfnnkaaDoor
open Go.RowKit Utf
set_option maxRecDepth 100000
set_option linter.unusedSimpArgs false
set_option linter.unusedVariables false

theorem row_op {w : World} {ao : Option Addr} {ops : List POp} (h : RowAt w ao (ops.flatMap opCells)) (k : Nat) (hk : k < ops.length) : ∃ b o, ao = some ⟨b, o, none⟩ ∧ ∀ j, j < 5 → w.cell? ⟨b, o + k * 5 + j, none⟩ = (opCells ops[k])[j]? := by
  have hl := opRow_len ops
  have h0 : 5 * k + 0 < (ops.flatMap opCells).length := by omega
  obtain ⟨b, o, rfl, _⟩ := h _ h0
  refine ⟨b, o, rfl, fun j hj => ?_⟩
  obtain ⟨b', o', e, hc⟩ := h (5 * k + j) (by omega)
  cases e
  rw [show o + k * 5 + j = o + (5 * k + j) by omega, hc, ← flat5 opCells (fun _ => rfl) ops k hk j hj]
  exact (List.getElem?_eq_getElem _).symm

/-- The cells of an op's entry. -/
def eCells (p : PW) : Array Value :=
  #[.int .i64 p.ekind, .int .i64 p.shard, .int .i64 p.other, .int .i64 p.server, .int .i64 0, .int .i64 0, .slice none 0 0, txt p.ekey, .int .i64 0, .int .i64 0, .int .i64 0, .slice none 0 0]
def eZero : Array Value :=
  #[.int .i64 0, .int .i64 0, .int .i64 0, .int .i64 0, .int .i64 0, .int .i64 0, .slice none 0 0, .string ByteArray.empty, .int .i64 0, .int .i64 0, .int .i64 0, .slice none 0 0]
theorem rCells_entry (p : PW) (vo vg : Value) : ∀ j v, (eCells p).toList[j]? = some v → (rCells p vo vg)[5 + j]? = some v := by
  intro j v h
  rcases j with _ | _ | _ | _ | _ | _ | _ | _ | _ | _ | _ | _ | j <;> first | exact h | (simp [eCells] at h)
theorem eCells_one (p : PW) : (eCells p).all (·.oneCell') = true := by simp [eCells, txt, Value.oneCell']
theorem Tryd.sizeE : (Tryd.prog.info? 43).map (·.size) = some 12 := by kernel_rfl
theorem eCells_size (p : PW) : (eCells p).size = 12 := rfl
theorem eZero_size : eZero.size = 12 := rfl
theorem Tryd.sizeEC (p : PW) : (Tryd.prog.info? 43).map (·.size) = some (eCells p).size := by rw [eCells_size]; exact Tryd.sizeE
theorem eCells_eq (p : PW) : (eCells p).size = eZero.size := (eCells_size p).trans eZero_size.symm
/-- A new variable, as one step of a region. -/
theorem wp_new_of {P : Program} {o : Oper} {a : Act} {w : World} {K : Act → World → Prop} {Q : Exit → Act → World → Prop} (t : TypeId) (z : Array Value) (hrun : (execOp a.eval o).run P w = .ok (.value (.pointer (some ⟨w.heap.size, 0, none⟩))) (w.alloc (.cells z t))) (h : K (a.put o.dst (.pointer (some ⟨w.heap.size, 0, none⟩))) (w.alloc (.cells z t))) : o.wp P a w K Q :=
  wp_val_of _ _ hrun h

set_option maxHeartbeats 4000000 in
theorem same_true (p : PW) (ops : List POp) (gone : List Int) (ao ag bo bg : Option Addr) (no ng mo mg co cg do_ dg : Nat) (w : World) (hl : ops.length ≤ 1000000) (hg : gone.length ≤ 1000000) (h1 : no = ops.length) (h2 : mo = ops.length) (h3 : ng = gone.length) (h4 : mg = gone.length)
    (ha : RowAt w ao (ops.flatMap opCells)) (hb : RowAt w bo (ops.flatMap opCells)) (hc : RowAt w ag (zRow gone)) (hd : RowAt w bg (zRow gone)) :
    Calls Tryd.prog 19 #[.agg (rCells p (.slice ao no co) (.slice ag ng cg)), .agg (rCells p (.slice bo mo do_) (.slice bg mg dg))] w fun e w' => e = .returned (.bool true) ∧ Below w.heap.size w w' := by
  subst h1 h2 h3 h4
  have HA := Lib.hid ha
  have HB := Lib.hid hb
  have HS := Lib.hid (fun W hc hd => (sameInts_any gone gone ag bg cg dg W hg hg hc hd).mono (R' := fun e w' => e = .returned (.bool true) ∧ ∃ n, w' = W.drewN n) (fun e w' h => ⟨by rw [h.1, decide_eq_true rfl], h.2⟩))
  have HC := Lib.hid hc
  have HD := Lib.hid hd
  clear ha hb hc hd
  unfold rCells txt
  generalize hs1 : mkS (encAll p.ekey) = s1
  generalize hs2 : mkS (encAll p.key) = s2
  generalize hs3 : mkS (encAll p.lo) = s3
  generalize hs4 : mkS (encAll p.hi) = s4
  go_enter Tryd.func19, Tryd.ntmps19
  go_wp2_with fail
  refine (HS.out _ ((HC.out.only (S := fun _ => False) (((Only.refl _ w).alloc _).alloc _) (fun _ _ h => h))) ((HD.out.only (S := fun _ => False) (((Only.refl _ w).alloc _).alloc _) (fun _ _ h => h)))).mono ?_
  rintro e w1 ⟨rfl, n1, rfl⟩
  go_wp2_with fail
  have HA0 := Lib.hid (fun n : Nat => (HA.out.only (S := fun _ => False) ((((Only.refl _ w).alloc (.cells (rCells p (.slice ao ops.length co) (.slice ag gone.length cg)) 52)).alloc (.cells (rCells p (.slice bo ops.length do_) (.slice bg gone.length dg)) 52)).drewN n) (fun _ _ h => h)))
  have HB0 := Lib.hid (fun n : Nat => (HB.out.only (S := fun _ => False) ((((Only.refl _ w).alloc (.cells (rCells p (.slice ao ops.length co) (.slice ag gone.length cg)) 52)).alloc (.cells (rCells p (.slice bo ops.length do_) (.slice bg gone.length dg)) 52)).drewN n) (fun _ _ h => h)))
  have HX := Lib.hid ((Blk.new w 52 (rCells p (.slice ao ops.length co) (.slice ag gone.length cg))).alloc (.cells (rCells p (.slice bo ops.length do_) (.slice bg gone.length dg)) 52))
  have HY := Lib.hid (show Blk _ (w.heap.size + 1) _ _ by have := Blk.new (w.alloc (.cells (rCells p (.slice ao ops.length co) (.slice ag gone.length cg)) 52)) 52 (rCells p (.slice bo ops.length do_) (.slice bg gone.length dg)); rw [World.size_alloc] at this; exact this)
  unfold rCells txt at HA0 HB0 HX HY
  rw [hs1, hs2, hs3, hs4] at HA0 HB0 HX HY
  go_loopw [26] (fun i w5 => ∃ k n : Nat, k ≤ ops.length ∧ i = .int .i64 k ∧ w5 = ((w.alloc (.cells #[.int .i64 p.kind, .int .i64 p.who, .int .i64 p.n, .int .i64 p.fresh, .slice ao ops.length co, .int .i64 p.ekind, .int .i64 p.shard, .int .i64 p.other, .int .i64 p.server, .int .i64 0, .int .i64 0, .slice none 0 0, .string s1,
    .int .i64 0, .int .i64 0, .int .i64 0, .slice none 0 0, .string s2, .string s3, .string s4, .slice ag gone.length cg] 52)).alloc (.cells #[.int .i64 p.kind, .int .i64 p.who, .int .i64 p.n, .int .i64 p.fresh, .slice bo ops.length do_, .int .i64 p.ekind, .int .i64 p.shard, .int .i64 p.other, .int .i64 p.server, .int .i64 0, .int .i64 0, .slice none 0 0, .string s1,
    .int .i64 0, .int .i64 0, .int .i64 0, .slice none 0 0, .string s2, .string s3, .string s4, .slice bg gone.length dg] 52)).drewN n) (fun i _ => ops.length - (intOf i).toNat)
  case atStart => exact ⟨0, n1, Nat.zero_le _, rfl, rfl⟩
  case round =>
    obtain ⟨k, n, hk, rfl, rfl⟩ := hrel
    by_cases hlt : k < ops.length
    · obtain ⟨ba, oa, rfl, hca⟩ := row_op (HA0.out n) k hlt
      obtain ⟨bb, ob, rfl, hcb⟩ := row_op (HB0.out n) k hlt
      have x4 := HX.out.cell 4
      have y4 := HY.out.cell 4
      generalize ((w.alloc (.cells #[.int .i64 p.kind, .int .i64 p.who, .int .i64 p.n, .int .i64 p.fresh, .slice (some ⟨ba, oa, none⟩) ops.length co, .int .i64 p.ekind, .int .i64 p.shard, .int .i64 p.other, .int .i64 p.server, .int .i64 0, .int .i64 0, .slice none 0 0, .string s1,
        .int .i64 0, .int .i64 0, .int .i64 0, .slice none 0 0, .string s2, .string s3, .string s4, .slice ag gone.length cg] 52)).alloc (.cells #[.int .i64 p.kind, .int .i64 p.who, .int .i64 p.n, .int .i64 p.fresh, .slice (some ⟨bb, ob, none⟩) ops.length do_, .int .i64 p.ekind, .int .i64 p.shard, .int .i64 p.other, .int .i64 p.server, .int .i64 0, .int .i64 0, .slice none 0 0, .string s1,
        .int .i64 0, .int .i64 0, .int .i64 0, .slice none 0 0, .string s2, .string s3, .string s4, .slice bg gone.length dg] 52)) = W0 at *
      have hltI : (k : Int) < (ops.length : Int) := by omega
      obtain ⟨kd, u1, u2, u3, vs, hcells⟩ : ∃ kd u1 u2 u3 vs, opCells ops[k] = [.int .i64 kd, .string u1, .string u2, .string u3, .int .i64 vs] := ⟨_, _, _, _, _, rfl⟩
      rw [hcells] at hca hcb
      have a0 : W0.cell? ⟨ba, oa + k * 5, none⟩ = _ := hca 0 (by omega)
      have a1 : W0.cell? ⟨ba, oa + k * 5 + 1, none⟩ = _ := hca 1 (by omega)
      have a2 : W0.cell? ⟨ba, oa + k * 5 + 2, none⟩ = _ := hca 2 (by omega)
      have a3 : W0.cell? ⟨ba, oa + k * 5 + 3, none⟩ = _ := hca 3 (by omega)
      have a4 : W0.cell? ⟨ba, oa + k * 5 + 4, none⟩ = _ := hca 4 (by omega)
      have b0 : W0.cell? ⟨bb, ob + k * 5, none⟩ = _ := hcb 0 (by omega)
      have b1 : W0.cell? ⟨bb, ob + k * 5 + 1, none⟩ = _ := hcb 1 (by omega)
      have b2 : W0.cell? ⟨bb, ob + k * 5 + 2, none⟩ = _ := hcb 2 (by omega)
      have b3 : W0.cell? ⟨bb, ob + k * 5 + 3, none⟩ = _ := hcb 3 (by omega)
      have b4 : W0.cell? ⟨bb, ob + k * 5 + 4, none⟩ = _ := hcb 4 (by omega)
      clear hca hcb hcells HA0 HB0 HX HY HC HD HS HA HB
      go_wp2_with fail
      go_quiet (fail)
      go_wp2_with fail
      go_roundw
      case rel => exact ⟨k + 1, _, by omega, by go_num, rfl⟩
      case measure => simp [intOf]; omega
    · obtain rfl : k = ops.length := by omega
      have HXR := Lib.hid (show Blk _ w.heap.size 52 (rCells p (.slice ao ops.length co) (.slice ag gone.length cg)) by unfold rCells txt; rw [hs1, hs2, hs3, hs4]; exact HX.out)
      have HYR := Lib.hid (show Blk _ (w.heap.size + 1) 52 (rCells p (.slice bo ops.length do_) (.slice bg gone.length dg)) by unfold rCells txt; rw [hs1, hs2, hs3, hs4]; exact HY.out)
      have HBW : Below w.heap.size w (((w.alloc (.cells #[.int .i64 p.kind, .int .i64 p.who, .int .i64 p.n, .int .i64 p.fresh, .slice ao ops.length co, .int .i64 p.ekind, .int .i64 p.shard, .int .i64 p.other, .int .i64 p.server, .int .i64 0, .int .i64 0, .slice none 0 0, .string s1,
        .int .i64 0, .int .i64 0, .int .i64 0, .slice none 0 0, .string s2, .string s3, .string s4, .slice ag gone.length cg] 52)).alloc (.cells #[.int .i64 p.kind, .int .i64 p.who, .int .i64 p.n, .int .i64 p.fresh, .slice bo ops.length do_, .int .i64 p.ekind, .int .i64 p.shard, .int .i64 p.other, .int .i64 p.server, .int .i64 0, .int .i64 0, .slice none 0 0, .string s1,
        .int .i64 0, .int .i64 0, .int .i64 0, .slice none 0 0, .string s2, .string s3, .string s4, .slice bg gone.length dg] 52))) := ((Below.refl _ w).alloc (Nat.le_refl _) _).alloc (by simp) _
      have HBL := Lib.hid HBW
      clear HBW
      clear HA0 HB0 HX HY HC HD HS HA HB
      go_wp2_with fail
      generalize ((w.alloc (.cells #[.int .i64 p.kind, .int .i64 p.who, .int .i64 p.n, .int .i64 p.fresh, .slice ao ops.length co, .int .i64 p.ekind, .int .i64 p.shard, .int .i64 p.other, .int .i64 p.server, .int .i64 0, .int .i64 0, .slice none 0 0, .string s1,
        .int .i64 0, .int .i64 0, .int .i64 0, .slice none 0 0, .string s2, .string s3, .string s4, .slice ag gone.length cg] 52)).alloc (.cells #[.int .i64 p.kind, .int .i64 p.who, .int .i64 p.n, .int .i64 p.fresh, .slice bo ops.length do_, .int .i64 p.ekind, .int .i64 p.shard, .int .i64 p.other, .int .i64 p.server, .int .i64 0, .int .i64 0, .slice none 0 0, .string s1,
        .int .i64 0, .int .i64 0, .int .i64 0, .slice none 0 0, .string s2, .string s3, .string s4, .slice bg gone.length dg] 52)) = W0 at *
      refine wp_region_held_drew (S := fun W => Blk W w.heap.size 52 (rCells p (.slice ao ops.length co) (.slice ag gone.length cg)) ∧ Blk W (w.heap.size + 1) 52 (rCells p (.slice bo ops.length do_) (.slice bg gone.length dg)) ∧ Below w.heap.size w W) (by kernel_rfl) ⟨HXR.out, HYR.out, below_drewN (below_drewN HBL.out n) 1⟩ ?_
      intro hS
      refine wpAnyH_take (i := 0) (oi := ⟨some 41, _, _, _, _, _⟩) (v := .pointer (some ⟨w.heap.size, 5, none⟩)) rfl (by kernel_rfl) (by kernel_rfl) (by kernel_rfl) (fun _ _ _ h => h) (.inl ⟨by rfl, fun W hW => by go_simp⟩) hS ?_
      refine wpAnyH_take (i := 1) (oi := ⟨some 42, _, _, _, _, _⟩) (v := .agg (eCells p)) rfl (by kernel_rfl) (by kernel_rfl) (by kernel_rfl) (fun _ _ _ h => h) (yieldsIf_load_mid (by rfl) _ _ rfl w.heap.size 5 (by kernel_rfl) (eCells p).toList _ (fun W hW j v hj => (hW.1.cell _).trans (rCells_entry _ _ _ j v hj)) Tryd.underlying43 rfl Tryd.sizeE) hS ?_
      refine wpAnyH_take (i := 2) (oi := ⟨some 43, _, _, _, _, _⟩) (v := .pointer (some ⟨w.heap.size + 1, 5, none⟩)) rfl (by kernel_rfl) (by kernel_rfl) (by kernel_rfl) (fun _ _ _ h => h) (.inl ⟨by rfl, fun W hW => by go_simp⟩) hS ?_
      refine wpAnyH_take (i := 3) (oi := ⟨some 44, _, _, _, _, _⟩) (v := .agg (eCells p)) rfl (by kernel_rfl) (by kernel_rfl) (by kernel_rfl) (fun _ _ _ h => h) (yieldsIf_load_mid (by rfl) _ _ rfl (w.heap.size + 1) 5 (by kernel_rfl) (eCells p).toList _ (fun W hW j v hj => (hW.2.1.cell _).trans (rCells_entry _ _ _ j v hj)) Tryd.underlying43 rfl Tryd.sizeE) hS ?_
      obtain ⟨W1, hW1⟩ : ∃ W1, W1 = (W0.drewN n).drew := ⟨_, rfl⟩
      rw [← hW1] at hS ⊢
      clear hW1 HXR HYR HBL
      refine wpAnyH_ready (rs := [4, 5]) (by kernel_rfl) (by simp) ?_
      have hend : ∀ (W : World) (bx by_ : Nat), Blk W w.heap.size 52 (rCells p (.slice ao ops.length co) (.slice ag gone.length cg)) → Blk W (w.heap.size + 1) 52 (rCells p (.slice bo ops.length do_) (.slice bg gone.length dg)) →
          Blk W bx 43 (eCells p) → Blk W by_ 43 (eCells p) →
          (W.cell? ⟨w.heap.size, 0, none⟩ = some (.int .i64 p.kind) ∧ W.cell? ⟨w.heap.size, 1, none⟩ = some (.int .i64 p.who) ∧ W.cell? ⟨w.heap.size, 2, none⟩ = some (.int .i64 p.n) ∧ W.cell? ⟨w.heap.size, 3, none⟩ = some (.int .i64 p.fresh) ∧ W.cell? ⟨w.heap.size, 17, none⟩ = some (.string s2) ∧ W.cell? ⟨w.heap.size, 18, none⟩ = some (.string s3) ∧ W.cell? ⟨w.heap.size, 19, none⟩ = some (.string s4)) ∧
          (W.cell? ⟨w.heap.size + 1, 0, none⟩ = some (.int .i64 p.kind) ∧ W.cell? ⟨w.heap.size + 1, 1, none⟩ = some (.int .i64 p.who) ∧ W.cell? ⟨w.heap.size + 1, 2, none⟩ = some (.int .i64 p.n) ∧ W.cell? ⟨w.heap.size + 1, 3, none⟩ = some (.int .i64 p.fresh) ∧ W.cell? ⟨w.heap.size + 1, 17, none⟩ = some (.string s2) ∧ W.cell? ⟨w.heap.size + 1, 18, none⟩ = some (.string s3) ∧ W.cell? ⟨w.heap.size + 1, 19, none⟩ = some (.string s4)) ∧
          (W.cell? ⟨bx, 0, none⟩ = some (.int .i64 p.ekind) ∧ W.cell? ⟨bx, 1, none⟩ = some (.int .i64 p.shard) ∧ W.cell? ⟨bx, 2, none⟩ = some (.int .i64 p.other) ∧ W.cell? ⟨bx, 3, none⟩ = some (.int .i64 p.server) ∧ W.cell? ⟨bx, 7, none⟩ = some (.string s1)) ∧
          (W.cell? ⟨by_, 0, none⟩ = some (.int .i64 p.ekind) ∧ W.cell? ⟨by_, 1, none⟩ = some (.int .i64 p.shard) ∧ W.cell? ⟨by_, 2, none⟩ = some (.int .i64 p.other) ∧ W.cell? ⟨by_, 3, none⟩ = some (.int .i64 p.server) ∧ W.cell? ⟨by_, 7, none⟩ = some (.string s1)) := by
        intro W bx by_ h1 h2 h3 h4
        rw [← hs1, ← hs2, ← hs3, ← hs4]
        exact ⟨⟨h1.cell 0, h1.cell 1, h1.cell 2, h1.cell 3, h1.cell 17, h1.cell 18, h1.cell 19⟩, ⟨h2.cell 0, h2.cell 1, h2.cell 2, h2.cell 3, h2.cell 17, h2.cell 18, h2.cell 19⟩, ⟨h3.cell 0, h3.cell 1, h3.cell 2, h3.cell 3, h3.cell 7⟩, ⟨h4.cell 0, h4.cell 1, h4.cell 2, h4.cell 3, h4.cell 7⟩⟩
      have HEND := Lib.hid hend
      clear hend
      refine AllReadyH.cons rfl (fun K hK => ?_) (AllReadyH.cons rfl (fun K hK => ?_) AllReadyH.nil)
      all_goals
        rw [if_pos (by kernel_rfl)]
        refine wp_new_of 43 eZero (by kernel_rfl) ?_
        have hS2 : Blk (W1.alloc (.cells eZero 43)) w.heap.size 52 (rCells p (.slice ao ops.length co) (.slice ag gone.length cg)) ∧ Blk (W1.alloc (.cells eZero 43)) (w.heap.size + 1) 52 (rCells p (.slice bo ops.length do_) (.slice bg gone.length dg)) ∧ Below w.heap.size w (W1.alloc (.cells eZero 43)) := ⟨hS.1.alloc _, hS.2.1.alloc _, hS.2.2.alloc hS.2.2.size _⟩
        have hB1 := Blk.new W1 43 eZero
        refine hK.out _ _ hS2 (fun _ => ?_)
        clear hK K
      · refine wpAnyH_ready (rs := [5]) (by kernel_rfl) (by simp) ?_
        refine AllReadyH.cons rfl (fun K hK => ?_) AllReadyH.nil
        rw [if_pos (by kernel_rfl)]
        refine wp_new_of 43 eZero (by kernel_rfl) ?_
        have hB2 := Blk.new (W1.alloc (.cells eZero 43)) 43 eZero
        have hB1' := hB1.alloc (.cells eZero 43)
        have hlt1 := hS.2.1.lt
        rw [World.size_alloc] at hB2
        refine hK.out _ _ ⟨hS2.1.alloc _, hS2.2.1.alloc _, hS2.2.2.alloc hS2.2.2.size _⟩ (fun hS3 => ?_)
        clear hK K
        refine wpAnyH_store (i := 6) (o := { dst := Option.none, op := Op.store 43 (Operand.tmp 6) (Operand.tmp 42), type := 0, pos := "ref.go:386", after := #[{ on := 4, ground := Ground.data }, { on := 1, ground := Ground.data }, { on := 0, ground := Ground.phase }, { on := 1, ground := Ground.phase }, { on := 2, ground := Ground.textOnly Departure.lateStores }, { on := 3, ground := Ground.textOnly Departure.lateStores }, { on := 4, ground := Ground.phase }, { on := 5, ground := Ground.phase }], guard := Option.none }) (by kernel_rfl) (by kernel_rfl) rfl 43 (.tmp 6) (.tmp 42) rfl W1.heap.size (eCells p) (by kernel_rfl) (by kernel_rfl) 43 eZero hB1' (eCells_eq p) (Tryd.sizeEC p) (eCells_one p) ?_
        refine Lib.hid ?_
        intro w5 hz5 ho5
        have hS4 : Blk w5 w.heap.size 52 (rCells p (.slice ao ops.length co) (.slice ag gone.length cg)) ∧ Blk w5 (w.heap.size + 1) 52 (rCells p (.slice bo ops.length do_) (.slice bg gone.length dg)) ∧ Below w.heap.size w w5 := ⟨hS3.1.only ho5 (by omega), hS3.2.1.only ho5 (by omega), hS3.2.2.trans (ho5.to_below (by have := hS3.2.2.size; omega) (fun k hk h => by subst h; omega))⟩
        refine ⟨hS4, ?_⟩
        have hB2' := hB2.only ho5 (by omega)
        refine wpAnyH_store (i := 7) (o := { dst := Option.none, op := Op.store 43 (Operand.tmp 7) (Operand.tmp 44), type := 0, pos := "ref.go:386", after := #[{ on := 5, ground := Ground.data }, { on := 3, ground := Ground.data }, { on := 6, ground := Ground.chain }, { on := 0, ground := Ground.phase }, { on := 1, ground := Ground.phase }, { on := 2, ground := Ground.phase }, { on := 3, ground := Ground.phase }, { on := 4, ground := Ground.phase }, { on := 5, ground := Ground.phase }, { on := 6, ground := Ground.phase }], guard := Option.none }) (by kernel_rfl) (by kernel_rfl) rfl 43 (.tmp 7) (.tmp 44) rfl (W1.heap.size + 1) (eCells p) (by rw [World.size_alloc]; kernel_rfl) (by kernel_rfl) 43 eZero hB2' (eCells_eq p) (Tryd.sizeEC p) (eCells_one p) ?_
        refine Lib.hid ?_
        intro w6 hz6 ho6
        have hS5 : Blk w6 w.heap.size 52 (rCells p (.slice ao ops.length co) (.slice ag gone.length cg)) ∧ Blk w6 (w.heap.size + 1) 52 (rCells p (.slice bo ops.length do_) (.slice bg gone.length dg)) ∧ Below w.heap.size w w6 := ⟨hS4.1.only ho6 (by omega), hS4.2.1.only ho6 (by omega), hS4.2.2.trans (ho6.to_below (by have := hS4.2.2.size; omega) (fun k hk h => by subst h; omega))⟩
        refine ⟨hS5, ?_⟩
        have hz5' := hz5.only ho6 (by omega)
        obtain ⟨⟨x0, x1, x2, x3, x4, x5, x6⟩, ⟨y0, y1, y2, y3, y4, y5, y6⟩, ⟨f0, f1, f2, f3, f4⟩, ⟨g0, g1, g2, g3, g4⟩⟩ := HEND.out w6 _ _ hS5.1 hS5.2.1 hz5' hz6
        have HBW := Lib.hid hS5.2.2
        have HSZ := Lib.hid (World.size_alloc W1 (.cells eZero 43))
        refine wpAnyH_done (by kernel_rfl) ?_ _
        clear hS hS2 hS3 hS4 hS5 hz5 hz6 hz5' ho5 ho6 hB1 hB1' hB2 hB2'
        rw [World.size_alloc]
        generalize W1.heap.size = N1 at *
        go_wp2_with fail
        go_ret
        exact ⟨rfl, HBW.out⟩
      · refine wpAnyH_ready (rs := [4]) (by kernel_rfl) (by simp) ?_
        refine AllReadyH.cons rfl (fun K hK => ?_) AllReadyH.nil
        rw [if_pos (by kernel_rfl)]
        refine wp_new_of 43 eZero (by kernel_rfl) ?_
        have hB2 := Blk.new (W1.alloc (.cells eZero 43)) 43 eZero
        have hB1' := hB1.alloc (.cells eZero 43)
        have hlt1 := hS.2.1.lt
        rw [World.size_alloc] at hB2
        refine hK.out _ _ ⟨hS2.1.alloc _, hS2.2.1.alloc _, hS2.2.2.alloc hS2.2.2.size _⟩ (fun hS3 => ?_)
        clear hK K
        refine wpAnyH_store (i := 6) (o := { dst := Option.none, op := Op.store 43 (Operand.tmp 6) (Operand.tmp 42), type := 0, pos := "ref.go:386", after := #[{ on := 4, ground := Ground.data }, { on := 1, ground := Ground.data }, { on := 0, ground := Ground.phase }, { on := 1, ground := Ground.phase }, { on := 2, ground := Ground.textOnly Departure.lateStores }, { on := 3, ground := Ground.textOnly Departure.lateStores }, { on := 4, ground := Ground.phase }, { on := 5, ground := Ground.phase }], guard := Option.none }) (by kernel_rfl) (by kernel_rfl) rfl 43 (.tmp 6) (.tmp 42) rfl (W1.heap.size + 1) (eCells p) (by rw [World.size_alloc]; kernel_rfl) (by kernel_rfl) 43 eZero hB2 (eCells_eq p) (Tryd.sizeEC p) (eCells_one p) ?_
        refine Lib.hid ?_
        intro w5 hz5 ho5
        have hS4 : Blk w5 w.heap.size 52 (rCells p (.slice ao ops.length co) (.slice ag gone.length cg)) ∧ Blk w5 (w.heap.size + 1) 52 (rCells p (.slice bo ops.length do_) (.slice bg gone.length dg)) ∧ Below w.heap.size w w5 := ⟨hS3.1.only ho5 (by omega), hS3.2.1.only ho5 (by omega), hS3.2.2.trans (ho5.to_below (by have := hS3.2.2.size; omega) (fun k hk h => by subst h; omega))⟩
        refine ⟨hS4, ?_⟩
        have hB2' := hB1'.only ho5 (by omega)
        refine wpAnyH_store (i := 7) (o := { dst := Option.none, op := Op.store 43 (Operand.tmp 7) (Operand.tmp 44), type := 0, pos := "ref.go:386", after := #[{ on := 5, ground := Ground.data }, { on := 3, ground := Ground.data }, { on := 6, ground := Ground.chain }, { on := 0, ground := Ground.phase }, { on := 1, ground := Ground.phase }, { on := 2, ground := Ground.phase }, { on := 3, ground := Ground.phase }, { on := 4, ground := Ground.phase }, { on := 5, ground := Ground.phase }, { on := 6, ground := Ground.phase }], guard := Option.none }) (by kernel_rfl) (by kernel_rfl) rfl 43 (.tmp 7) (.tmp 44) rfl W1.heap.size (eCells p) (by kernel_rfl) (by kernel_rfl) 43 eZero hB2' (eCells_eq p) (Tryd.sizeEC p) (eCells_one p) ?_
        refine Lib.hid ?_
        intro w6 hz6 ho6
        have hS5 : Blk w6 w.heap.size 52 (rCells p (.slice ao ops.length co) (.slice ag gone.length cg)) ∧ Blk w6 (w.heap.size + 1) 52 (rCells p (.slice bo ops.length do_) (.slice bg gone.length dg)) ∧ Below w.heap.size w w6 := ⟨hS4.1.only ho6 (by omega), hS4.2.1.only ho6 (by omega), hS4.2.2.trans (ho6.to_below (by have := hS4.2.2.size; omega) (fun k hk h => by subst h; omega))⟩
        refine ⟨hS5, ?_⟩
        have hz5' := hz5.only ho6 (by omega)
        obtain ⟨⟨x0, x1, x2, x3, x4, x5, x6⟩, ⟨y0, y1, y2, y3, y4, y5, y6⟩, ⟨f0, f1, f2, f3, f4⟩, ⟨g0, g1, g2, g3, g4⟩⟩ := HEND.out w6 _ _ hS5.1 hS5.2.1 hz5' hz6
        have HBW := Lib.hid hS5.2.2
        have HSZ := Lib.hid (World.size_alloc W1 (.cells eZero 43))
        refine wpAnyH_done (by kernel_rfl) ?_ _
        clear hS hS2 hS3 hS4 hS5 hz5 hz6 hz5' ho5 ho6 hB1 hB1' hB2 hB2'
        rw [World.size_alloc]
        generalize W1.heap.size = N1 at *
        go_wp2_with fail
        go_ret
        exact ⟨rfl, HBW.out⟩
end Go.Proofs.YtjhmehmmpfnnkaaDoor

namespace Go.Proofs.YtjhmehmmpfnnkaaDoor
open Go.RowKit Utf
set_option maxRecDepth 100000
set_option linter.unusedSimpArgs false
set_option linter.unusedVariables false

def aliveL : List Nat := [103, 101, 116, 32, 49, 32, 34, 97, 34]
def aliveP : PL := ⟨{ PW.zero with kind := 4, n := 1, key := [97] }, [], []⟩
theorem alive_words : wordsL aliveL = some [[103, 101, 116], [49], [34, 97, 34]] := by kernel_rfl
theorem alive_parse : parseW [[103, 101, 116], [49], [34, 97, 34]] = (0, some aliveP) := by kernel_rfl
theorem alive_enc : (⟨#[103, 101, 116, 32, 49, 32, 34, 97, 34]⟩ : ByteArray).data.toList = encAll aliveL := by decide +kernel
theorem alive_ok : allOk aliveL := by
  intro c hc
  simp only [aliveL, List.mem_cons, List.not_mem_nil, or_false] at hc
  rcases hc with rfl | rfl | rfl | rfl | rfl | rfl | rfl | rfl | rfl <;> decide +kernel
theorem alive_a : ((mkS (encAll [97])).toList == [97]) = true := by
  rw [Lib.toList_data]; decide +kernel

set_option maxHeartbeats 4000000 in
theorem alive_any (ea : Nat → Addr) (w : World) (he : LErr w ea) :
    Calls Tryd.prog 8 #[] w fun e w' => e = .returned (.bool true) ∧ Below w.heap.size w w' := by
  have HP := Lib.hid (parse_some ea ⟨#[103, 101, 116, 32, 49, 32, 34, 97, 34]⟩ aliveL [103, 101, 116] [[49], [34, 97, 34]] w (by decide) alive_ok alive_enc he alive_words)
  clear he
  go_enter Tryd.func8, Tryd.ntmps8
  go_wp2_with fail
  refine HP.out.mono ?_
  rintro e w1 ⟨hb1, hres⟩
  rcases hres with ⟨m, h1, rfl⟩ | ⟨l, vo, vg, h1, rfl, ho1, ho2⟩
  · rw [alive_parse] at h1; cases h1
  rw [alive_parse] at h1
  obtain rfl : aliveP = l := by simpa using h1
  have HON := Lib.hid (wCells_one aliveP.p vo vg (own_slice1 ho1) (own_slice1 ho2))
  have HB1 := Lib.hid hb1
  have HZ := Lib.hid (Blk.new w1 48 wZero)
  have HSQ := Lib.hid ((wCells_size aliveP.p vo vg).trans wZero_size.symm)
  have HSI := Lib.hid (show (Tryd.prog.info? 48).map (·.size) = some (wCells aliveP.p vo vg).size by rw [wCells_size]; exact Tryd.sizeW)
  clear hb1 ho1 ho2 h1
  go_wp2_with (refine wpList_store_blk rfl 48 (.tmp 1) (.tmp 5) rfl w1.heap.size (wCells aliveP.p vo vg) rfl rfl 48 wZero HZ.out HSQ.out HSI.out HON.out ?_)
  refine Lib.hid ?_
  intro w2 hz2 ho2
  have c0 : w2.cell? ⟨w1.heap.size, 0, none⟩ = some (.int .i64 4) := hz2.cell 0
  have c2 : w2.cell? ⟨w1.heap.size, 2, none⟩ = some (.int .i64 1) := hz2.cell 2
  have c17 : w2.cell? ⟨w1.heap.size, 17, none⟩ = some (.string (mkS (encAll [97]))) := hz2.cell 17
  have hq := alive_a
  have HB2 := Lib.hid (show Below w.heap.size w w2 from (HB1.out.alloc HB1.out.size _).trans (ho2.to_below (by simp; have := HB1.out.size; omega) (fun k hk h => by have := HB1.out.size; omega)))
  clear hz2 ho2
  generalize mkS (encAll [97]) = sa at *
  go_wp2_with fail
  go_ret
  exact ⟨rfl, HB2.out⟩
end Go.Proofs.YtjhmehmmpfnnkaaDoor

namespace Go.Proofs.YtjhmehmmpfnnkaaDoor
open Go.RowKit Utf
set_option maxRecDepth 100000
set_option linter.unusedSimpArgs false
set_option linter.unusedVariables false

set_option maxHeartbeats 1000000 in
theorem sameTexts_any (a b : List ByteArray) (aa ab : Option Addr) (ca cb : Nat) (w : World) (hla : a.length ≤ 1000000) (hlb : b.length ≤ 1000000)
    (hra : RowAt w aa (strRow a)) (hrb : RowAt w ab (strRow b)) :
    Calls Tryd.prog 11 #[.slice aa a.length ca, .slice ab b.length cb] w fun e w' => e = .returned (.bool (decide (a = b))) ∧ Below w.heap.size w w' := by
  have HA := Lib.hid hra
  have HB := Lib.hid hrb
  clear hra hrb
  by_cases hl : a.length = b.length
  · have hl' : ((a.length : Int) != (b.length : Int)) = false := by simp [hl]
    have HL := Lib.hid hl
    clear hl
    go_enter Tryd.func11, Tryd.ntmps11
    go_wp2_with fail
    go_loopw [13] (fun i w5 => ∃ k n : Nat, k ≤ a.length ∧ i = .int .i64 k ∧ w5 = w.drewN n ∧ Hid (a.take k = b.take k)) (fun i _ => a.length - (intOf i).toNat)
    case atStart => exact ⟨0, 0, Nat.zero_le _, rfl, rfl, rfl⟩
    case round =>
      obtain ⟨k, n, hka, rfl, rfl, HC⟩ := hrel
      by_cases hlt : k < a.length
      · have hltb : k < b.length := by have := HL.out; omega
        obtain ⟨ba, oa, rfl, hca⟩ := HA.out k (by rw [strRow_len]; exact hlt)
        rw [strRow_at] at hca
        obtain ⟨bb, ob, rfl, hcb⟩ := HB.out k (by rw [strRow_len]; exact hltb)
        rw [strRow_at] at hcb
        have HK := Lib.hid (fun h : a[k] = b[k] => show a.take (k + 1) = b.take (k + 1) by rw [List.take_succ_eq_append_getElem hlt, List.take_succ_eq_append_getElem hltb, HC.out, h])
        have HT := Lib.hid (fun (h : a[k] ≠ b[k]) (h2 : a = b) => h (by simp only [h2]))
        generalize a[k] = x at *
        generalize b[k] = y at *
        by_cases hz : x = y
        · have hz' : (!(x.toList == y.toList)) = false := by rw [str_beq]; simp [hz]
          have hz2 : (x.toList == y.toList) = true := by rw [str_beq]; simp [hz]
          have HZ := Lib.hid (HK.out hz)
          clear hz
          go_wp2_with fail
          go_quiet (fail)
          go_wp2_with fail
          go_roundw
          case rel => exact ⟨k + 1, _, by omega, by go_num, rfl, HZ.out⟩
          case measure => simp [intOf]; omega
        · have hz' : (!(x.toList == y.toList)) = true := by rw [str_beq]; simp [hz]
          have hz2 : (x.toList == y.toList) = false := by rw [str_beq]; simp [hz]
          have HZ := Lib.hid (HT.out hz)
          clear hz
          go_wp2_with fail
          go_quiet (fail)
          go_wp2_with fail
          go_ret
          refine ⟨?_, below_drewN (below_drewN (Below.refl _ _) _) _⟩
          rw [decide_eq_false HZ.out]
          rfl
      · obtain rfl : k = a.length := by omega
        go_wp2_with fail
        go_ret
        refine ⟨?_, below_drewN (Below.refl _ _) _⟩
        have h1 := HC.out
        rw [List.take_length, HL.out, List.take_length] at h1
        rw [decide_eq_true h1]
        rfl
  · have hl' : ((a.length : Int) != (b.length : Int)) = true := by simp; omega
    have HL := Lib.hid (show ¬ a = b from fun h => hl (by rw [h]))
    clear hl
    go_enter Tryd.func11, Tryd.ntmps11
    go_wp2_with fail
    go_ret
    refine ⟨?_, Below.refl _ _⟩
    rw [decide_eq_false HL.out]
    rfl
end Go.Proofs.YtjhmehmmpfnnkaaDoor

namespace Go.Proofs.YtjhmehmmpfnnkaaDoor
open Go.RowKit Utf
set_option maxRecDepth 100000
set_option linter.unusedSimpArgs false
set_option linter.unusedVariables false

theorem i64eq (n : Int) : ((n : Int) == n) = true := by simp
theorem i64ne (n : Int) : ((n : Int) != n) = false := by simp
/-- Two lists of texts that are one. -/
theorem same_one (ts : List ByteArray) (n : Nat) (aa ab : Option Addr) (ca cb : Nat) (w : World) (hn : ts.length = n) (hl : n ≤ 1000000) (hra : RowAt w aa (strRow ts)) (hrb : RowAt w ab (strRow ts)) :
    Calls Tryd.prog 11 #[.slice aa n ca, .slice ab n cb] w fun e w' => e = .returned (.bool true) ∧ Below w.heap.size w w' := by
  subst hn
  have := sameTexts_any ts ts aa ab ca cb w hl hl hra hrb
  rw [decide_eq_true rfl] at this
  exact this
theorem wordsR_len (s : ByteArray) : (wordsR s).1.length ≤ s.size + 1 := by
  unfold wordsR
  split
  · simp
  · next rs hd =>
    obtain ⟨ho, h⟩ := dec_some hd
    split
    · simp
    · next ws hw =>
      unfold wordsL at hw
      cases hr : wsRun ws0 rs with
      | none => rw [hr] at hw; cases hw
      | some t =>
        rw [hr] at hw
        have h1 := wsRun_len _ _ _ hr
        have h2 : ws.length ≤ t.out.length + 1 := by
          have hw2 : t.fin = some ws := hw
          unfold WS.fin at hw2
          split at hw2 <;> first | (cases hw2; done) | (cases hw2; simp)
        have h3 := len_le h
        simp [ws0] at h1
        show ws.length ≤ _
        omega

set_option maxHeartbeats 8000000 in
theorem words_walk (ea : Nat → Addr) (s : ByteArray) (w : World) (hm : s.size ≤ maxLen) (he : ErrsAt w ea) :
    Calls Tryd.prog 4 #[.string s] w fun e w' => e = .returned (.bool true) ∧ Below w.heap.size w w' := by
  have HA := Lib.hid (alive_any ea w he.lerr)
  by_cases h500 : (500 : Int) < (s.size : Int)
  · clear he
    unfold maxLen at hm
    go_enter Tryd.func4, Tryd.ntmps4
    go_wp2_with fail
    refine HA.out.mono ?_
    rintro e w1 ⟨rfl, hb1⟩
    go_wp2_with fail
    go_ret
    exact ⟨rfl, hb1⟩
  · have hs : s.size ≤ 500 := by omega
    have h5d : decide ((500 : Int) < (s.size : Int)) = false := decide_eq_false h500
    have HE := Lib.hid he
    have HW := Lib.hid (fun W (h : ErrsAt W ea) => words_all ea s W (by omega) h.lerr)
    have HRW := Lib.hid (fun W => refWords_all s W (by omega))
    have HQ := Lib.hid (fun W (h : ErrsAt W ea) => quote_all ea s W (by omega) h.lerr)
    have HRQ := Lib.hid (fun W => refQuote_all s W (by omega))
    have HU := Lib.hid (fun W (h : ErrsAt W ea) => unquote_all ea s W (by omega) h.lerr)
    have HRU := Lib.hid (fun W => refUnq_all s W (by omega))
    have HNW := Lib.hid (fun W h => num_of ea (wordsR s).2 W (wordsR_lt s) h)
    have HNQ := Lib.hid (fun W h => num_of ea (quoteR s).2 W (quoteR_lt s) h)
    have HNU := Lib.hid (fun W h => num_of ea (unqR s).2 W (unqR_lt s) h)
    have HSM := Lib.hid (fun aa ab ca cb W ha hb => same_one (fieldTexts (wordsR s).1) (wordsR s).1.length aa ab ca cb W (fieldTexts_len _) (by have := wordsR_len s; omega) ha hb)
    have HBK := Lib.hid (fun h : (quoteR s).2 = 0 => quoteR_back h)
    clear he
    generalize wordsR s = wr at *
    generalize hqr : quoteR s = qr at *
    generalize unqR s = ur at *
    obtain ⟨ws, wn⟩ := wr
    obtain ⟨q, qn⟩ := qr
    obtain ⟨u, un⟩ := ur
    have n1 := i64ne (wn : Int)
    have n2 := i64ne (qn : Int)
    have n3 := i64eq (un : Int)
    clear hqr
    unfold maxLen at hm
    dsimp only at HW HRW HQ HRQ HU HRU HNW HNQ HNU HSM HBK
    by_cases hq0 : qn = 0
    · obtain ⟨hb1, q1, hb2, hb3, hb4⟩ := HBK.out hq0
      have HUQ := Lib.hid (fun W (h : ErrsAt W ea) => unquote_all ea q W (by omega) h.lerr)
      have HWQ := Lib.hid (fun W (h : ErrsAt W ea) => words_all ea q W (by omega) h.lerr)
      rw [hb1] at HUQ
      rw [hb2] at HWQ
      dsimp only at HUQ HWQ
      rw [errOf_zero] at HUQ HWQ
      have hsb := str_beq s s
      rw [decide_eq_true rfl] at hsb
      have HQ3 := Lib.hid hb3
      clear hb1 hb2 hb3 hb4 HBK
      subst hq0
      have n4 : (((0 : Nat) : Int) == 0) = true := rfl
      go_enter Tryd.func4, Tryd.ntmps4
      go_wp2_with fail
      refine HA.out.mono ?_
      rintro e w1 ⟨rfl, hb1⟩
      have E1 := Lib.hid (HE.out.below hb1)
      have B1 := Lib.hid hb1
      clear hb1
      go_wp2_with fail
      refine (HW.out _ E1.out).mono ?_
      rintro e w2 ⟨v2, rfl, hown2, hb2⟩
      obtain ⟨a2, c2, rfl, hr2, -⟩ := hown2.row
      have R2 := Lib.hid hr2
      have E2 := Lib.hid (E1.out.below hb2)
      have B2 := Lib.hid (B1.out.trans (hb2.mono B1.out.size))
      clear hb2 hown2 hr2 E1 B1
      go_wp2_with fail
      refine (HRW.out _).mono ?_
      rintro e w3 ⟨v3, rfl, hown3, hb3⟩
      obtain ⟨a3, c3, rfl, hr3, -⟩ := hown3.row
      have R23 := Lib.hid (R2.out.below hb3)
      have R3 := Lib.hid hr3
      have E3 := Lib.hid (E2.out.below hb3)
      have B3 := Lib.hid (B2.out.trans (hb3.mono B2.out.size))
      clear hb3 hown3 hr3 E2 B2 R2
      go_wp2_with fail
      refine (HNW.out _ E3.out).mono ?_
      rintro e w4 ⟨rfl, hb4⟩
      have R24 := Lib.hid (R23.out.below hb4)
      have R4 := Lib.hid (R3.out.below hb4)
      have E4 := Lib.hid (E3.out.below hb4)
      have B4 := Lib.hid (B3.out.trans (hb4.mono B3.out.size))
      clear hb4 E3 B3 R23 R3
      go_wp2_with fail
      refine (HSM.out _ _ _ _ _ R24.out R4.out).mono ?_
      rintro e w5 ⟨rfl, hb5⟩
      have E5 := Lib.hid (E4.out.below hb5)
      have B5 := Lib.hid (B4.out.trans (hb5.mono B4.out.size))
      clear R24 R4 hb5 E4 B4
      go_wp2_with fail
      refine (HQ.out _ E5.out).mono ?_
      rintro e w6 ⟨rfl, hb6⟩
      have E6 := Lib.hid (E5.out.below hb6)
      have B6 := Lib.hid (B5.out.trans (hb6.mono B5.out.size))
      clear hb6 E5 B5
      go_wp2_with fail
      refine (HRQ.out _).mono ?_
      rintro e w7 ⟨rfl, hb7⟩
      have E7 := Lib.hid (E6.out.below hb7)
      have B7 := Lib.hid (B6.out.trans (hb7.mono B6.out.size))
      clear hb7 E6 B6
      go_wp2_with fail
      refine (HNQ.out _ E7.out).mono ?_
      rintro e w8 ⟨rfl, hb8⟩
      have E8 := Lib.hid (E7.out.below hb8)
      have B8 := Lib.hid (B7.out.trans (hb8.mono B7.out.size))
      clear hb8 E7 B7
      go_wp2_with fail
      refine (HUQ.out _ E8.out).mono ?_
      rintro e w9 ⟨rfl, hb9⟩
      have E9 := Lib.hid (E8.out.below hb9)
      have B9 := Lib.hid (B8.out.trans (hb9.mono B8.out.size))
      clear hb9 E8 B8
      go_wp2_with fail
      refine (HWQ.out _ E9.out).mono ?_
      rintro e w10 ⟨v10, rfl, hown10, hb10⟩
      obtain ⟨a10, c10, rfl, hr10, -⟩ := hown10.row
      have R10 := Lib.hid (show RowAt w10 a10 (strRow [q]) by rw [← HQ3.out]; exact hr10)
      clear hown10 hr10
      have E10 := Lib.hid (E9.out.below hb10)
      have B10 := Lib.hid (B9.out.trans (hb10.mono B9.out.size))
      clear hb10 E9 B9
      go_wp2_with fail
      refine (same_one [q] 1 a10 _ c10 _ _ rfl (by omega) (R10.out.below ((Below.refl _ _).alloc (Nat.le_refl _) _)) (fun i hi => by
        obtain rfl : i = 0 := by simp [strRow] at hi; omega
        exact ⟨_, _, rfl, one_cell _ _ _ 0 _ rfl⟩)).mono ?_
      rintro e w11 ⟨rfl, hb11⟩
      have B11 := Lib.hid ((B10.out.alloc B10.out.size _).trans (hb11.mono (by have := B10.out.size; simp; omega)))
      have E11 := Lib.hid ((E10.out.below ((Below.refl _ _).alloc (Nat.le_refl _) (.cells #[.string q] 9))).below hb11)
      clear hb11 E10 B10 R10
      go_wp2_with fail
      refine (HU.out _ E11.out).mono ?_
      rintro e w12 ⟨rfl, hb12⟩
      have E12 := Lib.hid (E11.out.below hb12)
      have B12 := Lib.hid (B11.out.trans (hb12.mono B11.out.size))
      clear hb12 E11 B11
      go_wp2_with fail
      refine (HRU.out _).mono ?_
      rintro e w13 ⟨rfl, hb13⟩
      have E13 := Lib.hid (E12.out.below hb13)
      have B13 := Lib.hid (B12.out.trans (hb13.mono B12.out.size))
      clear hb13 E12 B12
      go_wp2_with fail
      refine (HNU.out _ E13.out).mono ?_
      rintro e w14 ⟨rfl, hb14⟩
      have B14 := Lib.hid (B13.out.trans (hb14.mono B13.out.size))
      clear hb14 E13 B13
      go_wp2_with fail
      go_ret
      exact ⟨by first | rfl | simp, B14.out⟩
    · have n4 : ((qn : Int) == 0) = false := by simp; omega
      clear HBK hq0
      go_enter Tryd.func4, Tryd.ntmps4
      go_wp2_with fail
      refine HA.out.mono ?_
      rintro e w1 ⟨rfl, hb1⟩
      have E1 := Lib.hid (HE.out.below hb1)
      have B1 := Lib.hid hb1
      clear hb1
      go_wp2_with fail
      refine (HW.out _ E1.out).mono ?_
      rintro e w2 ⟨v2, rfl, hown2, hb2⟩
      obtain ⟨a2, c2, rfl, hr2, -⟩ := hown2.row
      have R2 := Lib.hid hr2
      have E2 := Lib.hid (E1.out.below hb2)
      have B2 := Lib.hid (B1.out.trans (hb2.mono B1.out.size))
      clear hb2 hown2 hr2 E1 B1
      go_wp2_with fail
      refine (HRW.out _).mono ?_
      rintro e w3 ⟨v3, rfl, hown3, hb3⟩
      obtain ⟨a3, c3, rfl, hr3, -⟩ := hown3.row
      have R23 := Lib.hid (R2.out.below hb3)
      have R3 := Lib.hid hr3
      have E3 := Lib.hid (E2.out.below hb3)
      have B3 := Lib.hid (B2.out.trans (hb3.mono B2.out.size))
      clear hb3 hown3 hr3 E2 B2 R2
      go_wp2_with fail
      refine (HNW.out _ E3.out).mono ?_
      rintro e w4 ⟨rfl, hb4⟩
      have R24 := Lib.hid (R23.out.below hb4)
      have R4 := Lib.hid (R3.out.below hb4)
      have E4 := Lib.hid (E3.out.below hb4)
      have B4 := Lib.hid (B3.out.trans (hb4.mono B3.out.size))
      clear hb4 E3 B3 R23 R3
      go_wp2_with fail
      refine (HSM.out _ _ _ _ _ R24.out R4.out).mono ?_
      rintro e w5 ⟨rfl, hb5⟩
      have E5 := Lib.hid (E4.out.below hb5)
      have B5 := Lib.hid (B4.out.trans (hb5.mono B4.out.size))
      clear R24 R4 hb5 E4 B4
      go_wp2_with fail
      refine (HQ.out _ E5.out).mono ?_
      rintro e w6 ⟨rfl, hb6⟩
      have E6 := Lib.hid (E5.out.below hb6)
      have B6 := Lib.hid (B5.out.trans (hb6.mono B5.out.size))
      clear hb6 E5 B5
      go_wp2_with fail
      refine (HRQ.out _).mono ?_
      rintro e w7 ⟨rfl, hb7⟩
      have E7 := Lib.hid (E6.out.below hb7)
      have B7 := Lib.hid (B6.out.trans (hb7.mono B6.out.size))
      clear hb7 E6 B6
      go_wp2_with fail
      refine (HNQ.out _ E7.out).mono ?_
      rintro e w8 ⟨rfl, hb8⟩
      have E8 := Lib.hid (E7.out.below hb8)
      have B8 := Lib.hid (B7.out.trans (hb8.mono B7.out.size))
      clear hb8 E7 B7
      go_wp2_with fail
      refine (HU.out _ E8.out).mono ?_
      rintro e w9 ⟨rfl, hb9⟩
      have E9 := Lib.hid (E8.out.below hb9)
      have B9 := Lib.hid (B8.out.trans (hb9.mono B8.out.size))
      clear hb9 E8 B8
      go_wp2_with fail
      refine (HRU.out _).mono ?_
      rintro e w10 ⟨rfl, hb10⟩
      have E10 := Lib.hid (E9.out.below hb10)
      have B10 := Lib.hid (B9.out.trans (hb10.mono B9.out.size))
      clear hb10 E9 B9
      go_wp2_with fail
      refine (HNU.out _ E10.out).mono ?_
      rintro e w11 ⟨rfl, hb11⟩
      have B11 := Lib.hid (B10.out.trans (hb11.mono B10.out.size))
      clear hb11 E10 B10
      go_wp2_with fail
      go_ret
      exact ⟨by first | rfl | simp, B11.out⟩
end Go.Proofs.YtjhmehmmpfnnkaaDoor
