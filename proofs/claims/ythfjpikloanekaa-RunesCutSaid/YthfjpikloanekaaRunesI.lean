/-
  runes.After.
-/
import Derived.Test.YthfjpikloanekaaRunesH
namespace Go.Proofs.Ythfjpikloanekaa
open Go.RowKit Utf Go.Shelf
set_option maxRecDepth 100000
set_option linter.unusedSimpArgs false
set_option linter.unusedVariables false
attribute [local go_sem] Oper.semAt_some

theorem clone_n (n : Nat) (xs : List Nat) (b of cap : Nat) (w : World) (hn : xs.length = n) (hl : n ≤ 1000000) (hr : RowAt w (some ⟨b, of, none⟩) (runeRow xs)) :
    Calls Try.prog 24 #[.slice (some ⟨b, of, none⟩) n cap] w fun e w' => ∃ v, e = .returned v ∧ Below w.heap.size w w' ∧ w'.ownsRow w.heap.size 21 1 v n (runeRow xs) := by
  subst hn
  exact clone_any xs b of cap w hl hr

theorem foldl_enc (rs : List Nat) : ∀ acc : ByteArray, ((rs.map fun (c : Nat) => (c : Int)).foldl (fun r n => r ++ Utf8.encode n) acc).data.toList = acc.data.toList ++ encAll rs := by
  induction rs with
  | nil => intro acc; simp [encAll_nil]
  | cons c rs ih =>
    intro acc
    rw [List.map_cons, List.foldl_cons, ih, encAll_cons]
    simp [enc, ByteArray.data_append]

theorem conv_runes {w : World} {B : Nat} {e src dst : TypeId} {v : Value} {rs : List Nat} {P : Program} (h : w.ownsRow B e 1 v rs.length (runeRow rs)) (hs : P.underlying src = some (.slice e)) (he : P.underlying e = some (.int .i32)) (hd : P.underlying dst = some .string) :
    (convert src dst v).run P w = .ok (.string (mkS (encAll rs))) w := by
  rcases h.2 with ⟨rfl, hl⟩ | ⟨g, cap, cur, rfl, _, hg, hnc, hcm, _, _⟩
  · obtain rfl : rs = [] := List.length_eq_zero_iff.1 hl
    rw [run_convert_runes_nil w src dst e _ _ hs he hd]
    rfl
  · rw [run_convert_runes w src dst e _ rs.length cap (rs.map fun (c : Nat) => (c : Int)) (by simp) hs he hd]
    · congr 1
      congr 1
      apply str_ext
      rw [mkS_data, List.take_of_length_le (by simp)]
      unfold runesBytes
      rw [foldl_enc]
      rfl
    · intro j hj
      have hj' : j < rs.length := by simpa using hj
      have := h.cellAt j (by omega)
      rw [addr_add, Nat.zero_add, this]
      simp [runeRow, hj']

theorem afterAt_back {rs : List Nat} : ∀ k, k ≤ rs.length → (∀ j, j < k → rs[rs.length - 1 - j]?.getD 0 = 1114111) → afterAt rs (rs.length - k) = afterL rs
  | 0, _, _ => rfl
  | k + 1, hk, h => by
    have ih := afterAt_back k (by omega) (fun j hj => h j (by omega))
    have e : rs.length - k = (rs.length - (k + 1)) + 1 := by omega
    rw [e] at ih
    simp only [afterAt] at ih
    have h1 := h k (by omega)
    have e2 : rs.length - 1 - k = rs.length - (k + 1) := by omega
    rw [e2] at h1
    rw [if_pos h1] at ih
    exact ih
theorem afterL_none {rs : List Nat} (h : ∀ j, j < rs.length → rs[rs.length - 1 - j]?.getD 0 = 1114111) : afterL rs = none := by
  have := afterAt_back rs.length (Nat.le_refl _) h
  rw [Nat.sub_self] at this
  exact this.symm
theorem afterL_at {rs : List Nat} (k : Nat) (hk : k < rs.length) (h : ∀ j, j < k → rs[rs.length - 1 - j]?.getD 0 = 1114111) (hn : rs[rs.length - 1 - k]?.getD 0 ≠ 1114111) :
    afterL rs = some (rs.take (rs.length - 1 - k) ++ [succR (rs[rs.length - 1 - k]?.getD 0)]) := by
  have := afterAt_back k (by omega) h
  have e : rs.length - k = (rs.length - 1 - k) + 1 := by omega
  rw [e] at this
  simp only [afterAt] at this
  rw [if_neg hn] at this
  exact this.symm

/-- What comes, from the end. -/
def backF (rs : List Nat) (ho : allOk rs) (k : Nat) : AtRune rs := ⟨(rs.length - 1 - k, rs[rs.length - 1 - k]?.getD 0), fun h => by
    have : rs.length ≠ 0 := fun e => h (List.length_eq_zero_iff.1 e)
    show rs.length - 1 - k < rs.length
    omega, by
    show okR (rs[rs.length - 1 - k]?.getD 0) = true
    by_cases h : rs.length - 1 - k < rs.length
    · rw [List.getElem?_eq_getElem h]; exact ho _ (List.getElem_mem h)
    · rw [List.getElem?_eq_none (by omega)]; rfl⟩

theorem keeps_of_below {W W' : World} (h : Below W.heap.size W W') : KeepsOthers W W' :=
  ⟨h.size, fun k o hk _ => (h.block k (Array.getElem?_eq_some_iff.1 hk).1).trans hk⟩
theorem own_isCells {w : World} {B : Nat} {e : TypeId} {v : Value} {n : Nat} {xs : List Value} (h : w.ownsRow B e 1 v n xs) : ∀ (j : Nat) (o : Obj), v.ownBlock = some j → w.heap[j]? = some o → o.isCells = true := by
  intro j o hj ho
  rcases h.2 with ⟨rfl, _⟩ | ⟨g, cap, cur, rfl, _, hg, _⟩
  · cases hj
  · simp [Value.ownBlock] at hj
    subst hj
    rw [hg] at ho
    cases ho
    rfl

section
variable {F : Fence} {n : Nat} {P : Program} {ops : Array Oper} {rest : List Oper} {o : Oper} {a : Act} {Q : Exit → Act → World → Prop} {wp W : World}
/-- One element is appended to a row of the round's own, inside a fence. -/
theorem appIn1 (hgd : o.guard = none) (s x : Operand) (t : TypeId)
    (ho : o.op = .call { callee := .builtin .append, args := #[s, x], argTypes := #[t, t] })
    (e : TypeId) (i : TypeInfo) (z : Value) (bytes : Nat) (ht : P.underlying t = some (.slice e)) (hi : P.info? e = some i) (hz : i.zero = some z)
    (hsize : i.size = 1) (hby : i.bytes = bytes) (hzs : z.cells.size = 1)
    (v : Value) (k : Nat) (xs : List Value) (hs : a.eval s = v) (hown : wp.ownsRow W.heap.size e 1 v k xs) (hb : Below W.heap.size W wp)
    (u : Value) (hu : u.oneCell' = true) (hx : a.eval x = .slice (some ⟨wp.heap.size, 0, none⟩) 1 1) (hn : k ≤ 1000000000) (hby2 : bytes ≤ 1000)
    (h : Hid (∀ v' w', w'.ownsRow W.heap.size e 1 v' (k + 1) (xs ++ [u]) → Below W.heap.size W w' → KeepsOthers W w' → wpListIn F n P ops Q rest (a.put o.dst v') w')) :
    wpListIn F n P ops Q (o :: rest) a (wp.alloc (.cells #[u] e)) := by
  refine wpListIn_append_own _ hgd s x t ho W.heap.size e i z 1 bytes ht hi hz hsize hby hzs (by omega) v k xs hs (hown.alloc _) ⟨wp.heap.size, 0, none⟩ 1 1 [u] hx rfl (one_cell _ _ _) (by intro y hy; simp at hy; subst hy; exact hu) (by unfold maxLen; omega) ?_ (by have := hb.size; simp; omega) ?_
  · have : (k + 1) * bytes ≤ 1000000001 * 1000 := Nat.mul_le_mul (by omega) hby2
    omega
  · intro v' w' h1 h2 _
    refine h.out v' w' h1 ((hb.alloc hb.size _).grown h2 (by have := hb.size; simp; omega) (fun k hk => (hown.lt k hk).1)) ?_
    exact (keeps_of_below (hb.alloc hb.size _)).trans (KeepsOthers.of_grownBy h2 (own_isCells (hown.alloc _)))
end

/-- What a round knows: the runes that came are the last ones; the result's cell, the text's runes, and nothing that lay has turned. -/
def AI (w w1 : World) (ao : Option Addr) (cap : Nat) (rs : List Nat) (pre : List (AtRune rs)) (W : World) : Prop :=
  (∀ p ∈ pre, p.1.2 = 1114111) ∧ W.cell? ⟨w.heap.size, 0, none⟩ = some (.string ByteArray.empty) ∧ W.frozen? ⟨w.heap.size, 0, none⟩ = false ∧ W.cell? ⟨w1.heap.size, 0, none⟩ = some (.slice ao rs.length cap) ∧ RowAt W ao (runeRow rs)
def AX (w : World) (rs : List Nat) (c : Code) (pre : List (AtRune rs)) (W : World) : Prop :=
  c = .ret ∧ ∃ ini last, pre = ini ++ [last] ∧ (∀ p ∈ ini, p.1.2 = 1114111) ∧ last.1.2 ≠ 1114111 ∧ W.cell? ⟨w.heap.size, 0, none⟩ = some (.string (mkS (encAll (rs.take last.1.1 ++ [succR last.1.2]))))

set_option maxHeartbeats 4000000 in
theorem after_in (s : ByteArray) (rs : List Nat) (w : World) (hl : rs.length ≤ 1000000) (ho : allOk rs)
    (hli : ∀ W, Calls Try.prog 22 #[.string s] W fun e w' => ∃ v, e = .returned v ∧ Below W.heap.size W w' ∧ w'.ownsRow W.heap.size 21 1 v rs.length (runeRow rs)) :
    CallsIn Fence.wide 6 Try.prog 8 #[.string s] w fun e w' => e = .returned (.string (mkS (encAll ((afterL rs).getD [])))) ∧ Below w.heap.size w w' := by
  have HLI := Lib.hid hli
  clear hli
  obtain ⟨i0, hi, hz0, hz1, hz2⟩ := info_parts Try.infoRune
  refine callsIn_of_wp_marks Try.func8 rfl trivial ?_ rfl
  simp only [Try.ntmps8, List.size_toArray, List.length_cons, List.length_nil, Nat.reduceAdd, Nat.reduceSub, Array.replicate_succ, Array.replicate_zero, List.push_toArray, List.append_toArray, List.nil_append, List.cons_append]
  gi_wp2_with fail
  refine ⟨trivial, ?_⟩
  refine (callsIn_wide.2 (HLI.out _)).mono ?_
  rintro e w1 ⟨v, rfl, hb1, hown1⟩
  have HOWN := Lib.hid hown1
  have HLTB := Lib.hid hown1.lt
  obtain ⟨ao, cap, rfl, hr1, -, hcap, hcm, hao, hsp⟩ := own_row hown1
  have HB1 := Lib.hid hb1
  have HR1 := Lib.hid hr1
  have HSP := Lib.hid hsp
  clear hb1 hr1 hsp hao hown1
  gi_wp2_with fail
  refine ⟨trivial, ?_⟩
  refine (backward_in Fence.wide _ trivial rfl _ _ _ _).mono ?_
  rintro e w2 ⟨rfl, rfl⟩
  gi_wp2_with fail
  have bR := Boxed.new w 9 (.string ByteArray.empty)
  have bR1 : Boxed w1 w.heap.size 9 (.string ByteArray.empty) := (HB1.out.block _ (by simp)).trans bR
  have bL := Boxed.new w1 40 (.slice ao rs.length cap)
  have bN := Boxed.new (w1.alloc (.cells #[.slice ao rs.length cap] 40)) 40 (.slice ao rs.length cap)
  rw [World.size_alloc] at bN
  have hsz : w.heap.size + 1 ≤ w1.heap.size := by have := HB1.out.size; simpa using this
  have hB1 : Below w.heap.size w w1 := ((Below.refl _ w).alloc (Nat.le_refl _) _).trans (HB1.out.mono (by simp))
  have hB0 : Below w.heap.size w ((w1.alloc (.cells #[.slice ao rs.length cap] 40)).alloc (.cells #[.slice ao rs.length cap] 40)) := (hB1.alloc (by omega) _).alloc (by simp; omega) _
  have hB2 : Below w1.heap.size w1 ((w1.alloc (.cells #[.slice ao rs.length cap] 40)).alloc (.cells #[.slice ao rs.length cap] 40)) := ((Below.refl _ w1).alloc (Nat.le_refl _) _).alloc (by simp) _
  refine wpIn_rangeFunc_ownG rfl (show 1 ≤ 6 by decide) (gf := 29) (lb := #[.pointer (some ⟨w1.heap.size + 1, 0, none⟩)]) rfl trivial (enters_of Try.func29 (by kernel_rfl) rfl)
    (backward_stops Fence.wide 5 trivial rfl (by decide) (w1.heap.size + 1) (w1.heap.size + 2) rs ao cap (by omega) _ (by omega) (by simp) (backF rs ho) (fun k _ => rfl) bN.cell (HR1.out.below hB2) (fun ad had => by have := (HLTB.out ad.block (by rw [had]; rfl)).2; omega)) belowK_t (belowK_b (by simp)) (Below.refl _ _) (by intro x; rfl)
    (fun pre W => AI w w1 ao cap rs pre W ∧ Below w.heap.size w W)
    (fun c pre W => AX w rs c pre W ∧ Below w.heap.size w W)
    (OwnFrom.and (Own.from (fun s A B row hs hg hr => ⟨hs.1, cell_kept hs.2.1 hg hr, (frozen_kept hs.2.1 hg hr).trans hs.2.2.1, cell_kept hs.2.2.2.1 hg hr, fun i hi => by obtain ⟨b, o, e1, hc⟩ := hs.2.2.2.2 i hi; exact ⟨b, o, e1, cell_kept hc hg hr⟩⟩) _) (ownFrom_below (Nat.le_refl _) (by simp; omega)))
    (fun c => OwnFrom.and (Own.from (fun s A B row hs hg hr => by obtain ⟨hc, ini, last, e1, e2, e3, e4⟩ := hs; exact ⟨hc, ini, last, e1, e2, e3, cell_kept e4 hg hr⟩) _) (ownFrom_below (Nat.le_refl _) (by simp; omega)))
    ⟨⟨by simp, ((bR1.alloc _).alloc _).cell, ((bR1.alloc _).alloc _).frozen, (bL.alloc _).cell, HR1.out.below hB2⟩, hB0⟩
    (fun x => { tmps := #[.string s, undef, .pointer (some ⟨w.heap.size, 0, none⟩), .pointer (some ⟨w1.heap.size, 0, none⟩), .int .i64 (x.1.1 : Int), .int .i32 (x.1.2 : Int), .string s, .slice ao rs.length cap, .slice ao rs.length cap, .func (.func 29) #[] #[.pointer (some ⟨w1.heap.size + 1, 0, none⟩)], .int .i64 (x.1.1 : Int), .int .i32 (x.1.2 : Int), undef, undef, undef, undef, undef, undef, undef, undef, undef, undef, undef, undef, undef, undef, undef, undef, undef, undef, undef, undef, undef, undef], defers := [] }) ?assign ?body ?done ?stop
  case assign =>
    intro l x W K hK
    simp only [encAt]
    gi_wp2
    exact hK
  case body =>
    rintro l pre x W ⟨⟨hpre, hc0, hf0, hc1, hrow⟩, hB⟩ hlen
    obtain ⟨⟨i, c⟩, hx1, hx2⟩ := x
    have hne : rs ≠ [] := fun h => by
      have h0 : rs.length = 0 := by rw [h]; rfl
      omega
    have hilt : i < rs.length := hx1 hne
    have hcok : okR c = true := hx2
    clear hlen hne
    obtain ⟨b, of, hao, -⟩ := hrow i (by rw [runeRow_len]; exact hilt)
    subst hao
    have HX1 := Lib.hid hx1
    have HX2 := Lib.hid hx2
    have HROW := Lib.hid hrow
    have HPRE := Lib.hid hpre
    have HB := Lib.hid hB
    have HBS := Lib.hid hB.size
    clear hrow hpre hB
    have hcb : c ≤ 1114111 := by rw [okR_def] at hcok; omega
    by_cases hlast : c = 1114111
    · have hl1 : ((c : Int) == 1114111) = true := by simp; omega
      have HLA := Lib.hid hlast
      clear hlast
      gi_wp2_with fail
      exact ⟨KeepsFrom.refl _ _, Below.refl _ _, ⟨fun p hp' => (List.mem_append.1 hp').elim (HPRE.out p) (fun e => by simp at e; subst e; exact HLA.out), hc0, hf0, hc1, HROW.out⟩, HB.out⟩
    · have hl1 : ((c : Int) == 1114111) = false := by simp; omega
      have HLA := Lib.hid hlast
      clear hlast
      have hti : (rs.take i).length = i := by rw [List.length_take]; omega
      have HTL := Lib.hid hti
      have hrt : RowAt W (some ⟨b, of, none⟩) (runeRow (rs.take i)) := by
        intro j hj
        rw [runeRow_len, hti] at hj
        obtain ⟨b', o', e1, hc'⟩ := HROW.out j (by rw [runeRow_len]; omega)
        refine ⟨b', o', e1, ?_⟩
        rw [runeRow_at] at hc' ⊢
        rw [List.getElem_take]
        exact hc'
      have HRT := Lib.hid hrt
      clear hti hrt
      by_cases hs : c = 55295
      · have hl2 : ((c : Int) == 55295) = true := by simp; omega
        have HSU := Lib.hid (show succR c = 57344 by simp [succR, hs])
        clear hs
        gi_wp2_with fail
        refine ⟨trivial, ?_⟩
        refine (CallsIn.inRound l (callsIn_wide.2 (clone_n i (rs.take i) b of cap W HTL.out (by omega) HRT.out))).mono ?_
        rintro e w3 ⟨v3, rfl, hb3, hown3⟩
        have HB3 := Lib.hid hb3
        have HO3 := Lib.hid hown3
        clear hb3 hown3
        gi_wp2_with (gi_at_builtin; refine appIn1 rfl _ _ 40 rfl 21 i0 (.int .i32 0) 4 Try.underlying40 hi hz0 hz1 hz2 rfl _ _ _ rfl HO3.out HB3.out (.int .i32 57344) rfl rfl (by omega) (by omega) ?_)
        refine Lib.hid ?_
        intro v4 w4 hown4 hb4 hk4
        have hown5 : w4.ownsRow W.heap.size 21 1 v4 (rs.take i ++ [succR c]).length (runeRow (rs.take i ++ [succR c])) := by
          rw [HSU.out, List.length_append, HTL.out]
          simpa [runeRow] using hown4
        have hcv := conv_runes (P := Try.prog) (src := 40) (dst := 9) hown5 Try.underlying40 Try.underlying21 Try.underlying9
        have hc4 := (hb4.cell (p := ⟨w.heap.size, 0, none⟩) (World.block_lt_of_cell? W _ hc0)).trans hc0
        have hf4 := (hb4.frozen (p := ⟨w.heap.size, 0, none⟩) (World.block_lt_of_cell? W _ hc0)).trans hf0
        have HB4 := Lib.hid hb4
        have HK4 := Lib.hid hk4
        clear hown4 hown5 hb4 hk4
        gi_wp2_with fail
        exact ⟨(HK4.out.trans (KeepsOthers.setCell _ _ _)).from _, ⟨rfl, pre, ⟨(i, c), HX1.out, HX2.out⟩, rfl, HPRE.out, HLA.out, World.cell?_setCell_same' _ _ _ (by rw [hc4]; rfl)⟩, (HB.out.trans (HB4.out.mono HBS.out)).setCell (p := ⟨w.heap.size, 0, none⟩) (Nat.le_refl _) _⟩
      · have hl2 : ((c : Int) == 55295) = false := by simp; omega
        have HSU := Lib.hid (show succR c = c + 1 by simp [succR, hs])
        clear hs
        gi_wp2_with fail
        refine ⟨trivial, ?_⟩
        refine (CallsIn.inRound l (callsIn_wide.2 (clone_n i (rs.take i) b of cap W HTL.out (by omega) HRT.out))).mono ?_
        rintro e w3 ⟨v3, rfl, hb3, hown3⟩
        have HB3 := Lib.hid hb3
        have HO3 := Lib.hid hown3
        clear hb3 hown3
        gi_wp2_with (gi_at_builtin; refine appIn1 rfl _ _ 40 rfl 21 i0 (.int .i32 0) 4 Try.underlying40 hi hz0 hz1 hz2 rfl _ _ _ rfl HO3.out HB3.out (.int .i32 ((c : Int) + 1)) rfl rfl (by omega) (by omega) ?_)
        refine Lib.hid ?_
        intro v4 w4 hown4 hb4 hk4
        have hown5 : w4.ownsRow W.heap.size 21 1 v4 (rs.take i ++ [succR c]).length (runeRow (rs.take i ++ [succR c])) := by
          rw [HSU.out, List.length_append, HTL.out]
          simpa [runeRow] using hown4
        have hcv := conv_runes (P := Try.prog) (src := 40) (dst := 9) hown5 Try.underlying40 Try.underlying21 Try.underlying9
        have hc4 := (hb4.cell (p := ⟨w.heap.size, 0, none⟩) (World.block_lt_of_cell? W _ hc0)).trans hc0
        have hf4 := (hb4.frozen (p := ⟨w.heap.size, 0, none⟩) (World.block_lt_of_cell? W _ hc0)).trans hf0
        have HB4 := Lib.hid hb4
        have HK4 := Lib.hid hk4
        clear hown4 hown5 hb4 hk4
        gi_wp2_with fail
        exact ⟨(HK4.out.trans (KeepsOthers.setCell _ _ _)).from _, ⟨rfl, pre, ⟨(i, c), HX1.out, HX2.out⟩, rfl, HPRE.out, HLA.out, World.cell?_setCell_same' _ _ _ (by rw [hc4]; rfl)⟩, (HB.out.trans (HB4.out.mono HBS.out)).setCell (p := ⟨w.heap.size, 0, none⟩) (Nat.le_refl _) _⟩
  case done =>
    rintro D ys W hD rfl ⟨⟨hpre, hc0, hf0, hc1, hrow⟩, hB⟩ hK
    have hnone := afterL_none (rs := rs) (fun j hj => hpre (backF rs ho j) (by simp only [fromEnd, List.mem_map, List.mem_range]; exact ⟨j, hj, rfl⟩))
    have HN := Lib.hid hnone
    have HB := Lib.hid hB
    clear hpre hrow hnone hB
    gi_wp2
    have hK' := (KeepsOthers.setCell W ⟨w.heap.size, 0, none⟩ (.string ⟨#[]⟩)).same D _ hK rfl
    refine ⟨by simp, .inl ⟨_, _, rfl, run_takeDeferred hK', ?_⟩⟩
    have hc5 := cell_kept (World.cell?_setCell_same' W ⟨w.heap.size, 0, none⟩ (.string ⟨#[]⟩) (by rw [hc0]; rfl)) (grownBy_putObj' _ D (.deferred none)) (fun r e => by cases e; exact ⟨_, hK', rfl⟩)
    refine ⟨.string ⟨#[]⟩, ?_, ?_, (HB.out.setCell (p := ⟨w.heap.size, 0, none⟩) (Nat.le_refl _) _).trans (belowK_b (w := w) (Nat.le_refl _) _ D _ _ (by simp at hD; omega) hK' rfl rfl)⟩
    · simp [results, Try.f8, go_sem, hc5]
    · rw [HN.out]; rfl
  case stop =>
    rintro D c pre W hD ⟨k, hk, rfl⟩ ⟨⟨rfl, ini, last, e1, e2, e3, hcr⟩, hB⟩ hK
    have HB := Lib.hid hB
    clear hB
    gi_wp2
    refine ⟨by simp, .inl ⟨_, _, rfl, run_takeDeferred hK, ?_⟩⟩
    have hc5 := cell_kept hcr (grownBy_putObj' _ D (.deferred none)) (fun r e => by cases e; exact ⟨_, hK, rfl⟩)
    obtain ⟨k', rfl⟩ : ∃ k', k = k' + 1 := by
      cases k with
      | zero => simp [fromEnd] at e1
      | succ k' => exact ⟨k', rfl⟩
    rw [fromEnd_succ] at e1
    obtain ⟨rfl, e5⟩ := List.append_inj' e1 rfl
    obtain rfl : backF rs ho k' = last := by simpa using e5
    have hat := afterL_at (rs := rs) k' (by omega) (fun j hj => e2 (backF rs ho j) (by simp only [fromEnd, List.mem_map, List.mem_range]; exact ⟨j, hj, rfl⟩)) e3
    refine ⟨.string (mkS (encAll (rs.take (backF rs ho k').1.1 ++ [succR (backF rs ho k').1.2]))), ?_, ?_, HB.out.trans (belowK_b (w := w) (Nat.le_refl _) W D _ _ (by simp at hD; omega) hK rfl rfl)⟩
    · simp [results, Try.f8, go_sem, hc5]
    · rw [hat]; rfl

theorem after_some (s : ByteArray) (rs : List Nat) (w : World) (hs : s.size ≤ 1000000) (ho : allOk rs) (h : s.data.toList = encAll rs) :
    Calls Try.prog 8 #[.string s] w fun e w' => e = .returned (.string (mkS (encAll ((afterL rs).getD [])))) ∧ Below w.heap.size w w' :=
  callsIn_wide.1 (after_in s rs w (by have := len_le h; omega) ho (fun W => list_some s rs W hs ho h))
theorem after_none (s : ByteArray) (w : World) (hs : s.size ≤ maxLen) (hd : dec s.data.toList = none) :
    Calls Try.prog 8 #[.string s] w fun e w' => e = .returned (.string (mkS [])) ∧ Below w.heap.size w w' :=
  callsIn_wide.1 (after_in s [] w (by simp) allOk_nil (fun W => (list_none s W hs hd).mono fun e w' ⟨h1, h2⟩ => ⟨_, h1, h2, World.ownsRow_nil _ _ _ _⟩))
end Go.Proofs.Ythfjpikloanekaa
