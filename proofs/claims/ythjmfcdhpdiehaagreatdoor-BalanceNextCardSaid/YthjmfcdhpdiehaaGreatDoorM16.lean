/-
  balance.half: the key at which a shard is cut.
  balance.greatest, of the closures of cuts and evens. (Printed by wip/gen/great.py.)
-/
import Derived.Test.YthjmfcdhpdiehaaGreatDoorM15
namespace Go.Proofs.YthjmfcdhpdiehaaGreatDoor
open Go.RowKit Utf
set_option maxRecDepth 100000
set_option linter.unusedSimpArgs false
set_option linter.unusedVariables false

/-- Is half of the load ahead of place i? -/
def halfAt (ks : List LD) (i : Nat) : Bool := decide (0 < i) && decide (2 * sumN (ks.take i) ≥ sumN ks)
def halfN (ks : List LD) : Nat := ((List.range ks.length).find? (halfAt ks)).getD (ks.length - 1)
def halfP (ks : List LD) : ByteArray := (ldAt ks (halfN ks)).key
theorem half_some {ks : List LD} {k : Nat} (hk : k < ks.length) (h : halfAt ks k = true) (hn : ∀ j, j < k → halfAt ks j = false) : halfN ks = k := by
  unfold halfN
  have : (List.range ks.length).find? (halfAt ks) = some k := by
    rw [List.find?_range_eq_some]
    exact ⟨h, by simpa using hk, fun j hj => by rw [hn j hj]; rfl⟩
  rw [this]
  rfl
theorem half_none {ks : List LD} (hn : ∀ j, j < ks.length → halfAt ks j = false) : halfN ks = ks.length - 1 := by
  unfold halfN
  have : (List.range ks.length).find? (halfAt ks) = none := by
    rw [List.find?_eq_none]
    intro j hj
    rw [hn j (List.mem_range.1 hj)]
    simp
  rw [this]
  rfl
theorem NumOk.take {l : List LD} (h : NumOk l) (k : Nat) : NumOk (l.take k) := fun x hx => h x (List.mem_of_mem_take hx)
theorem sumN_take (l : List LD) (k : Nat) (hk : k < l.length) : sumN (l.take (k + 1)) = sumN (l.take k) + (ldAt l k).n := by
  rw [List.take_succ_eq_append_getElem hk, sumN_app, ldAt_eq hk]

/-- How the loop stands. -/
structure HF (w : World) (x : List Value) (ao : Option Addr) (ks : List LD) (W : World) : Prop where
  bel : Below w.heap.size w W
  box : Blk W w.heap.size 87 x.toArray
  row : RowAt W ao (ldRow ks)
theorem HF.next {w W W' : World} {x : List Value} {ao : Option Addr} {ks : List LD} (h : HF w x ao ks W) (hb : Below W.heap.size W W') : HF w x ao ks W' :=
  ⟨h.bel.trans (hb.mono h.bel.size), h.box.below hb h.box.lt, h.row.below hb⟩

set_option maxHeartbeats 2000000 in
theorem half_any (s : Sh) (ks : List LD) (b o c : Nat) (w : World) (h1 : 1 ≤ ks.length) (hn : ks.length ≤ 1000) (hno : NumOk ks) (hr : RowAt w (some ⟨b, o, none⟩) (ldRow ks)) :
    Calls Tryz.prog 72 #[.agg (LO.mk s (.slice (some ⟨b, o, none⟩) ks.length c) ks).cells.toArray] w fun e w' => e = .returned (.string (halfP ks)) ∧ Below w.heap.size w w' := by
  obtain ⟨sid, server, since, lo, hi⟩ := s
  have HTB := Lib.hid (fun k => sumN_bound (hno.take k))
  have HTS := Lib.hid (sumN_bound hno)
  have HTK := Lib.hid (fun k hk => sumN_take ks k hk)
  have HNM := Lib.hid (show ∀ k, k < ks.length → 1 ≤ (ldAt ks k).n ∧ (ldAt ks k).n ≤ 1000000 from fun k hk => by rw [ldAt_eq hk]; exact hno _ (List.getElem_mem hk))
  have HHS := Lib.hid (fun k a b c => half_some (ks := ks) (k := k) a b c)
  have HHN := Lib.hid (fun a => half_none (ks := ks) a)
  have HSF := Lib.hid (show HF w [.int .i64 sid, .int .i64 server, .int .i64 since, .string lo, .string hi, .slice (some ⟨b, o, none⟩) ks.length c, .int .i64 (sumN ks)] (some ⟨b, o, none⟩) ks (w.alloc (.cells #[.int .i64 sid, .int .i64 server, .int .i64 since, .string lo, .string hi, .slice (some ⟨b, o, none⟩) ks.length c, .int .i64 (sumN ks)] 87)) from ⟨below_alloc _ _, Blk.new _ _ _, hr.below (below_alloc _ _)⟩)
  have HAT := Lib.hid (show ∀ k, halfAt ks k = (decide (0 < k) && decide (2 * sumN (ks.take k) ≥ sumN ks)) from fun _ => rfl)
  have hsum : 0 ≤ sumN ks ∧ sumN ks ≤ 1000000000 := by have := HTS.out; omega
  clear hr hno
  unfold LO.cells
  dsimp only
  have c0 : (w.alloc (.cells #[.int .i64 sid, .int .i64 server, .int .i64 since, .string lo, .string hi, .slice (some ⟨b, o, none⟩) ks.length c, .int .i64 (sumN ks)] 87)).cell? ⟨w.heap.size, 5, none⟩ = some (.slice (some ⟨b, o, none⟩) ks.length c) := HSF.out.box.cell 5
  generalize sumN ks = S at *
  go_enter Tryz.func72, Tryz.ntmps72
  go_wp2_with fail
  go_loopw [3, 9] (fun v i wr => ∃ k : Nat, k ≤ ks.length ∧ i = .int .i64 k ∧ v = .int .i64 (sumN (ks.take k)) ∧ Hid (∀ j, j < k → halfAt ks j = false) ∧ Hid (HF w [.int .i64 sid, .int .i64 server, .int .i64 since, .string lo, .string hi, .slice (some ⟨b, o, none⟩) ks.length c, .int .i64 S] (some ⟨b, o, none⟩) ks wr)) (fun _ i _ => ks.length - (intOf i).toNat)
  case atStart => exact ⟨0, by omega, rfl, rfl, Lib.hid (fun j hj => by omega), HSF⟩
  case round =>
    obtain ⟨k, hk, rfl, rfl, HP, HB⟩ := hrel
    have ck6 : wr.cell? ⟨w.heap.size, 6, none⟩ = some (.int .i64 S) := HB.out.box.cell 6
    by_cases hlt : k < ks.length
    · have HRG := Lib.hid (show wr.rangeAt b (o + k * 2) (ldAt ks k).cells from fun j v hj => by
        have hj5 : j < 2 := by have := (List.getElem?_eq_some_iff.1 hj).1; rw [LD.cells_len] at this; exact this
        rw [row_ld HB.out.row hlt j hj5]; exact hj)
      have HSI := Lib.hid (show (Tryz.prog.info? 77).map (·.size) = some (ldAt ks k).cells.length by rw [LD.cells_len]; kernel_rfl)
      have HZ1 := Lib.hid (Blk.new wr 77 #[.string ⟨#[]⟩, .int .i64 0])
      have hb0 : 0 ≤ sumN (ks.take k) ∧ sumN (ks.take k) ≤ 1000000000 := by
        have h4 := HTB.out k
        rw [List.length_take] at h4
        omega
      have hnm := HNM.out k hlt
      have HTKK := Lib.hid (HTK.out k hlt)
      have HHK := Lib.hid (fun h => HHS.out k hlt h HP.out)
      have HPK := Lib.hid (fun (h : halfAt ks k = false) j (hj : j < k + 1) => show halfAt ks j = false from by
        by_cases hjj : j < k
        · exact HP.out j hjj
        · obtain rfl : j = k := by omega
          exact h)
      have HATK := Lib.hid (HAT.out k)
      have HKEY := Lib.hid (show ∀ h : halfN ks = k, halfP ks = (ldAt ks k).key from fun h => by unfold halfP; rw [h])
      generalize sumN (ks.take k) = A at *
      generalize ldAt ks k = x at *
      obtain ⟨key, n⟩ := x
      dsimp only at hnm
      clear ck6
      go_wp2_with (first | (refine wpList_load_mid rfl 77 (.tmp 12) rfl b (o + k * 2) rfl _ _ HRG.out Tryz.underlying77 rfl HSI.out ?_) | (refine wpList_store_blk rfl 77 (.tmp 5) (.tmp 13) rfl wr.heap.size #[.string key, .int .i64 n] rfl rfl 77 _ HZ1.out rfl (by kernel_rfl) (by kernel_rfl) ?_))
      refine Lib.hid ?_
      intro w2 hz ho
      have HB5 := Lib.hid hz
      have HB2 := Lib.hid (HB.out.next ((below_alloc wr _).trans (ho.to_below (B := wr.heap.size) (by simp) (fun q hq e => by omega))))
      have ck6 : w2.cell? ⟨w.heap.size, 6, none⟩ = some (.int .i64 S) := HB2.out.box.cell 6
      have d0 : w2.cell? ⟨wr.heap.size, 0, none⟩ = some (.string key) := HB5.out.cell 0
      have d1 : w2.cell? ⟨wr.heap.size, 1, none⟩ = some (.int .i64 n) := HB5.out.cell 1
      clear hz ho HZ1 HRG
      cases hh : halfAt ks k with
      | true =>
        have hq := HATK.out
        rw [hh] at hq
        have hq2 := hq.symm
        simp only [Bool.and_eq_true, decide_eq_true_eq] at hq2
        obtain ⟨q1, q2⟩ := hq2
        have HF2 := Lib.hid (HKEY.out (HHK.out hh))
        have hk0 : (0 : Int) < (k : Int) := by omega
        have hA2 : S ≤ 2 * A := by omega
        clear hh hq q1 q2 HATK HHK HKEY HPK
        go_wp2_with fail
        go_ret
        exact ⟨by rw [HF2.out]; rfl, HB2.out.bel⟩
      | false =>
        have HRS := Lib.hid (HPK.out hh)
        have hq := HATK.out
        rw [hh] at hq
        clear hh HATK HHK HKEY HPK
        by_cases hk0 : k = 0
        · subst hk0
          clear hq
          go_wp2_with fail
          go_roundw
          case rel => exact ⟨0 + 1, by omega, by go_num, by rw [HTKK.out], HRS, HB2⟩
          case measure => simp [intOf]; omega
        · have hk1 : (0 : Int) < (k : Int) := by omega
          have hA2 : ¬ S ≤ 2 * A := by
            intro h
            rw [decide_eq_true (show 0 < k by omega), decide_eq_true (show 2 * A ≥ S by omega)] at hq
            cases hq
          clear hq hk0
          go_wp2_with fail
          go_roundw
          case rel => exact ⟨k + 1, by omega, by go_num, by rw [HTKK.out], HRS, HB2⟩
          case measure => simp [intOf]; omega
    · obtain rfl : k = ks.length := by omega
      have HN := Lib.hid (HHN.out HP.out)
      have HKEY := Lib.hid (show halfP ks = (ldAt ks (ks.length - 1)).key by unfold halfP; rw [HN.out])
      obtain ⟨m, hm⟩ : ∃ m, ks.length = m + 1 := ⟨ks.length - 1, by omega⟩
      have ck5 : wr.cell? ⟨w.heap.size, 5, none⟩ = some (.slice (some ⟨b, o, none⟩) ks.length c) := HB.out.box.cell 5
      have e0 : wr.cell? ⟨b, o + m * 2, none⟩ = some (.string (ldAt ks m).key) := row_ld HB.out.row (i := m) (by omega) 0 (by decide)
      rw [hm, Nat.add_sub_cancel] at HKEY
      generalize (ldAt ks m).key = key at *
      go_wp2_with fail
      go_ret
      exact ⟨by rw [HKEY.out]; rfl, HB.out.bel⟩
end Go.Proofs.YthjmfcdhpdiehaaGreatDoor

namespace Go.Proofs.YthjmfcdhpdiehaaGreatDoor
open Go.RowKit Utf
set_option maxRecDepth 100000
set_option linter.unusedSimpArgs false
set_option linter.unusedVariables false

/-- The first place with the greatest sum, of those that may. -/
def bestStep (may : Sh × List LD → Bool) (p : List (Sh × List LD)) (best : Option Nat) (i : Nat) : Option Nat :=
  if may (plAt p i) && (match best with | none => true | some b => decide (sumN (plAt p i).2 > sumN (plAt p b).2)) then some i else best
def bestN (may : Sh × List LD → Bool) (p : List (Sh × List LD)) : Option Nat := (List.range p.length).foldl (bestStep may p) none
def bestTo (may : Sh × List LD → Bool) (p : List (Sh × List LD)) (k : Nat) : Option Nat := (List.range k).foldl (bestStep may p) none
theorem bestTo_succ (may : Sh × List LD → Bool) (p : List (Sh × List LD)) (k : Nat) : bestTo may p (k + 1) = bestStep may p (bestTo may p k) k := by
  unfold bestTo
  rw [List.range_succ, List.foldl_append]
  rfl
theorem bestStep_no {may : Sh × List LD → Bool} {p : List (Sh × List LD)} {best : Option Nat} {k : Nat} (h : may (plAt p k) = false) : bestStep may p best k = best := by
  unfold bestStep
  rw [h]
  rfl
theorem bestStep_first {may : Sh × List LD → Bool} {p : List (Sh × List LD)} {k : Nat} (h : may (plAt p k) = true) : bestStep may p none k = some k := by
  unfold bestStep
  rw [h]
  rfl
theorem bestStep_more {may : Sh × List LD → Bool} {p : List (Sh × List LD)} {k q : Nat} (h : may (plAt p k) = true) (h2 : decide (sumN (plAt p q).2 < sumN (plAt p k).2) = true) : bestStep may p (some q) k = some k := by
  unfold bestStep
  rw [h]
  exact if_pos h2
theorem bestStep_less {may : Sh × List LD → Bool} {p : List (Sh × List LD)} {k q : Nat} (h : may (plAt p k) = true) (h2 : decide (sumN (plAt p q).2 < sumN (plAt p k).2) = false) : bestStep may p (some q) k = some q := by
  unfold bestStep
  rw [h]
  exact if_neg (fun e => by
    have e2 : (true && decide (sumN (plAt p q).2 < sumN (plAt p k).2)) = true := e
    rw [h2] at e2
    cases e2)
/-- How the loop stands. -/
structure GR (w : World) (b o : Nat) (l : List LO) (EXTRA : World → Prop) (W : World) : Prop where
  bel : Below w.heap.size w W
  row : RowAt W (some ⟨b, o, none⟩) (loRow l)
  ext : EXTRA W
structure GX (w : World) (b o : Nat) (l : List LO) (EXTRA : World → Prop) (p : Nat) (x : LO) (W : World) : Prop extends GR w b o l EXTRA W where
  box : Blk W p 87 x.cells.toArray
theorem GR.next {w W W' : World} {b o : Nat} {l : List LO} {EXTRA : World → Prop} (hE : ∀ W W', EXTRA W → Below W.heap.size W W' → EXTRA W') (h : GR w b o l EXTRA W) (hb : Below W.heap.size W W') : GR w b o l EXTRA W' :=
  ⟨h.bel.trans (hb.mono h.bel.size), h.row.below hb, hE _ _ h.ext hb⟩
theorem GX.next {w W W' : World} {b o p : Nat} {x : LO} {l : List LO} {EXTRA : World → Prop} (hE : ∀ W W', EXTRA W → Below W.heap.size W W' → EXTRA W') (h : GX w b o l EXTRA p x W) (hb : Below W.heap.size W W') : GX w b o l EXTRA p x W' :=
  ⟨h.toGR.next hE hb, h.box.below hb h.box.lt⟩
set_option maxHeartbeats 1000000 in
theorem cutsMay_any (x : LO) (w : World) : Calls Tryz.prog 70 #[.agg x.cells.toArray] w fun e w' => e = .returned (.bool true) ∧ Below w.heap.size w w' := by
  obtain ⟨⟨sid, server, since, lo, hi⟩, kv, keys⟩ := x
  unfold LO.cells
  generalize sumN _ = n
  go_enter Tryz.func70, Tryz.ntmps70
  go_wp2_with fail
  go_ret
  exact ⟨rfl, below_alloc _ _⟩
/-- May evens move it? -/
def evenMay (most gap : Int) (x : Sh × List LD) : Bool := decide (x.1.server = most) && decide (0 < sumN x.2) && decide (sumN x.2 < gap)
structure EX (p1 p2 : Nat) (most gap : Int) (W : World) : Prop where
  c1 : W.cell? ⟨p1, 0, none⟩ = some (.int .i64 most)
  c2 : W.cell? ⟨p2, 0, none⟩ = some (.int .i64 gap)
theorem EX.next {p1 p2 : Nat} {most gap : Int} : ∀ W W', EX p1 p2 most gap W → Below W.heap.size W W' → EX p1 p2 most gap W' := fun W W' h hb =>
  ⟨(hb.cell (World.block_lt_of_cell? W _ h.c1)).trans h.c1, (hb.cell (World.block_lt_of_cell? W _ h.c2)).trans h.c2⟩
set_option maxHeartbeats 1000000 in
theorem evensMay_any (x : LO) (p1 p2 : Nat) (most gap : Int) (w : World) (h : EX p1 p2 most gap w) : Calls Tryz.prog 73 #[.agg x.cells.toArray, .pointer (some ⟨p1, 0, none⟩), .pointer (some ⟨p2, 0, none⟩)] w fun e w' => e = .returned (.bool (evenMay most gap x.plain)) ∧ Below w.heap.size w w' := by
  obtain ⟨⟨sid, server, since, lo, hi⟩, kv, keys⟩ := x
  have HM := Lib.hid (show evenMay most gap (LO.plain ⟨⟨sid, server, since, lo, hi⟩, kv, keys⟩) = (decide (server = most) && decide (0 < sumN keys) && decide (sumN keys < gap)) from rfl)
  unfold LO.cells
  dsimp only
  generalize sumN keys = n at *
  have h2 := EX.next w (w.alloc (.cells #[.int .i64 sid, .int .i64 server, .int .i64 since, .string lo, .string hi, kv, .int .i64 n] 87)) h (below_alloc _ _)
  obtain ⟨c1, c2⟩ := h2
  clear h
  by_cases h1 : server = most
  · have d1 : (server == most) = true := by simp [h1]
    by_cases h2 : 0 < n
    · have HM2 := Lib.hid (show evenMay most gap (LO.plain ⟨⟨sid, server, since, lo, hi⟩, kv, keys⟩) = decide (n < gap) by rw [HM.out, decide_eq_true h1, decide_eq_true h2]; rfl)
      clear h1 HM
      go_enter Tryz.func73, Tryz.ntmps73
      go_wp2_with fail
      go_ret
      exact ⟨by rw [HM2.out]; rfl, below_alloc _ _⟩
    · have HM2 := Lib.hid (show evenMay most gap (LO.plain ⟨⟨sid, server, since, lo, hi⟩, kv, keys⟩) = false by rw [HM.out, decide_eq_false h2]; simp)
      clear h1 HM
      go_enter Tryz.func73, Tryz.ntmps73
      go_wp2_with fail
      go_ret
      exact ⟨by rw [HM2.out]; rfl, below_alloc _ _⟩
  · have d1 : (server == most) = false := by simp [h1]
    have HM2 := Lib.hid (show evenMay most gap (LO.plain ⟨⟨sid, server, since, lo, hi⟩, kv, keys⟩) = false by rw [HM.out, decide_eq_false h1]; rfl)
    clear h1 HM
    go_enter Tryz.func73, Tryz.ntmps73
    go_wp2_with fail
    go_ret
    exact ⟨by rw [HM2.out]; rfl, below_alloc _ _⟩
set_option maxHeartbeats 4000000 in
theorem great_cuts (l : List LO) (b o c : Nat)  (w : World) (hn : l.length ≤ 10000) (hr : RowAt w (some ⟨b, o, none⟩) (loRow l)) (hone : ∀ x ∈ l, x.kv.oneCell' = true)  :
    Calls Tryz.prog 69 #[.slice (some ⟨b, o, none⟩) l.length c, .func (.func 70) #[] #[]] w fun e w' => e = .returned (.int .i64 (idxI (bestN (fun _ => true) (l.map LO.plain)))) ∧ Below w.heap.size w w' := by
  have HG := Lib.hid (show GR w b o l (fun _ => True) w from ⟨Below.refl _ _, hr, trivial⟩)
  have HO := Lib.hid hone
  have HBN := Lib.hid (show bestN (fun _ => true) (l.map LO.plain) = bestTo (fun _ => true) (l.map LO.plain) l.length by unfold bestN bestTo; rw [List.length_map])
  have HBS := Lib.hid (fun k => bestTo_succ (fun _ => true) (l.map LO.plain) k)
  clear hr hone
  go_enter Tryz.func69, Tryz.ntmps69
  go_wp2_with fail
  go_loopw [5, 10] (fun v i wr => ∃ (k : Nat) (best : Option Nat), k ≤ l.length ∧ i = .int .i64 k ∧ v = .int .i64 (idxI best) ∧ Hid (GR w b o l (fun _ => True) wr) ∧ Hid (best = bestTo (fun _ => true) (l.map LO.plain) k) ∧ Hid (∀ q, best = some q → q < k)) (fun _ i _ => l.length - (intOf i).toNat)
  case atStart => exact ⟨0, none, by omega, rfl, rfl, HG, Lib.hid rfl, Lib.hid (fun q h => by cases h)⟩
  case round =>
    obtain ⟨k, best, hk, rfl, rfl, HS, HB, HQ⟩ := hrel
    by_cases hlt : k < l.length
    · have HRG := Lib.hid (row_lo HS.out.row hlt)
      have HOC := Lib.hid (LO.one (HO.out _ (List.getElem_mem hlt)))
      have HSI := Lib.hid (show (Tryz.prog.info? 87).map (·.size) = some l[k].cells.length by rw [LO.cells_len]; kernel_rfl)
      have HZ1 := Lib.hid (Blk.new wr 87 #[.int .i64 0, .int .i64 0, .int .i64 0, .string ⟨#[]⟩, .string ⟨#[]⟩, .slice none 0 0, .int .i64 0])
      have HST := Lib.hid (show bestTo (fun _ => true) (l.map LO.plain) (k + 1) = bestStep (fun _ => true) (l.map LO.plain) best k by rw [HBS.out, ← HB.out])
      have HPX := Lib.hid (plAt_of hlt)
      have HSM := Lib.hid (show ∀ q, q < l.length → ∀ W, RowAt W (some ⟨b, o, none⟩) (loRow l) → W.cell? ⟨b, o + q * 7 + 6, none⟩ = some (.int .i64 (sumN (plAt (l.map LO.plain) q).2)) from fun q hq W h => by
        rw [plAt_of hq]
        exact row_lo h hq 6 _ rfl)
      generalize l[k] = x at *
      clear HB
      go_wp2_with (first | (refine wpList_load_mid rfl 87 (.tmp 13) rfl b (o + k * 7) rfl _ _ HRG.out Tryz.underlying87 rfl HSI.out ?_) | (refine wpList_store_blk rfl 87 (.tmp 7) (.tmp 14) rfl wr.heap.size x.cells.toArray rfl rfl 87 _ HZ1.out rfl HSI.out (by simpa using HOC.out) ?_))
      refine Lib.hid ?_
      intro w2 hz hox
      have S2 := Lib.hid (show GX w b o l (fun _ => True) wr.heap.size x w2 from ⟨HS.out.next (fun _ _ _ _ => trivial) ((below_alloc wr _).trans (hox.to_below (B := wr.heap.size) (by simp) (fun q hq e => by omega))), hz⟩)
      clear hz hox HZ1 HRG
      cases hm : (fun _ => true) x.plain with
      | false =>
        have HM := Lib.hid hm
        have HRS : Hid (best = bestTo (fun _ => true) (l.map LO.plain) (k + 1)) := Lib.hid (by rw [HST.out]; exact (bestStep_no (by first | (rw [HPX.out]; exact hm) | exact hm)).symm)
        have HBL : Hid (∀ q, best = some q → q < k + 1) := Lib.hid (fun q h => by have := HQ.out q h; omega)
        clear hm
        go_wp2_with fail
        refine wp_region_class (GX w b o l (fun _ => True) wr.heap.size x) (by kernel_rfl) (by kernel_rfl) (S2.out.next (fun _ _ _ _ => trivial) (tame_drewN (Below.refl _ w2) 1)) ?_
        refine wq_k (.func (.func 70) #[] #[]) (wq_v (.agg x.cells.toArray) (fun W hW => run_eqv (run_loadN 87 (.tmp 7) (by kernel_rfl) wr.heap.size 0 (by kernel_rfl) x.cells (hW.box.range (fun j v hj => by simpa using hj)) _ Tryz.underlying87 rfl (by kernel_rfl)) rfl) (wq_c (.bool false) 70 #[.agg x.cells.toArray] (fun W hW => (cutsMay_any x W).mono fun e' w' h => ⟨by rw [h.1]; first | done | rw [HM.out], hW.next (fun _ _ _ _ => trivial) h.2⟩) (wq_k (.bool false) (wq_n (wq_n (wq_n (wq_n ?_)))))))
        refine wq_n (wq_n (wq_n (wq_n (wq_n (wq_n (wq_n (wq_n ?_)))))))
        refine wq_k (.bool false) ?_
        refine quiet_end rfl (Lib.hid ?_)
        refine Lib.hid ?_
        intro w3 hW
        have S3 := Lib.hid hW
        clear hW
        dsimp only [Exit.then, Act.put]
        simp only [List.setIfInBounds_toArray, List.set_cons_succ, List.set_cons_zero]
        go_wp2_with fail
        go_roundw
        case rel => exact ⟨k + 1, best, by omega, by go_num, by first | rfl | simp [idxI], Lib.hid S3.out.toGR, HRS, HBL⟩
        case measure => simp [intOf]; omega
      | true =>
        have HM := Lib.hid hm
        rcases best with _ | q
        · have HRS : Hid (some k = bestTo (fun _ => true) (l.map LO.plain) (k + 1)) := Lib.hid (by rw [HST.out]; exact (bestStep_first (by first | (rw [HPX.out]; exact hm) | exact hm)).symm)
          have HBL : Hid (∀ q, some k = some q → q < k + 1) := Lib.hid (fun q h => by cases h; omega)
          clear hm
          go_wp2_with fail
          refine wp_region_class (GX w b o l (fun _ => True) wr.heap.size x) (by kernel_rfl) (by kernel_rfl) (S2.out.next (fun _ _ _ _ => trivial) (tame_drewN (Below.refl _ w2) 1)) ?_
          refine wq_k (.func (.func 70) #[] #[]) (wq_v (.agg x.cells.toArray) (fun W hW => run_eqv (run_loadN 87 (.tmp 7) (by kernel_rfl) wr.heap.size 0 (by kernel_rfl) x.cells (hW.box.range (fun j v hj => by simpa using hj)) _ Tryz.underlying87 rfl (by kernel_rfl)) rfl) (wq_c (.bool true) 70 #[.agg x.cells.toArray] (fun W hW => (cutsMay_any x W).mono fun e' w' h => ⟨by rw [h.1]; first | done | rw [HM.out], hW.next (fun _ _ _ _ => trivial) h.2⟩) (wq_k (.bool true) (wq_k (.int .i64 (-1)) (wq_k (.bool true) (wq_k (.bool true) (wq_n ?_)))))))
          refine wq_n (wq_n (wq_n (wq_n (wq_n (wq_n (wq_n (wq_k (.bool true) ?_)))))))
          refine wq_k (.bool true) ?_
          refine quiet_end rfl (Lib.hid ?_)
          refine Lib.hid ?_
          intro w3 hW
          have S3 := Lib.hid hW
          clear hW
          dsimp only [Exit.then, Act.put]
          simp only [List.setIfInBounds_toArray, List.set_cons_succ, List.set_cons_zero]
          go_wp2_with fail
          go_roundw
          case rel => exact ⟨k + 1, some k, by omega, by go_num, by first | rfl | simp [idxI], Lib.hid S3.out.toGR, HRS, HBL⟩
          case measure => simp [intOf]; omega
        · have hqk : q < k := HQ.out q rfl
          have HSQ := Lib.hid (HSM.out q (by omega))
          have hqn : decide (((q : Nat) : Int) < 0) = false := decide_eq_false (by omega)
          have HQN := Lib.hid hqn
          clear hqn
          cases hgt : decide (sumN (plAt (l.map LO.plain) q).2 < sumN x.keys) with
          | false =>
            have HGT := Lib.hid hgt
            have HRS : Hid (some q = bestTo (fun _ => true) (l.map LO.plain) (k + 1)) := Lib.hid (by rw [HST.out]; exact (bestStep_less (by first | (rw [HPX.out]; exact hm) | exact hm) (by rw [HPX.out]; exact hgt)).symm)
            have HBL : Hid (∀ r, some q = some r → r < k + 1) := Lib.hid (fun r h => by cases h; omega)
            clear hm hgt
            go_wp2_with fail
            refine wp_region_class (GX w b o l (fun _ => True) wr.heap.size x) (by kernel_rfl) (by kernel_rfl) (S2.out.next (fun _ _ _ _ => trivial) (tame_drewN (Below.refl _ w2) 1)) ?_
            refine wq_k (.func (.func 70) #[] #[]) (wq_v (.agg x.cells.toArray) (fun W hW => run_eqv (run_loadN 87 (.tmp 7) (by kernel_rfl) wr.heap.size 0 (by kernel_rfl) x.cells (hW.box.range (fun j v hj => by simpa using hj)) _ Tryz.underlying87 rfl (by kernel_rfl)) rfl) (wq_c (.bool true) 70 #[.agg x.cells.toArray] (fun W hW => (cutsMay_any x W).mono fun e' w' h => ⟨by rw [h.1]; first | done | rw [HM.out], hW.next (fun _ _ _ _ => trivial) h.2⟩) (wq_k (.bool true) (wq_k (.int .i64 ((q : Nat) : Int)) (wq_v (.bool false) (fun W hW => run_eqv (v := .bool (decide (((q : Nat) : Int) < 0))) (by kernel_rfl) ((by rw [HQN.out]))) (wq_k (.bool false) (wq_k (.pointer (some ⟨wr.heap.size, 6, none⟩)) ?_)))))))
            refine wq_v (.int .i64 (sumN x.keys)) (fun W hW => run_load1 3 (.tmp 22) (by kernel_rfl) ⟨wr.heap.size, 6, none⟩ (by kernel_rfl) (.int .i64 (sumN x.keys)) (hW.box.cell 6) _ Tryz.underlying3 rfl) (wq_k (.slice (some ⟨b, o, none⟩) l.length c) (wq_k (.int .i64 ((q : Nat) : Int)) (wq_v (.pointer (some ⟨b, o + q * 7, none⟩)) (fun W hW => run_eqv (run_idx 84 (.tmp 24) (.tmp 25) (by kernel_rfl) b o l.length c q 87 7 (by kernel_rfl) (by kernel_rfl) (by omega) Tryz.underlying84 (by kernel_rfl)) rfl) (wq_k (.pointer (some ⟨b, o + q * 7 + 6, none⟩)) (wq_v (.int .i64 (sumN (plAt (l.map LO.plain) q).2)) (fun W hW => run_load1 3 (.tmp 27) (by kernel_rfl) ⟨b, o + q * 7 + 6, none⟩ (by kernel_rfl) (.int .i64 (sumN (plAt (l.map LO.plain) q).2)) (HSQ.out W hW.row) _ Tryz.underlying3 rfl) (wq_v (.bool false) (fun W hW => run_eqv (v := .bool (decide (sumN (plAt (l.map LO.plain) q).2 < sumN x.keys))) (by kernel_rfl) ((by rw [HGT.out]))) (wq_k (.bool false) ?_)))))))
            refine wq_k (.bool false) ?_
            refine quiet_end rfl (Lib.hid ?_)
            refine Lib.hid ?_
            intro w3 hW
            have S3 := Lib.hid hW
            clear hW
            dsimp only [Exit.then, Act.put]
            simp only [List.setIfInBounds_toArray, List.set_cons_succ, List.set_cons_zero]
            go_wp2_with fail
            go_roundw
            case rel => exact ⟨k + 1, some q, by omega, by go_num, by first | rfl | simp [idxI], Lib.hid S3.out.toGR, HRS, HBL⟩
            case measure => simp [intOf]; omega
          | true =>
            have HGT := Lib.hid hgt
            have HRS : Hid (some k = bestTo (fun _ => true) (l.map LO.plain) (k + 1)) := Lib.hid (by rw [HST.out]; exact (bestStep_more (by first | (rw [HPX.out]; exact hm) | exact hm) (by rw [HPX.out]; exact hgt)).symm)
            have HBL : Hid (∀ r, some k = some r → r < k + 1) := Lib.hid (fun r h => by cases h; omega)
            clear hm hgt
            go_wp2_with fail
            refine wp_region_class (GX w b o l (fun _ => True) wr.heap.size x) (by kernel_rfl) (by kernel_rfl) (S2.out.next (fun _ _ _ _ => trivial) (tame_drewN (Below.refl _ w2) 1)) ?_
            refine wq_k (.func (.func 70) #[] #[]) (wq_v (.agg x.cells.toArray) (fun W hW => run_eqv (run_loadN 87 (.tmp 7) (by kernel_rfl) wr.heap.size 0 (by kernel_rfl) x.cells (hW.box.range (fun j v hj => by simpa using hj)) _ Tryz.underlying87 rfl (by kernel_rfl)) rfl) (wq_c (.bool true) 70 #[.agg x.cells.toArray] (fun W hW => (cutsMay_any x W).mono fun e' w' h => ⟨by rw [h.1]; first | done | rw [HM.out], hW.next (fun _ _ _ _ => trivial) h.2⟩) (wq_k (.bool true) (wq_k (.int .i64 ((q : Nat) : Int)) (wq_v (.bool false) (fun W hW => run_eqv (v := .bool (decide (((q : Nat) : Int) < 0))) (by kernel_rfl) ((by rw [HQN.out]))) (wq_k (.bool false) (wq_k (.pointer (some ⟨wr.heap.size, 6, none⟩)) ?_)))))))
            refine wq_v (.int .i64 (sumN x.keys)) (fun W hW => run_load1 3 (.tmp 22) (by kernel_rfl) ⟨wr.heap.size, 6, none⟩ (by kernel_rfl) (.int .i64 (sumN x.keys)) (hW.box.cell 6) _ Tryz.underlying3 rfl) (wq_k (.slice (some ⟨b, o, none⟩) l.length c) (wq_k (.int .i64 ((q : Nat) : Int)) (wq_v (.pointer (some ⟨b, o + q * 7, none⟩)) (fun W hW => run_eqv (run_idx 84 (.tmp 24) (.tmp 25) (by kernel_rfl) b o l.length c q 87 7 (by kernel_rfl) (by kernel_rfl) (by omega) Tryz.underlying84 (by kernel_rfl)) rfl) (wq_k (.pointer (some ⟨b, o + q * 7 + 6, none⟩)) (wq_v (.int .i64 (sumN (plAt (l.map LO.plain) q).2)) (fun W hW => run_load1 3 (.tmp 27) (by kernel_rfl) ⟨b, o + q * 7 + 6, none⟩ (by kernel_rfl) (.int .i64 (sumN (plAt (l.map LO.plain) q).2)) (HSQ.out W hW.row) _ Tryz.underlying3 rfl) (wq_v (.bool true) (fun W hW => run_eqv (v := .bool (decide (sumN (plAt (l.map LO.plain) q).2 < sumN x.keys))) (by kernel_rfl) ((by rw [HGT.out]))) (wq_k (.bool true) ?_)))))))
            refine wq_k (.bool true) ?_
            refine quiet_end rfl (Lib.hid ?_)
            refine Lib.hid ?_
            intro w3 hW
            have S3 := Lib.hid hW
            clear hW
            dsimp only [Exit.then, Act.put]
            simp only [List.setIfInBounds_toArray, List.set_cons_succ, List.set_cons_zero]
            go_wp2_with fail
            go_roundw
            case rel => exact ⟨k + 1, some k, by omega, by go_num, by first | rfl | simp [idxI], Lib.hid S3.out.toGR, HRS, HBL⟩
            case measure => simp [intOf]; omega
    · obtain rfl : k = l.length := by omega
      go_wp2_with fail
      go_ret
      exact ⟨by rw [HBN.out, ← HB.out]; rfl, HS.out.bel⟩
set_option maxHeartbeats 4000000 in
theorem great_evens (l : List LO) (b o c : Nat) (p1 p2 : Nat) (most gap : Int) (w : World) (hn : l.length ≤ 10000) (hr : RowAt w (some ⟨b, o, none⟩) (loRow l)) (hone : ∀ x ∈ l, x.kv.oneCell' = true) (hx : EX p1 p2 most gap w) :
    Calls Tryz.prog 69 #[.slice (some ⟨b, o, none⟩) l.length c, .func (.func 73) #[] #[.pointer (some ⟨p1, 0, none⟩), .pointer (some ⟨p2, 0, none⟩)]] w fun e w' => e = .returned (.int .i64 (idxI (bestN (evenMay most gap) (l.map LO.plain)))) ∧ Below w.heap.size w w' := by
  have HG := Lib.hid (show GR w b o l (EX p1 p2 most gap) w from ⟨Below.refl _ _, hr, hx⟩)
  have HO := Lib.hid hone
  have HBN := Lib.hid (show bestN (evenMay most gap) (l.map LO.plain) = bestTo (evenMay most gap) (l.map LO.plain) l.length by unfold bestN bestTo; rw [List.length_map])
  have HBS := Lib.hid (fun k => bestTo_succ (evenMay most gap) (l.map LO.plain) k)
  clear hr hone
  go_enter Tryz.func69, Tryz.ntmps69
  go_wp2_with fail
  go_loopw [5, 10] (fun v i wr => ∃ (k : Nat) (best : Option Nat), k ≤ l.length ∧ i = .int .i64 k ∧ v = .int .i64 (idxI best) ∧ Hid (GR w b o l (EX p1 p2 most gap) wr) ∧ Hid (best = bestTo (evenMay most gap) (l.map LO.plain) k) ∧ Hid (∀ q, best = some q → q < k)) (fun _ i _ => l.length - (intOf i).toNat)
  case atStart => exact ⟨0, none, by omega, rfl, rfl, HG, Lib.hid rfl, Lib.hid (fun q h => by cases h)⟩
  case round =>
    obtain ⟨k, best, hk, rfl, rfl, HS, HB, HQ⟩ := hrel
    by_cases hlt : k < l.length
    · have HRG := Lib.hid (row_lo HS.out.row hlt)
      have HOC := Lib.hid (LO.one (HO.out _ (List.getElem_mem hlt)))
      have HSI := Lib.hid (show (Tryz.prog.info? 87).map (·.size) = some l[k].cells.length by rw [LO.cells_len]; kernel_rfl)
      have HZ1 := Lib.hid (Blk.new wr 87 #[.int .i64 0, .int .i64 0, .int .i64 0, .string ⟨#[]⟩, .string ⟨#[]⟩, .slice none 0 0, .int .i64 0])
      have HST := Lib.hid (show bestTo (evenMay most gap) (l.map LO.plain) (k + 1) = bestStep (evenMay most gap) (l.map LO.plain) best k by rw [HBS.out, ← HB.out])
      have HPX := Lib.hid (plAt_of hlt)
      have HSM := Lib.hid (show ∀ q, q < l.length → ∀ W, RowAt W (some ⟨b, o, none⟩) (loRow l) → W.cell? ⟨b, o + q * 7 + 6, none⟩ = some (.int .i64 (sumN (plAt (l.map LO.plain) q).2)) from fun q hq W h => by
        rw [plAt_of hq]
        exact row_lo h hq 6 _ rfl)
      generalize l[k] = x at *
      clear HB
      go_wp2_with (first | (refine wpList_load_mid rfl 87 (.tmp 13) rfl b (o + k * 7) rfl _ _ HRG.out Tryz.underlying87 rfl HSI.out ?_) | (refine wpList_store_blk rfl 87 (.tmp 7) (.tmp 14) rfl wr.heap.size x.cells.toArray rfl rfl 87 _ HZ1.out rfl HSI.out (by simpa using HOC.out) ?_))
      refine Lib.hid ?_
      intro w2 hz hox
      have S2 := Lib.hid (show GX w b o l (EX p1 p2 most gap) wr.heap.size x w2 from ⟨HS.out.next EX.next ((below_alloc wr _).trans (hox.to_below (B := wr.heap.size) (by simp) (fun q hq e => by omega))), hz⟩)
      clear hz hox HZ1 HRG
      cases hm : (evenMay most gap) x.plain with
      | false =>
        have HM := Lib.hid hm
        have HRS : Hid (best = bestTo (evenMay most gap) (l.map LO.plain) (k + 1)) := Lib.hid (by rw [HST.out]; exact (bestStep_no (by first | (rw [HPX.out]; exact hm) | exact hm)).symm)
        have HBL : Hid (∀ q, best = some q → q < k + 1) := Lib.hid (fun q h => by have := HQ.out q h; omega)
        clear hm
        go_wp2_with fail
        refine wp_region_class (GX w b o l (EX p1 p2 most gap) wr.heap.size x) (by kernel_rfl) (by kernel_rfl) (S2.out.next EX.next (tame_drewN (Below.refl _ w2) 1)) ?_
        refine wq_k (.func (.func 73) #[] #[.pointer (some ⟨p1, 0, none⟩), .pointer (some ⟨p2, 0, none⟩)]) (wq_v (.agg x.cells.toArray) (fun W hW => run_eqv (run_loadN 87 (.tmp 7) (by kernel_rfl) wr.heap.size 0 (by kernel_rfl) x.cells (hW.box.range (fun j v hj => by simpa using hj)) _ Tryz.underlying87 rfl (by kernel_rfl)) rfl) (wq_c (.bool false) 73 #[.agg x.cells.toArray, .pointer (some ⟨p1, 0, none⟩), .pointer (some ⟨p2, 0, none⟩)] (fun W hW => (evensMay_any x p1 p2 most gap W hW.ext).mono fun e' w' h => ⟨by rw [h.1]; first | done | rw [HM.out], hW.next EX.next h.2⟩) (wq_k (.bool false) (wq_n (wq_n (wq_n (wq_n ?_)))))))
        refine wq_n (wq_n (wq_n (wq_n (wq_n (wq_n (wq_n (wq_n ?_)))))))
        refine wq_k (.bool false) ?_
        refine quiet_end rfl (Lib.hid ?_)
        refine Lib.hid ?_
        intro w3 hW
        have S3 := Lib.hid hW
        clear hW
        dsimp only [Exit.then, Act.put]
        simp only [List.setIfInBounds_toArray, List.set_cons_succ, List.set_cons_zero]
        go_wp2_with fail
        go_roundw
        case rel => exact ⟨k + 1, best, by omega, by go_num, by first | rfl | simp [idxI], Lib.hid S3.out.toGR, HRS, HBL⟩
        case measure => simp [intOf]; omega
      | true =>
        have HM := Lib.hid hm
        rcases best with _ | q
        · have HRS : Hid (some k = bestTo (evenMay most gap) (l.map LO.plain) (k + 1)) := Lib.hid (by rw [HST.out]; exact (bestStep_first (by first | (rw [HPX.out]; exact hm) | exact hm)).symm)
          have HBL : Hid (∀ q, some k = some q → q < k + 1) := Lib.hid (fun q h => by cases h; omega)
          clear hm
          go_wp2_with fail
          refine wp_region_class (GX w b o l (EX p1 p2 most gap) wr.heap.size x) (by kernel_rfl) (by kernel_rfl) (S2.out.next EX.next (tame_drewN (Below.refl _ w2) 1)) ?_
          refine wq_k (.func (.func 73) #[] #[.pointer (some ⟨p1, 0, none⟩), .pointer (some ⟨p2, 0, none⟩)]) (wq_v (.agg x.cells.toArray) (fun W hW => run_eqv (run_loadN 87 (.tmp 7) (by kernel_rfl) wr.heap.size 0 (by kernel_rfl) x.cells (hW.box.range (fun j v hj => by simpa using hj)) _ Tryz.underlying87 rfl (by kernel_rfl)) rfl) (wq_c (.bool true) 73 #[.agg x.cells.toArray, .pointer (some ⟨p1, 0, none⟩), .pointer (some ⟨p2, 0, none⟩)] (fun W hW => (evensMay_any x p1 p2 most gap W hW.ext).mono fun e' w' h => ⟨by rw [h.1]; first | done | rw [HM.out], hW.next EX.next h.2⟩) (wq_k (.bool true) (wq_k (.int .i64 (-1)) (wq_k (.bool true) (wq_k (.bool true) (wq_n ?_)))))))
          refine wq_n (wq_n (wq_n (wq_n (wq_n (wq_n (wq_n (wq_k (.bool true) ?_)))))))
          refine wq_k (.bool true) ?_
          refine quiet_end rfl (Lib.hid ?_)
          refine Lib.hid ?_
          intro w3 hW
          have S3 := Lib.hid hW
          clear hW
          dsimp only [Exit.then, Act.put]
          simp only [List.setIfInBounds_toArray, List.set_cons_succ, List.set_cons_zero]
          go_wp2_with fail
          go_roundw
          case rel => exact ⟨k + 1, some k, by omega, by go_num, by first | rfl | simp [idxI], Lib.hid S3.out.toGR, HRS, HBL⟩
          case measure => simp [intOf]; omega
        · have hqk : q < k := HQ.out q rfl
          have HSQ := Lib.hid (HSM.out q (by omega))
          have hqn : decide (((q : Nat) : Int) < 0) = false := decide_eq_false (by omega)
          have HQN := Lib.hid hqn
          clear hqn
          cases hgt : decide (sumN (plAt (l.map LO.plain) q).2 < sumN x.keys) with
          | false =>
            have HGT := Lib.hid hgt
            have HRS : Hid (some q = bestTo (evenMay most gap) (l.map LO.plain) (k + 1)) := Lib.hid (by rw [HST.out]; exact (bestStep_less (by first | (rw [HPX.out]; exact hm) | exact hm) (by rw [HPX.out]; exact hgt)).symm)
            have HBL : Hid (∀ r, some q = some r → r < k + 1) := Lib.hid (fun r h => by cases h; omega)
            clear hm hgt
            go_wp2_with fail
            refine wp_region_class (GX w b o l (EX p1 p2 most gap) wr.heap.size x) (by kernel_rfl) (by kernel_rfl) (S2.out.next EX.next (tame_drewN (Below.refl _ w2) 1)) ?_
            refine wq_k (.func (.func 73) #[] #[.pointer (some ⟨p1, 0, none⟩), .pointer (some ⟨p2, 0, none⟩)]) (wq_v (.agg x.cells.toArray) (fun W hW => run_eqv (run_loadN 87 (.tmp 7) (by kernel_rfl) wr.heap.size 0 (by kernel_rfl) x.cells (hW.box.range (fun j v hj => by simpa using hj)) _ Tryz.underlying87 rfl (by kernel_rfl)) rfl) (wq_c (.bool true) 73 #[.agg x.cells.toArray, .pointer (some ⟨p1, 0, none⟩), .pointer (some ⟨p2, 0, none⟩)] (fun W hW => (evensMay_any x p1 p2 most gap W hW.ext).mono fun e' w' h => ⟨by rw [h.1]; first | done | rw [HM.out], hW.next EX.next h.2⟩) (wq_k (.bool true) (wq_k (.int .i64 ((q : Nat) : Int)) (wq_v (.bool false) (fun W hW => run_eqv (v := .bool (decide (((q : Nat) : Int) < 0))) (by kernel_rfl) ((by rw [HQN.out]))) (wq_k (.bool false) (wq_k (.pointer (some ⟨wr.heap.size, 6, none⟩)) ?_)))))))
            refine wq_v (.int .i64 (sumN x.keys)) (fun W hW => run_load1 3 (.tmp 22) (by kernel_rfl) ⟨wr.heap.size, 6, none⟩ (by kernel_rfl) (.int .i64 (sumN x.keys)) (hW.box.cell 6) _ Tryz.underlying3 rfl) (wq_k (.slice (some ⟨b, o, none⟩) l.length c) (wq_k (.int .i64 ((q : Nat) : Int)) (wq_v (.pointer (some ⟨b, o + q * 7, none⟩)) (fun W hW => run_eqv (run_idx 84 (.tmp 24) (.tmp 25) (by kernel_rfl) b o l.length c q 87 7 (by kernel_rfl) (by kernel_rfl) (by omega) Tryz.underlying84 (by kernel_rfl)) rfl) (wq_k (.pointer (some ⟨b, o + q * 7 + 6, none⟩)) (wq_v (.int .i64 (sumN (plAt (l.map LO.plain) q).2)) (fun W hW => run_load1 3 (.tmp 27) (by kernel_rfl) ⟨b, o + q * 7 + 6, none⟩ (by kernel_rfl) (.int .i64 (sumN (plAt (l.map LO.plain) q).2)) (HSQ.out W hW.row) _ Tryz.underlying3 rfl) (wq_v (.bool false) (fun W hW => run_eqv (v := .bool (decide (sumN (plAt (l.map LO.plain) q).2 < sumN x.keys))) (by kernel_rfl) ((by rw [HGT.out]))) (wq_k (.bool false) ?_)))))))
            refine wq_k (.bool false) ?_
            refine quiet_end rfl (Lib.hid ?_)
            refine Lib.hid ?_
            intro w3 hW
            have S3 := Lib.hid hW
            clear hW
            dsimp only [Exit.then, Act.put]
            simp only [List.setIfInBounds_toArray, List.set_cons_succ, List.set_cons_zero]
            go_wp2_with fail
            go_roundw
            case rel => exact ⟨k + 1, some q, by omega, by go_num, by first | rfl | simp [idxI], Lib.hid S3.out.toGR, HRS, HBL⟩
            case measure => simp [intOf]; omega
          | true =>
            have HGT := Lib.hid hgt
            have HRS : Hid (some k = bestTo (evenMay most gap) (l.map LO.plain) (k + 1)) := Lib.hid (by rw [HST.out]; exact (bestStep_more (by first | (rw [HPX.out]; exact hm) | exact hm) (by rw [HPX.out]; exact hgt)).symm)
            have HBL : Hid (∀ r, some k = some r → r < k + 1) := Lib.hid (fun r h => by cases h; omega)
            clear hm hgt
            go_wp2_with fail
            refine wp_region_class (GX w b o l (EX p1 p2 most gap) wr.heap.size x) (by kernel_rfl) (by kernel_rfl) (S2.out.next EX.next (tame_drewN (Below.refl _ w2) 1)) ?_
            refine wq_k (.func (.func 73) #[] #[.pointer (some ⟨p1, 0, none⟩), .pointer (some ⟨p2, 0, none⟩)]) (wq_v (.agg x.cells.toArray) (fun W hW => run_eqv (run_loadN 87 (.tmp 7) (by kernel_rfl) wr.heap.size 0 (by kernel_rfl) x.cells (hW.box.range (fun j v hj => by simpa using hj)) _ Tryz.underlying87 rfl (by kernel_rfl)) rfl) (wq_c (.bool true) 73 #[.agg x.cells.toArray, .pointer (some ⟨p1, 0, none⟩), .pointer (some ⟨p2, 0, none⟩)] (fun W hW => (evensMay_any x p1 p2 most gap W hW.ext).mono fun e' w' h => ⟨by rw [h.1]; first | done | rw [HM.out], hW.next EX.next h.2⟩) (wq_k (.bool true) (wq_k (.int .i64 ((q : Nat) : Int)) (wq_v (.bool false) (fun W hW => run_eqv (v := .bool (decide (((q : Nat) : Int) < 0))) (by kernel_rfl) ((by rw [HQN.out]))) (wq_k (.bool false) (wq_k (.pointer (some ⟨wr.heap.size, 6, none⟩)) ?_)))))))
            refine wq_v (.int .i64 (sumN x.keys)) (fun W hW => run_load1 3 (.tmp 22) (by kernel_rfl) ⟨wr.heap.size, 6, none⟩ (by kernel_rfl) (.int .i64 (sumN x.keys)) (hW.box.cell 6) _ Tryz.underlying3 rfl) (wq_k (.slice (some ⟨b, o, none⟩) l.length c) (wq_k (.int .i64 ((q : Nat) : Int)) (wq_v (.pointer (some ⟨b, o + q * 7, none⟩)) (fun W hW => run_eqv (run_idx 84 (.tmp 24) (.tmp 25) (by kernel_rfl) b o l.length c q 87 7 (by kernel_rfl) (by kernel_rfl) (by omega) Tryz.underlying84 (by kernel_rfl)) rfl) (wq_k (.pointer (some ⟨b, o + q * 7 + 6, none⟩)) (wq_v (.int .i64 (sumN (plAt (l.map LO.plain) q).2)) (fun W hW => run_load1 3 (.tmp 27) (by kernel_rfl) ⟨b, o + q * 7 + 6, none⟩ (by kernel_rfl) (.int .i64 (sumN (plAt (l.map LO.plain) q).2)) (HSQ.out W hW.row) _ Tryz.underlying3 rfl) (wq_v (.bool true) (fun W hW => run_eqv (v := .bool (decide (sumN (plAt (l.map LO.plain) q).2 < sumN x.keys))) (by kernel_rfl) ((by rw [HGT.out]))) (wq_k (.bool true) ?_)))))))
            refine wq_k (.bool true) ?_
            refine quiet_end rfl (Lib.hid ?_)
            refine Lib.hid ?_
            intro w3 hW
            have S3 := Lib.hid hW
            clear hW
            dsimp only [Exit.then, Act.put]
            simp only [List.setIfInBounds_toArray, List.set_cons_succ, List.set_cons_zero]
            go_wp2_with fail
            go_roundw
            case rel => exact ⟨k + 1, some k, by omega, by go_num, by first | rfl | simp [idxI], Lib.hid S3.out.toGR, HRS, HBL⟩
            case measure => simp [intOf]; omega
    · obtain rfl : k = l.length := by omega
      go_wp2_with fail
      go_ret
      exact ⟨by rw [HBN.out, ← HB.out]; rfl, HS.out.bel⟩
end Go.Proofs.YthjmfcdhpdiehaaGreatDoor
