/-
  The contracts of Parse's closure and of slices.IndexFunc over it.
-/
import Derived.Test.YtjhmehmmpfnnkaaDoorLVerbs
namespace Go.Proofs.YtjhmehmmpfnnkaaDoor
open Go.RowKit Utf
set_option maxRecDepth 100000
set_option linter.unusedSimpArgs false
set_option linter.unusedVariables false

/-- Where a text stands in the program's table: the first verb of that name. -/
def verbIdx (x : List UInt8) : Nat := verbs.findIdx fun v => v.name == x

set_option maxHeartbeats 1000000 in
theorem parse1_any (v : ByteArray) (k e : Int) (f : ByteArray) (r : Int) (wb : Nat) (a : Addr) (n cap : Nat) (x : ByteArray) (w : World) (ha : a.spot = none) (hn : 1 ≤ n) (hc : w.cell? ⟨wb, 0, none⟩ = some (.slice (some a) n cap)) (hx : w.cell? a = some (.string x)) :
    Calls Tryd.prog 36 #[.agg #[.string v, .int .i64 k, .int .i64 e, .string f, .int .i32 r], .pointer (some ⟨wb, 0, none⟩)] w fun en w' => en = .returned (.bool (v.toList == x.toList)) ∧ Below w.heap.size w w' := by
  obtain ⟨ab, ao, sp⟩ := a
  obtain rfl : sp = none := ha
  have hn' : (1 : Int) ≤ (n : Int) := by omega
  have hn0 : (0 : Int) < (n : Int) := by omega
  have hn00 : 0 < n := hn
  have l1 := World.block_lt_of_cell? w _ hc
  have l2 := World.block_lt_of_cell? w _ hx
  have hc2 := fun o => (World.cell?_alloc_lt w o ⟨wb, 0, none⟩ l1).trans hc
  have hx2 := fun o => (World.cell?_alloc_lt w o ⟨ab, ao, none⟩ l2).trans hx
  clear l1 l2 hc hx
  go_enter Tryd.func36, Tryd.ntmps36
  go_wp2_with fail
  go_quiet (fail)
  go_wp2_with fail
  go_ret
  exact ⟨rfl, below_drewN ((Below.refl _ _).alloc (Nat.le_refl _) _) _⟩

theorem verbIdx_step {x : List UInt8} {k : Nat} (hk : k < verbs.length) (h : k ≤ verbIdx x) (hne : (verbs[k].name == x) = false) : k + 1 ≤ verbIdx x := by
  rcases Nat.lt_or_ge k (verbIdx x) with h1 | h1
  · exact h1
  · exfalso
    have e : verbs.findIdx (fun v => v.name == x) = k := Nat.le_antisymm h1 h
    have := List.findIdx_getElem (p := fun v : Verb => v.name == x) (xs := verbs) (w := by rw [e]; exact hk)
    have h2 : verbs[verbs.findIdx (fun v : Verb => v.name == x)]'(by rw [e]; exact hk) = verbs[k] := getElem_congr_idx e
    rw [h2] at this
    rw [hne] at this
    cases this
theorem verbIdx_hit {x : List UInt8} {k : Nat} (hk : k < verbs.length) (h : k ≤ verbIdx x) (he : (verbs[k].name == x) = true) : verbIdx x = k := by
  refine Nat.le_antisymm (Nat.le_of_not_lt fun h1 => ?_) h
  have := List.not_of_lt_findIdx (p := fun v : Verb => v.name == x) (xs := verbs) (i := k) h1
  rw [he] at this
  cases this

/-- What IndexFunc answers. -/
def idxInt (i : Nat) : Int := if i < 17 then (i : Int) else -1

set_option maxHeartbeats 1000000 in
theorem index_parse (b wb : Nat) (a : Addr) (n cap : Nat) (x : ByteArray) (w : World) (ha : a.spot = none) (hn : 1 ≤ n) (hc : w.cell? ⟨wb, 0, none⟩ = some (.slice (some a) n cap)) (hx : w.cell? a = some (.string x))
    (hb : Blk w b 79 shapeCells) :
    Calls Tryd.prog 35 #[.slice (some ⟨b, 0, none⟩) 17 17, .func (.func 36) #[] #[.pointer (some ⟨wb, 0, none⟩)]] w fun e w' => e = .returned (.int .i64 (idxInt (verbIdx x.toList))) ∧ Below w.heap.size w w' := by
  have HC := Lib.hid hc
  have HX := Lib.hid hx
  have HB := Lib.hid hb
  have hlen : verbs.length = 17 := rfl
  have HLEN := Lib.hid hlen
  clear hc hx hb hlen
  go_enter Tryd.func35, Tryd.ntmps35
  go_wp2_with fail
  go_loopw [8] (fun i wr => ∃ k : Nat, k ≤ 17 ∧ i = .int .i64 k ∧ Below w.heap.size w wr ∧ Hid (k ≤ verbIdx x.toList)) (fun i _ => 17 - (intOf i).toNat)
  case atStart => exact ⟨0, by omega, rfl, Below.refl _ _, Nat.zero_le _⟩
  case round =>
    obtain ⟨k, hk, rfl, hbel, HK⟩ := hrel
    have HBE := Lib.hid hbel
    clear hbel
    by_cases hlt : k < 17
    · have hk2 : k < verbs.length := by rw [HLEN.out]; exact hlt
      have HBR := Lib.hid (HB.out.below HBE.out HB.out.lt)
      have hcell : ∀ j, j < 5 → wr.cell? ⟨b, k * 5 + j, none⟩ = (shapeOf verbs[k])[j]? := by
        intro j hj5
        rw [HBR.out.cell, Nat.mul_comm k 5, shape_at k hk2 j hj5]
      have s0 : wr.cell? ⟨b, k * 5, none⟩ = some (.string (mkS verbs[k].name)) := hcell 0 (by omega)
      have s1 : wr.cell? ⟨b, k * 5 + 1, none⟩ = some (.int .i64 (verbs[k].kind : Int)) := hcell 1 (by omega)
      have s2 : wr.cell? ⟨b, k * 5 + 2, none⟩ = some (.int .i64 (verbs[k].ekind : Int)) := hcell 2 (by omega)
      have s3 : wr.cell? ⟨b, k * 5 + 3, none⟩ = some (.string (mkS (encAll (verbs[k].flds.map letP)))) := hcell 3 (by omega)
      have s4 : wr.cell? ⟨b, k * 5 + 4, none⟩ = some (.int .i32 (verbs[k].rest : Int)) := hcell 4 (by omega)
      clear hcell
      have HST := Lib.hid (fun h => verbIdx_step hk2 HK.out h)
      have HHI := Lib.hid (fun h => verbIdx_hit hk2 HK.out h)
      have HP := Lib.hid (parse1_any (mkS verbs[k].name) verbs[k].kind verbs[k].ekind (mkS (encAll (verbs[k].flds.map letP))) verbs[k].rest wb a n cap x wr ha hn ((HBE.out.cell (World.block_lt_of_cell? w _ HC.out)).trans HC.out) ((HBE.out.cell (World.block_lt_of_cell? w _ HX.out)).trans HX.out))
      have hbeq : ((mkS verbs[k].name).toList == x.toList) = (verbs[k].name == x.toList) := by rw [Lib.toList_data, mkS_data]
      rw [hbeq] at HP
      clear hbeq
      generalize verbs[k] = v at *
      cases hq : (v.name == x.toList) with
      | true =>
        have HQ := Lib.hid (HHI.out hq)
        rw [hq] at HP
        clear hq
        have HI := Lib.hid (show idxInt (verbIdx x.toList) = (k : Int) by unfold idxInt; rw [HQ.out, if_pos hlt])
        go_wp2_with fail
        refine HP.out.mono ?_
        rintro e w2 ⟨rfl, hb2⟩
        go_wp2_with fail
        go_ret
        rw [HI.out]
        exact ⟨rfl, HBE.out.trans (hb2.mono HBE.out.size)⟩
      | false =>
        have HQ := Lib.hid (HST.out hq)
        rw [hq] at HP
        clear hq
        go_wp2_with fail
        refine HP.out.mono ?_
        rintro e w2 ⟨rfl, hb2⟩
        go_wp2_with fail
        go_roundw
        case rel => exact ⟨k + 1, by omega, by go_num, HBE.out.trans (hb2.mono HBE.out.size), HQ.out⟩
        case measure => simp [intOf]; omega
    · obtain rfl : k = 17 := by omega
      have HI := Lib.hid (show idxInt (verbIdx x.toList) = -1 by unfold idxInt; rw [if_neg (Nat.not_lt.2 HK.out)])
      go_wp2_with fail
      go_ret
      rw [HI.out]
      exact ⟨rfl, HBE.out⟩
end Go.Proofs.YtjhmehmmpfnnkaaDoor
