/-
  span.Right, span.Has.
  entry.within, shard, opRight, and the five kinds' right.
  entry.Right: for the kinds that move, cut and join shards: rightE; for the others: it answers.
  The contract of tidewaternum.SameInts.
  Shards and maps in memory; slices.Clone of shards and of events.
-/
import Derived.Test.YthjmfcdhpdiehaaGreatDoorM04
import Derived.Test.YthjmfcdhpdiehaaGreatDoorM03
import Derived.Test.YthjmfcdhpdiehaaGreatDoorM02
namespace Go.Proofs.YthjmfcdhpdiehaaGreatDoor
open Go.RowKit Utf
set_option maxRecDepth 100000
set_option linter.unusedSimpArgs false
set_option linter.unusedVariables false

/-- A world behind one in which a block was made. -/
theorem below_alloc (w : World) (o : Obj) : Below w.heap.size w (w.alloc o) := (Below.refl _ w).alloc (Nat.le_refl _) _
/-- What lay lies, and a block that was made, too: behind a call. -/
theorem boxed_on {w w1 : World} {t : TypeId} {cs : Array Value} (hb : Below (w.alloc (.cells cs t)).heap.size (w.alloc (.cells cs t)) w1) : Below w.heap.size w w1 ∧ Blk w1 w.heap.size t cs ∧ w.heap.size < w1.heap.size :=
  ⟨(below_alloc w _).trans (hb.mono (by simp)), (Blk.new w t cs).below hb (by simp), by have := hb.size; simp at this; omega⟩
theorem boxed_next {w w1 w2 : World} {t : TypeId} {cs : Array Value} (h : Below w.heap.size w w1 ∧ Blk w1 w.heap.size t cs ∧ w.heap.size < w1.heap.size) (hb : Below w1.heap.size w1 w2) : Below w.heap.size w w2 ∧ Blk w2 w.heap.size t cs ∧ w.heap.size < w2.heap.size :=
  ⟨h.1.trans (hb.mono h.1.size), h.2.1.below hb h.2.1.lt, by have := hb.size; omega⟩

set_option maxHeartbeats 2000000 in
theorem spanRight_any (ea : Nat → Addr) (lo hi : ByteArray) (w : World) (hs : lo.size ≤ 1000000) (ht : hi.size ≤ 1000000) (he : BErr w ea) :
    Calls Tryz.prog 77 #[.agg #[.string lo, .string hi]] w fun e w' => e = .returned (.bool (spanR lo hi)) ∧ Below w.heap.size w w' := by
  have HE := Lib.hid he
  clear he
  cases hl : isEnd lo with
  | false =>
    have HL := Lib.hid hl
    have HR := Lib.hid (show spanR lo hi = false by simp [spanR, hl])
    clear hl
    go_enter Tryz.func77, Tryz.ntmps77
    go_wp2_with fail
    refine (end_any ea lo _ hs (HE.out.below (below_alloc _ _))).mono ?_
    rintro e w1 ⟨rfl, hb1⟩
    have B1 := Lib.hid (boxed_on hb1)
    clear hb1
    rw [HL.out]
    go_wp2_with fail
    go_ret
    exact ⟨by rw [HR.out]; rfl, B1.out.1⟩
  | true =>
    have HL := Lib.hid hl
    cases hh : isEnd hi with
    | false =>
      have HH := Lib.hid hh
      have HR := Lib.hid (show spanR lo hi = false by simp [spanR, hl, hh])
      clear hl hh
      go_enter Tryz.func77, Tryz.ntmps77
      go_wp2_with fail
      refine (end_any ea lo _ hs (HE.out.below (below_alloc _ _))).mono ?_
      rintro e w1 ⟨rfl, hb1⟩
      have B1 := Lib.hid (boxed_on hb1)
      clear hb1
      have c1 := B1.out.2.1.cell 1
      rw [HL.out]
      go_wp2_with fail
      refine (end_any ea hi _ ht (HE.out.below B1.out.1)).mono ?_
      rintro e w2 ⟨rfl, hb2⟩
      have B2 := Lib.hid (boxed_next B1.out hb2)
      clear hb2 c1
      rw [HH.out]
      go_wp2_with fail
      go_ret
      exact ⟨by rw [HR.out]; rfl, B2.out.1⟩
    | true =>
      have HH := Lib.hid hh
      have HR := Lib.hid (show spanR lo hi = lessB lo hi by simp [spanR, hl, hh])
      clear hl hh
      go_enter Tryz.func77, Tryz.ntmps77
      go_wp2_with fail
      refine (end_any ea lo _ hs (HE.out.below (below_alloc _ _))).mono ?_
      rintro e w1 ⟨rfl, hb1⟩
      have B1 := Lib.hid (boxed_on hb1)
      clear hb1
      have c1 := B1.out.2.1.cell 1
      rw [HL.out]
      go_wp2_with fail
      refine (end_any ea hi _ ht (HE.out.below B1.out.1)).mono ?_
      rintro e w2 ⟨rfl, hb2⟩
      have B2 := Lib.hid (boxed_next B1.out hb2)
      clear hb2 c1
      have c0 := B2.out.2.1.cell 0
      have c1 := B2.out.2.1.cell 1
      rw [HH.out]
      go_wp2_with fail
      refine (less_any lo hi _ hs ht (isEnd_R HL.out) (isEnd_R HH.out)).mono ?_
      rintro e w3 ⟨rfl, hb3⟩
      have B3 := Lib.hid (boxed_next B2.out hb3)
      clear hb3 c0 c1
      have HR2 := HR
      generalize lessB lo hi = r at *
      go_wp2_with fail
      go_ret
      exact ⟨by rw [HR.out]; rfl, B3.out.1⟩

theorem spanR_end {lo hi : ByteArray} (h : spanR lo hi = true) : isEnd lo = true ∧ isEnd hi = true := by
  unfold spanR at h
  simp only [Bool.and_eq_true] at h
  exact h.1
theorem cmpB_not {a b : ByteArray} : decide (0 ≤ cmpB a b) = !(bLt a b) := by
  rw [← cmpB_neg]
  by_cases h : cmpB a b < 0
  · simp [h]
  · simp [h]; omega

set_option maxHeartbeats 4000000 in
theorem spanHas_any (ea : Nat → Addr) (lo hi k : ByteArray) (w : World) (hs : lo.size ≤ 1000000) (ht : hi.size ≤ 1000000) (hk : k.size ≤ 1000000) (he : BErr w ea) :
    Calls Tryz.prog 47 #[.agg #[.string lo, .string hi], .string k] w fun e w' => e = .returned (.bool (hasB lo hi k)) ∧ Below w.heap.size w w' := by
  have HE := Lib.hid he
  clear he
  cases hl : spanR lo hi with
  | false =>
    have HL := Lib.hid hl
    have HR := Lib.hid (show hasB lo hi k = false by simp [hasB, hl])
    clear hl
    go_enter Tryz.func47, Tryz.ntmps47
    go_wp2_with fail
    refine (spanRight_any ea lo hi _ hs ht (HE.out.below (below_alloc _ _))).mono ?_
    rintro e w1 ⟨rfl, hb1⟩
    have B1 := Lib.hid (boxed_on hb1)
    clear hb1
    rw [HL.out]
    go_wp2_with fail
    go_ret
    exact ⟨by rw [HR.out]; rfl, B1.out.1⟩
  | true =>
    have HL := Lib.hid hl
    cases hh : isKey k with
    | false =>
      have HH := Lib.hid hh
      have HR := Lib.hid (show hasB lo hi k = false by simp [hasB, hl, hh])
      clear hl hh
      have hq : ∀ (a : Addr) (w : World), (Op.equal 34 (.iface 184 (.pointer (some a))) .nilIface).run Tryz.prog w = .ok false w := fun a w => by kernel_rfl
      go_enter Tryz.func47, Tryz.ntmps47
      go_wp2_with fail
      refine (spanRight_any ea lo hi _ hs ht (HE.out.below (below_alloc _ _))).mono ?_
      rintro e w1 ⟨rfl, hb1⟩
      have B1 := Lib.hid (boxed_on hb1)
      clear hb1
      rw [HL.out]
      go_wp2_with fail
      refine (key_bad ea k _ hk (HE.out.below B1.out.1) HH.out).mono ?_
      rintro e w2 ⟨⟨a, rfl⟩, hb2⟩
      have B2 := Lib.hid (boxed_next B1.out hb2)
      clear hb2
      go_wp2_with fail
      go_ret
      exact ⟨by rw [HR.out]; rfl, B2.out.1⟩
    | true =>
      have HH := Lib.hid hh
      cases hc : bLt k lo with
      | true =>
        have HC := Lib.hid hc
        have HR := Lib.hid (show hasB lo hi k = false by simp [hasB, hl, hh, hc])
        have hd : decide (0 ≤ cmpB k lo) = false := by rw [cmpB_not, hc]; rfl
        clear hl hh hc
        go_enter Tryz.func47, Tryz.ntmps47
        go_wp2_with fail
        refine (spanRight_any ea lo hi _ hs ht (HE.out.below (below_alloc _ _))).mono ?_
        rintro e w1 ⟨rfl, hb1⟩
        have B1 := Lib.hid (boxed_on hb1)
        clear hb1
        rw [HL.out]
        go_wp2_with fail
        refine (key_good ea k _ hk (HE.out.below B1.out.1) HH.out).mono ?_
        rintro e w2 ⟨rfl, hb2⟩
        have B2 := Lib.hid (boxed_next B1.out hb2)
        clear hb2
        have c0 := B2.out.2.1.cell 0
        go_wp2_with fail
        refine (compare_any k lo _ hk hs (isKey_R HH.out) (isEnd_R (spanR_end HL.out).1)).mono ?_
        rintro e w3 ⟨rfl, hb3⟩
        have B3 := Lib.hid (boxed_next B2.out hb3)
        clear hb3 c0
        generalize cmpB k lo = c at *
        go_wp2_with fail
        go_ret
        exact ⟨by rw [HR.out]; rfl, B3.out.1⟩
      | false =>
        have HC := Lib.hid hc
        have HR := Lib.hid (show hasB lo hi k = lessB k hi by simp [hasB, hl, hh, hc])
        have hd : decide (0 ≤ cmpB k lo) = true := by rw [cmpB_not, hc]; rfl
        clear hl hh hc
        go_enter Tryz.func47, Tryz.ntmps47
        go_wp2_with fail
        refine (spanRight_any ea lo hi _ hs ht (HE.out.below (below_alloc _ _))).mono ?_
        rintro e w1 ⟨rfl, hb1⟩
        have B1 := Lib.hid (boxed_on hb1)
        clear hb1
        rw [HL.out]
        go_wp2_with fail
        refine (key_good ea k _ hk (HE.out.below B1.out.1) HH.out).mono ?_
        rintro e w2 ⟨rfl, hb2⟩
        have B2 := Lib.hid (boxed_next B1.out hb2)
        clear hb2
        have c0 := B2.out.2.1.cell 0
        go_wp2_with fail
        refine (compare_any k lo _ hk hs (isKey_R HH.out) (isEnd_R (spanR_end HL.out).1)).mono ?_
        rintro e w3 ⟨rfl, hb3⟩
        have B3 := Lib.hid (boxed_next B2.out hb3)
        clear hb3 c0
        have c1 := B3.out.2.1.cell 1
        generalize cmpB k lo = c at *
        go_wp2_with fail
        refine (less_any k hi _ hk ht (isKey_R HH.out) (isEnd_R (spanR_end HL.out).2)).mono ?_
        rintro e w4 ⟨rfl, hb4⟩
        have B4 := Lib.hid (boxed_next B3.out hb4)
        clear hb4 c1
        generalize lessB k hi = r at *
        go_wp2_with fail
        go_ret
        exact ⟨by rw [HR.out]; rfl, B4.out.1⟩
end Go.Proofs.YthjmfcdhpdiehaaGreatDoor

namespace Go.Proofs.YthjmfcdhpdiehaaGreatDoor
open Go.RowKit Utf
set_option maxRecDepth 100000
set_option linter.unusedSimpArgs false
set_option linter.unusedVariables false

/-- An operation on a key, its cells. -/
structure BOp where
  kind : Int
  key : ByteArray
  value : ByteArray
  old : ByteArray
  version : Int
def bCells (o : BOp) : List Value := [.int .i64 o.kind, .string o.key, .string o.value, .string o.old, .int .i64 o.version]
def BOp.ok (o : BOp) : Prop := o.key.size ≤ 1000000 ∧ o.value.size ≤ 1000000 ∧ o.old.size ≤ 1000000 ∧ -9223372036854775808 ≤ o.version ∧ o.version ≤ 9223372036854775807

def within (n m : Int) : Bool := decide (1 ≤ n) && decide (n ≤ m)

set_option maxHeartbeats 400000 in
theorem within_any (n m : Int) (w : World) : Calls Tryz.prog 128 #[.int .i64 n, .int .i64 m] w fun e w' => e = .returned (.bool (within n m)) ∧ w' = w := by
  by_cases h1 : 1 ≤ n
  · have h2 : decide (1 ≤ n) = true := decide_eq_true h1
    by_cases h3 : n ≤ m
    · have h4 : decide (n ≤ m) = true := decide_eq_true h3
      have HR := Lib.hid (show within n m = true by simp [within, h1, h3])
      go_enter Tryz.func128, Tryz.ntmps128
      go_wp2_with fail
      go_ret
      exact ⟨by rw [HR.out]; rfl, rfl⟩
    · have h4 : decide (n ≤ m) = false := decide_eq_false h3
      have HR := Lib.hid (show within n m = false by simp [within, h1, h3])
      clear h1 h3
      go_enter Tryz.func128, Tryz.ntmps128
      go_wp2_with fail
      go_ret
      exact ⟨by rw [HR.out]; rfl, rfl⟩
  · have h2 : decide (1 ≤ n) = false := decide_eq_false h1
    have HR := Lib.hid (show within n m = false by simp [within, h1])
    clear h1
    go_enter Tryz.func128, Tryz.ntmps128
    go_wp2_with fail
    go_ret
    exact ⟨by rw [HR.out]; rfl, rfl⟩

set_option maxHeartbeats 400000 in
theorem shard_any (n : Int) (w : World) : Calls Tryz.prog 127 #[.int .i64 n] w fun e w' => e = .returned (.bool (within n 12)) ∧ w' = w := by
  go_enter Tryz.func127, Tryz.ntmps127
  go_wp2_with fail
  refine (within_any n 12 _).mono ?_
  rintro e w' ⟨rfl, rfl⟩
  go_wp2_with fail
  go_ret
  exact ⟨rfl, rfl⟩

/-- It answers yes or no. -/
def SomeB (w : World) (e : Ending) (w' : World) : Prop := (∃ b : Bool, e = .returned (.bool b)) ∧ Below w.heap.size w w'

set_option maxHeartbeats 2000000 in
theorem opRight_any (ea : Nat → Addr) (o : BOp) (w : World) (ho : o.ok) (he : BErr w ea) :
    Calls Tryz.prog 126 #[.agg (bCells o).toArray] w (SomeB w) := by
  obtain ⟨kind, key, value, old, version⟩ := o
  obtain ⟨h1, h2, h3, -, -⟩ := ho
  simp only at h1 h2 h3
  have HE := Lib.hid he
  clear he
  unfold bCells
  go_enter Tryz.func126, Tryz.ntmps126
  go_wp2_with fail
  cases hk : isKey key with
  | false =>
    refine (key_bad ea key _ h1 (HE.out.below (below_alloc _ _)) hk).mono ?_
    rintro e w1 ⟨⟨a, rfl⟩, hb1⟩
    have B1 := Lib.hid (boxed_on hb1)
    clear hb1 hk
    go_wp2_with fail
    go_ret
    exact ⟨⟨_, rfl⟩, B1.out.1⟩
  | true =>
    refine (key_good ea key _ h1 (HE.out.below (below_alloc _ _)) hk).mono ?_
    rintro e w1 ⟨rfl, hb1⟩
    have B1 := Lib.hid (boxed_on hb1)
    clear hb1 hk
    have c0 := B1.out.2.1.cell 0
    have c2 := B1.out.2.1.cell 2
    have c3 := B1.out.2.1.cell 3
    have c4 := B1.out.2.1.cell 4
    by_cases k1 : kind = 1
    · have e1 : (kind == 1) = true := by simp [k1]
      clear k1
      go_wp2_with fail
      go_ret
      exact ⟨⟨_, rfl⟩, B1.out.1⟩
    have e1 : (kind == 1) = false := by simp [k1]
    by_cases k2 : kind = 2
    · have e2 : (kind == 2) = true := by simp [k2]
      clear k1 k2
      go_wp2_with fail
      go_ret
      exact ⟨⟨_, rfl⟩, B1.out.1⟩
    have e2 : (kind == 2) = false := by simp [k2]
    by_cases k3 : kind = 3
    · have e3 : (kind == 3) = true := by simp [k3]
      clear k1 k2 k3
      by_cases q : (value.size : Int) ≤ 64
      · have q2 : decide ((value.size : Int) ≤ 64) = true := decide_eq_true q
        go_wp2_with fail
        go_ret
        exact ⟨⟨_, rfl⟩, B1.out.1⟩
      · have q2 : decide ((value.size : Int) ≤ 64) = false := decide_eq_false q
        go_wp2_with fail
        go_ret
        exact ⟨⟨_, rfl⟩, B1.out.1⟩
    have e3 : (kind == 3) = false := by simp [k3]
    by_cases k4 : kind = 4
    · have e4 : (kind == 4) = true := by simp [k4]
      clear k1 k2 k3 k4
      by_cases q : 0 ≤ version
      · have q2 : decide (0 ≤ version) = true := decide_eq_true q
        go_wp2_with fail
        go_ret
        exact ⟨⟨_, rfl⟩, B1.out.1⟩
      · have q2 : decide (0 ≤ version) = false := decide_eq_false q
        go_wp2_with fail
        go_ret
        exact ⟨⟨_, rfl⟩, B1.out.1⟩
    have e4 : (kind == 4) = false := by simp [k4]
    clear k1 k2 k3 k4
    go_wp2_with fail
    go_ret
    exact ⟨⟨_, rfl⟩, B1.out.1⟩

set_option maxHeartbeats 400000 in
theorem opWrong_any (ea : Nat → Addr) (o : BOp) (w : World) (ho : o.ok) (he : BErr w ea) :
    Calls Tryz.prog 125 #[.agg (bCells o).toArray] w (SomeB w) := by
  have HE := Lib.hid he
  have HO := Lib.hid ho
  have HA := Lib.hid (fun W h => opRight_any ea o W HO.out h)
  clear he ho
  obtain ⟨kind, key, value, old, version⟩ := o
  unfold bCells at *
  go_enter Tryz.func125, Tryz.ntmps125
  go_wp2_with fail
  refine (HA.out _ (HE.out.below (below_alloc _ _))).mono ?_
  rintro e w1 ⟨⟨b, rfl⟩, hb1⟩
  have B1 := Lib.hid (boxed_on hb1)
  clear hb1
  go_wp2_with fail
  go_ret
  exact ⟨⟨_, rfl⟩, B1.out.1⟩

/-! ### slices.IndexFunc over operations -/
theorem bCells_len (o : BOp) : (bCells o).length = 5 := rfl
theorem Tryz.sizeOp : (Tryz.prog.info? 81).map (·.size) = some 5 := by kernel_rfl

set_option maxHeartbeats 2000000 in
theorem opIndex_any (ea : Nat → Addr) (ops : List BOp) (ao : Option Addr) (c : Nat) (w : World) (ho : ∀ o ∈ ops, o.ok) (he : BErr w ea) (hr : RowAt w ao (ops.flatMap bCells)) (hl : ops.length ≤ 1000000) :
    Calls Tryz.prog 129 #[.slice ao ops.length c, .func (.func 125) #[] #[]] w fun e w' => (∃ n : Int, e = .returned (.int .i64 n)) ∧ Below w.heap.size w w' := by
  have HE := Lib.hid he
  have HO := Lib.hid ho
  have HR := Lib.hid hr
  clear he ho hr
  go_enter Tryz.func129, Tryz.ntmps129
  go_wp2_with fail
  go_loopw [8] (fun i wr => ∃ k : Nat, k ≤ ops.length ∧ i = .int .i64 k ∧ Hid (Below w.heap.size w wr)) (fun i _ => ops.length - (intOf i).toNat)
  case atStart => exact ⟨0, Nat.zero_le _, rfl, Lib.hid (Below.refl _ _)⟩
  case round =>
    obtain ⟨k, hk, rfl, HB⟩ := hrel
    by_cases hlt : k < ops.length
    · obtain ⟨b, o, rfl, hc⟩ := row_flat bCells 5 (by decide) bCells_len HR.out k hlt
      have HK := Lib.hid (HO.out ops[k] (List.getElem_mem hlt))
      have HRG := Lib.hid (show wr.rangeAt b (o + k * 5) (bCells ops[k]) from fun j v hj => by
        have hj5 : j < 5 := by have := (List.getElem?_eq_some_iff.1 hj).1; rw [bCells_len] at this; exact this
        have h1 : w.cell? ⟨b, o + k * 5 + j, none⟩ = some v := by rw [hc j hj5]; exact hj
        exact (HB.out.cell (World.block_lt_of_cell? w _ h1)).trans h1)
      generalize ops[k] = x at *
      clear hc
      go_wp2_with (refine wpList_load_mid rfl 81 (.tmp 14) rfl b (o + k * 5) rfl _ _ HRG.out Tryz.underlying81 rfl Tryz.sizeOp ?_)
      refine (opWrong_any ea x _ HK.out (HE.out.below HB.out)).mono ?_
      rintro e w2 ⟨⟨q, rfl⟩, hb2⟩
      have B2 := Lib.hid (HB.out.trans (hb2.mono HB.out.size))
      clear hb2
      cases q with
      | true =>
        go_wp2_with fail
        go_ret
        exact ⟨⟨_, rfl⟩, B2.out⟩
      | false =>
        go_wp2_with fail
        go_roundw
        case rel => exact ⟨k + 1, by omega, by go_num, B2⟩
        case measure => simp [intOf]; omega
    · obtain rfl : k = ops.length := by omega
      go_wp2_with fail
      go_ret
      exact ⟨⟨_, rfl⟩, HB.out⟩

set_option maxHeartbeats 1000000 in
theorem opContains_any (ea : Nat → Addr) (ops : List BOp) (ao : Option Addr) (c : Nat) (w : World) (ho : ∀ o ∈ ops, o.ok) (he : BErr w ea) (hr : RowAt w ao (ops.flatMap bCells)) (hl : ops.length ≤ 1000000) :
    Calls Tryz.prog 124 #[.slice ao ops.length c, .func (.func 125) #[] #[]] w (SomeB w) := by
  have HA := Lib.hid (opIndex_any ea ops ao c w ho he hr hl)
  clear ho he hr
  go_enter Tryz.func124, Tryz.ntmps124
  go_wp2_with fail
  refine HA.out.mono ?_
  rintro e w1 ⟨⟨n, rfl⟩, hb1⟩
  have B1 := Lib.hid hb1
  clear hb1
  go_wp2_with fail
  go_ret
  exact ⟨⟨_, rfl⟩, B1.out⟩

set_option maxHeartbeats 1000000 in
theorem writing_any (ea : Nat → Addr) (s cl sq : Int) (ops : List BOp) (ao : Option Addr) (c : Nat) (w : World) (ho : ∀ o ∈ ops, o.ok) (he : BErr w ea) (hr : RowAt w ao (ops.flatMap bCells)) (hl : ops.length ≤ 1000000) :
    Calls Tryz.prog 121 #[.agg #[.int .i64 s, .int .i64 cl, .int .i64 sq, .slice ao ops.length c]] w (SomeB w) := by
  have HE := Lib.hid he
  have HA := Lib.hid (fun W h1 h2 => opContains_any ea ops ao c W ho h1 h2 hl)
  have HR := Lib.hid hr
  clear ho he hr
  go_enter Tryz.func121, Tryz.ntmps121
  go_wp2_with fail
  refine (HA.out _ (HE.out.below (below_alloc _ _)) (HR.out.below (below_alloc _ _))).mono ?_
  rintro e w1 ⟨⟨q, rfl⟩, hb1⟩
  have B1 := Lib.hid (boxed_on hb1)
  clear hb1
  have c0 := B1.out.2.1.cell 0
  have c1 := B1.out.2.1.cell 1
  have c2 := B1.out.2.1.cell 2
  have c3 := B1.out.2.1.cell 3
  go_wp2_with fail
  refine (shard_any _ _).mono ?_
  rintro e w' ⟨rfl, rfl⟩
  cases within s 12
  · go_wp2_with fail
    go_ret
    exact ⟨⟨_, rfl⟩, B1.out.1⟩
  go_wp2_with fail
  refine (within_any _ _ _).mono ?_
  rintro e w' ⟨rfl, rfl⟩
  cases within cl 4
  · go_wp2_with fail
    go_ret
    exact ⟨⟨_, rfl⟩, B1.out.1⟩
  go_wp2_with fail
  refine (within_any _ _ _).mono ?_
  rintro e w' ⟨rfl, rfl⟩
  cases within sq 1073741824
  · go_wp2_with fail
    go_ret
    exact ⟨⟨_, rfl⟩, B1.out.1⟩
  go_wp2_with fail
  refine (within_any _ _ _).mono ?_
  rintro e w' ⟨rfl, rfl⟩
  cases within (ops.length : Int) 8
  · go_wp2_with fail
    go_ret
    exact ⟨⟨_, rfl⟩, B1.out.1⟩
  go_wp2_with fail
  go_ret
  exact ⟨⟨_, rfl⟩, B1.out.1⟩
end Go.Proofs.YthjmfcdhpdiehaaGreatDoor

namespace Go.Proofs.YthjmfcdhpdiehaaGreatDoor
open Go.RowKit Utf
set_option maxRecDepth 100000
set_option linter.unusedSimpArgs false
set_option linter.unusedVariables false

/-- An entry, its fields. -/
structure EN where
  kind : Int
  shard : Int
  other : Int
  server : Int
  client : Int
  seq : Int
  ao : Option Addr
  no : Nat
  co : Nat
  key : ByteArray
  upto : Int
  part : Int
  parts : Int
  ad : Option Addr
  nd : Nat
  cd : Nat
def EN.cells (e : EN) : List Value := [.int .i64 e.kind, .int .i64 e.shard, .int .i64 e.other, .int .i64 e.server, .int .i64 e.client, .int .i64 e.seq, .slice e.ao e.no e.co, .string e.key, .int .i64 e.upto, .int .i64 e.part, .int .i64 e.parts, .slice e.ad e.nd e.cd]
theorem EN.cells_len (e : EN) : e.cells.length = 12 := rfl
/-- Its operations lie in memory, and nothing is long. -/
structure EN.at (e : EN) (W : World) : Prop where
  ops : ∃ ops : List BOp, e.no = ops.length ∧ ops.length ≤ 1000000 ∧ (∀ o ∈ ops, o.ok) ∧ RowAt W e.ao (ops.flatMap bCells)
  key : e.key.size ≤ 1000000
  data : e.nd ≤ 1000000
theorem EN.at.below {e : EN} {W W' : World} (h : e.at W) (hb : Below W.heap.size W W') : e.at W' := by
  obtain ⟨⟨ops, h1, h2, h3, h4⟩, h5, h6⟩ := h
  exact ⟨⟨ops, h1, h2, h3, h4.below hb⟩, h5, h6⟩

def twoR (e : EN) : Bool := within e.shard 12 && within e.other 12 && decide (e.shard ≠ e.other)
/-- Is it right? (Of entries that move, cut and join shards.) -/
def rightE (e : EN) : Bool :=
  if e.kind = 2 then within e.shard 12 && within e.server 4
  else if e.kind = 3 then twoR e && within e.server 4 && isKey e.key
  else if e.kind = 4 then twoR e
  else false

set_option maxHeartbeats 1000000 in
theorem moving_any (s r : Int) (w : World) :
    Calls Tryz.prog 130 #[.agg #[.int .i64 s, .int .i64 r]] w fun e w' => e = .returned (.bool (within s 12 && within r 4)) ∧ Below w.heap.size w w' := by
  have B0 := Lib.hid (below_alloc w (.cells #[.int .i64 s, .int .i64 r] 163))
  go_enter Tryz.func130, Tryz.ntmps130
  go_wp2_with fail
  refine (shard_any _ _).mono ?_
  rintro e w' ⟨rfl, rfl⟩
  cases hq : within s 12
  · go_wp2_with fail
    go_ret
    exact ⟨by simp [hq], B0.out⟩
  have HQ := Lib.hid hq
  clear hq
  go_wp2_with fail
  refine (within_any _ _ _).mono ?_
  rintro e w' ⟨rfl, rfl⟩
  go_wp2_with fail
  go_ret
  exact ⟨by simp [HQ.out], B0.out⟩

set_option maxHeartbeats 1000000 in
theorem merging_any (s o : Int) (w : World) :
    Calls Tryz.prog 136 #[.agg #[.int .i64 s, .int .i64 o]] w fun e w' => e = .returned (.bool (within s 12 && within o 12 && decide (s ≠ o))) ∧ Below w.heap.size w w' := by
  have B0 := Lib.hid (below_alloc w (.cells #[.int .i64 s, .int .i64 o] 167))
  go_enter Tryz.func136, Tryz.ntmps136
  go_wp2_with fail
  refine (shard_any _ _).mono ?_
  rintro e w' ⟨rfl, rfl⟩
  cases hq : within s 12
  · go_wp2_with fail
    go_ret
    exact ⟨by simp [hq], B0.out⟩
  have HQ := Lib.hid hq
  clear hq
  go_wp2_with fail
  refine (shard_any _ _).mono ?_
  rintro e w' ⟨rfl, rfl⟩
  cases hq : within o 12
  · go_wp2_with fail
    go_ret
    exact ⟨by simp [hq], B0.out⟩
  have HQ2 := Lib.hid hq
  clear hq
  go_wp2_with fail
  go_ret
  exact ⟨by simp [HQ.out, HQ2.out]; rfl, B0.out⟩

set_option maxHeartbeats 2000000 in
theorem splitting_any (ea : Nat → Addr) (s o r : Int) (k : ByteArray) (w : World) (hk : k.size ≤ 1000000) (he : BErr w ea) :
    Calls Tryz.prog 133 #[.agg #[.int .i64 s, .int .i64 o, .int .i64 r, .string k]] w fun e w' => e = .returned (.bool (within s 12 && within o 12 && decide (s ≠ o) && within r 4 && isKey k)) ∧ Below w.heap.size w w' := by
  have HE := Lib.hid (he.below (below_alloc w (.cells #[.int .i64 s, .int .i64 o, .int .i64 r, .string k] 165)))
  have B0 := Lib.hid (below_alloc w (.cells #[.int .i64 s, .int .i64 o, .int .i64 r, .string k] 165))
  clear he
  go_enter Tryz.func133, Tryz.ntmps133
  go_wp2_with fail
  refine (shard_any _ _).mono ?_
  rintro e w' ⟨rfl, rfl⟩
  cases hq : within s 12
  · go_wp2_with fail
    go_ret
    exact ⟨by simp [hq], B0.out⟩
  have HQ := Lib.hid hq
  clear hq
  go_wp2_with fail
  refine (shard_any _ _).mono ?_
  rintro e w' ⟨rfl, rfl⟩
  cases hq : within o 12
  · go_wp2_with fail
    go_ret
    exact ⟨by simp [hq], B0.out⟩
  have HQ2 := Lib.hid hq
  clear hq
  by_cases hso : s = o
  · have h1 : (s == o) = true := by simp [hso]
    have h2 : (s != o) = false := by simp [hso]
    have HS := Lib.hid hso
    clear hso
    go_wp2_with fail
    go_ret
    exact ⟨by simp [HS.out], B0.out⟩
  have h1 : (s == o) = false := by simp [hso]
  have h2 : (s != o) = true := by simp [hso]
  have HS := Lib.hid hso
  clear hso
  go_wp2_with fail
  refine (within_any _ _ _).mono ?_
  rintro e w' ⟨rfl, rfl⟩
  cases hq : within r 4
  · go_wp2_with fail
    go_ret
    exact ⟨by simp [hq], B0.out⟩
  have HQ3 := Lib.hid hq
  clear hq
  go_wp2_with fail
  cases hq : isKey k with
  | true =>
    refine (key_good ea k _ hk HE.out hq).mono ?_
    rintro e w1 ⟨rfl, hb1⟩
    have B1 := Lib.hid (boxed_on hb1)
    have HQ4 := Lib.hid hq
    clear hb1 hq
    go_wp2_with fail
    go_ret
    exact ⟨by simp [HQ.out, HQ2.out, HQ3.out, HQ4.out, HS.out], B1.out.1⟩
  | false =>
    refine (key_bad ea k _ hk HE.out hq).mono ?_
    rintro e w1 ⟨⟨a, rfl⟩, hb1⟩
    have hqe : ∀ (a : Addr) (w : World), (Op.equal 34 (.iface 184 (.pointer (some a))) .nilIface).run Tryz.prog w = .ok false w := fun a w => by kernel_rfl
    have B1 := Lib.hid (boxed_on hb1)
    have HQ4 := Lib.hid hq
    clear hb1 hq
    go_wp2_with fail
    go_ret
    exact ⟨by simp [HQ4.out], B1.out.1⟩

set_option maxHeartbeats 2000000 in
theorem checking_any (s u p q : Int) (ad : Option Addr) (nd cd : Nat) (w : World) :
    Calls Tryz.prog 139 #[.agg #[.int .i64 s, .int .i64 u, .int .i64 p, .int .i64 q, .slice ad nd cd]] w (SomeB w) := by
  have B0 := Lib.hid (below_alloc w (.cells #[.int .i64 s, .int .i64 u, .int .i64 p, .int .i64 q, .slice ad nd cd] 169))
  go_enter Tryz.func139, Tryz.ntmps139
  go_wp2_with fail
  all_goals try (refine (shard_any _ _).mono ?_; rintro e w' ⟨rfl, rfl⟩; cases within s 12 <;> go_wp2_with fail)
  all_goals try (refine (within_any _ _ _).mono ?_; rintro e w' ⟨rfl, rfl⟩; cases within p 64 <;> go_wp2_with fail)
  all_goals (go_ret; exact ⟨⟨_, rfl⟩, below_alloc _ _⟩)

def recV (e : EN) : Value :=
  if e.kind = 1 then .iface 161 (.agg #[.int .i64 e.shard, .int .i64 e.client, .int .i64 e.seq, .slice e.ao e.no e.co])
  else if e.kind = 2 then .iface 163 (.agg #[.int .i64 e.shard, .int .i64 e.server])
  else if e.kind = 3 then .iface 165 (.agg #[.int .i64 e.shard, .int .i64 e.other, .int .i64 e.server, .string e.key])
  else if e.kind = 4 then .iface 167 (.agg #[.int .i64 e.shard, .int .i64 e.other])
  else if e.kind = 5 then .iface 169 (.agg #[.int .i64 e.shard, .int .i64 e.upto, .int .i64 e.parts, .int .i64 e.part, .slice e.ad e.nd e.cd])
  else .nilIface

set_option maxHeartbeats 2000000 in
theorem of_any (e : EN) (w : World) : Calls Tryz.prog 76 #[.agg e.cells.toArray] w fun e' w' => e' = .returned (recV e) ∧ Below w.heap.size w w' := by
  obtain ⟨kind, shard, other, server, client, seq, ao, no, co, key, upto, part, parts, ad, nd, cd⟩ := e
  unfold EN.cells
  by_cases k1 : kind = 1
  · have e1 : (kind == 1) = true := by simp [k1]
    have HR := Lib.hid (show recV ⟨kind, shard, other, server, client, seq, ao, no, co, key, upto, part, parts, ad, nd, cd⟩ = .iface 161 (.agg #[.int .i64 shard, .int .i64 client, .int .i64 seq, .slice ao no co]) by simp [recV, k1])
    clear k1
    go_enter Tryz.func76, Tryz.ntmps76
    go_wp2_with fail
    go_ret
    exact ⟨by rw [HR.out]; rfl, below_alloc _ _⟩
  have e1 : (kind == 1) = false := by simp [k1]
  by_cases k2 : kind = 2
  · have e2 : (kind == 2) = true := by simp [k2]
    have HR := Lib.hid (show recV ⟨kind, shard, other, server, client, seq, ao, no, co, key, upto, part, parts, ad, nd, cd⟩ = .iface 163 (.agg #[.int .i64 shard, .int .i64 server]) by simp [recV, k2])
    clear k1 k2
    go_enter Tryz.func76, Tryz.ntmps76
    go_wp2_with fail
    go_ret
    exact ⟨by rw [HR.out]; rfl, below_alloc _ _⟩
  have e2 : (kind == 2) = false := by simp [k2]
  by_cases k3 : kind = 3
  · have e3 : (kind == 3) = true := by simp [k3]
    have HR := Lib.hid (show recV ⟨kind, shard, other, server, client, seq, ao, no, co, key, upto, part, parts, ad, nd, cd⟩ = .iface 165 (.agg #[.int .i64 shard, .int .i64 other, .int .i64 server, .string key]) by simp [recV, k3])
    clear k1 k2 k3
    go_enter Tryz.func76, Tryz.ntmps76
    go_wp2_with fail
    go_ret
    exact ⟨by rw [HR.out]; rfl, below_alloc _ _⟩
  have e3 : (kind == 3) = false := by simp [k3]
  by_cases k4 : kind = 4
  · have e4 : (kind == 4) = true := by simp [k4]
    have HR := Lib.hid (show recV ⟨kind, shard, other, server, client, seq, ao, no, co, key, upto, part, parts, ad, nd, cd⟩ = .iface 167 (.agg #[.int .i64 shard, .int .i64 other]) by simp [recV, k4])
    clear k1 k2 k3 k4
    go_enter Tryz.func76, Tryz.ntmps76
    go_wp2_with fail
    go_ret
    exact ⟨by rw [HR.out]; rfl, below_alloc _ _⟩
  have e4 : (kind == 4) = false := by simp [k4]
  by_cases k5 : kind = 5
  · have e5 : (kind == 5) = true := by simp [k5]
    have HR := Lib.hid (show recV ⟨kind, shard, other, server, client, seq, ao, no, co, key, upto, part, parts, ad, nd, cd⟩ = .iface 169 (.agg #[.int .i64 shard, .int .i64 upto, .int .i64 parts, .int .i64 part, .slice ad nd cd]) by simp [recV, k5])
    clear k1 k2 k3 k4 k5
    go_enter Tryz.func76, Tryz.ntmps76
    go_wp2_with fail
    go_ret
    exact ⟨by rw [HR.out]; rfl, below_alloc _ _⟩
  have e5 : (kind == 5) = false := by simp [k5]
  have HR := Lib.hid (show recV ⟨kind, shard, other, server, client, seq, ao, no, co, key, upto, part, parts, ad, nd, cd⟩ = .nilIface by simp [recV, k1, k2, k3, k4, k5])
  clear k1 k2 k3 k4 k5
  go_enter Tryz.func76, Tryz.ntmps76
  go_wp2_with fail
  go_ret
  exact ⟨by rw [HR.out]; rfl, below_alloc _ _⟩

/-- Answers yes or no; and of the three kinds, which. -/
def RightPost (e : EN) (w : World) (e' : Ending) (w' : World) : Prop := (∃ b : Bool, e' = .returned (.bool b) ∧ (e.kind = 2 ∨ e.kind = 3 ∨ e.kind = 4 → b = rightE e)) ∧ Below w.heap.size w w'

theorem Tryz.invR (t : TypeId) (f : FuncId) (h : (t = 161 ∧ f = 121) ∨ (t = 163 ∧ f = 130) ∨ (t = 165 ∧ f = 133) ∨ (t = 167 ∧ f = 136) ∨ (t = 169 ∧ f = 139)) (v : Array Value) (w : World) :
    (Go.method 331 t (.agg v) "tidewater/entry.right").run Tryz.prog w = .ok (f, .agg v) w := by
  rcases h with ⟨rfl, rfl⟩ | ⟨rfl, rfl⟩ | ⟨rfl, rfl⟩ | ⟨rfl, rfl⟩ | ⟨rfl, rfl⟩ <;> kernel_rfl

set_option maxHeartbeats 2000000 in
theorem entryRight_any (ea : Nat → Addr) (e : EN) (w : World) (ha : e.at w) (he : BErr w ea) :
    Calls Tryz.prog 46 #[.agg e.cells.toArray] w (RightPost e w) := by
  have HO := Lib.hid (fun W => of_any e W)
  have HE := Lib.hid he
  have HA := Lib.hid ha
  clear he ha
  go_enter Tryz.func46, Tryz.ntmps46
  unfold EN.cells at *
  go_wp2_with fail
  refine (HO.out _).mono ?_
  rintro e' w1 ⟨rfl, hb1⟩
  have B1 := Lib.hid (boxed_on hb1)
  clear hb1
  by_cases k1 : e.kind = 1
  · have HR := Lib.hid (show recV e = .iface 161 (.agg #[.int .i64 e.shard, .int .i64 e.client, .int .i64 e.seq, .slice e.ao e.no e.co]) by simp [recV, k1])
    have mR := fun (v : Array Value) (w : World) => Tryz.invR 161 121 (by simp) v w
    have HK := Lib.hid (show ¬ (e.kind = 2 ∨ e.kind = 3 ∨ e.kind = 4) by omega)
    clear k1
    rw [HR.out]
    go_wp2_with fail
    obtain ⟨ops, hn, hl, ho, hr⟩ := (HA.out.below B1.out.1).ops
    have HW := Lib.hid (writing_any ea e.shard e.client e.seq ops e.ao e.co w1 ho (HE.out.below B1.out.1) hr hl)
    rw [← hn] at HW
    refine HW.out.mono ?_
    rintro e' w2 ⟨⟨b, rfl⟩, hb2⟩
    have B2 := Lib.hid (boxed_next B1.out hb2)
    clear hb2 HW
    go_wp2_with fail
    go_ret
    exact ⟨⟨_, rfl, fun h => absurd h HK.out⟩, B2.out.1⟩
  by_cases k2 : e.kind = 2
  · have HR := Lib.hid (show recV e = .iface 163 (.agg #[.int .i64 e.shard, .int .i64 e.server]) by simp [recV, k2])
    have mR := fun (v : Array Value) (w : World) => Tryz.invR 163 130 (by simp) v w
    have HF := Lib.hid (show rightE e = (within e.shard 12 && within e.server 4) by simp [rightE, twoR, k2])
    clear k1 k2
    rw [HR.out]
    go_wp2_with fail
    refine (moving_any e.shard e.server _).mono ?_
    rintro e' w2 ⟨rfl, hb2⟩
    have B2 := Lib.hid (boxed_next B1.out hb2)
    clear hb2
    rw [← HF.out]
    go_wp2_with fail
    go_ret
    exact ⟨⟨_, rfl, fun _ => rfl⟩, B2.out.1⟩
  by_cases k3 : e.kind = 3
  · have HR := Lib.hid (show recV e = .iface 165 (.agg #[.int .i64 e.shard, .int .i64 e.other, .int .i64 e.server, .string e.key]) by simp [recV, k3])
    have mR := fun (v : Array Value) (w : World) => Tryz.invR 165 133 (by simp) v w
    have HF := Lib.hid (show rightE e = (within e.shard 12 && within e.other 12 && decide (e.shard ≠ e.other) && within e.server 4 && isKey e.key) by simp [rightE, twoR, k3])
    clear k1 k2 k3
    rw [HR.out]
    go_wp2_with fail
    refine (splitting_any ea e.shard e.other e.server e.key _ HA.out.key (HE.out.below B1.out.1)).mono ?_
    rintro e' w2 ⟨rfl, hb2⟩
    have B2 := Lib.hid (boxed_next B1.out hb2)
    clear hb2
    rw [← HF.out]
    go_wp2_with fail
    go_ret
    exact ⟨⟨_, rfl, fun _ => rfl⟩, B2.out.1⟩
  by_cases k4 : e.kind = 4
  · have HR := Lib.hid (show recV e = .iface 167 (.agg #[.int .i64 e.shard, .int .i64 e.other]) by simp [recV, k4])
    have mR := fun (v : Array Value) (w : World) => Tryz.invR 167 136 (by simp) v w
    have HF := Lib.hid (show rightE e = (within e.shard 12 && within e.other 12 && decide (e.shard ≠ e.other)) by simp [rightE, twoR, k4])
    clear k1 k2 k3 k4
    rw [HR.out]
    go_wp2_with fail
    refine (merging_any e.shard e.other _).mono ?_
    rintro e' w2 ⟨rfl, hb2⟩
    have B2 := Lib.hid (boxed_next B1.out hb2)
    clear hb2
    rw [← HF.out]
    go_wp2_with fail
    go_ret
    exact ⟨⟨_, rfl, fun _ => rfl⟩, B2.out.1⟩
  have HK := Lib.hid (show ¬ (e.kind = 2 ∨ e.kind = 3 ∨ e.kind = 4) by omega)
  by_cases k5 : e.kind = 5
  · have HR := Lib.hid (show recV e = .iface 169 (.agg #[.int .i64 e.shard, .int .i64 e.upto, .int .i64 e.parts, .int .i64 e.part, .slice e.ad e.nd e.cd]) by simp [recV, k5])
    have mR := fun (v : Array Value) (w : World) => Tryz.invR 169 139 (by simp) v w
    clear k1 k2 k3 k4 k5
    rw [HR.out]
    go_wp2_with fail
    refine (checking_any _ _ _ _ _ _ _ _).mono ?_
    rintro e' w2 ⟨⟨b, rfl⟩, hb2⟩
    have B2 := Lib.hid (boxed_next B1.out hb2)
    clear hb2
    go_wp2_with fail
    go_ret
    exact ⟨⟨_, rfl, fun h => absurd h HK.out⟩, B2.out.1⟩
  · have HR := Lib.hid (show recV e = .nilIface by simp [recV, k1, k2, k3, k4, k5])
    clear k1 k2 k3 k4 k5
    rw [HR.out]
    go_wp2_with fail
    go_ret
    exact ⟨⟨_, rfl, fun h => absurd h HK.out⟩, B1.out.1⟩
end Go.Proofs.YthjmfcdhpdiehaaGreatDoor

namespace Go.Proofs.YthjmfcdhpdiehaaGreatDoor
open Go.RowKit Utf
set_option maxRecDepth 100000
set_option linter.unusedSimpArgs false
set_option linter.unusedVariables false

theorem drewN_drewN (w : World) (m n : Nat) : (w.drewN m).drewN n = w.drewN (m + n) := by simp [World.drewN, Nat.add_assoc]
def zRow (l : List Int) : List Value := l.map (Value.int .i64)
theorem zRow_len (l : List Int) : (zRow l).length = l.length := by simp [zRow]
theorem zRow_at (l : List Int) (k : Nat) (h : k < (zRow l).length) : (zRow l)[k] = .int .i64 (l[k]'(by rw [← zRow_len]; exact h)) := by simp [zRow]

set_option maxHeartbeats 1000000 in
theorem sameInts_any (a b : List Int) (aa ab : Option Addr) (ca cb : Nat) (w : World) (hla : a.length ≤ 1000000) (hlb : b.length ≤ 1000000)
    (hra : RowAt w aa (zRow a)) (hrb : RowAt w ab (zRow b)) :
    Calls Tryz.prog 24 #[.slice aa a.length ca, .slice ab b.length cb] w fun e w' => e = .returned (.bool (decide (a = b))) ∧ ∃ n, w' = w.drewN n := by
  have HA := Lib.hid hra
  have HB := Lib.hid hrb
  clear hra hrb
  by_cases hl : a.length = b.length
  · have hl' : ((a.length : Int) != (b.length : Int)) = false := by simp [hl]
    have HL := Lib.hid hl
    clear hl
    go_enter Tryz.func24, Tryz.ntmps24
    go_wp2_with fail
    go_loopw [13] (fun i w5 => ∃ k n : Nat, k ≤ a.length ∧ i = .int .i64 k ∧ w5 = w.drewN n ∧ Hid (a.take k = b.take k)) (fun i _ => a.length - (intOf i).toNat)
    case atStart => exact ⟨0, 0, Nat.zero_le _, rfl, rfl, rfl⟩
    case round =>
      obtain ⟨k, n, hka, rfl, rfl, HC⟩ := hrel
      by_cases hlt : k < a.length
      · have hltb : k < b.length := by have := HL.out; omega
        obtain ⟨ba, oa, rfl, hca⟩ := HA.out k (by rw [zRow_len]; exact hlt)
        rw [zRow_at] at hca
        obtain ⟨bb, ob, rfl, hcb⟩ := HB.out k (by rw [zRow_len]; exact hltb)
        rw [zRow_at] at hcb
        have HK := Lib.hid (fun h : a[k] = b[k] => show a.take (k + 1) = b.take (k + 1) by rw [List.take_succ_eq_append_getElem hlt, List.take_succ_eq_append_getElem hltb, HC.out, h])
        have HT := Lib.hid (fun (h : a[k] ≠ b[k]) (h2 : a = b) => h (by simp only [h2]))
        generalize a[k] = x at *
        generalize b[k] = y at *
        by_cases hz : x = y
        · have hz' : (!(x == y)) = false := by simp [hz]
          have hz2 : (x == y) = true := by simp [hz]
          have HZ := Lib.hid (HK.out hz)
          clear hz
          go_wp2_with fail
          go_quiet (fail)
          go_wp2_with fail
          go_roundw
          case rel => exact ⟨k + 1, _, by omega, by go_num, rfl, HZ.out⟩
          case measure => simp [intOf]; omega
        · have hz' : (!(x == y)) = true := by simp [hz]
          have hz2 : (x == y) = false := by simp [hz]
          have HZ := Lib.hid (HT.out hz)
          clear hz
          go_wp2_with fail
          go_quiet (fail)
          go_wp2_with fail
          go_ret
          refine ⟨?_, _, by first | rfl | exact (drewN_drewN _ _ _)⟩
          rw [decide_eq_false HZ.out]
          rfl
      · obtain rfl : k = a.length := by omega
        go_wp2_with fail
        go_ret
        refine ⟨?_, _, rfl⟩
        have h1 := HC.out
        rw [List.take_length, HL.out, List.take_length] at h1
        rw [decide_eq_true h1]
        rfl
  · have hl' : ((a.length : Int) != (b.length : Int)) = true := by simp; omega
    have HL := Lib.hid (show ¬ a = b from fun h => hl (by rw [h]))
    clear hl
    go_enter Tryz.func24, Tryz.ntmps24
    go_wp2_with fail
    go_ret
    refine ⟨?_, 0, rfl⟩
    rw [decide_eq_false HL.out]
    rfl
end Go.Proofs.YthjmfcdhpdiehaaGreatDoor

namespace Go.Proofs.YthjmfcdhpdiehaaGreatDoor
open Go.RowKit Utf
set_option maxRecDepth 100000
set_option linter.unusedSimpArgs false
set_option linter.unusedVariables false

/-- A shard that lives. -/
structure Sh where
  id : Int
  server : Int
  since : Int
  lo : ByteArray
  hi : ByteArray
def Sh.cells (s : Sh) : List Value := [.int .i64 s.id, .int .i64 s.server, .int .i64 s.since, .string s.lo, .string s.hi]
theorem Sh.cells_len (s : Sh) : s.cells.length = 5 := rfl
theorem Sh.one (s : Sh) : ∀ u ∈ s.cells, u.oneCell' = true := by
  intro u hu
  simp only [Sh.cells, List.mem_cons, List.mem_nil_iff, or_false] at hu
  rcases hu with rfl | rfl | rfl | rfl | rfl <;> rfl
def shRow (l : List Sh) : List Value := l.flatMap Sh.cells
theorem shRow_len (l : List Sh) : (shRow l).length = l.length * 5 := flat_len Sh.cells 5 Sh.cells_len l
theorem shRow_one (l : List Sh) : ∀ u ∈ shRow l, u.oneCell' = true := by
  intro u hu
  obtain ⟨s, -, h⟩ := List.mem_flatMap.1 hu
  exact s.one u h
def Sh.ok (s : Sh) : Prop := s.lo.size ≤ 1000000 ∧ s.hi.size ≤ 1000000
/-- An event: its address, its entry. -/
abbrev Ev := Int × EN
def evC (x : Ev) : List Value := .int .i64 x.1 :: x.2.cells
theorem evC_len (x : Ev) : (evC x).length = 13 := rfl
theorem evC_one (x : Ev) : ∀ u ∈ evC x, u.oneCell' = true := by
  intro u hu
  simp only [evC, EN.cells, List.mem_cons, List.mem_nil_iff, or_false] at hu
  rcases hu with rfl | rfl | rfl | rfl | rfl | rfl | rfl | rfl | rfl | rfl | rfl | rfl | rfl <;> rfl
def evRow (l : List Ev) : List Value := l.flatMap evC
theorem evRow_len (l : List Ev) : (evRow l).length = l.length * 13 := flat_len evC 13 evC_len l
theorem evRow_one (l : List Ev) : ∀ u ∈ evRow l, u.oneCell' = true := by
  intro u hu
  obtain ⟨s, -, h⟩ := List.mem_flatMap.1 hu
  exact evC_one s u h

theorem Tryz.infoSh : (Tryz.prog.info? 54).map (fun i => (i.zero, i.size, i.bytes)) = some (some (.agg #[.int .i64 0, .int .i64 0, .int .i64 0, .string ByteArray.empty, .string ByteArray.empty]), 5, 56) := by kernel_rfl
theorem Tryz.infoEv : (Tryz.prog.info? 103).map (fun i => (i.zero, i.size, i.bytes)) = some (some (.agg #[.int .i64 0, .int .i64 0, .int .i64 0, .int .i64 0, .int .i64 0, .int .i64 0, .int .i64 0, .slice none 0 0, .string ByteArray.empty, .int .i64 0, .int .i64 0, .int .i64 0, .slice none 0 0]), 13, 144) := by kernel_rfl

set_option maxHeartbeats 1000000 in
theorem cloneSh_any (l : List Sh) (b off c : Nat) (w : World) (hl : 1 ≤ l.length) (hn : l.length ≤ 1000000) (hr : RowAt w (some ⟨b, off, none⟩) (shRow l)) :
    Calls Tryz.prog 43 #[.slice (some ⟨b, off, none⟩) l.length c] w fun e w' => ∃ v, e = .returned v ∧ w'.ownsRow w.heap.size 54 5 v l.length (shRow l) ∧ Below w.heap.size w w' := by
  obtain ⟨i0, hi, hz0, hz1, hz2⟩ := info_parts Tryz.infoSh
  have HI := Lib.hid (And.intro hi (And.intro hz0 (And.intro hz1 hz2)))
  have HR := Lib.hid hr
  have B0 := Lib.hid (below_alloc w (.cells #[] 54))
  clear hi hz0 hz1 hz2 hr
  have hq : (binOp BinOp.eql 48 (.slice (some ⟨b, off, none⟩) l.length c) (.slice none 0 0)).run Tryz.prog w = .ok (.bool false) w := by kernel_rfl
  go_enter Tryz.func43, Tryz.ntmps43
  go_wp2_with (refine wpList_appX rfl (.tmp 5) (.tmp 6) 48 rfl 54 i0 _ 5 56 Tryz.underlying48 HI.out.1 HI.out.2.1 HI.out.2.2.1 HI.out.2.2.2 rfl (by decide) w.heap.size (.slice (some ⟨w.heap.size, 0, none⟩) 0 0) 0 [] rfl OwnE.new B0.out.size b off l.length c (shRow l) rfl (shRow_len l) hl (HR.out.below B0.out) (shRow_one l) (by omega) (by decide) ?_)
  refine Lib.hid ?_
  intro v' w' h1 h2
  have H1 := Lib.hid h1
  have H2 := Lib.hid (B0.out.grown h2 B0.out.size (fun k hk => by cases hk))
  clear h1 h2
  go_wp2_with fail
  go_ret
  exact ⟨_, rfl, H1.out, H2.out⟩

set_option maxHeartbeats 1000000 in
theorem cloneEv_nil (w : World) : Calls Tryz.prog 44 #[.slice none 0 0] w fun e w' => e = .returned (.slice none 0 0) ∧ w' = w := by
  have hq : (binOp BinOp.eql 98 (.slice none 0 0) (.slice none 0 0)).run Tryz.prog w = .ok (.bool true) w := by kernel_rfl
  go_enter Tryz.func44, Tryz.ntmps44
  go_wp2_with fail
  go_ret
  exact ⟨rfl, rfl⟩
set_option maxHeartbeats 1000000 in
theorem cloneEv_any (l : List Ev) (b off c : Nat) (w : World) (hl : 1 ≤ l.length) (hn : l.length ≤ 1000000) (hr : RowAt w (some ⟨b, off, none⟩) (evRow l)) :
    Calls Tryz.prog 44 #[.slice (some ⟨b, off, none⟩) l.length c] w fun e w' => ∃ v, e = .returned v ∧ w'.ownsRow w.heap.size 103 13 v l.length (evRow l) ∧ Below w.heap.size w w' := by
  obtain ⟨i0, hi, hz0, hz1, hz2⟩ := info_parts Tryz.infoEv
  have HI := Lib.hid (And.intro hi (And.intro hz0 (And.intro hz1 hz2)))
  have HR := Lib.hid hr
  have B0 := Lib.hid (below_alloc w (.cells #[] 103))
  clear hi hz0 hz1 hz2 hr
  have hq : (binOp BinOp.eql 98 (.slice (some ⟨b, off, none⟩) l.length c) (.slice none 0 0)).run Tryz.prog w = .ok (.bool false) w := by kernel_rfl
  go_enter Tryz.func44, Tryz.ntmps44
  go_wp2_with (refine wpList_appX rfl (.tmp 5) (.tmp 6) 98 rfl 103 i0 _ 13 144 Tryz.underlying98 HI.out.1 HI.out.2.1 HI.out.2.2.1 HI.out.2.2.2 rfl (by decide) w.heap.size (.slice (some ⟨w.heap.size, 0, none⟩) 0 0) 0 [] rfl OwnE.new B0.out.size b off l.length c (evRow l) rfl (evRow_len l) hl (HR.out.below B0.out) (evRow_one l) (by omega) (by decide) ?_)
  refine Lib.hid ?_
  intro v' w' h1 h2
  have H1 := Lib.hid h1
  have H2 := Lib.hid (B0.out.grown h2 B0.out.size (fun k hk => by cases hk))
  clear h1 h2
  go_wp2_with fail
  go_ret
  exact ⟨_, rfl, H1.out, H2.out⟩

/-! ### find -/
/-- The place of the first shard of a number. -/
def findN (id : Int) (l : List Sh) : Option Nat := l.findIdx? (fun s => decide (s.id = id))
def idxI : Option Nat → Int
  | none => -1
  | some k => (k : Nat)

set_option maxHeartbeats 1000000 in
theorem isId_any (s : Sh) (id : Int) (p : Nat) (w : World) (hp : w.cell? ⟨p, 0, none⟩ = some (.int .i64 id)) (hlt : p < w.heap.size) :
    Calls Tryz.prog 75 #[.agg s.cells.toArray, .pointer (some ⟨p, 0, none⟩)] w fun e w' => e = .returned (.bool (decide (s.id = id))) ∧ Below w.heap.size w w' := by
  obtain ⟨sid, server, since, lo, hi⟩ := s
  unfold Sh.cells
  have h1 : (w.alloc (.cells #[.int .i64 sid, .int .i64 server, .int .i64 since, .string lo, .string hi] 54)).cell? ⟨p, 0, none⟩ = some (.int .i64 id) := ((below_alloc w _).cell hlt).trans hp
  clear hp
  go_enter Tryz.func75, Tryz.ntmps75
  go_wp2_with fail
  go_ret
  refine ⟨?_, below_alloc _ _⟩
  show Ending.returned (.bool (sid == id)) = _
  by_cases h : sid = id <;> simp [h]
theorem find_none {id : Int} {l : List Sh} (h : ∀ j (hj : j < l.length), ¬ l[j].id = id) : findN id l = none := by
  unfold findN
  rw [List.findIdx?_eq_none_iff]
  intro x hx
  obtain ⟨j, hj, rfl⟩ := List.getElem_of_mem hx
  simpa using h j hj
theorem find_some {id : Int} {l : List Sh} {k : Nat} (hk : k < l.length) (h : l[k].id = id) (hn : ∀ j (hj : j < k), ¬ (l[j]'(by omega)).id = id) : findN id l = some k := by
  unfold findN
  rw [List.findIdx?_eq_some_iff_getElem]
  exact ⟨hk, by simpa using h, fun j hj => by simpa using hn j hj⟩
theorem findN_lt {id : Int} {l : List Sh} {k : Nat} (h : findN id l = some k) : ∃ hk : k < l.length, l[k].id = id := by
  unfold findN at h
  rw [List.findIdx?_eq_some_iff_getElem] at h
  obtain ⟨hk, h1, -⟩ := h
  exact ⟨hk, by simpa using h1⟩

/-- A captured variable's cell, and a row. -/
structure FI (w : World) (p b off : Nat) (id : Int) (l : List Sh) (W : World) : Prop where
  bel : Below w.heap.size w W
  cell : W.cell? ⟨p, 0, none⟩ = some (.int .i64 id)
  row : RowAt W (some ⟨b, off, none⟩) (shRow l)
theorem FI.next {w W W' : World} {p b off : Nat} {id : Int} {l : List Sh} (h : FI w p b off id l W) (hb : Below W.heap.size W W') : FI w p b off id l W' :=
  ⟨h.bel.trans (hb.mono h.bel.size), (hb.cell (World.block_lt_of_cell? W _ h.cell)).trans h.cell, h.row.below hb⟩

set_option maxHeartbeats 2000000 in
theorem shIndex_any (l : List Sh) (b off c p : Nat) (id : Int) (w : World) (hn : l.length ≤ 1000000) (hr : RowAt w (some ⟨b, off, none⟩) (shRow l)) (hp : w.cell? ⟨p, 0, none⟩ = some (.int .i64 id)) :
    Calls Tryz.prog 74 #[.slice (some ⟨b, off, none⟩) l.length c, .func (.func 75) #[] #[.pointer (some ⟨p, 0, none⟩)]] w fun e w' => e = .returned (.int .i64 (idxI (findN id l))) ∧ Below w.heap.size w w' := by
  have HF := Lib.hid (show FI w p b off id l w from ⟨Below.refl _ _, hp, hr⟩)
  have HN := Lib.hid (fun h => find_none (id := id) (l := l) h)
  have HS := Lib.hid (fun k h1 h2 h3 => find_some (id := id) (l := l) (k := k) h1 h2 h3)
  clear hr hp
  go_enter Tryz.func74, Tryz.ntmps74
  go_wp2_with fail
  go_loopw [8] (fun i wr => ∃ k : Nat, k ≤ l.length ∧ i = .int .i64 k ∧ Hid (FI w p b off id l wr) ∧ Hid (∀ j (hj : j < l.length), j < k → ¬ l[j].id = id)) (fun i _ => l.length - (intOf i).toNat)
  case atStart => exact ⟨0, Nat.zero_le _, rfl, HF, Lib.hid (fun j _ hj => by omega)⟩
  case round =>
    obtain ⟨k, hk, rfl, HB, HP⟩ := hrel
    by_cases hlt : k < l.length
    · obtain ⟨b', o', e', hc⟩ := row_flat Sh.cells 5 (by decide) Sh.cells_len HB.out.row k hlt
      cases e'
      have HRG := Lib.hid (show wr.rangeAt b (off + k * 5) l[k].cells from fun j v hj => by
        have hj5 : j < 5 := by have := (List.getElem?_eq_some_iff.1 hj).1; rw [Sh.cells_len] at this; exact this
        rw [hc j hj5]; exact hj)
      have HSK := Lib.hid (fun h => HS.out k hlt h (fun j hj => HP.out j (by omega) hj))
      have HPK := Lib.hid (fun (h : ¬ l[k].id = id) j (hj : j < l.length) (hjk : j < k + 1) => show ¬ l[j].id = id from by
        by_cases hjj : j < k
        · exact HP.out j hj hjj
        · have : j = k := by omega
          subst this
          exact h)
      have HSI := Lib.hid (show (Tryz.prog.info? 54).map (·.size) = some l[k].cells.length by rw [Sh.cells_len]; kernel_rfl)
      generalize l[k] = x at *
      clear hc
      go_wp2_with (refine wpList_load_mid rfl 54 (.tmp 14) rfl b (off + k * 5) rfl _ _ HRG.out Tryz.underlying54 rfl HSI.out ?_)
      refine (isId_any x id p _ HB.out.cell (World.block_lt_of_cell? _ _ HB.out.cell)).mono ?_
      rintro e w2 ⟨rfl, hb2⟩
      have HB2 := Lib.hid (HB.out.next hb2)
      clear hb2
      by_cases hx : x.id = id
      · have hd : decide (x.id = id) = true := decide_eq_true hx
        have HRS := Lib.hid (HSK.out hx)
        clear hx HPK HSK
        rw [hd]
        go_wp2_with fail
        go_ret
        exact ⟨by rw [HRS.out]; rfl, HB2.out.bel⟩
      · have hd : decide (x.id = id) = false := decide_eq_false hx
        have HRS := Lib.hid (HPK.out hx)
        clear hx HPK HSK
        rw [hd]
        go_wp2_with fail
        go_roundw
        case rel => exact ⟨k + 1, by omega, by go_num, HB2, HRS⟩
        case measure => simp [intOf]; omega
    · obtain rfl : k = l.length := by omega
      have HR := Lib.hid (HN.out (fun j hj => HP.out j hj hj))
      go_wp2_with fail
      go_ret
      exact ⟨by rw [HR.out]; rfl, HB.out.bel⟩
end Go.Proofs.YthjmfcdhpdiehaaGreatDoor
