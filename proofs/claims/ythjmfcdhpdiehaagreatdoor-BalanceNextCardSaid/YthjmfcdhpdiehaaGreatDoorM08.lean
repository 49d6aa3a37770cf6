/-
  tidewaterref02.Key.
  tidewaterref03.end, Right, Has.
  tidewaterref05.upto, key, Right.
-/
import Derived.Test.YthjmfcdhpdiehaaGreatDoorM04
import Derived.Test.YthjmfcdhpdiehaaGreatDoorM07
namespace Go.Proofs.YthjmfcdhpdiehaaGreatDoor
open Go.RowKit Utf
set_option maxRecDepth 100000
set_option linter.unusedSimpArgs false
set_option linter.unusedVariables false

set_option maxHeartbeats 1000000 in
theorem refKey_any (s : ByteArray) (w : World) (hs : s.size ≤ 1000000) :
    Calls Tryz.prog 51 #[.string s] w fun e w' => e = .returned (.int .i64 (keyNum s : Nat)) ∧ Below w.heap.size w w' := by
  have HR := Lib.hid (fun W => refRunes_any s W hs)
  cases hd : dec s.data.toList with
  | none =>
    have HK := Lib.hid (keyNum_none hd)
    have HD := Lib.hid hd
    clear hd
    go_enter Tryz.func51, Tryz.ntmps51
    go_wp2_with fail
    refine (HR.out _).mono ?_
    rintro e w1 ⟨v1, rfl, hb1, -, -⟩
    rw [HD.out]
    go_wp2_with fail
    go_ret
    exact ⟨by rw [HK.out]; rfl, hb1⟩
  | some rs =>
    obtain ⟨ho, h⟩ := dec_some hd
    have hl := len_le h
    have hkn := keyNum_some hd
    have HD := Lib.hid hd
    clear hd h ho
    by_cases h0 : rs.length = 0
    · rw [if_pos h0] at hkn
      have HKN := Lib.hid hkn
      clear hkn
      have hz : ((rs.length : Int) == 0) = true := by simp [h0]
      clear h0
      go_enter Tryz.func51, Tryz.ntmps51
      go_wp2_with fail
      refine (HR.out _).mono ?_
      rintro e w1 ⟨v1, rfl, hb1, hown1, -⟩
      obtain ⟨a1, c1, rfl, -, -⟩ := own_row (hown1 rs HD.out)
      clear hown1
      rw [HD.out]
      go_wp2_with fail
      go_ret
      exact ⟨by rw [HKN.out]; rfl, hb1⟩
    · rw [if_neg h0] at hkn
      have hz : ((rs.length : Int) == 0) = false := beq_eq_false_iff_ne.2 (by omega)
      by_cases h24 : 24 < rs.length
      · rw [if_pos h24] at hkn
        have HKN := Lib.hid hkn
        have hz3 : (24 : Int) < (rs.length : Int) := by omega
        clear hkn h0
        go_enter Tryz.func51, Tryz.ntmps51
        go_wp2_with fail
        refine (HR.out _).mono ?_
        rintro e w1 ⟨v1, rfl, hb1, hown1, -⟩
        obtain ⟨a1, c1, rfl, -, -⟩ := own_row (hown1 rs HD.out)
        clear hown1
        rw [HD.out]
        go_wp2_with fail
        go_ret
        exact ⟨by rw [HKN.out]; rfl, hb1⟩
      · rw [if_neg h24] at hkn
        have HKN := Lib.hid hkn
        have hz3 : ¬ (24 : Int) < (rs.length : Int) := by omega
        clear hkn h0
        go_enter Tryz.func51, Tryz.ntmps51
        go_wp2_with fail
        refine (HR.out _).mono ?_
        rintro e w1 ⟨v1, rfl, hb1, hown1, -⟩
        obtain ⟨a1, c1, rfl, hr1, -⟩ := own_row (hown1 rs HD.out)
        have HR1 := Lib.hid hr1
        clear hown1 hr1
        rw [HD.out]
        go_wp2_with fail
        go_loop [25] (fun i => ∃ k : Nat, k ≤ rs.length ∧ i = .int .i64 k ∧ Hid ((rs.take k).any badR = false)) (fun i => rs.length - (intOf i).toNat)
        case atStart => exact ⟨0, Nat.zero_le _, rfl, rfl⟩
        case round =>
          obtain ⟨k, hk, rfl, HA⟩ := hrel
          by_cases hlt : k < rs.length
          · obtain ⟨b, of, rfl, hc⟩ := HR1.out k (by rw [natRow_len]; exact hlt)
            rw [natRow_at] at hc
            have HST := Lib.hid (any_step hlt HA.out)
            have HHI := Lib.hid (any_hit hlt)
            generalize rs[k] = c at *
            by_cases hb32 : (c : Int) < 32
            · have HBAD := Lib.hid (HHI.out (by simp [badR]; omega))
              go_wp2_with fail
              go_ret
              exact ⟨by rw [HKN.out, if_pos HBAD.out]; rfl, hb1⟩
            · by_cases hb127 : c = 127
              · have hq : ((c : Int) == 127) = true := by simp [hb127]
                have HBAD := Lib.hid (HHI.out (by simp [badR, hb127]))
                clear hb127
                go_wp2_with fail
                go_ret
                exact ⟨by rw [HKN.out, if_pos HBAD.out]; rfl, hb1⟩
              · have hq : ((c : Int) == 127) = false := by simp; omega
                have HG := Lib.hid (HST.out (by simp [badR]; omega))
                clear hb127
                go_wp2_with fail
                go_round
                case rel => exact ⟨k + 1, by omega, by go_num, HG.out⟩
                case measure => simp [intOf]; omega
          · obtain rfl : k = rs.length := by omega
            have HG := Lib.hid (show rs.any badR = false by have := HA.out; rwa [List.take_length] at this)
            go_wp2_with fail
            go_ret
            exact ⟨by rw [HKN.out, if_neg (by rw [HG.out]; simp)]; rfl, hb1⟩
end Go.Proofs.YthjmfcdhpdiehaaGreatDoor

namespace Go.Proofs.YthjmfcdhpdiehaaGreatDoor
open Go.RowKit Utf
set_option maxRecDepth 100000
set_option linter.unusedSimpArgs false
set_option linter.unusedVariables false

theorem bLt_list (a b : ByteArray) : Op.bytesLess a.toList b.toList = bLt a b := by
  unfold bLt
  rw [Lib.toList_data, Lib.toList_data]
theorem keyNum_z (s : ByteArray) : (((keyNum s : Nat) : Int) == 0) = isKey s := by
  unfold isKey
  cases h : keyNum s with
  | zero => rfl
  | succ n =>
    simp
    omega
set_option maxHeartbeats 1000000 in
theorem rend_any (s : ByteArray) (w : World) (hs : s.size ≤ 1000000) :
    Calls Tryz.prog 102 #[.string s] w fun e w' => e = .returned (.bool (isEnd s)) ∧ Below w.heap.size w w' := by
  have HK := Lib.hid (fun W => refKey_any s W hs)
  cases h0 : s.data.toList.isEmpty with
  | true =>
    have h1 : s.toList = [] := str_nil h0
    have HR := Lib.hid (show isEnd s = true by simp [isEnd, h0])
    clear h0
    go_enter Tryz.func102, Tryz.ntmps102
    go_wp2_with fail
    go_ret
    exact ⟨by rw [HR.out]; rfl, Below.refl _ _⟩
  | false =>
    have h1 : ¬ s.toList = [] := (str_cons h0).1
    have h1' : s.toList.isEmpty = false := (str_cons h0).2
    have HR := Lib.hid (show isEnd s = isKey s by simp [isEnd, h0])
    have HZ := Lib.hid (keyNum_z s)
    clear h0
    go_enter Tryz.func102, Tryz.ntmps102
    go_wp2_with fail
    refine (HK.out _).mono ?_
    rintro e w1 ⟨rfl, hb⟩
    generalize ((keyNum s : Nat) : Int) = n at *
    have hn := HZ.out
    cases hk : isKey s with
    | true =>
      rw [hk] at hn
      have HN := Lib.hid hk
      clear hk
      go_wp2_with fail
      go_ret
      exact ⟨by rw [HR.out, HN.out]; rfl, hb⟩
    | false =>
      rw [hk] at hn
      have HN := Lib.hid hk
      clear hk
      go_wp2_with fail
      go_ret
      exact ⟨by rw [HR.out, HN.out]; rfl, hb⟩

set_option maxHeartbeats 2000000 in
theorem rright_any (lo hi : ByteArray) (w : World) (hs : lo.size ≤ 1000000) (ht : hi.size ≤ 1000000) :
    Calls Tryz.prog 91 #[.agg #[.string lo, .string hi]] w fun e w' => e = .returned (.bool (spanR lo hi)) ∧ Below w.heap.size w w' := by
  cases hl : isEnd lo with
  | false =>
    have HL := Lib.hid hl
    have HR := Lib.hid (show spanR lo hi = false by simp [spanR, hl])
    clear hl
    go_enter Tryz.func91, Tryz.ntmps91
    go_wp2_with fail
    refine (rend_any lo _ hs).mono ?_
    rintro e w1 ⟨rfl, hb1⟩
    have B1 := Lib.hid (boxed_on hb1)
    clear hb1
    rw [HL.out]
    go_wp2_with fail
    go_ret
    exact ⟨by rw [HR.out]; rfl, B1.out.1⟩
  | true =>
    have HL := Lib.hid hl
    cases hh : isEnd hi with
    | false =>
      have HH := Lib.hid hh
      have HR := Lib.hid (show spanR lo hi = false by simp [spanR, hl, hh])
      clear hl hh
      go_enter Tryz.func91, Tryz.ntmps91
      go_wp2_with fail
      refine (rend_any lo _ hs).mono ?_
      rintro e w1 ⟨rfl, hb1⟩
      have B1 := Lib.hid (boxed_on hb1)
      clear hb1
      have c1 := B1.out.2.1.cell 1
      rw [HL.out]
      go_wp2_with fail
      refine (rend_any hi _ ht).mono ?_
      rintro e w2 ⟨rfl, hb2⟩
      have B2 := Lib.hid (boxed_next B1.out hb2)
      clear hb2 c1
      rw [HH.out]
      go_wp2_with fail
      go_ret
      exact ⟨by rw [HR.out]; rfl, B2.out.1⟩
    | true =>
      have HH := Lib.hid hh
      have HR := Lib.hid (show spanR lo hi = lessB lo hi by simp [spanR, hl, hh])
      clear hl hh
      cases h0 : hi.data.toList.isEmpty with
      | true =>
        have h1 : hi.toList = [] := str_nil h0
        have HX := Lib.hid (show lessB lo hi = true by simp [lessB, h0])
        clear h0
        go_enter Tryz.func91, Tryz.ntmps91
        go_wp2_with fail
        refine (rend_any lo _ hs).mono ?_
        rintro e w1 ⟨rfl, hb1⟩
        have B1 := Lib.hid (boxed_on hb1)
        clear hb1
        have c1 := B1.out.2.1.cell 1
        rw [HL.out]
        go_wp2_with fail
        refine (rend_any hi _ ht).mono ?_
        rintro e w2 ⟨rfl, hb2⟩
        have B2 := Lib.hid (boxed_next B1.out hb2)
        clear hb2 c1
        have c0 := B2.out.2.1.cell 0
        have c1 := B2.out.2.1.cell 1
        rw [HH.out]
        go_wp2_with fail
        go_ret
        exact ⟨by rw [HR.out, HX.out]; rfl, B2.out.1⟩
      | false =>
        have h1 : ¬ hi.toList = [] := (str_cons h0).1
        have h1' : hi.toList.isEmpty = false := (str_cons h0).2
        have HX := Lib.hid (show lessB lo hi = bLt lo hi by simp [lessB, h0])
        clear h0
        have hb := bLt_list lo hi
        generalize bLt lo hi = r at *
        go_enter Tryz.func91, Tryz.ntmps91
        go_wp2_with fail
        refine (rend_any lo _ hs).mono ?_
        rintro e w1 ⟨rfl, hb1⟩
        have B1 := Lib.hid (boxed_on hb1)
        clear hb1
        have c1 := B1.out.2.1.cell 1
        rw [HL.out]
        go_wp2_with fail
        refine (rend_any hi _ ht).mono ?_
        rintro e w2 ⟨rfl, hb2⟩
        have B2 := Lib.hid (boxed_next B1.out hb2)
        clear hb2 c1
        have c0 := B2.out.2.1.cell 0
        have c1 := B2.out.2.1.cell 1
        rw [HH.out]
        go_wp2_with fail
        go_ret
        exact ⟨by rw [HR.out, HX.out]; rfl, B2.out.1⟩
set_option maxHeartbeats 4000000 in
theorem rhas_any (lo hi k : ByteArray) (w : World) (hs : lo.size ≤ 1000000) (ht : hi.size ≤ 1000000) (hk : k.size ≤ 1000000) :
    Calls Tryz.prog 85 #[.agg #[.string lo, .string hi], .string k] w fun e w' => e = .returned (.bool (hasB lo hi k)) ∧ Below w.heap.size w w' := by
  have HK := Lib.hid (fun W => refKey_any k W hk)
  cases hl : spanR lo hi with
  | false =>
    have HL := Lib.hid hl
    have HR := Lib.hid (show hasB lo hi k = false by simp [hasB, hl])
    clear hl
    go_enter Tryz.func85, Tryz.ntmps85
    go_wp2_with fail
    refine (rright_any lo hi _ hs ht).mono ?_
    rintro e w1 ⟨rfl, hb1⟩
    have B1 := Lib.hid (boxed_on hb1)
    clear hb1
    rw [HL.out]
    go_wp2_with fail
    go_ret
    exact ⟨by rw [HR.out]; rfl, B1.out.1⟩
  | true =>
    have HL := Lib.hid hl
    have HZ := Lib.hid (keyNum_z k)
    have HR0 := Lib.hid (show hasB lo hi k = (isKey k && !(bLt k lo) && lessB k hi) by simp [hasB, hl])
    clear hl
    go_enter Tryz.func85, Tryz.ntmps85
    go_wp2_with fail
    refine (rright_any lo hi _ hs ht).mono ?_
    rintro e w1 ⟨rfl, hb1⟩
    have B1 := Lib.hid (boxed_on hb1)
    clear hb1
    rw [HL.out]
    go_wp2_with fail
    refine (HK.out _).mono ?_
    rintro e w2 ⟨rfl, hb2⟩
    have B2 := Lib.hid (boxed_next B1.out hb2)
    clear hb2
    generalize ((keyNum k : Nat) : Int) = n at *
    have hn := HZ.out
    have c0 : w2.cell? ⟨w.heap.size, 0, none⟩ = some (.string lo) := B2.out.2.1.cell 0
    have c1 : w2.cell? ⟨w.heap.size, 1, none⟩ = some (.string hi) := B2.out.2.1.cell 1
    cases hkk : isKey k with
    | false =>
      rw [hkk] at hn
      have HR := Lib.hid (show hasB lo hi k = false by rw [HR0.out, hkk]; rfl)
      clear hkk c0 c1
      go_wp2_with fail
      go_ret
      exact ⟨by rw [HR.out]; rfl, B2.out.1⟩
    | true =>
      rw [hkk] at hn
      have HR1 := Lib.hid (show hasB lo hi k = (!(bLt k lo) && lessB k hi) by rw [HR0.out, hkk]; rfl)
      clear hkk
      have hb := bLt_list k lo
      cases hkl : bLt k lo with
      | true =>
        rw [hkl] at hb
        have HR := Lib.hid (show hasB lo hi k = false by rw [HR1.out, hkl]; rfl)
        clear hkl
        go_wp2_with fail
        go_ret
        exact ⟨by rw [HR.out]; rfl, B2.out.1⟩
      | false =>
        rw [hkl] at hb
        have HR2 := Lib.hid (show hasB lo hi k = lessB k hi by rw [HR1.out, hkl]; rfl)
        clear hkl
        cases h0 : hi.data.toList.isEmpty with
        | true =>
          have h1 : hi.toList = [] := str_nil h0
          have HX := Lib.hid (show lessB k hi = true by simp [lessB, h0])
          clear h0
          go_wp2_with fail
          go_ret
          exact ⟨by rw [HR2.out, HX.out]; rfl, B2.out.1⟩
        | false =>
          have h1 : ¬ hi.toList = [] := (str_cons h0).1
          have h1' : hi.toList.isEmpty = false := (str_cons h0).2
          have HX := Lib.hid (show lessB k hi = bLt k hi by simp [lessB, h0])
          clear h0
          have hb2 := bLt_list k hi
          generalize bLt k hi = r at *
          go_wp2_with fail
          go_ret
          exact ⟨by rw [HR2.out, HX.out]; rfl, B2.out.1⟩
end Go.Proofs.YthjmfcdhpdiehaaGreatDoor

namespace Go.Proofs.YthjmfcdhpdiehaaGreatDoor
open Go.RowKit Utf
set_option maxRecDepth 100000
set_option linter.unusedSimpArgs false
set_option linter.unusedVariables false

set_option maxHeartbeats 400000 in
theorem upto_any (n m : Int) (w : World) : Calls Tryz.prog 87 #[.int .i64 n, .int .i64 m] w fun e w' => e = .returned (.bool (within n m)) ∧ w' = w := by
  by_cases h1 : 1 ≤ n
  · have h2 : decide (1 ≤ n) = true := decide_eq_true h1
    by_cases h3 : n ≤ m
    · have h4 : decide (n ≤ m) = true := decide_eq_true h3
      have HR := Lib.hid (show within n m = true by simp [within, h1, h3])
      go_enter Tryz.func87, Tryz.ntmps87
      go_wp2_with fail
      go_ret
      exact ⟨by rw [HR.out]; rfl, rfl⟩
    · have h4 : decide (n ≤ m) = false := decide_eq_false h3
      have HR := Lib.hid (show within n m = false by simp [within, h1, h3])
      go_enter Tryz.func87, Tryz.ntmps87
      go_wp2_with fail
      go_ret
      exact ⟨by rw [HR.out]; rfl, rfl⟩
  · have h2 : decide (1 ≤ n) = false := decide_eq_false h1
    have HR := Lib.hid (show within n m = false by simp [within, h1])
    go_enter Tryz.func87, Tryz.ntmps87
    go_wp2_with fail
    go_ret
    exact ⟨by rw [HR.out]; rfl, rfl⟩

set_option maxHeartbeats 400000 in
theorem rkey_any (s : ByteArray) (w : World) (hs : s.size ≤ 1000000) : Calls Tryz.prog 88 #[.string s] w fun e w' => e = .returned (.bool (isKey s)) ∧ Below w.heap.size w w' := by
  have HZ := Lib.hid (keyNum_z s)
  go_enter Tryz.func88, Tryz.ntmps88
  go_wp2_with fail
  refine (refKey_any s _ hs).mono ?_
  rintro e w1 ⟨rfl, hb⟩
  generalize ((keyNum s : Nat) : Int) = n at *
  have hn := HZ.out
  cases hk : isKey s with
  | true =>
    rw [hk] at hn
    have HN := Lib.hid hk
    clear hk
    go_wp2_with fail
    go_ret
    exact ⟨by rw [HN.out]; rfl, hb⟩
  | false =>
    rw [hk] at hn
    have HN := Lib.hid hk
    clear hk
    go_wp2_with fail
    go_ret
    exact ⟨by rw [HN.out]; rfl, hb⟩

/-- How the walk over operations stands. -/
structure RO (w : World) (ao : Option Addr) (ops : List BOp) (W : World) : Prop where
  bel : Below w.heap.size w W
  row : RowAt W ao (ops.flatMap bCells)
theorem RO.next {w W W' : World} {ao : Option Addr} {ops : List BOp} (h : RO w ao ops W) (hb : Below W.heap.size W W') : RO w ao ops W' :=
  ⟨h.bel.trans (hb.mono h.bel.size), h.row.below hb⟩

set_option maxHeartbeats 4000000 in
theorem rright_k1 (kind shard other server client seq : Int) (ao : Option Addr) (no co : Nat) (key : ByteArray) (upto part parts : Int) (ad : Option Addr) (nd cd : Nat) (w : World) (ha : EN.at ⟨kind, shard, other, server, client, seq, ao, no, co, key, upto, part, parts, ad, nd, cd⟩ w) (hk : kind = 1) :
    Calls Tryz.prog 56 #[.agg #[.int .i64 kind, .int .i64 shard, .int .i64 other, .int .i64 server, .int .i64 client, .int .i64 seq, .slice ao no co, .string key, .int .i64 upto, .int .i64 part, .int .i64 parts, .slice ad nd cd]] w (RightPost ⟨kind, shard, other, server, client, seq, ao, no, co, key, upto, part, parts, ad, nd, cd⟩ w) := by
  have HK := Lib.hid hk
  have B0 := Lib.hid (below_alloc w (.cells #[.int .i64 kind, .int .i64 shard, .int .i64 other, .int .i64 server, .int .i64 client, .int .i64 seq, .slice ao no co, .string key, .int .i64 upto, .int .i64 part, .int .i64 parts, .slice ad nd cd] 44))
  have HR := Lib.hid (show ∀ b : Bool, (kind = 2 ∨ kind = 3 ∨ kind = 4 → b = rightE ⟨kind, shard, other, server, client, seq, ao, no, co, key, upto, part, parts, ad, nd, cd⟩) from fun b h => by omega)
  have e1 : (kind == 1) = true := by simp [hk]
  obtain ⟨ops, hno, hol, hok, hrow⟩ := ha.ops
  dsimp only at hno hrow
  subst hno
  have HOK := Lib.hid hok
  have S0 := Lib.hid (show RO w ao ops (w.alloc (.cells #[.int .i64 kind, .int .i64 shard, .int .i64 other, .int .i64 server, .int .i64 client, .int .i64 seq, .slice ao ops.length co, .string key, .int .i64 upto, .int .i64 part, .int .i64 parts, .slice ad nd cd] 44)) from ⟨B0.out, hrow.below B0.out⟩)
  clear hok hrow
  have hky := ha.key
  dsimp only at hky
  clear ha hk
  go_enter Tryz.func56, Tryz.ntmps56
  go_wp2_with fail
  refine (upto_any shard 12 _).mono ?_
  rintro e' w' ⟨rfl, rfl⟩
  cases hq1 : within shard 12
  · have HQ1 := Lib.hid hq1
    clear hq1
    go_wp2_with fail
    refine (upto_any shard 12 _).mono ?_
    rintro e' w' ⟨rfl, rfl⟩
    rw [HQ1.out]
    go_wp2_with fail
    go_ret
    exact ⟨⟨_, rfl, HR.out _⟩, B0.out⟩
  have HQ1 := Lib.hid hq1
  clear hq1
  go_wp2_with fail
  refine (upto_any other 12 _).mono ?_
  rintro e' w' ⟨rfl, rfl⟩
  cases hq2 : within other 12
  · have HQ2 := Lib.hid hq2
    clear hq2
    go_wp2_with fail
    refine (upto_any shard 12 _).mono ?_
    rintro e' w' ⟨rfl, rfl⟩
    rw [HQ1.out]
    go_wp2_with fail
    refine (upto_any client 4 _).mono ?_
    rintro e' w' ⟨rfl, rfl⟩
    cases within client 4
    · go_wp2_with fail
      go_ret
      exact ⟨⟨_, rfl, HR.out _⟩, B0.out⟩
    go_wp2_with fail
    refine (upto_any seq 1073741824 _).mono ?_
    rintro e' w' ⟨rfl, rfl⟩
    cases within seq 1073741824
    · go_wp2_with fail
      go_ret
      exact ⟨⟨_, rfl, HR.out _⟩, B0.out⟩
    go_wp2_with fail
    refine (upto_any (ops.length : Nat) 8 _).mono ?_
    rintro e' w' ⟨rfl, rfl⟩
    cases within ((ops.length : Nat) : Int) 8
    · go_wp2_with fail
      go_ret
      exact ⟨⟨_, rfl, HR.out _⟩, B0.out⟩
    go_wp2_with fail
    go_loopw [52] (fun i wr => ∃ k : Nat, k ≤ ops.length ∧ i = .int .i64 k ∧ Hid (RO w ao ops wr)) (fun i _ => ops.length - (intOf i).toNat)
    case atStart => exact ⟨0, Nat.zero_le _, rfl, S0⟩
    case round =>
      obtain ⟨k, hk, rfl, HB⟩ := hrel
      by_cases hlt : k < ops.length
      · obtain ⟨b', o', rfl, hc⟩ := row_flat bCells 5 (by decide) bCells_len HB.out.row k hlt
        have HRG := Lib.hid (show wr.rangeAt b' (o' + k * 5) (bCells ops[k]) from fun j v hj => by
          have hj5 : j < 5 := by have := (List.getElem?_eq_some_iff.1 hj).1; rw [bCells_len] at this; exact this
          rw [hc j hj5]; exact hj)
        have HSI := Lib.hid (show (Tryz.prog.info? 81).map (·.size) = some (bCells ops[k]).length by rw [bCells_len]; kernel_rfl)
        have HZ1 := Lib.hid (Blk.new wr 81 #[.int .i64 0, .string ⟨#[]⟩, .string ⟨#[]⟩, .string ⟨#[]⟩, .int .i64 0])
        have hox := (HOK.out _ (List.getElem_mem hlt)).1
        clear hc
        generalize ops[k] = x at *
        obtain ⟨okind, okey, value, old, version⟩ := x
        unfold bCells at HRG HSI
        dsimp only at HRG HSI hox
        go_wp2_with (first | (refine wpList_load_mid rfl 81 (.tmp 54) rfl b' (o' + k * 5) rfl _ _ HRG.out Tryz.underlying81 rfl HSI.out ?_) | (refine wpList_store_blk rfl 81 (.tmp 5) (.tmp 55) rfl wr.heap.size #[.int .i64 okind, .string okey, .string value, .string old, .int .i64 version] rfl rfl 81 _ HZ1.out rfl (by kernel_rfl) (by kernel_rfl) ?_))
        refine Lib.hid ?_
        intro w2 hz ho
        have S2 := Lib.hid (HB.out.next ((below_alloc wr _).trans (ho.to_below (B := wr.heap.size) (by simp) (fun q hq e => by omega))))
        have HB2 := Lib.hid hz
        have d1 : w2.cell? ⟨wr.heap.size, 1, none⟩ = some (.string okey) := hz.cell 1
        clear hz ho HZ1 HRG
        go_wp2_with fail
        refine (rkey_any okey _ hox).mono ?_
        rintro e' w3 ⟨rfl, hb3⟩
        have S3 := Lib.hid (S2.out.next hb3)
        have HB3 := Lib.hid (HB2.out.below hb3 HB2.out.lt)
        have c0 : w3.cell? ⟨wr.heap.size, 0, none⟩ = some (.int .i64 okind) := HB3.out.cell 0
        have c2 : w3.cell? ⟨wr.heap.size, 2, none⟩ = some (.string value) := HB3.out.cell 2
        have c3 : w3.cell? ⟨wr.heap.size, 3, none⟩ = some (.string old) := HB3.out.cell 3
        have c4 : w3.cell? ⟨wr.heap.size, 4, none⟩ = some (.int .i64 version) := HB3.out.cell 4
        clear hb3 d1
        generalize isKey okey = q at *
        by_cases k1 : okind = 1
        · have g1 : (okind == 1) = true := by simp [k1]
          clear k1
          cases q <;> go_wp2_with fail
          all_goals first | (go_ret; exact ⟨⟨_, rfl, HR.out _⟩, S3.out.bel⟩) | (go_roundw; (case rel => exact ⟨k + 1, by omega, by go_num, S3⟩); (case measure => simp [intOf]; omega))
        have g1 : (okind == 1) = false := by simp [k1]
        by_cases k2 : okind = 2
        · have g2 : (okind == 2) = true := by simp [k2]
          clear k1 k2
          cases q <;> go_wp2_with fail
          all_goals first | (go_ret; exact ⟨⟨_, rfl, HR.out _⟩, S3.out.bel⟩) | (go_roundw; (case rel => exact ⟨k + 1, by omega, by go_num, S3⟩); (case measure => simp [intOf]; omega))
        have g2 : (okind == 2) = false := by simp [k2]
        by_cases k3 : okind = 3
        · have g3 : (okind == 3) = true := by simp [k3]
          clear k1 k2 k3
          cases q
          · go_wp2_with fail
            all_goals first | (go_ret; exact ⟨⟨_, rfl, HR.out _⟩, S3.out.bel⟩) | (go_roundw; (case rel => exact ⟨k + 1, by omega, by go_num, S3⟩); (case measure => simp [intOf]; omega))
          by_cases q : (value.size : Int) ≤ 64
          · have q2 : decide ((value.size : Int) ≤ 64) = true := decide_eq_true q
            go_wp2_with fail
            all_goals first | (go_ret; exact ⟨⟨_, rfl, HR.out _⟩, S3.out.bel⟩) | (go_roundw; (case rel => exact ⟨k + 1, by omega, by go_num, S3⟩); (case measure => simp [intOf]; omega))
          have q2 : decide ((value.size : Int) ≤ 64) = false := decide_eq_false q
          go_wp2_with fail
          all_goals first | (go_ret; exact ⟨⟨_, rfl, HR.out _⟩, S3.out.bel⟩) | (go_roundw; (case rel => exact ⟨k + 1, by omega, by go_num, S3⟩); (case measure => simp [intOf]; omega))
        have g3 : (okind == 3) = false := by simp [k3]
        by_cases k4 : okind = 4
        · have g4 : (okind == 4) = true := by simp [k4]
          clear k1 k2 k3 k4
          cases q
          · go_wp2_with fail
            all_goals first | (go_ret; exact ⟨⟨_, rfl, HR.out _⟩, S3.out.bel⟩) | (go_roundw; (case rel => exact ⟨k + 1, by omega, by go_num, S3⟩); (case measure => simp [intOf]; omega))
          by_cases q : 0 ≤ version
          · have q2 : decide (0 ≤ version) = true := decide_eq_true q
            go_wp2_with fail
            all_goals first | (go_ret; exact ⟨⟨_, rfl, HR.out _⟩, S3.out.bel⟩) | (go_roundw; (case rel => exact ⟨k + 1, by omega, by go_num, S3⟩); (case measure => simp [intOf]; omega))
          have q2 : decide (0 ≤ version) = false := decide_eq_false q
          go_wp2_with fail
          all_goals first | (go_ret; exact ⟨⟨_, rfl, HR.out _⟩, S3.out.bel⟩) | (go_roundw; (case rel => exact ⟨k + 1, by omega, by go_num, S3⟩); (case measure => simp [intOf]; omega))
        have g4 : (okind == 4) = false := by simp [k4]
        clear k1 k2 k3 k4
        go_wp2_with fail
        all_goals first | (go_ret; exact ⟨⟨_, rfl, HR.out _⟩, S3.out.bel⟩) | (go_roundw; (case rel => exact ⟨k + 1, by omega, by go_num, S3⟩); (case measure => simp [intOf]; omega))
      · obtain rfl : k = ops.length := by omega
        go_wp2_with fail
        go_ret
        exact ⟨⟨_, rfl, HR.out _⟩, HB.out.bel⟩
  have HQ2 := Lib.hid hq2
  clear hq2
  by_cases hso : shard = other
  · have HS := Lib.hid hso
    have h1 : (shard == other) = true := by simp [hso]
    have h2 : (shard != other) = false := by simp [hso]
    clear hso
    go_wp2_with fail
    refine (upto_any shard 12 _).mono ?_
    rintro e' w' ⟨rfl, rfl⟩
    rw [HQ1.out]
    go_wp2_with fail
    refine (upto_any client 4 _).mono ?_
    rintro e' w' ⟨rfl, rfl⟩
    cases within client 4
    · go_wp2_with fail
      go_ret
      exact ⟨⟨_, rfl, HR.out _⟩, B0.out⟩
    go_wp2_with fail
    refine (upto_any seq 1073741824 _).mono ?_
    rintro e' w' ⟨rfl, rfl⟩
    cases within seq 1073741824
    · go_wp2_with fail
      go_ret
      exact ⟨⟨_, rfl, HR.out _⟩, B0.out⟩
    go_wp2_with fail
    refine (upto_any (ops.length : Nat) 8 _).mono ?_
    rintro e' w' ⟨rfl, rfl⟩
    cases within ((ops.length : Nat) : Int) 8
    · go_wp2_with fail
      go_ret
      exact ⟨⟨_, rfl, HR.out _⟩, B0.out⟩
    go_wp2_with fail
    go_loopw [52] (fun i wr => ∃ k : Nat, k ≤ ops.length ∧ i = .int .i64 k ∧ Hid (RO w ao ops wr)) (fun i _ => ops.length - (intOf i).toNat)
    case atStart => exact ⟨0, Nat.zero_le _, rfl, S0⟩
    case round =>
      obtain ⟨k, hk, rfl, HB⟩ := hrel
      by_cases hlt : k < ops.length
      · obtain ⟨b', o', rfl, hc⟩ := row_flat bCells 5 (by decide) bCells_len HB.out.row k hlt
        have HRG := Lib.hid (show wr.rangeAt b' (o' + k * 5) (bCells ops[k]) from fun j v hj => by
          have hj5 : j < 5 := by have := (List.getElem?_eq_some_iff.1 hj).1; rw [bCells_len] at this; exact this
          rw [hc j hj5]; exact hj)
        have HSI := Lib.hid (show (Tryz.prog.info? 81).map (·.size) = some (bCells ops[k]).length by rw [bCells_len]; kernel_rfl)
        have HZ1 := Lib.hid (Blk.new wr 81 #[.int .i64 0, .string ⟨#[]⟩, .string ⟨#[]⟩, .string ⟨#[]⟩, .int .i64 0])
        have hox := (HOK.out _ (List.getElem_mem hlt)).1
        clear hc
        generalize ops[k] = x at *
        obtain ⟨okind, okey, value, old, version⟩ := x
        unfold bCells at HRG HSI
        dsimp only at HRG HSI hox
        go_wp2_with (first | (refine wpList_load_mid rfl 81 (.tmp 54) rfl b' (o' + k * 5) rfl _ _ HRG.out Tryz.underlying81 rfl HSI.out ?_) | (refine wpList_store_blk rfl 81 (.tmp 5) (.tmp 55) rfl wr.heap.size #[.int .i64 okind, .string okey, .string value, .string old, .int .i64 version] rfl rfl 81 _ HZ1.out rfl (by kernel_rfl) (by kernel_rfl) ?_))
        refine Lib.hid ?_
        intro w2 hz ho
        have S2 := Lib.hid (HB.out.next ((below_alloc wr _).trans (ho.to_below (B := wr.heap.size) (by simp) (fun q hq e => by omega))))
        have HB2 := Lib.hid hz
        have d1 : w2.cell? ⟨wr.heap.size, 1, none⟩ = some (.string okey) := hz.cell 1
        clear hz ho HZ1 HRG
        go_wp2_with fail
        refine (rkey_any okey _ hox).mono ?_
        rintro e' w3 ⟨rfl, hb3⟩
        have S3 := Lib.hid (S2.out.next hb3)
        have HB3 := Lib.hid (HB2.out.below hb3 HB2.out.lt)
        have c0 : w3.cell? ⟨wr.heap.size, 0, none⟩ = some (.int .i64 okind) := HB3.out.cell 0
        have c2 : w3.cell? ⟨wr.heap.size, 2, none⟩ = some (.string value) := HB3.out.cell 2
        have c3 : w3.cell? ⟨wr.heap.size, 3, none⟩ = some (.string old) := HB3.out.cell 3
        have c4 : w3.cell? ⟨wr.heap.size, 4, none⟩ = some (.int .i64 version) := HB3.out.cell 4
        clear hb3 d1
        generalize isKey okey = q at *
        by_cases k1 : okind = 1
        · have g1 : (okind == 1) = true := by simp [k1]
          clear k1
          cases q <;> go_wp2_with fail
          all_goals first | (go_ret; exact ⟨⟨_, rfl, HR.out _⟩, S3.out.bel⟩) | (go_roundw; (case rel => exact ⟨k + 1, by omega, by go_num, S3⟩); (case measure => simp [intOf]; omega))
        have g1 : (okind == 1) = false := by simp [k1]
        by_cases k2 : okind = 2
        · have g2 : (okind == 2) = true := by simp [k2]
          clear k1 k2
          cases q <;> go_wp2_with fail
          all_goals first | (go_ret; exact ⟨⟨_, rfl, HR.out _⟩, S3.out.bel⟩) | (go_roundw; (case rel => exact ⟨k + 1, by omega, by go_num, S3⟩); (case measure => simp [intOf]; omega))
        have g2 : (okind == 2) = false := by simp [k2]
        by_cases k3 : okind = 3
        · have g3 : (okind == 3) = true := by simp [k3]
          clear k1 k2 k3
          cases q
          · go_wp2_with fail
            all_goals first | (go_ret; exact ⟨⟨_, rfl, HR.out _⟩, S3.out.bel⟩) | (go_roundw; (case rel => exact ⟨k + 1, by omega, by go_num, S3⟩); (case measure => simp [intOf]; omega))
          by_cases q : (value.size : Int) ≤ 64
          · have q2 : decide ((value.size : Int) ≤ 64) = true := decide_eq_true q
            go_wp2_with fail
            all_goals first | (go_ret; exact ⟨⟨_, rfl, HR.out _⟩, S3.out.bel⟩) | (go_roundw; (case rel => exact ⟨k + 1, by omega, by go_num, S3⟩); (case measure => simp [intOf]; omega))
          have q2 : decide ((value.size : Int) ≤ 64) = false := decide_eq_false q
          go_wp2_with fail
          all_goals first | (go_ret; exact ⟨⟨_, rfl, HR.out _⟩, S3.out.bel⟩) | (go_roundw; (case rel => exact ⟨k + 1, by omega, by go_num, S3⟩); (case measure => simp [intOf]; omega))
        have g3 : (okind == 3) = false := by simp [k3]
        by_cases k4 : okind = 4
        · have g4 : (okind == 4) = true := by simp [k4]
          clear k1 k2 k3 k4
          cases q
          · go_wp2_with fail
            all_goals first | (go_ret; exact ⟨⟨_, rfl, HR.out _⟩, S3.out.bel⟩) | (go_roundw; (case rel => exact ⟨k + 1, by omega, by go_num, S3⟩); (case measure => simp [intOf]; omega))
          by_cases q : 0 ≤ version
          · have q2 : decide (0 ≤ version) = true := decide_eq_true q
            go_wp2_with fail
            all_goals first | (go_ret; exact ⟨⟨_, rfl, HR.out _⟩, S3.out.bel⟩) | (go_roundw; (case rel => exact ⟨k + 1, by omega, by go_num, S3⟩); (case measure => simp [intOf]; omega))
          have q2 : decide (0 ≤ version) = false := decide_eq_false q
          go_wp2_with fail
          all_goals first | (go_ret; exact ⟨⟨_, rfl, HR.out _⟩, S3.out.bel⟩) | (go_roundw; (case rel => exact ⟨k + 1, by omega, by go_num, S3⟩); (case measure => simp [intOf]; omega))
        have g4 : (okind == 4) = false := by simp [k4]
        clear k1 k2 k3 k4
        go_wp2_with fail
        all_goals first | (go_ret; exact ⟨⟨_, rfl, HR.out _⟩, S3.out.bel⟩) | (go_roundw; (case rel => exact ⟨k + 1, by omega, by go_num, S3⟩); (case measure => simp [intOf]; omega))
      · obtain rfl : k = ops.length := by omega
        go_wp2_with fail
        go_ret
        exact ⟨⟨_, rfl, HR.out _⟩, HB.out.bel⟩
  have HS := Lib.hid hso
  have h1 : (shard == other) = false := by simp [hso]
  have h2 : (shard != other) = true := by simp [hso]
  clear hso
  go_wp2_with fail
  refine (upto_any shard 12 _).mono ?_
  rintro e' w' ⟨rfl, rfl⟩
  rw [HQ1.out]
  go_wp2_with fail
  refine (upto_any client 4 _).mono ?_
  rintro e' w' ⟨rfl, rfl⟩
  cases within client 4
  · go_wp2_with fail
    go_ret
    exact ⟨⟨_, rfl, HR.out _⟩, B0.out⟩
  go_wp2_with fail
  refine (upto_any seq 1073741824 _).mono ?_
  rintro e' w' ⟨rfl, rfl⟩
  cases within seq 1073741824
  · go_wp2_with fail
    go_ret
    exact ⟨⟨_, rfl, HR.out _⟩, B0.out⟩
  go_wp2_with fail
  refine (upto_any (ops.length : Nat) 8 _).mono ?_
  rintro e' w' ⟨rfl, rfl⟩
  cases within ((ops.length : Nat) : Int) 8
  · go_wp2_with fail
    go_ret
    exact ⟨⟨_, rfl, HR.out _⟩, B0.out⟩
  go_wp2_with fail
  go_loopw [52] (fun i wr => ∃ k : Nat, k ≤ ops.length ∧ i = .int .i64 k ∧ Hid (RO w ao ops wr)) (fun i _ => ops.length - (intOf i).toNat)
  case atStart => exact ⟨0, Nat.zero_le _, rfl, S0⟩
  case round =>
    obtain ⟨k, hk, rfl, HB⟩ := hrel
    by_cases hlt : k < ops.length
    · obtain ⟨b', o', rfl, hc⟩ := row_flat bCells 5 (by decide) bCells_len HB.out.row k hlt
      have HRG := Lib.hid (show wr.rangeAt b' (o' + k * 5) (bCells ops[k]) from fun j v hj => by
        have hj5 : j < 5 := by have := (List.getElem?_eq_some_iff.1 hj).1; rw [bCells_len] at this; exact this
        rw [hc j hj5]; exact hj)
      have HSI := Lib.hid (show (Tryz.prog.info? 81).map (·.size) = some (bCells ops[k]).length by rw [bCells_len]; kernel_rfl)
      have HZ1 := Lib.hid (Blk.new wr 81 #[.int .i64 0, .string ⟨#[]⟩, .string ⟨#[]⟩, .string ⟨#[]⟩, .int .i64 0])
      have hox := (HOK.out _ (List.getElem_mem hlt)).1
      clear hc
      generalize ops[k] = x at *
      obtain ⟨okind, okey, value, old, version⟩ := x
      unfold bCells at HRG HSI
      dsimp only at HRG HSI hox
      go_wp2_with (first | (refine wpList_load_mid rfl 81 (.tmp 54) rfl b' (o' + k * 5) rfl _ _ HRG.out Tryz.underlying81 rfl HSI.out ?_) | (refine wpList_store_blk rfl 81 (.tmp 5) (.tmp 55) rfl wr.heap.size #[.int .i64 okind, .string okey, .string value, .string old, .int .i64 version] rfl rfl 81 _ HZ1.out rfl (by kernel_rfl) (by kernel_rfl) ?_))
      refine Lib.hid ?_
      intro w2 hz ho
      have S2 := Lib.hid (HB.out.next ((below_alloc wr _).trans (ho.to_below (B := wr.heap.size) (by simp) (fun q hq e => by omega))))
      have HB2 := Lib.hid hz
      have d1 : w2.cell? ⟨wr.heap.size, 1, none⟩ = some (.string okey) := hz.cell 1
      clear hz ho HZ1 HRG
      go_wp2_with fail
      refine (rkey_any okey _ hox).mono ?_
      rintro e' w3 ⟨rfl, hb3⟩
      have S3 := Lib.hid (S2.out.next hb3)
      have HB3 := Lib.hid (HB2.out.below hb3 HB2.out.lt)
      have c0 : w3.cell? ⟨wr.heap.size, 0, none⟩ = some (.int .i64 okind) := HB3.out.cell 0
      have c2 : w3.cell? ⟨wr.heap.size, 2, none⟩ = some (.string value) := HB3.out.cell 2
      have c3 : w3.cell? ⟨wr.heap.size, 3, none⟩ = some (.string old) := HB3.out.cell 3
      have c4 : w3.cell? ⟨wr.heap.size, 4, none⟩ = some (.int .i64 version) := HB3.out.cell 4
      clear hb3 d1
      generalize isKey okey = q at *
      by_cases k1 : okind = 1
      · have g1 : (okind == 1) = true := by simp [k1]
        clear k1
        cases q <;> go_wp2_with fail
        all_goals first | (go_ret; exact ⟨⟨_, rfl, HR.out _⟩, S3.out.bel⟩) | (go_roundw; (case rel => exact ⟨k + 1, by omega, by go_num, S3⟩); (case measure => simp [intOf]; omega))
      have g1 : (okind == 1) = false := by simp [k1]
      by_cases k2 : okind = 2
      · have g2 : (okind == 2) = true := by simp [k2]
        clear k1 k2
        cases q <;> go_wp2_with fail
        all_goals first | (go_ret; exact ⟨⟨_, rfl, HR.out _⟩, S3.out.bel⟩) | (go_roundw; (case rel => exact ⟨k + 1, by omega, by go_num, S3⟩); (case measure => simp [intOf]; omega))
      have g2 : (okind == 2) = false := by simp [k2]
      by_cases k3 : okind = 3
      · have g3 : (okind == 3) = true := by simp [k3]
        clear k1 k2 k3
        cases q
        · go_wp2_with fail
          all_goals first | (go_ret; exact ⟨⟨_, rfl, HR.out _⟩, S3.out.bel⟩) | (go_roundw; (case rel => exact ⟨k + 1, by omega, by go_num, S3⟩); (case measure => simp [intOf]; omega))
        by_cases q : (value.size : Int) ≤ 64
        · have q2 : decide ((value.size : Int) ≤ 64) = true := decide_eq_true q
          go_wp2_with fail
          all_goals first | (go_ret; exact ⟨⟨_, rfl, HR.out _⟩, S3.out.bel⟩) | (go_roundw; (case rel => exact ⟨k + 1, by omega, by go_num, S3⟩); (case measure => simp [intOf]; omega))
        have q2 : decide ((value.size : Int) ≤ 64) = false := decide_eq_false q
        go_wp2_with fail
        all_goals first | (go_ret; exact ⟨⟨_, rfl, HR.out _⟩, S3.out.bel⟩) | (go_roundw; (case rel => exact ⟨k + 1, by omega, by go_num, S3⟩); (case measure => simp [intOf]; omega))
      have g3 : (okind == 3) = false := by simp [k3]
      by_cases k4 : okind = 4
      · have g4 : (okind == 4) = true := by simp [k4]
        clear k1 k2 k3 k4
        cases q
        · go_wp2_with fail
          all_goals first | (go_ret; exact ⟨⟨_, rfl, HR.out _⟩, S3.out.bel⟩) | (go_roundw; (case rel => exact ⟨k + 1, by omega, by go_num, S3⟩); (case measure => simp [intOf]; omega))
        by_cases q : 0 ≤ version
        · have q2 : decide (0 ≤ version) = true := decide_eq_true q
          go_wp2_with fail
          all_goals first | (go_ret; exact ⟨⟨_, rfl, HR.out _⟩, S3.out.bel⟩) | (go_roundw; (case rel => exact ⟨k + 1, by omega, by go_num, S3⟩); (case measure => simp [intOf]; omega))
        have q2 : decide (0 ≤ version) = false := decide_eq_false q
        go_wp2_with fail
        all_goals first | (go_ret; exact ⟨⟨_, rfl, HR.out _⟩, S3.out.bel⟩) | (go_roundw; (case rel => exact ⟨k + 1, by omega, by go_num, S3⟩); (case measure => simp [intOf]; omega))
      have g4 : (okind == 4) = false := by simp [k4]
      clear k1 k2 k3 k4
      go_wp2_with fail
      all_goals first | (go_ret; exact ⟨⟨_, rfl, HR.out _⟩, S3.out.bel⟩) | (go_roundw; (case rel => exact ⟨k + 1, by omega, by go_num, S3⟩); (case measure => simp [intOf]; omega))
    · obtain rfl : k = ops.length := by omega
      go_wp2_with fail
      go_ret
      exact ⟨⟨_, rfl, HR.out _⟩, HB.out.bel⟩

set_option maxHeartbeats 4000000 in
theorem rright_k2 (kind shard other server client seq : Int) (ao : Option Addr) (no co : Nat) (key : ByteArray) (upto part parts : Int) (ad : Option Addr) (nd cd : Nat) (w : World) (ha : EN.at ⟨kind, shard, other, server, client, seq, ao, no, co, key, upto, part, parts, ad, nd, cd⟩ w) (hk : kind = 2) :
    Calls Tryz.prog 56 #[.agg #[.int .i64 kind, .int .i64 shard, .int .i64 other, .int .i64 server, .int .i64 client, .int .i64 seq, .slice ao no co, .string key, .int .i64 upto, .int .i64 part, .int .i64 parts, .slice ad nd cd]] w (RightPost ⟨kind, shard, other, server, client, seq, ao, no, co, key, upto, part, parts, ad, nd, cd⟩ w) := by
  have HK := Lib.hid hk
  have B0 := Lib.hid (below_alloc w (.cells #[.int .i64 kind, .int .i64 shard, .int .i64 other, .int .i64 server, .int .i64 client, .int .i64 seq, .slice ao no co, .string key, .int .i64 upto, .int .i64 part, .int .i64 parts, .slice ad nd cd] 44))
  have HR := Lib.hid (show rightE ⟨kind, shard, other, server, client, seq, ao, no, co, key, upto, part, parts, ad, nd, cd⟩ = (within shard 12 && within server 4) by simp [rightE, hk])
  have e1 : (kind == 1) = false := by simp [hk]
  have e2 : (kind == 2) = true := by simp [hk]
  have hky := ha.key
  dsimp only at hky
  clear ha hk
  go_enter Tryz.func56, Tryz.ntmps56
  go_wp2_with fail
  refine (upto_any shard 12 _).mono ?_
  rintro e' w' ⟨rfl, rfl⟩
  cases hq1 : within shard 12
  · have HQ1 := Lib.hid hq1
    clear hq1
    go_wp2_with fail
    refine (upto_any shard 12 _).mono ?_
    rintro e' w' ⟨rfl, rfl⟩
    rw [HQ1.out]
    go_wp2_with fail
    go_ret
    exact ⟨⟨_, rfl, fun _ => by simp [HR.out, HQ1.out]⟩, B0.out⟩
  have HQ1 := Lib.hid hq1
  clear hq1
  go_wp2_with fail
  refine (upto_any other 12 _).mono ?_
  rintro e' w' ⟨rfl, rfl⟩
  cases hq2 : within other 12
  · have HQ2 := Lib.hid hq2
    clear hq2
    go_wp2_with fail
    refine (upto_any shard 12 _).mono ?_
    rintro e' w' ⟨rfl, rfl⟩
    rw [HQ1.out]
    go_wp2_with fail
    refine (upto_any server 4 _).mono ?_
    rintro e' w' ⟨rfl, rfl⟩
    go_wp2_with fail
    go_ret
    exact ⟨⟨_, rfl, fun _ => by simp [HR.out, HQ1.out]; try rfl⟩, B0.out⟩
  have HQ2 := Lib.hid hq2
  clear hq2
  by_cases hso : shard = other
  · have HS := Lib.hid hso
    have h1 : (shard == other) = true := by simp [hso]
    have h2 : (shard != other) = false := by simp [hso]
    clear hso
    go_wp2_with fail
    refine (upto_any shard 12 _).mono ?_
    rintro e' w' ⟨rfl, rfl⟩
    rw [HQ1.out]
    go_wp2_with fail
    refine (upto_any server 4 _).mono ?_
    rintro e' w' ⟨rfl, rfl⟩
    go_wp2_with fail
    go_ret
    exact ⟨⟨_, rfl, fun _ => by simp [HR.out, HQ1.out]; try rfl⟩, B0.out⟩
  have HS := Lib.hid hso
  have h1 : (shard == other) = false := by simp [hso]
  have h2 : (shard != other) = true := by simp [hso]
  clear hso
  go_wp2_with fail
  refine (upto_any shard 12 _).mono ?_
  rintro e' w' ⟨rfl, rfl⟩
  rw [HQ1.out]
  go_wp2_with fail
  refine (upto_any server 4 _).mono ?_
  rintro e' w' ⟨rfl, rfl⟩
  go_wp2_with fail
  go_ret
  exact ⟨⟨_, rfl, fun _ => by simp [HR.out, HQ1.out]; try rfl⟩, B0.out⟩

set_option maxHeartbeats 4000000 in
theorem rright_k3 (kind shard other server client seq : Int) (ao : Option Addr) (no co : Nat) (key : ByteArray) (upto part parts : Int) (ad : Option Addr) (nd cd : Nat) (w : World) (ha : EN.at ⟨kind, shard, other, server, client, seq, ao, no, co, key, upto, part, parts, ad, nd, cd⟩ w) (hk : kind = 3) :
    Calls Tryz.prog 56 #[.agg #[.int .i64 kind, .int .i64 shard, .int .i64 other, .int .i64 server, .int .i64 client, .int .i64 seq, .slice ao no co, .string key, .int .i64 upto, .int .i64 part, .int .i64 parts, .slice ad nd cd]] w (RightPost ⟨kind, shard, other, server, client, seq, ao, no, co, key, upto, part, parts, ad, nd, cd⟩ w) := by
  have HK := Lib.hid hk
  have B0 := Lib.hid (below_alloc w (.cells #[.int .i64 kind, .int .i64 shard, .int .i64 other, .int .i64 server, .int .i64 client, .int .i64 seq, .slice ao no co, .string key, .int .i64 upto, .int .i64 part, .int .i64 parts, .slice ad nd cd] 44))
  have HR := Lib.hid (show rightE ⟨kind, shard, other, server, client, seq, ao, no, co, key, upto, part, parts, ad, nd, cd⟩ = (within shard 12 && within other 12 && decide (shard ≠ other) && within server 4 && isKey key) by simp [rightE, twoR, hk])
  have e1 : (kind == 1) = false := by simp [hk]
  have e2 : (kind == 2) = false := by simp [hk]
  have e3 : (kind == 3) = true := by simp [hk]
  have hky := ha.key
  dsimp only at hky
  clear ha hk
  go_enter Tryz.func56, Tryz.ntmps56
  go_wp2_with fail
  refine (upto_any shard 12 _).mono ?_
  rintro e' w' ⟨rfl, rfl⟩
  cases hq1 : within shard 12
  · have HQ1 := Lib.hid hq1
    clear hq1
    go_wp2_with fail
    go_ret
    exact ⟨⟨_, rfl, fun _ => by rw [HR.out]; simp [HQ1.out]⟩, B0.out⟩
  have HQ1 := Lib.hid hq1
  clear hq1
  go_wp2_with fail
  refine (upto_any other 12 _).mono ?_
  rintro e' w' ⟨rfl, rfl⟩
  cases hq2 : within other 12
  · have HQ2 := Lib.hid hq2
    clear hq2
    go_wp2_with fail
    go_ret
    exact ⟨⟨_, rfl, fun _ => by rw [HR.out]; simp [HQ1.out, HQ2.out]⟩, B0.out⟩
  have HQ2 := Lib.hid hq2
  clear hq2
  by_cases hso : shard = other
  · have HS := Lib.hid hso
    have h1 : (shard == other) = true := by simp [hso]
    have h2 : (shard != other) = false := by simp [hso]
    clear hso
    go_wp2_with fail
    go_ret
    exact ⟨⟨_, rfl, fun _ => by rw [HR.out]; simp [HQ1.out, HQ2.out, show decide (shard ≠ other) = false from decide_eq_false (fun h => h HS.out)]⟩, B0.out⟩
  have HS := Lib.hid hso
  have h1 : (shard == other) = false := by simp [hso]
  have h2 : (shard != other) = true := by simp [hso]
  clear hso
  go_wp2_with fail
  refine (upto_any server 4 _).mono ?_
  rintro e' w' ⟨rfl, rfl⟩
  cases hq3 : within server 4
  · have HQ3 := Lib.hid hq3
    clear hq3
    go_wp2_with fail
    go_ret
    exact ⟨⟨_, rfl, fun _ => by simp [HR.out, HQ3.out]⟩, B0.out⟩
  have HQ3 := Lib.hid hq3
  clear hq3
  go_wp2_with fail
  refine (rkey_any key _ hky).mono ?_
  rintro e' w1 ⟨rfl, hb1⟩
  have B1 := Lib.hid (B0.out.trans (hb1.mono B0.out.size))
  clear hb1
  go_wp2_with fail
  go_ret
  exact ⟨⟨_, rfl, fun _ => by rw [HR.out]; simp [HQ3.out, HQ1.out, HQ2.out, show decide (shard ≠ other) = true from decide_eq_true HS.out]; try rfl⟩, B1.out⟩

set_option maxHeartbeats 4000000 in
theorem rright_k4 (kind shard other server client seq : Int) (ao : Option Addr) (no co : Nat) (key : ByteArray) (upto part parts : Int) (ad : Option Addr) (nd cd : Nat) (w : World) (ha : EN.at ⟨kind, shard, other, server, client, seq, ao, no, co, key, upto, part, parts, ad, nd, cd⟩ w) (hk : kind = 4) :
    Calls Tryz.prog 56 #[.agg #[.int .i64 kind, .int .i64 shard, .int .i64 other, .int .i64 server, .int .i64 client, .int .i64 seq, .slice ao no co, .string key, .int .i64 upto, .int .i64 part, .int .i64 parts, .slice ad nd cd]] w (RightPost ⟨kind, shard, other, server, client, seq, ao, no, co, key, upto, part, parts, ad, nd, cd⟩ w) := by
  have HK := Lib.hid hk
  have B0 := Lib.hid (below_alloc w (.cells #[.int .i64 kind, .int .i64 shard, .int .i64 other, .int .i64 server, .int .i64 client, .int .i64 seq, .slice ao no co, .string key, .int .i64 upto, .int .i64 part, .int .i64 parts, .slice ad nd cd] 44))
  have HR := Lib.hid (show rightE ⟨kind, shard, other, server, client, seq, ao, no, co, key, upto, part, parts, ad, nd, cd⟩ = (within shard 12 && within other 12 && decide (shard ≠ other)) by simp [rightE, twoR, hk])
  have e1 : (kind == 1) = false := by simp [hk]
  have e2 : (kind == 2) = false := by simp [hk]
  have e3 : (kind == 3) = false := by simp [hk]
  have e4 : (kind == 4) = true := by simp [hk]
  have hky := ha.key
  dsimp only at hky
  clear ha hk
  go_enter Tryz.func56, Tryz.ntmps56
  go_wp2_with fail
  refine (upto_any shard 12 _).mono ?_
  rintro e' w' ⟨rfl, rfl⟩
  cases hq1 : within shard 12
  · have HQ1 := Lib.hid hq1
    clear hq1
    go_wp2_with fail
    go_ret
    exact ⟨⟨_, rfl, fun _ => by rw [HR.out]; simp [HQ1.out]⟩, B0.out⟩
  have HQ1 := Lib.hid hq1
  clear hq1
  go_wp2_with fail
  refine (upto_any other 12 _).mono ?_
  rintro e' w' ⟨rfl, rfl⟩
  cases hq2 : within other 12
  · have HQ2 := Lib.hid hq2
    clear hq2
    go_wp2_with fail
    go_ret
    exact ⟨⟨_, rfl, fun _ => by rw [HR.out]; simp [HQ1.out, HQ2.out]⟩, B0.out⟩
  have HQ2 := Lib.hid hq2
  clear hq2
  by_cases hso : shard = other
  · have HS := Lib.hid hso
    have h1 : (shard == other) = true := by simp [hso]
    have h2 : (shard != other) = false := by simp [hso]
    clear hso
    go_wp2_with fail
    go_ret
    exact ⟨⟨_, rfl, fun _ => by rw [HR.out]; simp [HQ1.out, HQ2.out, show decide (shard ≠ other) = false from decide_eq_false (fun h => h HS.out)]⟩, B0.out⟩
  have HS := Lib.hid hso
  have h1 : (shard == other) = false := by simp [hso]
  have h2 : (shard != other) = true := by simp [hso]
  clear hso
  go_wp2_with fail
  go_ret
  exact ⟨⟨_, rfl, fun _ => by rw [HR.out]; simp [HQ1.out, HQ2.out, show decide (shard ≠ other) = true from decide_eq_true HS.out]⟩, B0.out⟩

set_option maxHeartbeats 4000000 in
theorem rright_k5 (kind shard other server client seq : Int) (ao : Option Addr) (no co : Nat) (key : ByteArray) (upto part parts : Int) (ad : Option Addr) (nd cd : Nat) (w : World) (ha : EN.at ⟨kind, shard, other, server, client, seq, ao, no, co, key, upto, part, parts, ad, nd, cd⟩ w) (hk : kind = 5) :
    Calls Tryz.prog 56 #[.agg #[.int .i64 kind, .int .i64 shard, .int .i64 other, .int .i64 server, .int .i64 client, .int .i64 seq, .slice ao no co, .string key, .int .i64 upto, .int .i64 part, .int .i64 parts, .slice ad nd cd]] w (RightPost ⟨kind, shard, other, server, client, seq, ao, no, co, key, upto, part, parts, ad, nd, cd⟩ w) := by
  have HK := Lib.hid hk
  have B0 := Lib.hid (below_alloc w (.cells #[.int .i64 kind, .int .i64 shard, .int .i64 other, .int .i64 server, .int .i64 client, .int .i64 seq, .slice ao no co, .string key, .int .i64 upto, .int .i64 part, .int .i64 parts, .slice ad nd cd] 44))
  have HR := Lib.hid (show ∀ b : Bool, (kind = 2 ∨ kind = 3 ∨ kind = 4 → b = rightE ⟨kind, shard, other, server, client, seq, ao, no, co, key, upto, part, parts, ad, nd, cd⟩) from fun b h => by omega)
  have e1 : (kind == 1) = false := by simp [hk]
  have e2 : (kind == 2) = false := by simp [hk]
  have e3 : (kind == 3) = false := by simp [hk]
  have e4 : (kind == 4) = false := by simp [hk]
  have e5 : (kind == 5) = true := by simp [hk]
  have hky := ha.key
  dsimp only at hky
  clear ha hk
  go_enter Tryz.func56, Tryz.ntmps56
  go_wp2_with fail
  refine (upto_any shard 12 _).mono ?_
  rintro e' w' ⟨rfl, rfl⟩
  cases hq1 : within shard 12
  · have HQ1 := Lib.hid hq1
    clear hq1
    go_wp2_with fail
    all_goals try (refine (upto_any parts 64 _).mono ?_; rintro e' w' ⟨rfl, rfl⟩; cases within parts 64 <;> go_wp2_with fail)
    all_goals (go_ret; exact ⟨⟨_, rfl, HR.out _⟩, B0.out⟩)
  have HQ1 := Lib.hid hq1
  clear hq1
  go_wp2_with fail
  refine (upto_any other 12 _).mono ?_
  rintro e' w' ⟨rfl, rfl⟩
  cases hq2 : within other 12
  · have HQ2 := Lib.hid hq2
    clear hq2
    go_wp2_with fail
    all_goals try (refine (upto_any parts 64 _).mono ?_; rintro e' w' ⟨rfl, rfl⟩; cases within parts 64 <;> go_wp2_with fail)
    all_goals (go_ret; exact ⟨⟨_, rfl, HR.out _⟩, B0.out⟩)
  have HQ2 := Lib.hid hq2
  clear hq2
  by_cases hso : shard = other
  · have HS := Lib.hid hso
    have h1 : (shard == other) = true := by simp [hso]
    have h2 : (shard != other) = false := by simp [hso]
    clear hso
    go_wp2_with fail
    all_goals try (refine (upto_any parts 64 _).mono ?_; rintro e' w' ⟨rfl, rfl⟩; cases within parts 64 <;> go_wp2_with fail)
    all_goals (go_ret; exact ⟨⟨_, rfl, HR.out _⟩, B0.out⟩)
  have HS := Lib.hid hso
  have h1 : (shard == other) = false := by simp [hso]
  have h2 : (shard != other) = true := by simp [hso]
  clear hso
  go_wp2_with fail
  all_goals try (refine (upto_any parts 64 _).mono ?_; rintro e' w' ⟨rfl, rfl⟩; cases within parts 64 <;> go_wp2_with fail)
  all_goals (go_ret; exact ⟨⟨_, rfl, HR.out _⟩, B0.out⟩)

set_option maxHeartbeats 4000000 in
theorem rright_k6 (kind shard other server client seq : Int) (ao : Option Addr) (no co : Nat) (key : ByteArray) (upto part parts : Int) (ad : Option Addr) (nd cd : Nat) (w : World) (ha : EN.at ⟨kind, shard, other, server, client, seq, ao, no, co, key, upto, part, parts, ad, nd, cd⟩ w) (hk : kind ≠ 1 ∧ kind ≠ 2 ∧ kind ≠ 3 ∧ kind ≠ 4 ∧ kind ≠ 5) :
    Calls Tryz.prog 56 #[.agg #[.int .i64 kind, .int .i64 shard, .int .i64 other, .int .i64 server, .int .i64 client, .int .i64 seq, .slice ao no co, .string key, .int .i64 upto, .int .i64 part, .int .i64 parts, .slice ad nd cd]] w (RightPost ⟨kind, shard, other, server, client, seq, ao, no, co, key, upto, part, parts, ad, nd, cd⟩ w) := by
  have HK := Lib.hid hk
  have B0 := Lib.hid (below_alloc w (.cells #[.int .i64 kind, .int .i64 shard, .int .i64 other, .int .i64 server, .int .i64 client, .int .i64 seq, .slice ao no co, .string key, .int .i64 upto, .int .i64 part, .int .i64 parts, .slice ad nd cd] 44))
  have HR := Lib.hid (show ∀ b : Bool, (kind = 2 ∨ kind = 3 ∨ kind = 4 → b = rightE ⟨kind, shard, other, server, client, seq, ao, no, co, key, upto, part, parts, ad, nd, cd⟩) from fun b h => by omega)
  have e1 : (kind == 1) = false := by simp [hk]
  have e2 : (kind == 2) = false := by simp [hk]
  have e3 : (kind == 3) = false := by simp [hk]
  have e4 : (kind == 4) = false := by simp [hk]
  have e5 : (kind == 5) = false := by simp [hk]
  have hky := ha.key
  dsimp only at hky
  clear ha hk
  go_enter Tryz.func56, Tryz.ntmps56
  go_wp2_with fail
  refine (upto_any shard 12 _).mono ?_
  rintro e' w' ⟨rfl, rfl⟩
  cases hq1 : within shard 12
  · have HQ1 := Lib.hid hq1
    clear hq1
    go_wp2_with fail
    go_ret
    exact ⟨⟨_, rfl, HR.out _⟩, B0.out⟩
  have HQ1 := Lib.hid hq1
  clear hq1
  go_wp2_with fail
  refine (upto_any other 12 _).mono ?_
  rintro e' w' ⟨rfl, rfl⟩
  cases hq2 : within other 12
  · have HQ2 := Lib.hid hq2
    clear hq2
    go_wp2_with fail
    go_ret
    exact ⟨⟨_, rfl, HR.out _⟩, B0.out⟩
  have HQ2 := Lib.hid hq2
  clear hq2
  by_cases hso : shard = other
  · have HS := Lib.hid hso
    have h1 : (shard == other) = true := by simp [hso]
    have h2 : (shard != other) = false := by simp [hso]
    clear hso
    go_wp2_with fail
    go_ret
    exact ⟨⟨_, rfl, HR.out _⟩, B0.out⟩
  have HS := Lib.hid hso
  have h1 : (shard == other) = false := by simp [hso]
  have h2 : (shard != other) = true := by simp [hso]
  clear hso
  go_wp2_with fail
  go_ret
  exact ⟨⟨_, rfl, HR.out _⟩, B0.out⟩

theorem rentry_any (e : EN) (w : World) (ha : e.at w) : Calls Tryz.prog 56 #[.agg e.cells.toArray] w (RightPost e w) := by
  obtain ⟨kind, shard, other, server, client, seq, ao, no, co, key, upto, part, parts, ad, nd, cd⟩ := e
  by_cases k1 : kind = 1
  · exact rright_k1 kind shard other server client seq ao no co key upto part parts ad nd cd w ha k1
  by_cases k2 : kind = 2
  · exact rright_k2 kind shard other server client seq ao no co key upto part parts ad nd cd w ha k2
  by_cases k3 : kind = 3
  · exact rright_k3 kind shard other server client seq ao no co key upto part parts ad nd cd w ha k3
  by_cases k4 : kind = 4
  · exact rright_k4 kind shard other server client seq ao no co key upto part parts ad nd cd w ha k4
  by_cases k5 : kind = 5
  · exact rright_k5 kind shard other server client seq ao no co key upto part parts ad nd cd w ha k5
  exact rright_k6 kind shard other server client seq ao no co key upto part parts ad nd cd w ha ⟨k1, k2, k3, k4, k5⟩
end Go.Proofs.YthjmfcdhpdiehaaGreatDoor
