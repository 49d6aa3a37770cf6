/-
  The law's of; the reference's keys and sum of loads.
  The reference's loads of shards and of servers.
-/
import Derived.Test.YthjmfcdhpdiehaaGreatDoorM15
import Derived.Test.YthjmfcdhpdiehaaGreatDoorM08
import Derived.Test.YthjmfcdhpdiehaaGreatDoorM28
namespace Go.Proofs.YthjmfcdhpdiehaaGreatDoor
open Go.RowKit Utf
set_option maxRecDepth 100000
set_option linter.unusedSimpArgs false
set_option linter.unusedVariables false

theorem Tryz.infoRLd : (Tryz.prog.info? 109).map (fun i => (i.zero, i.size, i.bytes)) = some (some (.agg #[.string ⟨#[]⟩, .int .i64 0]), 2, 24) := by kernel_rfl
/-- How a loop that gathers loads stands. -/
structure GA (w : World) (lo : Option Addr) (l : List LD) (v : Value) (xs : List LD) (W : World) : Prop where
  bel : Below w.heap.size w W
  row : RowAt W lo (ldRow l)
  out : OwnE W w.heap.size 109 2 v xs.length (ldRow xs)
theorem GA.next {w W W' : World} {lo : Option Addr} {l : List LD} {v : Value} {xs : List LD} (h : GA w lo l v xs W) (hb : Below W.heap.size W W') : GA w lo l v xs W' :=
  ⟨h.bel.trans (hb.mono h.bel.size), h.row.below hb, h.out.below hb⟩

set_option maxHeartbeats 4000000 in
theorem ofLd_any (l : List LD) (lo : Option Addr) (lc : Nat) (w : World) (hn : l.length ≤ 1000) (hr : RowAt w lo (ldRow l)) :
    Calls Tryz.prog 21 #[.slice lo l.length lc] w fun e w' => ∃ v, e = .returned v ∧ OwnE w' w.heap.size 109 2 v l.length (ldRow l) ∧ Below w.heap.size w w' := by
  have HR := Lib.hid hr
  obtain ⟨i0, hinf, hz0, hz1, hz2⟩ := info_parts Tryz.infoRLd
  have HI := Lib.hid (And.intro hinf (And.intro hz0 (And.intro hz1 hz2)))
  clear hinf hz0 hz1 hz2 hr
  go_enter Tryz.func21, Tryz.ntmps21
  go_wp2_with fail
  go_loopw [3, 9] (fun vo i wr => ∃ k : Nat, k ≤ l.length ∧ i = .int .i64 k ∧ Hid (GA w lo l vo (l.take k) wr)) (fun _ i _ => l.length - (intOf i).toNat)
  case atStart => exact ⟨0, Nat.zero_le _, rfl, Lib.hid ⟨below_alloc _ _, HR.out.below (below_alloc _ _), OwnE.new⟩⟩
  case round =>
    obtain ⟨k, hk, rfl, HB⟩ := hrel
    by_cases hlt : k < l.length
    · obtain ⟨b', o', rfl, hc⟩ := row_flat LD.cells 2 (by decide) LD.cells_len HB.out.row k hlt
      have HRG := Lib.hid (show wr.rangeAt b' (o' + k * 2) (ldAt l k).cells from fun j v hj => by
        have hj5 : j < 2 := by have := (List.getElem?_eq_some_iff.1 hj).1; rw [LD.cells_len] at this; exact this
        rw [hc j hj5, ← ldAt_eq hlt]; exact hj)
      have HSI := Lib.hid (show (Tryz.prog.info? 77).map (·.size) = some (ldAt l k).cells.length by rw [LD.cells_len]; kernel_rfl)
      have HZ1 := Lib.hid (Blk.new wr 77 #[.string ⟨#[]⟩, .int .i64 0])
      have HT := Lib.hid (show l.take (k + 1) = l.take k ++ [ldAt l k] by rw [List.take_succ_eq_append_getElem hlt, ldAt_eq hlt])
      have HTL := Lib.hid (show (l.take k).length ≤ 1000 by rw [List.length_take]; omega)
      generalize l.take k = xs at *
      generalize ldAt l k = x at *
      obtain ⟨key, n⟩ := x
      clear hc
      go_wp2_with (first | (refine wpList_load_mid rfl 77 (.tmp 11) rfl b' (o' + k * 2) rfl _ _ HRG.out Tryz.underlying77 rfl HSI.out ?_) | (refine wpList_store_blk rfl 77 (.tmp 5) (.tmp 12) rfl wr.heap.size #[.string key, .int .i64 n] rfl rfl 77 _ HZ1.out rfl (by kernel_rfl) (by kernel_rfl) ?_))
      refine Lib.hid ?_
      intro w2 hz ho
      have S2 := Lib.hid (HB.out.next ((below_alloc wr _).trans (ho.to_below (B := wr.heap.size) (by simp) (fun q hq e => by omega))))
      have HX2 := Lib.hid hz
      have HOW := Lib.hid S2.out.out
      have HQ2 : Hid (w.heap.size ≤ w2.heap.size) := Lib.hid S2.out.bel.size
      clear hz ho HZ1 HRG
      go_wp2_with (first | (refine wpList_load_hid rfl 77 (.tmp 5) rfl wr.heap.size rfl 77 #[.string key, .int .i64 n] HX2.out _ Tryz.underlying77 rfl (by kernel_rfl) ?_; refine Lib.hid ?_) | (refine appE rfl (.tmp 13) (.tmp 15) 61 rfl 109 i0 _ 2 24 Tryz.underlying61 HI.out.1 HI.out.2.1 HI.out.2.2.1 HI.out.2.2.2 rfl (by decide) w.heap.size u3 xs.length (ldRow xs) rfl HOW.out w.heap.size (Nat.le_refl _) S2.out.bel HQ2.out [.string key, .int .i64 n] 1 rfl (by decide) (by intro u hu; simp only [List.mem_cons, List.mem_nil_iff, or_false] at hu; rcases hu with rfl | rfl <;> rfl) rfl (by have := HTL.out; omega) (by decide) ?_))
      refine Lib.hid ?_
      intro v3 w3 h1 h2 h3
      have S3 := Lib.hid (show GA w (some ⟨b', o', none⟩) l v3 (l.take (k + 1)) w3 from ⟨h2, HR.out.below h2, .inr (by rw [HT.out, List.length_append, List.length_singleton, ldRow_app]; exact h1)⟩)
      clear h1 h2 h3 HX2 HOW
      go_wp2_with fail
      go_roundw
      case rel => exact ⟨k + 1, by omega, by go_num, S3⟩
      case measure => simp [intOf]; omega
    · obtain rfl : k = l.length := by omega
      rw [List.take_length] at HB
      go_wp2_with fail
      go_ret
      exact ⟨_, rfl, HB.out.out, HB.out.bel⟩

/-- How the loop of keys stands. -/
structure GK (w : World) (s : Sh) (lo : Option Addr) (l : List LD) (v : Value) (xs : List LD) (W : World) : Prop extends GA w lo l v xs W where
  box : Blk W w.heap.size 75 s.cells.toArray
theorem GK.next {w W W' : World} {s : Sh} {lo : Option Addr} {l : List LD} {v : Value} {xs : List LD} (h : GK w s lo l v xs W) (hb : Below W.heap.size W W') : GK w s lo l v xs W' :=
  ⟨h.toGA.next hb, h.box.below hb h.box.lt⟩

set_option maxHeartbeats 4000000 in
theorem rkeys_any (s : Sh) (l : List LD) (lo : Option Addr) (lc : Nat) (w : World) (hs : s.ok) (hn : l.length ≤ 1000) (hr : RowAt w lo (ldRow l)) (hk : LdOk l) :
    Calls Tryz.prog 54 #[.agg s.cells.toArray, .slice lo l.length lc] w fun e w' => ∃ v, e = .returned v ∧ OwnE w' w.heap.size 109 2 v (keysP s l).length (ldRow (keysP s l)) ∧ Below w.heap.size w w' := by
  have HR := Lib.hid hr
  have HK := Lib.hid hk
  obtain ⟨i0, hinf, hz0, hz1, hz2⟩ := info_parts Tryz.infoRLd
  have HI := Lib.hid (And.intro hinf (And.intro hz0 (And.intro hz1 hz2)))
  clear hinf hz0 hz1 hz2 hr hk
  obtain ⟨sid, server, since, slo, shi⟩ := s
  have HSX : Hid (slo.size ≤ 1000000 ∧ shi.size ≤ 1000000) := Lib.hid hs
  have HB0 := Lib.hid (Blk.new w 75 #[.int .i64 sid, .int .i64 server, .int .i64 since, .string slo, .string shi])
  clear hs
  unfold Sh.cells
  go_enter Tryz.func54, Tryz.ntmps54
  go_wp2_with fail
  go_loopw [5, 11] (fun vo i wr => ∃ k : Nat, k ≤ l.length ∧ i = .int .i64 k ∧ Hid (GK w ⟨sid, server, since, slo, shi⟩ lo l vo (keysP ⟨sid, server, since, slo, shi⟩ (l.take k)) wr)) (fun _ i _ => l.length - (intOf i).toNat)
  case atStart => exact ⟨0, Nat.zero_le _, rfl, Lib.hid ⟨⟨(below_alloc _ _).trans ((below_alloc _ _).mono (below_alloc _ _).size), (HR.out.below (below_alloc _ _)).below (below_alloc _ _), OwnE.new⟩, HB0.out.alloc _⟩⟩
  case round =>
    obtain ⟨k, hk, rfl, HB⟩ := hrel
    by_cases hlt : k < l.length
    · obtain ⟨b', o', rfl, hc⟩ := row_flat LD.cells 2 (by decide) LD.cells_len HB.out.row k hlt
      have HRG := Lib.hid (show wr.rangeAt b' (o' + k * 2) (ldAt l k).cells from fun j v hj => by
        have hj5 : j < 2 := by have := (List.getElem?_eq_some_iff.1 hj).1; rw [LD.cells_len] at this; exact this
        rw [hc j hj5, ← ldAt_eq hlt]; exact hj)
      have HSI := Lib.hid (show (Tryz.prog.info? 109).map (·.size) = some (ldAt l k).cells.length by rw [LD.cells_len]; kernel_rfl)
      have HZ1 := Lib.hid (Blk.new wr 109 #[.string ⟨#[]⟩, .int .i64 0])
      have HKX := Lib.hid (HK.out.at hlt)
      have HT := Lib.hid (keysP_take ⟨sid, server, since, slo, shi⟩ l k hlt)
      have HTL := Lib.hid (show (keysP ⟨sid, server, since, slo, shi⟩ (l.take k)).length ≤ 1000 from Nat.le_trans (keysP_len _ _) (by rw [List.length_take]; omega))
      generalize keysP ⟨sid, server, since, slo, shi⟩ (l.take k) = xs at *
      generalize ldAt l k = x at *
      obtain ⟨key, n⟩ := x
      clear hc
      go_wp2_with (first | (refine wpList_load_mid rfl 109 (.tmp 13) rfl b' (o' + k * 2) rfl _ _ HRG.out Tryz.underlying109 rfl HSI.out ?_) | (refine wpList_store_blk rfl 109 (.tmp 7) (.tmp 14) rfl wr.heap.size #[.string key, .int .i64 n] rfl rfl 109 _ HZ1.out rfl (by kernel_rfl) (by kernel_rfl) ?_))
      refine Lib.hid ?_
      intro w2 hz ho
      have S2 := Lib.hid (HB.out.next ((below_alloc wr _).trans (ho.to_below (B := wr.heap.size) (by simp) (fun q hq e => by omega))))
      have HX2 := Lib.hid hz
      have c10 : w2.cell? ⟨wr.heap.size, 0, none⟩ = some (.string key) := hz.cell 0
      have r7 := S2.out.box.range (o := 3) (l := [.string slo, .string shi]) (fun j v hj => by
        rcases j with _ | _ | j
        · exact hj
        · exact hj
        · simp at hj)
      clear hz ho HZ1 HRG HB
      go_wp2_with (refine wpList_load_mid rfl 52 (.tmp 15) rfl w.heap.size 3 rfl _ _ r7 Tryz.underlying52 rfl (by kernel_rfl) ?_)
      refine (rhas_any slo shi key w2 HSX.out.1 HSX.out.2 HKX.out).mono ?_
      rintro e w3 ⟨rfl, hb3⟩
      have S3 := Lib.hid (S2.out.next hb3)
      have HX3 := Lib.hid (HX2.out.below hb3 HX2.out.lt)
      clear hb3 r7 c10 HX2 S2
      cases hh : hasB slo shi key with
      | false =>
        have HLN : Hid (GK w ⟨sid, server, since, slo, shi⟩ (some ⟨b', o', none⟩) l u5 (keysP ⟨sid, server, since, slo, shi⟩ (l.take (k + 1))) w3) := Lib.hid (by
          rw [HT.out, if_neg (by rw [hh]; simp), List.append_nil]
          exact S3.out)
        clear hh
        go_wp2_with fail
        go_roundw
        case rel => exact ⟨k + 1, by omega, by go_num, HLN⟩
        case measure => simp [intOf]; omega
      | true =>
        have HT2 := Lib.hid (show keysP ⟨sid, server, since, slo, shi⟩ (l.take (k + 1)) = xs ++ [⟨key, n⟩] by rw [HT.out, if_pos hh])
        have HOW := Lib.hid S3.out.out
        have HQ2 : Hid (w.heap.size ≤ w3.heap.size) := Lib.hid S3.out.bel.size
        have HBX := Lib.hid S3.out.box
        clear hh HT
        go_wp2_with (first | (refine wpList_load_hid rfl 109 (.tmp 7) rfl wr.heap.size rfl 109 #[.string key, .int .i64 n] HX3.out _ Tryz.underlying109 rfl (by kernel_rfl) ?_; refine Lib.hid ?_) | (refine appE rfl (.tmp 20) (.tmp 22) 61 rfl 109 i0 _ 2 24 Tryz.underlying61 HI.out.1 HI.out.2.1 HI.out.2.2.1 HI.out.2.2.2 rfl (by decide) w.heap.size u5 xs.length (ldRow xs) rfl HOW.out w.heap.size (Nat.le_refl _) S3.out.bel HQ2.out [.string key, .int .i64 n] 1 rfl (by decide) (by intro u hu; simp only [List.mem_cons, List.mem_nil_iff, or_false] at hu; rcases hu with rfl | rfl <;> rfl) rfl (by have := HTL.out; omega) (by decide) ?_))
        refine Lib.hid ?_
        intro v3 w4 h1 h2 h3
        have S4 := Lib.hid (show GK w ⟨sid, server, since, slo, shi⟩ (some ⟨b', o', none⟩) l v3 (keysP ⟨sid, server, since, slo, shi⟩ (l.take (k + 1))) w4 from ⟨⟨h2, HR.out.below h2, .inr (by rw [HT2.out, List.length_append, List.length_singleton, ldRow_app]; exact h1)⟩, grown_blk (HBX.out.alloc _) h3 (fun e => OwnE.ne_blk' HOW.out HBX.out (by decide) e)⟩)
        clear h1 h2 h3 HX3 HOW HBX
        go_wp2_with fail
        go_roundw
        case rel => exact ⟨k + 1, by omega, by go_num, S4⟩
        case measure => simp [intOf]; omega
    · obtain rfl : k = l.length := by omega
      rw [List.take_length] at HB
      go_wp2_with fail
      go_ret
      exact ⟨_, rfl, HB.out.out, HB.out.bel⟩

/-- How the loop of sum stands. -/
structure GS (w : World) (lo : Option Addr) (l : List LD) (W : World) : Prop where
  bel : Below w.heap.size w W
  row : RowAt W lo (ldRow l)
theorem GS.next {w W W' : World} {lo : Option Addr} {l : List LD} (h : GS w lo l W) (hb : Below W.heap.size W W') : GS w lo l W' :=
  ⟨h.bel.trans (hb.mono h.bel.size), h.row.below hb⟩
set_option maxHeartbeats 4000000 in
theorem rsum_any (l : List LD) (lo : Option Addr) (lc : Nat) (w : World) (hn : l.length ≤ 1000) (hr : RowAt w lo (ldRow l)) (hno : NumOk l) :
    Calls Tryz.prog 53 #[.slice lo l.length lc] w fun e w' => e = .returned (.int .i64 (sumN l)) ∧ Below w.heap.size w w' := by
  have S0 := Lib.hid (show GS w lo l w from ⟨Below.refl _ _, hr⟩)
  have HNO := Lib.hid hno
  clear hr hno
  go_enter Tryz.func53, Tryz.ntmps53
  go_wp2_with fail
  go_loopw [3, 8] (fun vs i wr => ∃ k : Nat, k ≤ l.length ∧ i = .int .i64 k ∧ vs = .int .i64 (sumN (l.take k)) ∧ Hid (GS w lo l wr)) (fun _ i _ => l.length - (intOf i).toNat)
  case atStart => exact ⟨0, Nat.zero_le _, rfl, rfl, S0⟩
  case round =>
    obtain ⟨k, hk, rfl, rfl, HB⟩ := hrel
    by_cases hlt : k < l.length
    · obtain ⟨b', o', rfl, hc⟩ := row_flat LD.cells 2 (by decide) LD.cells_len HB.out.row k hlt
      have HRG := Lib.hid (show wr.rangeAt b' (o' + k * 2) (ldAt l k).cells from fun j v hj => by
        have hj5 : j < 2 := by have := (List.getElem?_eq_some_iff.1 hj).1; rw [LD.cells_len] at this; exact this
        rw [hc j hj5, ← ldAt_eq hlt]; exact hj)
      have HSI := Lib.hid (show (Tryz.prog.info? 109).map (·.size) = some (ldAt l k).cells.length by rw [LD.cells_len]; kernel_rfl)
      have HZ1 := Lib.hid (Blk.new wr 109 #[.string ⟨#[]⟩, .int .i64 0])
      have HT := Lib.hid (show sumN (l.take (k + 1)) = sumN (l.take k) + (ldAt l k).n by rw [List.take_succ_eq_append_getElem hlt, sumN_app, ldAt_eq hlt])
      have hs1 := sumN_bound (show NumOk (l.take k) from fun x hx => HNO.out x (List.mem_of_mem_take hx))
      have hs2 : 1 ≤ (ldAt l k).n ∧ (ldAt l k).n ≤ 1000000 := by rw [ldAt_eq hlt]; exact HNO.out _ (List.getElem_mem hlt)
      have hs3 : (l.take k).length ≤ 1000 := by rw [List.length_take]; omega
      have HBD := Lib.hid (show 0 ≤ sumN (l.take k) + (ldAt l k).n ∧ sumN (l.take k) + (ldAt l k).n ≤ 1000000000000000 by omega)
      clear hs1 hs2 hs3
      generalize sumN (l.take k) = sm at *
      generalize ldAt l k = x at *
      obtain ⟨key, n⟩ := x
      dsimp only at HBD HT
      clear hc
      go_wp2_with (first | (refine wpList_load_mid rfl 109 (.tmp 10) rfl b' (o' + k * 2) rfl _ _ HRG.out Tryz.underlying109 rfl HSI.out ?_) | (refine wpList_store_blk rfl 109 (.tmp 5) (.tmp 11) rfl wr.heap.size #[.string key, .int .i64 n] rfl rfl 109 _ HZ1.out rfl (by kernel_rfl) (by kernel_rfl) ?_))
      refine Lib.hid ?_
      intro w2 hz ho
      have S2 := Lib.hid (HB.out.next ((below_alloc wr _).trans (ho.to_below (B := wr.heap.size) (by simp) (fun q hq e => by omega))))
      have c1 : w2.cell? ⟨wr.heap.size, 1, none⟩ = some (.int .i64 n) := hz.cell 1
      clear hz ho HZ1 HRG HB
      go_wp2_with fail
      go_roundw
      case rel => exact ⟨k + 1, by omega, by go_num, by rw [HT.out, Go.IntWalk.wrap64_in _ (by have := HBD.out; omega)], S2⟩
      case measure => simp [intOf]; omega
    · obtain rfl : k = l.length := by omega
      rw [List.take_length]
      go_wp2_with fail
      go_ret
      exact ⟨rfl, HB.out.bel⟩
end Go.Proofs.YthjmfcdhpdiehaaGreatDoor

namespace Go.Proofs.YthjmfcdhpdiehaaGreatDoor
open Go.RowKit Utf
set_option maxRecDepth 100000
set_option linter.unusedSimpArgs false
set_option linter.unusedVariables false

/-- How the loop of Shards stands. -/
structure RSH (w : World) (lo : Option Addr) (l : List LD) (B : Nat) (vs : Value) (xs : List Sh) (vo : Value) (ns : List Int) (W : World) : Prop where
  bel : Below w.heap.size w W
  lrow : RowAt W lo (ldRow l)
  row : OwnE W B 75 5 vs xs.length (shRow xs)
  out : OwnE W w.heap.size 3 1 vo ns.length (zRow ns)
theorem RSH.next {w W W' : World} {lo : Option Addr} {l : List LD} {B : Nat} {vs vo : Value} {xs : List Sh} {ns : List Int} (h : RSH w lo l B vs xs vo ns W) (hb : Below W.heap.size W W') : RSH w lo l B vs xs vo ns W' :=
  ⟨h.bel.trans (hb.mono h.bel.size), h.lrow.below hb, h.row.below hb, h.out.below hb⟩

/-- How the loop of Servers stands. -/
structure RSV (w : World) (lo : Option Addr) (l : List LD) (g : Nat) (live : List Sh) (q : Nat) (acc : List Int) (W : World) : Prop where
  bel : Below w.heap.size w W
  lrow : RowAt W lo (ldRow l)
  row : RowAt W (some ⟨g, 0, none⟩) (shRow live)
  out : Blk W q 3 (zRow acc).toArray
theorem RSV.next {w W W' : World} {lo : Option Addr} {l : List LD} {g q : Nat} {live : List Sh} {acc : List Int} (h : RSV w lo l g live q acc W) (hb : Below W.heap.size W W') : RSV w lo l g live q acc W' :=
  ⟨h.bel.trans (hb.mono h.bel.size), h.lrow.below hb, h.row.below hb, h.out.below hb h.out.lt⟩

set_option maxHeartbeats 4000000 in
theorem rservers_any (b B : Nat) (m : RM) (l : List LD) (lo : Option Addr) (lc s : Nat) (w : World) (hm : RMAt w B b m) (hs : 1 ≤ s ∧ s ≤ 4) (hn : l.length ≤ 1000) (hr : RowAt w lo (ldRow l)) (hk : LdOk l) (hno : NumOk l) (hsv : ∀ x ∈ m.live, 1 ≤ x.server) :
    Calls Tryz.prog 26 #[.pointer (some ⟨b, 0, none⟩), .slice lo l.length lc, .int .i64 (s : Nat)] w fun e w' => ∃ v, e = .returned v ∧ w'.ownsRow w.heap.size 3 1 v s (zRow (srvP s (loadsP m.live l))) ∧ Below w.heap.size w w' := by
  obtain ⟨vl, vu, ve, hm⟩ := hm
  obtain ⟨g, cap, rfl, -, -, -, hrow⟩ := own_some hm.live hm.l1.1
  have hln := hm.len.1
  have HR := Lib.hid hr
  have HRW := Lib.hid hrow
  have HRW2 := Lib.hid (fun W (hb : Below w.heap.size w W) => hrow.below hb)
  have HBK := Lib.hid hm.blk
  have HOK := Lib.hid hm.ok
  have HSV := Lib.hid hsv
  have HKF := Lib.hid (fun s W (h1 : s.ok) (h2 : RowAt W lo (ldRow l)) => rkeys_any s l lo lc W h1 hn h2 hk)
  have HNK := Lib.hid (fun s => show NumOk (keysP s l) from by have := hno.keys s l.length; rw [List.take_length] at this; exact this)
  obtain ⟨i0, hinf, hz0, hz1, hz2⟩ := info_parts Tryz.infoInt
  have HI := Lib.hid (And.intro hinf (And.intro hz0 (And.intro hz1 hz2)))
  clear hinf hz0 hz1 hz2 hm hr hrow hk hno hsv
  generalize m.live = live at *
  go_enter Tryz.func26, Tryz.ntmps26
  go_wp2_with (refine wpList_mkInts rfl 37 (.tmp 10) (.tmp 10) rfl s rfl rfl 3 i0 Tryz.underlying37 HI.out.1 HI.out.2.1 HI.out.2.2.1 HI.out.2.2.2 (by omega) ?_)
  refine Lib.hid ?_
  intro w1 h1 h2
  have S1 := Lib.hid (show RSV w lo l g live w.heap.size ((loadsP (live.take 0) l).foldl (srvStep s) (List.replicate s 0)) w1 from ⟨h2, HR.out.below h2, HRW.out.below h2, h1⟩)
  have HL0 := Lib.hid (show ((loadsP (live.take 0) l).foldl (srvStep s) (List.replicate s 0)).length = s ∧ ∀ i, (((loadsP (live.take 0) l).foldl (srvStep s) (List.replicate s 0)).getD i 0) ≤ (0 : Nat) * 1000000000 ∧ 0 ≤ ((loadsP (live.take 0) l).foldl (srvStep s) (List.replicate s 0)).getD i 0 from by
    refine ⟨by simp [loadsP], fun i => ?_⟩
    simp [loadsP, List.getD_eq_getElem?_getD, List.getElem?_replicate]
    split <;> simp)
  have c0 : w1.cell? ⟨b, 0, none⟩ = some (.slice (some ⟨g, 0, none⟩) live.length cap) := (HBK.out.below h2 HBK.out.lt).cell 0
  clear h1 h2 HRW HBK
  go_wp2_with fail
  go_loopw [17] (fun i wr => ∃ (k : Nat) (acc : List Int), k ≤ live.length ∧ i = .int .i64 k ∧ Hid (acc = (loadsP (live.take k) l).foldl (srvStep s) (List.replicate s 0)) ∧ Hid (acc.length = s ∧ ∀ i, acc.getD i 0 ≤ (k : Nat) * 1000000000 ∧ 0 ≤ acc.getD i 0) ∧ Hid (RSV w lo l g live w.heap.size acc wr)) (fun i _ => live.length - (intOf i).toNat)
  case atStart => exact ⟨0, _, Nat.zero_le _, rfl, Lib.hid rfl, HL0, S1⟩
  case round =>
    obtain ⟨k, acc, hk, rfl, HA, HL, HS⟩ := hrel
    clear c0
    by_cases hlt : k < live.length
    · have HRG := Lib.hid (show wr.rangeAt g (k * 5) (shAt live k).cells from fun j v hj => by
        have hj5 : j < 5 := by have := (List.getElem?_eq_some_iff.1 hj).1; rw [Sh.cells_len] at this; exact this
        rw [row_sh' HS.out.row hlt j hj5]; exact hj)
      have HSI := Lib.hid (show (Tryz.prog.info? 75).map (·.size) = some (shAt live k).cells.length by rw [Sh.cells_len]; kernel_rfl)
      have HZ1 := Lib.hid (Blk.new wr 75 #[.int .i64 0, .int .i64 0, .int .i64 0, .string ⟨#[]⟩, .string ⟨#[]⟩])
      have HSO := Lib.hid (show (shAt live k).ok from HOK.out _ (shAt_mem hlt))
      have HTK := Lib.hid (show (loadsP (live.take (k + 1)) l).foldl (srvStep s) (List.replicate s 0) = srvStep s acc (shAt live k, keysP (shAt live k) l) by
        rw [HA.out]
        unfold loadsP
        rw [List.take_succ_eq_append_getElem hlt, List.map_append, List.foldl_append, shAt_eq hlt]
        rfl)
      have HV := Lib.hid (HSV.out _ (shAt_mem hlt))
      have HNN := Lib.hid (HNK.out (shAt live k))
      have HKL := Lib.hid (show (keysP (shAt live k) l).length ≤ 1000 from Nat.le_trans (keysP_len _ _) hn)
      have HKX := Lib.hid (fun W (h2 : RowAt W lo (ldRow l)) => HKF.out (shAt live k) W HSO.out h2)
      clear HSO
      generalize keysP (shAt live k) l = ks at *
      generalize shAt live k = x at *
      obtain ⟨sid, server, since, slo, shi⟩ := x
      unfold Sh.cells at HRG HSI HKX
      dsimp only at HRG HSI HV HKX
      clear HA
      go_wp2_with (first | (refine wpList_load_mid rfl 75 (.tmp 19) rfl g (k * 5) rfl _ _ HRG.out Tryz.underlying75 rfl HSI.out ?_) | (refine wpList_store_blk rfl 75 (.tmp 9) (.tmp 20) rfl wr.heap.size #[.int .i64 sid, .int .i64 server, .int .i64 since, .string slo, .string shi] rfl rfl 75 _ HZ1.out rfl (by kernel_rfl) (by kernel_rfl) ?_))
      refine Lib.hid ?_
      intro w4 hz hox
      have HB8 := Lib.hid hz
      have S4 := Lib.hid (HS.out.next ((below_alloc wr _).trans (hox.to_below (B := wr.heap.size) (by simp) (fun q hq e => by omega))))
      have c1 : w4.cell? ⟨wr.heap.size, 1, none⟩ = some (.int .i64 server) := HB8.out.cell 1
      have HQ8 : Hid (w.heap.size ≠ wr.heap.size) := Lib.hid (Nat.ne_of_lt HS.out.out.lt)
      clear hz hox HZ1 HRG HS
      by_cases hsl : server ≤ (s : Int)
      · obtain ⟨j, rfl⟩ : ∃ j : Nat, server = (j : Int) + 1 := ⟨(server - 1).toNat, by have := HV.out; omega⟩
        have HT2 := Lib.hid (show srvStep s acc ((⟨sid, (j : Int) + 1, since, slo, shi⟩ : Sh), ks) = acc.set j (acc.getD j 0 + sumN ks) by
          unfold srvStep addAt
          dsimp only
          rw [if_pos hsl]
          simp)
        have hjs : j < s := by omega
        have hal : acc.length = s := HL.out.1
        have ha := HL.out.2 j
        have hm := sumN_bound HNN.out
        have hkl := HKL.out
        have HCQ := Lib.hid (zRow_get acc j (by omega))
        have HNEW := Lib.hid (show (acc.set j (acc.getD j 0 + sumN ks)).length = s ∧ ∀ i, (acc.set j (acc.getD j 0 + sumN ks)).getD i 0 ≤ (k + 1 : Nat) * 1000000000 ∧ 0 ≤ (acc.set j (acc.getD j 0 + sumN ks)).getD i 0 from by
          refine ⟨by rw [List.length_set]; exact hal, fun i => ?_⟩
          rw [List.getD_eq_getElem?_getD, List.getElem?_set]
          by_cases hij : j = i
          · subst hij
            rw [if_pos rfl, if_pos (by omega)]
            simp only [Option.getD_some]
            omega
          · rw [if_neg hij, ← List.getD_eq_getElem?_getD]
            have := HL.out.2 i
            omega)
        have HBD := Lib.hid (show 0 ≤ acc.getD j 0 + sumN ks ∧ acc.getD j 0 + sumN ks ≤ 1000000000000000 by omega)
        clear ha hm hkl
        generalize acc.getD j 0 = old at *
        go_wp2_with fail
        have HCW := Lib.hid (show ∀ W, Blk W w.heap.size 3 (zRow acc).toArray → W.cell? ⟨w.heap.size, j * 1, none⟩ = some (.int .i64 old) from fun W h => by
          rw [h.cell, Nat.mul_one]
          exact HCQ.out)
        have HF : Hid (j * 1 + 1 ≤ (zRow acc).length) := Lib.hid (by rw [zRow_len]; omega)
        have HQ := Lib.hid (S4.out.out.drewN 1)
        have HLR := Lib.hid (S4.out.lrow.below (tame_drewN (Below.refl _ w4) 1))
        refine wp_region_wb ((Only (fun k => k = w.heap.size) w4)) (by kernel_rfl) (((Only.refl (fun k => k = w.heap.size) w4).drewN 1)) (fun _ _ _ _ _ h => h) ?_
        intro hS HZQ
        refine wa_k 0 25 (.slice (some ⟨w.heap.size, 0, none⟩) s s) hS HZQ (wa_k 1 26 (.pointer (some ⟨wr.heap.size, 1, none⟩)) hS HZQ (wa_v 2 27 (.int .i64 ((j : Int) + 1)) hS HZQ (fun W hW => run_load1 3 (.tmp 26) (by kernel_rfl) ⟨wr.heap.size, 1, none⟩ (by kernel_rfl) (.int .i64 ((j : Int) + 1)) ((HB8.out.only hW (fun e => HQ8.out e.symm)).cell 1) _ Tryz.underlying3 rfl) (wa_v 3 28 (.int .i64 ((j : Nat) : Int)) hS HZQ (fun W hW => run_eqv (v := .int .i64 (IntKind.i64.wrap (((j : Int) + 1) - 1))) (by kernel_rfl) (wrap_nat _ j (by omega) (by omega))) (wa_v 4 29 (.pointer (some ⟨w.heap.size, j * 1, none⟩)) hS HZQ (fun W hW => run_eqv (run_idx 37 (.tmp 25) (.tmp 28) (by kernel_rfl) w.heap.size 0 s s j 3 1 (by kernel_rfl) (by kernel_rfl) (by omega) Tryz.underlying37 (by kernel_rfl)) (by rw [Nat.zero_add])) (wa_v 6 31 (.agg #[.int .i64 sid, .int .i64 ((j : Int) + 1), .int .i64 since, .string slo, .string shi]) hS HZQ (fun W hW => run_eqv (run_loadN 75 (.tmp 9) (by kernel_rfl) wr.heap.size 0 (by kernel_rfl) [.int .i64 sid, .int .i64 ((j : Int) + 1), .int .i64 since, .string slo, .string shi] ((HB8.out.only hW (fun e => HQ8.out e.symm)).range (o := 0) (fun j v hj => by rw [Nat.zero_add]; simpa using hj)) _ Tryz.underlying75 rfl (by kernel_rfl)) rfl) (wa_k 7 32 (.slice lo l.length lc) hS HZQ ?_))))))
        refine wa_r [5, 8] ?_
        refine (ar_a (some 30) (fun K hK => ?_) (ar_a (some 33) (fun K hK => ?_) ar_nil))
        ·
          refine ow_val (.int .i64 old) _ (run_load1 3 (.tmp 29) (by kernel_rfl) ⟨w.heap.size, j * 1, none⟩ (by kernel_rfl) (.int .i64 old) (HCW.out _ HQ.out) _ Tryz.underlying3 rfl) ?_
          refine hK.out _ _ hS (fun hS => ?_)
          clear hK K
          refine wa_r [8] ?_
          refine ar_a (some 33) (fun K hK => ?_) ar_nil
          refine ow_call 54 #[.agg #[.int .i64 sid, .int .i64 ((j : Int) + 1), .int .i64 since, .string slo, .string shi], .slice lo l.length lc] (by kernel_rfl) (fun v w' => OwnE w' _ 109 2 v ks.length (ldRow ks) ∧ Below _ _ w') ((HKX.out _ HLR.out).mono fun e' w' h => h) (Lib.hid ?_)
          rintro v wx ⟨hox, hbx⟩
          obtain ⟨ka, kc, rfl, hkr⟩ := ownE_row hox
          have HKR := Lib.hid hkr
          have HQ := Lib.hid (HQ.out.below hbx HQ.out.lt)
          refine hK.out _ _ (hS.trans (Only.below_all hbx)) (fun hS => ?_)
          clear hK K hbx hox hkr
          refine wa_r [9] ?_
          refine ar_a (some 34) (fun K hK => ?_) ar_nil
          refine ow_call 53 #[.slice ka ks.length kc] (by kernel_rfl) (fun v w' => v = .int .i64 (sumN ks) ∧ Below _ _ w') ((rsum_any ks ka kc _ HKL.out HKR.out HNN.out).mono fun e' w' h => ⟨_, h.1, rfl, h.2⟩) (Lib.hid ?_)
          rintro v wy ⟨rfl, hby⟩
          have HQ := Lib.hid (HQ.out.below hby HQ.out.lt)
          refine hK.out _ _ (hS.trans (Only.below_all hby)) (fun hS => ?_)
          clear hK K hby
          refine wa_v 10 35 (.int .i64 (old + sumN ks)) hS HZQ (fun W hW => run_eqv (v := .int .i64 (IntKind.i64.wrap (old + sumN ks))) (by kernel_rfl) (wrap_big _ HBD.out.1 HBD.out.2)) (wa_v 11 36 (.pointer (some ⟨w.heap.size, j * 1, none⟩)) hS HZQ (fun W hW => run_eqv (run_idx 37 (.tmp 25) (.tmp 28) (by kernel_rfl) w.heap.size 0 s s j 3 1 (by kernel_rfl) (by kernel_rfl) (by omega) Tryz.underlying37 (by kernel_rfl)) (by rw [Nat.zero_add])) ?_)
          refine wa_r [12] ?_
          refine ar_a none (fun K hK => ?_) ar_nil
          refine ow_storeN 3 (.tmp 36) (.tmp 35) (by kernel_rfl) w.heap.size (j * 1) (.int .i64 (old + sumN ks)) [.int .i64 (old + sumN ks)] (by kernel_rfl) (by kernel_rfl) rfl (zRow acc) 3 HQ.out HF.out (by kernel_rfl) (by intro u hu; simp at hu; subst hu; rfl) (Lib.hid ?_)
          intro w5 hz hox
          refine hK.out _ _ (hS.trans hox) (fun hS => ?_)
          have HB5 := Lib.hid hz
          clear hK K hz hox
          refine wa_done (by kernel_rfl) ?_
          dsimp only [Exit.then, Act.put]
          simp only [List.setIfInBounds_toArray, List.set_cons_succ, List.set_cons_zero]
          have HNS := Lib.hid (show RSV w lo l g live w.heap.size (acc.set j (old + sumN ks)) w5 from by
            have hbl : Below w.heap.size w w5 := S4.out.bel.trans (hS.to_below S4.out.bel.size (fun q hq e => by omega))
            refine ⟨hbl, HR.out.below hbl, HRW2.out w5 hbl, ?_⟩
            have h1 := HB5.out
            rw [splice_one (by have := HF.out; omega), Nat.mul_one] at h1
            rw [← zRow_set]
            simpa using h1)
          clear hS
          go_wp2_with fail
          go_roundw
          case rel => exact ⟨k + 1, _, by omega, by go_num, Lib.hid (by rw [HTK.out, HT2.out]), HNEW, HNS⟩
          case measure => simp [intOf]; omega
        ·
          refine ow_call 54 #[.agg #[.int .i64 sid, .int .i64 ((j : Int) + 1), .int .i64 since, .string slo, .string shi], .slice lo l.length lc] (by kernel_rfl) (fun v w' => OwnE w' _ 109 2 v ks.length (ldRow ks) ∧ Below _ _ w') ((HKX.out _ HLR.out).mono fun e' w' h => h) (Lib.hid ?_)
          rintro v wx ⟨hox, hbx⟩
          obtain ⟨ka, kc, rfl, hkr⟩ := ownE_row hox
          have HKR := Lib.hid hkr
          have HQ := Lib.hid (HQ.out.below hbx HQ.out.lt)
          refine hK.out _ _ (hS.trans (Only.below_all hbx)) (fun hS => ?_)
          clear hK K hbx hox hkr
          refine wa_r [5, 9] ?_
          refine (ar_a (some 30) (fun K hK => ?_) (ar_a (some 34) (fun K hK => ?_) ar_nil))
          ·
            refine ow_val (.int .i64 old) _ (run_load1 3 (.tmp 29) (by kernel_rfl) ⟨w.heap.size, j * 1, none⟩ (by kernel_rfl) (.int .i64 old) (HCW.out _ HQ.out) _ Tryz.underlying3 rfl) ?_
            refine hK.out _ _ hS (fun hS => ?_)
            clear hK K
            refine wa_r [9] ?_
            refine ar_a (some 34) (fun K hK => ?_) ar_nil
            refine ow_call 53 #[.slice ka ks.length kc] (by kernel_rfl) (fun v w' => v = .int .i64 (sumN ks) ∧ Below _ _ w') ((rsum_any ks ka kc _ HKL.out HKR.out HNN.out).mono fun e' w' h => ⟨_, h.1, rfl, h.2⟩) (Lib.hid ?_)
            rintro v wy ⟨rfl, hby⟩
            have HQ := Lib.hid (HQ.out.below hby HQ.out.lt)
            refine hK.out _ _ (hS.trans (Only.below_all hby)) (fun hS => ?_)
            clear hK K hby
            refine wa_v 10 35 (.int .i64 (old + sumN ks)) hS HZQ (fun W hW => run_eqv (v := .int .i64 (IntKind.i64.wrap (old + sumN ks))) (by kernel_rfl) (wrap_big _ HBD.out.1 HBD.out.2)) (wa_v 11 36 (.pointer (some ⟨w.heap.size, j * 1, none⟩)) hS HZQ (fun W hW => run_eqv (run_idx 37 (.tmp 25) (.tmp 28) (by kernel_rfl) w.heap.size 0 s s j 3 1 (by kernel_rfl) (by kernel_rfl) (by omega) Tryz.underlying37 (by kernel_rfl)) (by rw [Nat.zero_add])) ?_)
            refine wa_r [12] ?_
            refine ar_a none (fun K hK => ?_) ar_nil
            refine ow_storeN 3 (.tmp 36) (.tmp 35) (by kernel_rfl) w.heap.size (j * 1) (.int .i64 (old + sumN ks)) [.int .i64 (old + sumN ks)] (by kernel_rfl) (by kernel_rfl) rfl (zRow acc) 3 HQ.out HF.out (by kernel_rfl) (by intro u hu; simp at hu; subst hu; rfl) (Lib.hid ?_)
            intro w5 hz hox
            refine hK.out _ _ (hS.trans hox) (fun hS => ?_)
            have HB5 := Lib.hid hz
            clear hK K hz hox
            refine wa_done (by kernel_rfl) ?_
            dsimp only [Exit.then, Act.put]
            simp only [List.setIfInBounds_toArray, List.set_cons_succ, List.set_cons_zero]
            have HNS := Lib.hid (show RSV w lo l g live w.heap.size (acc.set j (old + sumN ks)) w5 from by
              have hbl : Below w.heap.size w w5 := S4.out.bel.trans (hS.to_below S4.out.bel.size (fun q hq e => by omega))
              refine ⟨hbl, HR.out.below hbl, HRW2.out w5 hbl, ?_⟩
              have h1 := HB5.out
              rw [splice_one (by have := HF.out; omega), Nat.mul_one] at h1
              rw [← zRow_set]
              simpa using h1)
            clear hS
            go_wp2_with fail
            go_roundw
            case rel => exact ⟨k + 1, _, by omega, by go_num, Lib.hid (by rw [HTK.out, HT2.out]), HNEW, HNS⟩
            case measure => simp [intOf]; omega
          ·
            refine ow_call 53 #[.slice ka ks.length kc] (by kernel_rfl) (fun v w' => v = .int .i64 (sumN ks) ∧ Below _ _ w') ((rsum_any ks ka kc _ HKL.out HKR.out HNN.out).mono fun e' w' h => ⟨_, h.1, rfl, h.2⟩) (Lib.hid ?_)
            rintro v wy ⟨rfl, hby⟩
            have HQ := Lib.hid (HQ.out.below hby HQ.out.lt)
            refine hK.out _ _ (hS.trans (Only.below_all hby)) (fun hS => ?_)
            clear hK K hby
            refine wa_r [5] ?_
            refine ar_a (some 30) (fun K hK => ?_) ar_nil
            refine ow_val (.int .i64 old) _ (run_load1 3 (.tmp 29) (by kernel_rfl) ⟨w.heap.size, j * 1, none⟩ (by kernel_rfl) (.int .i64 old) (HCW.out _ HQ.out) _ Tryz.underlying3 rfl) ?_
            refine hK.out _ _ hS (fun hS => ?_)
            clear hK K
            refine wa_v 10 35 (.int .i64 (old + sumN ks)) hS HZQ (fun W hW => run_eqv (v := .int .i64 (IntKind.i64.wrap (old + sumN ks))) (by kernel_rfl) (wrap_big _ HBD.out.1 HBD.out.2)) (wa_v 11 36 (.pointer (some ⟨w.heap.size, j * 1, none⟩)) hS HZQ (fun W hW => run_eqv (run_idx 37 (.tmp 25) (.tmp 28) (by kernel_rfl) w.heap.size 0 s s j 3 1 (by kernel_rfl) (by kernel_rfl) (by omega) Tryz.underlying37 (by kernel_rfl)) (by rw [Nat.zero_add])) ?_)
            refine wa_r [12] ?_
            refine ar_a none (fun K hK => ?_) ar_nil
            refine ow_storeN 3 (.tmp 36) (.tmp 35) (by kernel_rfl) w.heap.size (j * 1) (.int .i64 (old + sumN ks)) [.int .i64 (old + sumN ks)] (by kernel_rfl) (by kernel_rfl) rfl (zRow acc) 3 HQ.out HF.out (by kernel_rfl) (by intro u hu; simp at hu; subst hu; rfl) (Lib.hid ?_)
            intro w5 hz hox
            refine hK.out _ _ (hS.trans hox) (fun hS => ?_)
            have HB5 := Lib.hid hz
            clear hK K hz hox
            refine wa_done (by kernel_rfl) ?_
            dsimp only [Exit.then, Act.put]
            simp only [List.setIfInBounds_toArray, List.set_cons_succ, List.set_cons_zero]
            have HNS := Lib.hid (show RSV w lo l g live w.heap.size (acc.set j (old + sumN ks)) w5 from by
              have hbl : Below w.heap.size w w5 := S4.out.bel.trans (hS.to_below S4.out.bel.size (fun q hq e => by omega))
              refine ⟨hbl, HR.out.below hbl, HRW2.out w5 hbl, ?_⟩
              have h1 := HB5.out
              rw [splice_one (by have := HF.out; omega), Nat.mul_one] at h1
              rw [← zRow_set]
              simpa using h1)
            clear hS
            go_wp2_with fail
            go_roundw
            case rel => exact ⟨k + 1, _, by omega, by go_num, Lib.hid (by rw [HTK.out, HT2.out]), HNEW, HNS⟩
            case measure => simp [intOf]; omega
      · have HT2 := Lib.hid (show srvStep s acc ((⟨sid, server, since, slo, shi⟩ : Sh), ks) = acc by
          unfold srvStep
          dsimp only
          rw [if_neg hsl])
        have HNEW := Lib.hid (show acc.length = s ∧ ∀ i, acc.getD i 0 ≤ (k + 1 : Nat) * 1000000000 ∧ 0 ≤ acc.getD i 0 from ⟨HL.out.1, fun i => by have := HL.out.2 i; omega⟩)
        go_wp2_with fail
        go_roundw
        case rel => exact ⟨k + 1, acc, by omega, by go_num, Lib.hid (by rw [HTK.out, HT2.out]), HNEW, S4⟩
        case measure => simp [intOf]; omega
    · obtain rfl : k = live.length := by omega
      rw [List.take_length] at HA
      go_wp2_with fail
      go_ret
      refine ⟨_, rfl, ?_, HS.out.bel⟩
      have e : acc = srvP s (loadsP live l) := HA.out
      rw [← e]
      have hal := HL.out.1
      exact own_blk (cap := s) (cur := zRow acc) HS.out.out (Nat.le_refl _) (by rw [zRow_len]; omega) (Nat.le_refl _) (by unfold maxLen; omega) (by rw [zRow_len]; omega) (List.take_of_length_le (by rw [zRow_len]; omega))
end Go.Proofs.YthjmfcdhpdiehaaGreatDoor
