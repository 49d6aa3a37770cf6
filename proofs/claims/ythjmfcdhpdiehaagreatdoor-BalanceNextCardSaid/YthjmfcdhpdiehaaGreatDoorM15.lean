/-
  balance.Shards: shards' loads.
  balance.check.
  balance.sums: servers' loads.
  balance.Servers.
  balance.ends: slices.Min, Max, Index of ints.
  balance.strays, and slices.IndexFunc over loads.
-/
import Derived.Test.YthjmfcdhpdiehaaGreatDoorM14
import Derived.Test.YthjmfcdhpdiehaaGreatDoorM05
import Derived.Laws.MakeOwn
namespace Go.Proofs.YthjmfcdhpdiehaaGreatDoor
open Go.RowKit Utf
set_option maxRecDepth 100000
set_option linter.unusedSimpArgs false
set_option linter.unusedVariables false

theorem zRow_app (l : List Int) (n : Int) : zRow (l ++ [n]) = zRow l ++ [.int .i64 n] := by simp [zRow]
theorem rightB_num {l : List LD} (h : rightB l = true) : NumOk l := by
  intro x hx
  obtain ⟨i, hi, rfl⟩ := List.getElem_of_mem hx
  have := rightB_at h hi
  unfold ldOK at this
  rw [ldAt_eq hi] at this
  simp only [Bool.and_eq_true, decide_eq_true_eq] at this
  omega
theorem row_lo {w : World} {b o : Nat} {l : List LO} (h : RowAt w (some ⟨b, o, none⟩) (loRow l)) {i : Nat} (hi : i < l.length) : w.rangeAt b (o + i * 7) l[i].cells := by
  obtain ⟨b', o', e', hc⟩ := row_flat LO.cells 7 (by decide) LO.cells_len h i hi
  cases e'
  intro j v hj
  have hj5 : j < 7 := by have := (List.getElem?_eq_some_iff.1 hj).1; rw [LO.cells_len] at this; exact this
  rw [hc j hj5]
  exact hj
theorem LO.one {x : LO} (h : x.kv.oneCell' = true) : ∀ u ∈ x.cells, u.oneCell' = true := by
  intro u hu
  simp only [LO.cells, List.mem_cons, List.mem_nil_iff, or_false] at hu
  rcases hu with rfl | rfl | rfl | rfl | rfl | rfl | rfl <;> first | rfl | exact h
/-- How the loop stands. -/
structure SS (w : World) (B : Nat) (v vo : Value) (xs : List LO) (ns : List Int) (W : World) : Prop where
  bel : Below w.heap.size w W
  row : OwnE W B 87 7 v xs.length (loRow xs)
  out : OwnE W w.heap.size 3 1 vo ns.length (zRow ns)
theorem SS.next {w W W' : World} {B : Nat} {v vo : Value} {xs : List LO} {ns : List Int} (h : SS w B v vo xs ns W) (hb : Below W.heap.size W W') : SS w B v vo xs ns W' :=
  ⟨h.bel.trans (hb.mono h.bel.size), h.row.below hb, h.out.below hb⟩
/-- Sums of plain loads. -/
def sumsP (l : List (Sh × List LD)) : List Int := l.map (fun x => sumN x.2)
theorem sums_of {xs : List LO} {p : List (Sh × List LD)} (h : xs.map LO.plain = p) : xs.map (fun x => sumN x.keys) = sumsP p := by
  rw [← h]
  simp [sumsP, LO.plain]

set_option maxHeartbeats 4000000 in
theorem bshards_any (ea : Nat → Addr) (b B : Nat) (m : PM) (l : List LD) (lo : Option Addr) (lc : Nat) (w : World) (hm : MapAt w B b m) (hn : l.length ≤ 1000) (hr : RowAt w lo (ldRow l)) (he : BErr w ea) (hk : LdOk l) :
    Calls Tryz.prog 11 #[.pointer (some ⟨b, 0, none⟩), .slice lo l.length lc] w fun e w' => (if rightB l = true then ∃ v, e = .returned (.tuple #[v, .nilIface]) ∧ OwnE w' w.heap.size 3 1 v m.live.length (zRow (sumsP (loadsP m.live l))) else e = .returned (.tuple #[.slice none 0 0, errV ea 3])) ∧ Below w.heap.size w w' := by
  have HE := Lib.hid he
  have HML := Lib.hid (show m.live.length ≤ 10000 from by obtain ⟨vl, ve, h⟩ := hm; exact h.len.1)
  obtain ⟨i0, hinf, hz0, hz1, hz2⟩ := info_parts Tryz.infoInt
  have HI := Lib.hid (And.intro hinf (And.intro hz0 (And.intro hz1 hz2)))
  clear hinf hz0 hz1 hz2
  have HRT := Lib.hid (ldRight_any ea l lo lc w (by omega) hr he hk)
  cases hrb : rightB l with
  | false =>
    rw [hrb] at HRT
    clear hm hr he hk
    go_enter Tryz.func11, Tryz.ntmps11
    go_wp2_with fail
    refine HRT.out.mono ?_
    rintro e w1 ⟨rfl, hb1⟩
    have c3 : w1.cell? ⟨0, 0, none⟩ = some (errV ea 3) := (HE.out.below hb1).cell 3 (by decide)
    have B1 := Lib.hid hb1
    clear hb1 HRT
    go_wp2_with fail
    go_region
    go_wp2_with fail
    go_ret2
    exact ⟨rfl, tame_drewN B1.out 1⟩
  | true =>
    rw [hrb] at HRT
    have HLD := Lib.hid (fun W hb => loads_any ea b B m l lo lc W (hm.below hb) hn (hr.below hb) (he.below hb) hk (rightB_num hrb))
    clear hm hr he hk hrb
    go_enter Tryz.func11, Tryz.ntmps11
    go_wp2_with fail
    refine HRT.out.mono ?_
    rintro e w1 ⟨rfl, hb1⟩
    have B1 := Lib.hid hb1
    clear hb1 HRT
    go_wp2_with fail
    refine (HLD.out _ B1.out).mono ?_
    rintro e w2 ⟨v, xs, rfl, hp, ho, hks, hb2⟩
    have HP := Lib.hid (sums_of hp)
    have HLN := Lib.hid (show xs.length = m.live.length by
      have h1 : (xs.map LO.plain).length = (loadsP m.live l).length := by rw [hp]
      unfold loadsP at h1
      simpa using h1)
    have HKO := Lib.hid (show ∀ x ∈ xs, x.kv.oneCell' = true from fun x hx => (hks x hx).one)
    obtain ⟨ao, cap, rfl, -⟩ := ownE_row ho
    have hxl : xs.length ≤ 10000 := by rw [HLN.out]; exact HML.out
    have S2 := Lib.hid (show SS w w1.heap.size (.slice ao xs.length cap) (.slice none 0 0) xs [] w2 from ⟨B1.out.trans (hb2.mono B1.out.size), ho, OwnE.nil⟩)
    clear hp ho hks hb2 HLD
    go_wp2_with fail
    go_loopw [6, 17] (fun vo i wr => ∃ (k : Nat), k ≤ xs.length ∧ i = .int .i64 k ∧ Hid (SS w w1.heap.size (.slice ao xs.length cap) vo xs ((xs.take k).map (fun x => sumN x.keys)) wr)) (fun _ i _ => xs.length - (intOf i).toNat)
    case atStart => exact ⟨0, Nat.zero_le _, rfl, S2⟩
    case round =>
      obtain ⟨k, hk, rfl, HS⟩ := hrel
      by_cases hlt : k < xs.length
      · obtain ⟨b', o', rfl, -⟩ := row_flat LO.cells 7 (by decide) LO.cells_len (by
          obtain ⟨a2, c2, hv, hr⟩ := ownE_row HS.out.row
          cases hv
          exact hr) k hlt
        have HRG := Lib.hid (row_lo (by
          obtain ⟨a2, c2, hv, hr⟩ := ownE_row HS.out.row
          cases hv
          exact hr) hlt)
        have HOC := Lib.hid (LO.one (HKO.out _ (List.getElem_mem hlt)))
        have HSI := Lib.hid (show (Tryz.prog.info? 87).map (·.size) = some xs[k].cells.length by rw [LO.cells_len]; kernel_rfl)
        have HZ1 := Lib.hid (Blk.new wr 87 #[.int .i64 0, .int .i64 0, .int .i64 0, .string ⟨#[]⟩, .string ⟨#[]⟩, .slice none 0 0, .int .i64 0])
        have HTK := Lib.hid (show (xs.take (k + 1)).map (fun x => sumN x.keys) = (xs.take k).map (fun x => sumN x.keys) ++ [sumN xs[k].keys] by rw [List.take_succ_eq_append_getElem hlt, List.map_append]; rfl)
        have HNL := Lib.hid (show ((xs.take k).map (fun x => sumN x.keys)).length ≤ 10000 by have := HML.out; have := HLN.out; simp; omega)
        generalize (xs.take k).map (fun x => sumN x.keys) = ns at *
        generalize xs[k] = x at *
        go_wp2_with (first | (refine wpList_load_mid rfl 87 (.tmp 19) rfl b' (o' + k * 7) rfl _ _ HRG.out Tryz.underlying87 rfl HSI.out ?_) | (refine wpList_store_blk rfl 87 (.tmp 8) (.tmp 20) rfl wr.heap.size x.cells.toArray rfl rfl 87 _ HZ1.out rfl HSI.out (by simpa using HOC.out) ?_))
        refine Lib.hid ?_
        intro w4 hz hox
        have HB8 := Lib.hid hz
        have S4 := Lib.hid (HS.out.next ((below_alloc wr _).trans (hox.to_below (B := wr.heap.size) (by simp) (fun q hq e => by omega))))
        have c6 : w4.cell? ⟨wr.heap.size, 6, none⟩ = some (.int .i64 (sumN x.keys)) := HB8.out.cell 6
        have HOW := Lib.hid S4.out.out
        have HSZ : Hid (w.heap.size ≤ w4.heap.size) := Lib.hid S4.out.bel.size
        clear hz hox HZ1 HRG
        go_wp2_with (refine appE rfl (.tmp 21) (.tmp 24) 37 rfl 3 i0 _ 1 8 Tryz.underlying37 HI.out.1 HI.out.2.1 HI.out.2.2.1 HI.out.2.2.2 rfl (by decide) w.heap.size u6 ns.length (zRow ns) rfl HOW.out w.heap.size (Nat.le_refl _) S4.out.bel HSZ.out [.int .i64 (sumN x.keys)] 1 rfl (by decide) (by intro u hu; simp at hu; subst hu; rfl) rfl (by have := HNL.out; omega) (by decide) ?_)
        refine Lib.hid ?_
        intro v9 w9 h1 h2 h3
        obtain ⟨g9, c9, rfl, -, -, -, -⟩ := own_some h1 (by omega)
        have HLS := Lib.hid (show SS w w1.heap.size (.slice (some ⟨b', o', none⟩) xs.length cap) (.slice (some ⟨g9, 0, none⟩) (ns.length + 1) c9) xs (ns ++ [sumN x.keys]) w9 from by
          refine ⟨h2, (S4.out.row.alloc _).other (S4.out.out.alloc _) (by decide) h3, ?_⟩
          rw [List.length_append, zRow_app]
          exact .inr h1)
        rw [← HTK.out] at HLS
        clear h1 h2 h3
        go_wp2_with fail
        go_roundw
        case rel => exact ⟨k + 1, by omega, by go_num, HLS⟩
        case measure => simp [intOf]; omega
      · obtain rfl : k = xs.length := by omega
        have HO := Lib.hid HS.out.out
        rw [List.take_length, HP.out] at HO
        go_wp2_with fail
        go_ret2
        refine ⟨?_, HS.out.bel⟩
        refine ⟨_, rfl, ?_⟩
        have := HO.out
        have e : (sumsP (loadsP m.live l)).length = m.live.length := by simp [sumsP, loadsP]
        rw [e] at this
        exact this
end Go.Proofs.YthjmfcdhpdiehaaGreatDoor

namespace Go.Proofs.YthjmfcdhpdiehaaGreatDoor
open Go.RowKit Utf
set_option maxRecDepth 100000
set_option linter.unusedSimpArgs false
set_option linter.unusedVariables false

/-- The error's number of what is asked; 0: none. -/
def checkN (l : List LD) (s m : Int) : Nat := if rightB l = false then 4 else if s < 1 then 1 else if 4 < s then 1 else if m < 1 then 1 else 0

set_option maxHeartbeats 1000000 in
theorem check_any (ea : Nat → Addr) (l : List LD) (lo : Option Addr) (lc : Nat) (s m : Int) (w : World) (hn : l.length ≤ 1000) (hr : RowAt w lo (ldRow l)) (he : BErr w ea) (hk : LdOk l) :
    Calls Tryz.prog 36 #[.slice lo l.length lc, .int .i64 s, .int .i64 m] w fun e w' => e = .returned (errOf ea (checkN l s m)) ∧ Below w.heap.size w w' := by
  have HE := Lib.hid he
  have HRT := Lib.hid (ldRight_any ea l lo lc w (by omega) hr he hk)
  clear hr he hk
  cases hrb : rightB l with
  | false =>
    have HZ := Lib.hid (show checkN l s m = 4 by unfold checkN; rw [if_pos hrb])
    rw [hrb] at HRT
    clear hrb
    go_enter Tryz.func36, Tryz.ntmps36
    go_wp2_with fail
    refine HRT.out.mono ?_
    rintro e w1 ⟨rfl, hb1⟩
    have c3 : w1.cell? ⟨0, 0, none⟩ = some (errV ea 3) := (HE.out.below hb1).cell 3 (by decide)
    have B1 := Lib.hid hb1
    clear hb1 HRT
    go_wp2_with fail
    go_ret
    exact ⟨by rw [HZ.out]; rfl, B1.out⟩
  | true =>
    have HZ := Lib.hid (show checkN l s m = if s < 1 then 1 else if 4 < s then 1 else if m < 1 then 1 else 0 by unfold checkN; rw [if_neg (by rw [hrb]; simp)])
    rw [hrb] at HRT
    clear hrb
    go_enter Tryz.func36, Tryz.ntmps36
    go_wp2_with fail
    refine HRT.out.mono ?_
    rintro e w1 ⟨rfl, hb1⟩
    have c3 : w1.cell? ⟨1, 0, none⟩ = some (errV ea 0) := (HE.out.below hb1).cell 0 (by decide)
    have B1 := Lib.hid hb1
    clear hb1 HRT
    by_cases h1 : s < 1
    · rw [if_pos h1] at HZ
      go_wp2_with fail
      go_ret
      exact ⟨by rw [HZ.out]; rfl, B1.out⟩
    rw [if_neg h1] at HZ
    by_cases h2 : s > 4
    · rw [if_pos h2] at HZ
      go_wp2_with fail
      go_ret
      exact ⟨by rw [HZ.out]; rfl, B1.out⟩
    rw [if_neg h2] at HZ
    by_cases h3 : m < 1
    · rw [if_pos h3] at HZ
      go_wp2_with fail
      go_ret
      exact ⟨by rw [HZ.out]; rfl, B1.out⟩
    rw [if_neg h3] at HZ
    go_wp2_with fail
    go_ret
    exact ⟨by rw [HZ.out]; rfl, B1.out⟩
end Go.Proofs.YthjmfcdhpdiehaaGreatDoor

namespace Go.Proofs.YthjmfcdhpdiehaaGreatDoor
open Go.RowKit Utf
set_option maxRecDepth 100000
set_option linter.unusedSimpArgs false
set_option linter.unusedVariables false

theorem made_ints (s : Nat) : madeCells (Value.int .i64 0).cells (s * 1) = (zRow (List.replicate s 0)).toArray := by
  apply Array.ext
  · simp [madeCells, zRow]
  · intro i h1 h2
    simp [madeCells, zRow, Value.cells, Nat.mod_one]
section
variable {P : Program} {ops : Array Oper} {rest : List Oper} {o : Oper} {a : Act} {w : World} {Q : Exit → Act → World → Prop}
theorem wpList_mkInts (hgd : o.guard = none) (t : TypeId) (x y : Operand) (ho : o.op = .makeSlice t x y) (s : Nat) (hx : a.eval x = .int .i64 (s : Int)) (hy : a.eval y = .int .i64 (s : Int))
    (e : TypeId) (i : TypeInfo) (ht : P.underlying t = some (.slice e)) (hi : P.info? e = some i) (hz : i.zero = some (.int .i64 0)) (hs : i.size = 1) (hb : i.bytes = 8) (hs2 : s ≤ 1000000)
    (h : Hid (∀ w', Blk w' w.heap.size e (zRow (List.replicate s 0)).toArray → Below w.heap.size w w' → wpList P ops Q rest (a.put o.dst (.slice (some ⟨w.heap.size, 0, none⟩) s s)) w')) : wpList P ops Q (o :: rest) a w := by
  have hr := run_makeSlice (P := P) w t e i (.int .i64 0) ht hi hz .i64 .i64 (s : Int) (s : Int) (by omega) (Int.le_refl _) (by rw [hs]; simp; omega) (by rw [hb]; omega) (by omega)
  rw [hs, Int.toNat_natCast, made_ints] at hr
  refine wpList_plain hgd fun K hK => ?_
  unfold Oper.wp execOp
  simp only [ho, hx, hy, Sem.run_bind, hr, Result.andThen_ok, Sem.run_pure]
  exact hK _ _ (h.out _ (Blk.new w _ _) (below_alloc _ _))
end
/-- Servers' loads, of plain loads. -/
def addAt (l : List Int) (i : Nat) (x : Int) : List Int := l.set i (l.getD i 0 + x)
def srvStep (s : Nat) (acc : List Int) (x : Sh × List LD) : List Int := if x.1.server ≤ (s : Int) then addAt acc (x.1.server - 1).toNat (sumN x.2) else acc
def srvP (s : Nat) (p : List (Sh × List LD)) : List Int := p.foldl (srvStep s) (List.replicate s 0)
theorem addAt_len (l : List Int) (i : Nat) (x : Int) : (addAt l i x).length = l.length := List.length_set ..
theorem srvStep_len (s : Nat) (acc : List Int) (x : Sh × List LD) : (srvStep s acc x).length = acc.length := by
  unfold srvStep
  split
  · exact addAt_len ..
  · rfl
theorem wrap_big (x : Int) (h : 0 ≤ x) (h2 : x ≤ 1000000000000000) : Value.int .i64 (IntKind.i64.wrap x) = .int .i64 x := by
  rw [Go.IntWalk.i64_in _ (by omega)]
theorem OwnE.only' {S : Nat → Prop} {w w' : World} {B sz : Nat} {e : TypeId} {v : Value} {n : Nat} {xs : List Value} (h : OwnE w B e sz v n xs) (ho : Only S w w') (hs : ∀ q, ownB v = some q → ¬ S q) : OwnE w' B e sz v n xs := by
  rcases h with h | h
  · exact .inl h
  · by_cases hc : v.ownBlock = ownB v
    · exact .inr (own_only h ho (fun q hq => hs q (hc ▸ hq)))
    · rcases h.2 with ⟨rfl, h2⟩ | ⟨g, cap, cur, rfl, hB, hg, h3⟩
      · exact absurd rfl hc
      · by_cases hc0 : cap = 0
        · have hn0 : n = 0 := by have := h3.1; omega
          subst hn0
          subst hc0
          exact .inl ⟨.inr ⟨g, rfl⟩, rfl, List.length_eq_zero_iff.1 (by rw [h.1, Nat.zero_mul])⟩
        · exact absurd (by simp [ownB, Value.ownBlock, hc0]) hc
theorem OwnE.ne_blk' {w : World} {B sz : Nat} {e : TypeId} {v : Value} {n : Nat} {xs : List Value} (h : OwnE w B e sz v n xs) {c : Nat} {T : TypeId} {cs : Array Value} (hC : Blk w c T cs) (hne : e ≠ T) : ownB v ≠ some c := by
  rcases h with ⟨h | ⟨g, h⟩, -⟩ | h
  · rw [h]; intro h; cases h
  · rw [h]; intro h; simp [ownB] at h
  · intro h2
    exact own_ne_blk h hC hne (ownB_own h2)
/-- How the loop stands. -/
structure SU (w : World) (B : Nat) (v : Value) (xs : List LO) (q : Nat) (acc : List Int) (W : World) : Prop where
  bel : Below w.heap.size w W
  row : OwnE W B 87 7 v xs.length (loRow xs)
  out : Blk W q 3 (zRow acc).toArray
theorem SU.next {w W W' : World} {B q : Nat} {v : Value} {xs : List LO} {acc : List Int} (h : SU w B v xs q acc W) (hb : Below W.heap.size W W') : SU w B v xs q acc W' :=
  ⟨h.bel.trans (hb.mono h.bel.size), h.row.below hb, h.out.below hb h.out.lt⟩
theorem zRow_get (l : List Int) (i : Nat) (h : i < l.length) : (zRow l).toArray[i]? = some (.int .i64 (l.getD i 0)) := by
  simp [zRow, List.getD_eq_getElem?_getD, h]
theorem zRow_set (l : List Int) (i : Nat) (n : Int) : (zRow l).toArray.setIfInBounds i (.int .i64 n) = (zRow (l.set i n)).toArray := by
  simp [zRow, List.map_set]

set_option maxHeartbeats 4000000 in
theorem sums_any (B : Nat) (xs : List LO) (s : Nat) (v : Value) (w : World) (hs : 1 ≤ s ∧ s ≤ 4) (hxl : xs.length ≤ 10000) (ho : OwnE w B 87 7 v xs.length (loRow xs)) (hks : ∀ x ∈ xs, x.kv.oneCell' = true) (hsv : ∀ x ∈ xs, 1 ≤ x.sh.server) (hsm : ∀ x ∈ xs, 0 ≤ sumN x.keys ∧ sumN x.keys ≤ 1000000000) (hB : B ≤ w.heap.size) :
    Calls Tryz.prog 37 #[v, .int .i64 (s : Nat)] w fun e w' => (∃ v', e = .returned v' ∧ w'.ownsRow w.heap.size 3 1 v' s (zRow (srvP s (xs.map LO.plain)))) ∧ Below w.heap.size w w' := by
  obtain ⟨ao, cap, rfl, -⟩ := ownE_row ho
  have HO := Lib.hid ho
  have HKO := Lib.hid hks
  have HSV := Lib.hid hsv
  have HSM := Lib.hid hsm
  obtain ⟨i0, hinf, hz0, hz1, hz2⟩ := info_parts Tryz.infoInt
  have HI := Lib.hid (And.intro hinf (And.intro hz0 (And.intro hz1 hz2)))
  clear hinf hz0 hz1 hz2 ho hks hsv hsm
  go_enter Tryz.func37, Tryz.ntmps37
  go_wp2_with (refine wpList_mkInts rfl 37 (.tmp 8) (.tmp 8) rfl s rfl rfl 3 i0 Tryz.underlying37 HI.out.1 HI.out.2.1 HI.out.2.2.1 HI.out.2.2.2 (by omega) ?_)
  refine Lib.hid ?_
  intro w1 h1 h2
  have S1 := Lib.hid (show SU w B (.slice ao xs.length cap) xs w.heap.size (((xs.take 0).map LO.plain).foldl (srvStep s) (List.replicate s 0)) w1 from ⟨h2, HO.out.below h2, h1⟩)
  have HL0 := Lib.hid (show (((xs.take 0).map LO.plain).foldl (srvStep s) (List.replicate s 0)).length = s ∧ ∀ i, ((((xs.take 0).map LO.plain).foldl (srvStep s) (List.replicate s 0)).getD i 0) ≤ (0 : Nat) * 1000000000 ∧ 0 ≤ (((xs.take 0).map LO.plain).foldl (srvStep s) (List.replicate s 0)).getD i 0 from by
    refine ⟨by simp, fun i => ?_⟩
    simp [List.getD_eq_getElem?_getD, List.getElem?_replicate]
    split <;> simp)
  clear h1 h2
  go_wp2_with fail
  go_loopw [12] (fun i wr => ∃ (k : Nat) (acc : List Int), k ≤ xs.length ∧ i = .int .i64 k ∧ Hid (acc = ((xs.take k).map LO.plain).foldl (srvStep s) (List.replicate s 0)) ∧ Hid (acc.length = s ∧ ∀ i, acc.getD i 0 ≤ (k : Nat) * 1000000000 ∧ 0 ≤ acc.getD i 0) ∧ Hid (SU w B (.slice ao xs.length cap) xs w.heap.size acc wr)) (fun i _ => xs.length - (intOf i).toNat)
  case atStart => exact ⟨0, _, Nat.zero_le _, rfl, Lib.hid rfl, HL0, S1⟩
  case round =>
    obtain ⟨k, acc, hk, rfl, HA, HL, HS⟩ := hrel
    by_cases hlt : k < xs.length
    · obtain ⟨b', o', rfl, -⟩ := row_flat LO.cells 7 (by decide) LO.cells_len (by
        obtain ⟨a2, c2, hv, hr⟩ := ownE_row HS.out.row
        cases hv
        exact hr) k hlt
      have HRG := Lib.hid (row_lo (by
        obtain ⟨a2, c2, hv, hr⟩ := ownE_row HS.out.row
        cases hv
        exact hr) hlt)
      have HOC := Lib.hid (LO.one (HKO.out _ (List.getElem_mem hlt)))
      have HSI := Lib.hid (show (Tryz.prog.info? 87).map (·.size) = some xs[k].cells.length by rw [LO.cells_len]; kernel_rfl)
      have HZ1 := Lib.hid (Blk.new wr 87 #[.int .i64 0, .int .i64 0, .int .i64 0, .string ⟨#[]⟩, .string ⟨#[]⟩, .slice none 0 0, .int .i64 0])
      have HTK := Lib.hid (show ((xs.take (k + 1)).map LO.plain).foldl (srvStep s) (List.replicate s 0) = srvStep s acc (xs[k].plain) by rw [List.take_succ_eq_append_getElem hlt, List.map_append, List.foldl_append, ← HA.out]; rfl)
      have HV := Lib.hid (HSV.out _ (List.getElem_mem hlt))
      have HM := Lib.hid (HSM.out _ (List.getElem_mem hlt))
      generalize xs[k] = x at *
      obtain ⟨⟨sid, server, since, slo, shi⟩, kv, keys⟩ := x
      clear HA
      go_wp2_with (first | (refine wpList_load_mid rfl 87 (.tmp 14) rfl b' (o' + k * 7) rfl _ _ HRG.out Tryz.underlying87 rfl HSI.out ?_) | (refine wpList_store_blk rfl 87 (.tmp 7) (.tmp 15) rfl wr.heap.size (LO.mk ⟨sid, server, since, slo, shi⟩ kv keys).cells.toArray rfl rfl 87 _ HZ1.out rfl HSI.out (by simpa using HOC.out) ?_))
      refine Lib.hid ?_
      intro w4 hz hox
      have HB8 := Lib.hid hz
      have S4 := Lib.hid (HS.out.next ((below_alloc wr _).trans (hox.to_below (B := wr.heap.size) (by simp) (fun q hq e => by omega))))
      have c1 : w4.cell? ⟨wr.heap.size, 1, none⟩ = some (.int .i64 server) := HB8.out.cell 1
      have HQ8 : Hid (w.heap.size ≠ wr.heap.size) := Lib.hid (Nat.ne_of_lt HS.out.out.lt)
      have HBQ := Lib.hid S4.out.out
      clear hz hox HZ1 HRG
      by_cases hsl : server ≤ (s : Int)
      · obtain ⟨j, rfl⟩ : ∃ j : Nat, server = (j : Int) + 1 := ⟨(server - 1).toNat, by have := HV.out; omega⟩
        have HT2 := Lib.hid (show srvStep s acc (LO.plain ⟨⟨sid, (j : Int) + 1, since, slo, shi⟩, kv, keys⟩) = acc.set j (acc.getD j 0 + sumN keys) by
          unfold srvStep LO.plain addAt
          rw [if_pos hsl]
          simp)
        have hjs : j < s := by omega
        have hal : acc.length = s := HL.out.1
        have ha := HL.out.2 j
        have hm := HM.out
        have HCQ := Lib.hid (zRow_get acc j (by omega))
        have HNEW := Lib.hid (show (acc.set j (acc.getD j 0 + sumN keys)).length = s ∧ ∀ i, (acc.set j (acc.getD j 0 + sumN keys)).getD i 0 ≤ (k + 1 : Nat) * 1000000000 ∧ 0 ≤ (acc.set j (acc.getD j 0 + sumN keys)).getD i 0 from by
          refine ⟨by rw [List.length_set]; exact hal, fun i => ?_⟩
          rw [List.getD_eq_getElem?_getD, List.getElem?_set]
          by_cases hij : j = i
          · subst hij
            rw [if_pos rfl, if_pos (by omega)]
            simp only [Option.getD_some]
            omega
          · rw [if_neg hij, ← List.getD_eq_getElem?_getD]
            have := HL.out.2 i
            omega)
        generalize acc.getD j 0 = old at *
        go_wp2_with fail
        have HCW := Lib.hid (show ∀ W, Blk W w.heap.size 3 (zRow acc).toArray → W.cell? ⟨w.heap.size, j * 1, none⟩ = some (.int .i64 old) from fun W h => by
          rw [h.cell, Nat.mul_one]
          exact HCQ.out)
        have HF : Hid (j * 1 + 1 ≤ (zRow acc).length) := Lib.hid (by rw [zRow_len]; omega)
        have hb1 : 0 ≤ old + sumN keys ∧ old + sumN keys ≤ 1000000000000000 := by omega
        refine wp_region_wb ((Only (fun k => k = w.heap.size) w4)) (by kernel_rfl) (((Only.refl (fun k => k = w.heap.size) w4).drewN 1)) (fun _ _ _ _ _ h => h) ?_
        intro hS HZQ
        refine wa_k 0 21 (.slice (some ⟨w.heap.size, 0, none⟩) s s) hS HZQ (wa_k 1 22 (.pointer (some ⟨wr.heap.size, 0, none⟩)) hS HZQ (wa_k 2 23 (.pointer (some ⟨wr.heap.size, 1, none⟩)) hS HZQ (wa_v 3 24 (.int .i64 ((j : Int) + 1)) hS HZQ (fun W hW => run_load1 3 (.tmp 23) (by kernel_rfl) ⟨wr.heap.size, 1, none⟩ (by kernel_rfl) (.int .i64 ((j : Int) + 1)) ((HB8.out.only hW (fun e => HQ8.out e.symm)).cell 1) _ Tryz.underlying3 rfl) (wa_v 4 25 (.int .i64 ((j : Nat) : Int)) hS HZQ (fun W hW => run_eqv (v := .int .i64 (IntKind.i64.wrap (((j : Int) + 1) - 1))) (by kernel_rfl) (wrap_nat _ j (by omega) (by omega))) (wa_v 5 26 (.pointer (some ⟨w.heap.size, j * 1, none⟩)) hS HZQ (fun W hW => run_eqv (run_idx 37 (.tmp 21) (.tmp 25) (by kernel_rfl) w.heap.size 0 s s j 3 1 (by kernel_rfl) (by kernel_rfl) (by omega) Tryz.underlying37 (by kernel_rfl)) (by rw [Nat.zero_add])) (wa_k 7 28 (.pointer (some ⟨wr.heap.size, 6, none⟩)) hS HZQ (wa_v 8 29 (.int .i64 (sumN keys)) hS HZQ (fun W hW => run_load1 3 (.tmp 28) (by kernel_rfl) ⟨wr.heap.size, 6, none⟩ (by kernel_rfl) (.int .i64 (sumN keys)) ((HB8.out.only hW (fun e => HQ8.out e.symm)).cell 6) _ Tryz.underlying3 rfl) ?_)))))))
        refine wa_r [6] ?_
        refine ar_a (some 27) (fun K hK => ?_) ar_nil
        refine ow_val (.int .i64 old) _ (run_load1 3 (.tmp 26) (by kernel_rfl) ⟨w.heap.size, j * 1, none⟩ (by kernel_rfl) (.int .i64 old) (HCW.out _ (HBQ.out.drewN 1)) _ Tryz.underlying3 rfl) ?_
        refine hK.out _ _ hS (fun hS => ?_)
        clear hK K
        refine wa_v 9 30 (.int .i64 (old + sumN keys)) hS HZQ (fun W hW => run_eqv (v := .int .i64 (IntKind.i64.wrap (old + sumN keys))) (by kernel_rfl) (wrap_big _ hb1.1 hb1.2)) (wa_v 10 31 (.pointer (some ⟨w.heap.size, j * 1, none⟩)) hS HZQ (fun W hW => run_eqv (run_idx 37 (.tmp 21) (.tmp 25) (by kernel_rfl) w.heap.size 0 s s j 3 1 (by kernel_rfl) (by kernel_rfl) (by omega) Tryz.underlying37 (by kernel_rfl)) (by rw [Nat.zero_add])) ?_)
        refine wa_r [11] ?_
        refine ar_a none (fun K hK => ?_) ar_nil
        refine ow_storeN 3 (.tmp 31) (.tmp 30) (by kernel_rfl) w.heap.size (j * 1) (.int .i64 (old + sumN keys)) [.int .i64 (old + sumN keys)] (by kernel_rfl) (by kernel_rfl) rfl (zRow acc) 3 (HBQ.out.drewN 1) HF.out (by kernel_rfl) (by intro u hu; simp at hu; subst hu; rfl) (Lib.hid ?_)
        intro w5 hz hox
        refine hK.out _ _ (hS.trans hox) (fun hS => ?_)
        have HB5 := Lib.hid hz
        clear hK K hz hox
        refine wa_done (by kernel_rfl) ?_
        dsimp only [Exit.then, Act.put]
        simp only [List.setIfInBounds_toArray, List.set_cons_succ, List.set_cons_zero]
        have HNS := Lib.hid (show SU w B (.slice (some ⟨b', o', none⟩) xs.length cap) xs w.heap.size (acc.set j (old + sumN keys)) w5 from by
          refine ⟨S4.out.bel.trans (hS.to_below S4.out.bel.size (fun q hq e => by omega)), ?_, ?_⟩
          · exact OwnE.only' S4.out.row hS (fun q hq e => OwnE.ne_blk' S4.out.row S4.out.out (by decide) (by rw [hq, e]))
          · have h1 := HB5.out
            rw [splice_one (by have := HF.out; omega), Nat.mul_one] at h1
            rw [← zRow_set]
            simpa using h1)
        clear hS
        go_wp2_with fail
        go_roundw
        case rel => exact ⟨k + 1, _, by omega, by go_num, Lib.hid (by rw [HTK.out, HT2.out]), HNEW, HNS⟩
        case measure => simp [intOf]; omega
      · have HT2 := Lib.hid (show srvStep s acc (LO.plain ⟨⟨sid, server, since, slo, shi⟩, kv, keys⟩) = acc by
          unfold srvStep LO.plain
          rw [if_neg hsl])
        have HNEW := Lib.hid (show acc.length = s ∧ ∀ i, acc.getD i 0 ≤ (k + 1 : Nat) * 1000000000 ∧ 0 ≤ acc.getD i 0 from ⟨HL.out.1, fun i => by have := HL.out.2 i; omega⟩)
        go_wp2_with fail
        go_roundw
        case rel => exact ⟨k + 1, acc, by omega, by go_num, Lib.hid (by rw [HTK.out, HT2.out]), HNEW, S4⟩
        case measure => simp [intOf]; omega
    · obtain rfl : k = xs.length := by omega
      rw [List.take_length] at HA
      go_wp2_with fail
      go_ret
      refine ⟨⟨_, rfl, ?_⟩, HS.out.bel⟩
      have e : acc = srvP s (xs.map LO.plain) := HA.out
      rw [← e]
      have hal := HL.out.1
      exact own_blk (cap := s) (cur := zRow acc) HS.out.out (Nat.le_refl _) (by rw [zRow_len]; omega) (Nat.le_refl _) (by unfold maxLen; omega) (by rw [zRow_len]; omega) (List.take_of_length_le (by rw [zRow_len]; omega))
end Go.Proofs.YthjmfcdhpdiehaaGreatDoor

namespace Go.Proofs.YthjmfcdhpdiehaaGreatDoor
open Go.RowKit Utf
set_option maxRecDepth 100000
set_option linter.unusedSimpArgs false
set_option linter.unusedVariables false

theorem checkN_cases (l : List LD) (s m : Int) : checkN l s m = 4 ∨ checkN l s m = 1 ∨ (checkN l s m = 0 ∧ rightB l = true ∧ 1 ≤ s ∧ s ≤ 4 ∧ 1 ≤ m) := by
  unfold checkN
  by_cases h : rightB l = false
  · rw [if_pos h]; exact .inl rfl
  · rw [if_neg h]
    by_cases h1 : s < 1
    · rw [if_pos h1]; exact .inr (.inl rfl)
    · rw [if_neg h1]
      by_cases h2 : 4 < s
      · rw [if_pos h2]; exact .inr (.inl rfl)
      · rw [if_neg h2]
        by_cases h3 : m < 1
        · rw [if_pos h3]; exact .inr (.inl rfl)
        · rw [if_neg h3]
          exact .inr (.inr ⟨rfl, by simpa using h, by omega, by omega, by omega⟩)
/-- All servers of a map count from 1. -/
def SrvOk (m : PM) : Prop := ∀ s ∈ m.live, 1 ≤ s.server
/-- What loads answers, seen whole. -/
theorem loads_facts {m : PM} {l : List LD} {xs : List LO} (hp : xs.map LO.plain = loadsP m.live l) (hln : m.live.length ≤ 10000) (hn : l.length ≤ 1000) (hno : NumOk l) (hsv : SrvOk m) :
    xs.length ≤ 10000 ∧ (∀ x ∈ xs, 1 ≤ x.sh.server) ∧ (∀ x ∈ xs, 0 ≤ sumN x.keys ∧ sumN x.keys ≤ 1000000000) := by
  have h1 : (xs.map LO.plain).length = (loadsP m.live l).length := by rw [hp]
  have hx : ∀ x ∈ xs, ∃ s ∈ m.live, x.sh = s ∧ x.keys = keysP s l := fun x hx => by
    have : x.plain ∈ loadsP m.live l := by rw [← hp]; exact List.mem_map_of_mem hx
    obtain ⟨s, hs, e⟩ := List.mem_map.1 this
    unfold LO.plain at e
    simp only [Prod.mk.injEq] at e
    exact ⟨s, hs, e.1.symm, e.2.symm⟩
  refine ⟨by
    simp [loadsP] at h1
    omega, fun x hx' => ?_, fun x hx' => ?_⟩
  · obtain ⟨s, hs, e, -⟩ := hx x hx'
    rw [e]
    exact hsv s hs
  · obtain ⟨s, hs, -, e⟩ := hx x hx'
    have hb := sumN_bound (show NumOk (keysP s l) from fun y hy => hno y (List.mem_filter.1 hy).1)
    have hk := keysP_len s l
    rw [e]
    omega

end Go.Proofs.YthjmfcdhpdiehaaGreatDoor

namespace Go.Proofs.YthjmfcdhpdiehaaGreatDoor
open Go.RowKit Utf
set_option maxRecDepth 100000
set_option linter.unusedSimpArgs false
set_option linter.unusedVariables false

def minL (l : List Int) : Int := (l.drop 1).foldl min (l.getD 0 0)
def maxL (l : List Int) : Int := (l.drop 1).foldl max (l.getD 0 0)
theorem zRow_cell {w : World} {b o : Nat} {l : List Int} (h : RowAt w (some ⟨b, o, none⟩) (zRow l)) {i : Nat} (hi : i < l.length) : w.cell? ⟨b, o + i, none⟩ = some (.int .i64 (l.getD i 0)) := by
  obtain ⟨b', o', e', hc⟩ := h i (by rw [zRow_len]; exact hi)
  cases e'
  rw [hc, zRow_at, List.getD_eq_getElem?_getD, List.getElem?_eq_getElem hi]
  rfl
theorem fold_take (f : Int → Int → Int) (l : List Int) (k : Nat) (h1 : 1 ≤ k) (hk : k < l.length) : ((l.take (k + 1)).drop 1).foldl f (l.getD 0 0) = f (((l.take k).drop 1).foldl f (l.getD 0 0)) (l.getD k 0) := by
  rw [List.take_succ_eq_append_getElem hk, List.drop_append_of_le_length (by rw [List.length_take]; omega), List.foldl_append, List.getD_eq_getElem?_getD (i := k), List.getElem?_eq_getElem hk]
  rfl

set_option maxHeartbeats 1000000 in
theorem minI_any (l : List Int) (b o c : Nat) (w : World) (h1 : 1 ≤ l.length) (hn : l.length ≤ 1000) (hr : RowAt w (some ⟨b, o, none⟩) (zRow l)) :
    Calls Tryz.prog 65 #[.slice (some ⟨b, o, none⟩) l.length c] w fun e w' => e = .returned (.int .i64 (minL l)) ∧ Below w.heap.size w w' := by
  have HR := Lib.hid hr
  have c0 : w.cell? ⟨b, o, none⟩ = some (.int .i64 (l.getD 0 0)) := zRow_cell hr h1
  have HT := Lib.hid (fun k a b => fold_take min l k a b)
  have hz : (((l.take 1).drop 1).foldl min (l.getD 0 0)) = l.getD 0 0 := by
    have : (l.take 1).drop 1 = [] := List.drop_eq_nil_of_le (by rw [List.length_take]; omega)
    rw [this]; rfl
  have HZ := Lib.hid hz
  have HML := Lib.hid (show minL l = (((l.take l.length).drop 1).foldl min (l.getD 0 0)) by rw [List.take_length]; rfl)
  clear hr hz
  generalize l.getD 0 0 = d at *
  have hnl : ¬ (l.length : Int) < 1 := by omega
  go_enter Tryz.func65, Tryz.ntmps65
  go_wp2_with fail
  go_loopw [3, 4] (fun v i wr => ∃ k : Nat, 1 ≤ k ∧ k ≤ l.length ∧ i = .int .i64 k ∧ v = .int .i64 (((l.take k).drop 1).foldl min d) ∧ Hid (Below w.heap.size w wr)) (fun _ i _ => l.length - (intOf i).toNat)
  case atStart => exact ⟨1, by omega, h1, rfl, by rw [HZ.out], Lib.hid (Below.refl _ _)⟩
  case round =>
    obtain ⟨k, hk1, hk, rfl, rfl, HB⟩ := hrel
    by_cases hlt : k < l.length
    · have HT2 := Lib.hid (HT.out k hk1 hlt)
      have ck : wr.cell? ⟨b, o + k, none⟩ = some (.int .i64 (l.getD k 0)) := zRow_cell (HR.out.below HB.out) hlt
      generalize ((l.take k).drop 1).foldl min d = x at *
      generalize l.getD k 0 = y at *
      go_wp2_with fail
      go_roundw
      case rel => exact ⟨k + 1, by omega, by omega, by go_num, by rw [HT2.out]; congr 1; split <;> omega, HB⟩
      case measure => simp [intOf]; omega
    · obtain rfl : k = l.length := by omega
      go_wp2_with fail
      go_ret
      exact ⟨by rw [HML.out]; rfl, HB.out⟩
set_option maxHeartbeats 1000000 in
theorem maxI_any (l : List Int) (b o c : Nat) (w : World) (h1 : 1 ≤ l.length) (hn : l.length ≤ 1000) (hr : RowAt w (some ⟨b, o, none⟩) (zRow l)) :
    Calls Tryz.prog 66 #[.slice (some ⟨b, o, none⟩) l.length c] w fun e w' => e = .returned (.int .i64 (maxL l)) ∧ Below w.heap.size w w' := by
  have HR := Lib.hid hr
  have c0 : w.cell? ⟨b, o, none⟩ = some (.int .i64 (l.getD 0 0)) := zRow_cell hr h1
  have HT := Lib.hid (fun k a b => fold_take max l k a b)
  have hz : (((l.take 1).drop 1).foldl max (l.getD 0 0)) = l.getD 0 0 := by
    have : (l.take 1).drop 1 = [] := List.drop_eq_nil_of_le (by rw [List.length_take]; omega)
    rw [this]; rfl
  have HZ := Lib.hid hz
  have HML := Lib.hid (show maxL l = (((l.take l.length).drop 1).foldl max (l.getD 0 0)) by rw [List.take_length]; rfl)
  clear hr hz
  generalize l.getD 0 0 = d at *
  have hnl : ¬ (l.length : Int) < 1 := by omega
  go_enter Tryz.func66, Tryz.ntmps66
  go_wp2_with fail
  go_loopw [3, 4] (fun v i wr => ∃ k : Nat, 1 ≤ k ∧ k ≤ l.length ∧ i = .int .i64 k ∧ v = .int .i64 (((l.take k).drop 1).foldl max d) ∧ Hid (Below w.heap.size w wr)) (fun _ i _ => l.length - (intOf i).toNat)
  case atStart => exact ⟨1, by omega, h1, rfl, by rw [HZ.out], Lib.hid (Below.refl _ _)⟩
  case round =>
    obtain ⟨k, hk1, hk, rfl, rfl, HB⟩ := hrel
    by_cases hlt : k < l.length
    · have HT2 := Lib.hid (HT.out k hk1 hlt)
      have ck : wr.cell? ⟨b, o + k, none⟩ = some (.int .i64 (l.getD k 0)) := zRow_cell (HR.out.below HB.out) hlt
      generalize ((l.take k).drop 1).foldl max d = x at *
      generalize l.getD k 0 = y at *
      go_wp2_with fail
      go_roundw
      case rel => exact ⟨k + 1, by omega, by omega, by go_num, by rw [HT2.out]; congr 1; split <;> omega, HB⟩
      case measure => simp [intOf]; omega
    · obtain rfl : k = l.length := by omega
      go_wp2_with fail
      go_ret
      exact ⟨by rw [HML.out]; rfl, HB.out⟩
/-- The place of the first such number; below 0: none. -/
def idxN (l : List Int) (x : Int) : Option Nat := l.findIdx? (fun y => decide (x = y))
theorem idx_none {x : Int} {l : List Int} (h : ∀ j, j < l.length → ¬ x = l.getD j 0) : idxN l x = none := by
  unfold idxN
  rw [List.findIdx?_eq_none_iff]
  intro y hy
  obtain ⟨j, hj, rfl⟩ := List.getElem_of_mem hy
  have := h j hj
  rw [List.getD_eq_getElem?_getD, List.getElem?_eq_getElem hj] at this
  simpa using this
theorem idx_some {x : Int} {l : List Int} {k : Nat} (hk : k < l.length) (h : x = l.getD k 0) (hn : ∀ j, j < k → ¬ x = l.getD j 0) : idxN l x = some k := by
  unfold idxN
  rw [List.findIdx?_eq_some_iff_getElem]
  refine ⟨hk, ?_, fun j hj => ?_⟩
  · rw [List.getD_eq_getElem?_getD, List.getElem?_eq_getElem hk] at h
    simpa using h
  · have := hn j hj
    rw [List.getD_eq_getElem?_getD, List.getElem?_eq_getElem (by omega)] at this
    simpa using this
set_option maxHeartbeats 1000000 in
theorem indexI_any (l : List Int) (x : Int) (b o c : Nat) (w : World) (hn : l.length ≤ 1000) (hr : RowAt w (some ⟨b, o, none⟩) (zRow l)) :
    Calls Tryz.prog 64 #[.slice (some ⟨b, o, none⟩) l.length c, .int .i64 x] w fun e w' => e = .returned (.int .i64 (idxI (idxN l x))) ∧ Below w.heap.size w w' := by
  have HR := Lib.hid hr
  have HN := Lib.hid (fun h => idx_none (x := x) (l := l) h)
  have HS := Lib.hid (fun k a b c => idx_some (x := x) (l := l) (k := k) a b c)
  clear hr
  go_enter Tryz.func64, Tryz.ntmps64
  go_wp2_with fail
  go_loopw [8] (fun i wr => ∃ k : Nat, k ≤ l.length ∧ i = .int .i64 k ∧ Hid (∀ j, j < k → ¬ x = l.getD j 0) ∧ Hid (Below w.heap.size w wr)) (fun i _ => l.length - (intOf i).toNat)
  case atStart => exact ⟨0, by omega, rfl, Lib.hid (fun j hj => by omega), Lib.hid (Below.refl _ _)⟩
  case round =>
    obtain ⟨k, hk, rfl, HP, HB⟩ := hrel
    by_cases hlt : k < l.length
    · have ck : wr.cell? ⟨b, o + k, none⟩ = some (.int .i64 (l.getD k 0)) := zRow_cell (HR.out.below HB.out) hlt
      have HSK := Lib.hid (fun h => HS.out k hlt h HP.out)
      have HPK := Lib.hid (fun (h : ¬ x = l.getD k 0) j (hj : j < k + 1) => show ¬ x = l.getD j 0 from by
        by_cases hjj : j < k
        · exact HP.out j hjj
        · obtain rfl : j = k := by omega
          exact h)
      generalize l.getD k 0 = y at *
      by_cases hx : x = y
      · have hd : (x == y) = true := by simp [hx]
        have HRS := Lib.hid (HSK.out hx)
        clear hx HPK HSK
        go_wp2_with fail
        go_ret
        exact ⟨by rw [HRS.out]; rfl, HB.out⟩
      · have hd : (x == y) = false := by simp [hx]
        have HRS := Lib.hid (HPK.out hx)
        clear hx HPK HSK
        go_wp2_with fail
        go_roundw
        case rel => exact ⟨k + 1, by omega, by go_num, HRS, HB⟩
        case measure => simp [intOf]; omega
    · obtain rfl : k = l.length := by omega
      have HRN := Lib.hid (HN.out HP.out)
      go_wp2_with fail
      go_ret
      exact ⟨by rw [HRN.out]; rfl, HB.out⟩
/-- The first place of the least, and of the greatest (from 1 on). -/
def endsL (l : List Int) : Nat × Nat := ((idxN l (minL l)).getD 0 + 1, (idxN l (maxL l)).getD 0 + 1)
theorem fold_mem (f : Int → Int → Int) (hf : ∀ a b, f a b = a ∨ f a b = b) : ∀ (r : List Int) (d : Int), r.foldl f d = d ∨ r.foldl f d ∈ r
  | [], d => .inl rfl
  | x :: r, d => by
    rw [List.foldl_cons]
    rcases fold_mem f hf r (f d x) with h | h
    · rw [h]
      rcases hf d x with h | h
      · exact .inl h
      · exact .inr (by rw [h]; exact List.mem_cons_self)
    · exact .inr (List.mem_cons_of_mem _ h)
theorem fold_in (f : Int → Int → Int) (hf : ∀ a b, f a b = a ∨ f a b = b) {l : List Int} (h : 1 ≤ l.length) : (l.drop 1).foldl f (l.getD 0 0) ∈ l := by
  rcases l with _ | ⟨x, r⟩
  · simp at h
  · rcases fold_mem f hf r x with h | h
    · show r.foldl f x ∈ _
      rw [h]; exact List.mem_cons_self
    · exact List.mem_cons_of_mem _ h
theorem idx_mem {l : List Int} {x : Int} (h : x ∈ l) : ∃ k, idxN l x = some k ∧ k < l.length := by
  cases hk : idxN l x with
  | none =>
    unfold idxN at hk
    rw [List.findIdx?_eq_none_iff] at hk
    have := hk x h
    simp at this
  | some k =>
    refine ⟨k, rfl, ?_⟩
    unfold idxN at hk
    rw [List.findIdx?_eq_some_iff_getElem] at hk
    exact hk.1
theorem min_or (a b : Int) : min a b = a ∨ min a b = b := by omega
theorem max_or (a b : Int) : max a b = a ∨ max a b = b := by omega
theorem endsL_of {l : List Int} (h : 1 ≤ l.length) : ∃ i j, idxN l (minL l) = some i ∧ i < l.length ∧ idxN l (maxL l) = some j ∧ j < l.length ∧ endsL l = (i + 1, j + 1) := by
  obtain ⟨i, h1, h2⟩ := idx_mem (fold_in min min_or h)
  obtain ⟨j, h3, h4⟩ := idx_mem (fold_in max max_or h)
  refine ⟨i, j, h1, h2, h3, h4, ?_⟩
  unfold endsL
  have e1 : idxN l (minL l) = some i := h1
  have e2 : idxN l (maxL l) = some j := h3
  rw [e1, e2]
  rfl
set_option maxHeartbeats 1000000 in
theorem ends_any (l : List Int) (b o c : Nat) (w : World) (h1 : 1 ≤ l.length) (hn : l.length ≤ 1000) (hr : RowAt w (some ⟨b, o, none⟩) (zRow l)) :
    Calls Tryz.prog 38 #[.slice (some ⟨b, o, none⟩) l.length c] w fun e w' => e = .returned (.tuple #[.int .i64 ((endsL l).1 : Nat), .int .i64 ((endsL l).2 : Nat)]) ∧ Below w.heap.size w w' := by
  obtain ⟨i, j, e1, hi, e2, hj, e3⟩ := endsL_of h1
  have HR := Lib.hid hr
  have E1 := Lib.hid e1
  have E2 := Lib.hid e2
  rw [e3]
  clear hr e1 e2 e3
  go_enter Tryz.func38, Tryz.ntmps38
  go_wp2_with fail
  refine (minI_any l b o c w h1 hn HR.out).mono ?_
  rintro e w1 ⟨rfl, hb1⟩
  have B1 := Lib.hid hb1
  clear hb1
  go_wp2_with fail
  refine (indexI_any l (minL l) b o c w1 hn (HR.out.below B1.out)).mono ?_
  rintro e w2 ⟨rfl, hb2⟩
  rw [E1.out]
  dsimp only [idxI]
  have B2 := Lib.hid (B1.out.trans (hb2.mono B1.out.size))
  clear hb2
  go_wp2_with fail
  refine (maxI_any l b o c w2 h1 hn (HR.out.below B2.out)).mono ?_
  rintro e w3 ⟨rfl, hb3⟩
  have B3 := Lib.hid (B2.out.trans (hb3.mono B2.out.size))
  clear hb3
  go_wp2_with fail
  refine (indexI_any l (maxL l) b o c w3 hn (HR.out.below B3.out)).mono ?_
  rintro e w4 ⟨rfl, hb4⟩
  rw [E2.out]
  dsimp only [idxI]
  have B4 := Lib.hid (B3.out.trans (hb4.mono B3.out.size))
  clear hb4
  go_wp2_with fail
  go_ret2
  exact ⟨by go_num, B4.out⟩
end Go.Proofs.YthjmfcdhpdiehaaGreatDoor

namespace Go.Proofs.YthjmfcdhpdiehaaGreatDoor
open Go.RowKit Utf
set_option maxRecDepth 100000
set_option linter.unusedSimpArgs false
set_option linter.unusedVariables false

def EN.zero : EN := ⟨0, 0, 0, 0, 0, 0, none, 0, 0, ⟨#[]⟩, 0, 0, 0, none, 0, 0⟩
def moveE (id sv : Int) : EN := { EN.zero with kind := 2, shard := id, server := sv }
/-- The first shard at a server above so many. -/
def strayN (s : Int) (p : List (Sh × List LD)) : Option Nat := p.findIdx? (fun x => decide (x.1.server > s))
def plAt (p : List (Sh × List LD)) (i : Nat) : Sh × List LD := p.getD i (⟨0, 0, 0, ⟨#[]⟩, ⟨#[]⟩⟩, [])
def straysP (p : List (Sh × List LD)) (s least : Int) : Option EN := (strayN s p).map (fun i => moveE (plAt p i).1.id least)

def above (s : Int) (x : LO) : Bool := decide (x.sh.server > s)
set_option maxHeartbeats 1000000 in
theorem isStray_any (x : LO) (s : Int) (p : Nat) (w : World) (hp : w.cell? ⟨p, 0, none⟩ = some (.int .i64 s)) (hlt : p < w.heap.size) :
    Calls Tryz.prog 68 #[.agg x.cells.toArray, .pointer (some ⟨p, 0, none⟩)] w fun e w' => e = .returned (.bool (above s x)) ∧ Below w.heap.size w w' := by
  obtain ⟨⟨sid, server, since, lo, hi⟩, kv, keys⟩ := x
  unfold LO.cells
  generalize sumN _ = n
  have h1 : (w.alloc (.cells #[.int .i64 sid, .int .i64 server, .int .i64 since, .string lo, .string hi, kv, .int .i64 n] 87)).cell? ⟨p, 0, none⟩ = some (.int .i64 s) := ((below_alloc w _).cell hlt).trans hp
  clear hp
  go_enter Tryz.func68, Tryz.ntmps68
  go_wp2_with fail
  go_ret
  exact ⟨rfl, below_alloc _ _⟩
theorem stray_none {s : Int} {l : List LO} (h : ∀ j (hj : j < l.length), above s l[j] = false) : strayN s (l.map LO.plain) = none := by
  unfold strayN
  rw [List.findIdx?_eq_none_iff]
  intro x hx
  obtain ⟨y, hy, rfl⟩ := List.mem_map.1 hx
  obtain ⟨j, hj, rfl⟩ := List.getElem_of_mem hy
  simpa [LO.plain, above] using h j hj
theorem stray_some {s : Int} {l : List LO} {k : Nat} (hk : k < l.length) (h : above s l[k] = true) (hn : ∀ j (hj : j < k), above s (l[j]'(by omega)) = false) : strayN s (l.map LO.plain) = some k := by
  unfold strayN
  rw [List.findIdx?_eq_some_iff_getElem]
  exact ⟨by simpa using hk, by simpa [LO.plain, above] using h, fun j hj => by simpa [LO.plain, above] using hn j hj⟩
theorem stray_lt {s : Int} {p : List (Sh × List LD)} {k : Nat} (h : strayN s p = some k) : k < p.length := by
  unfold strayN at h
  rw [List.findIdx?_eq_some_iff_getElem] at h
  exact h.1

/-- A captured variable's cell, and a row. -/
structure FL (w : World) (p b off : Nat) (s : Int) (l : List LO) (W : World) : Prop where
  bel : Below w.heap.size w W
  cell : W.cell? ⟨p, 0, none⟩ = some (.int .i64 s)
  row : RowAt W (some ⟨b, off, none⟩) (loRow l)
theorem FL.next {w W W' : World} {p b off : Nat} {s : Int} {l : List LO} (h : FL w p b off s l W) (hb : Below W.heap.size W W') : FL w p b off s l W' :=
  ⟨h.bel.trans (hb.mono h.bel.size), (hb.cell (World.block_lt_of_cell? W _ h.cell)).trans h.cell, h.row.below hb⟩

set_option maxHeartbeats 2000000 in
theorem loIndex_any (l : List LO) (b off c p : Nat) (s : Int) (w : World) (hn : l.length ≤ 1000000) (hr : RowAt w (some ⟨b, off, none⟩) (loRow l)) (hp : w.cell? ⟨p, 0, none⟩ = some (.int .i64 s)) :
    Calls Tryz.prog 67 #[.slice (some ⟨b, off, none⟩) l.length c, .func (.func 68) #[] #[.pointer (some ⟨p, 0, none⟩)]] w fun e w' => e = .returned (.int .i64 (idxI (strayN s (l.map LO.plain)))) ∧ Below w.heap.size w w' := by
  have HF := Lib.hid (show FL w p b off s l w from ⟨Below.refl _ _, hp, hr⟩)
  have HN := Lib.hid (fun h => stray_none (s := s) (l := l) h)
  have HS := Lib.hid (fun k h1 h2 h3 => stray_some (s := s) (l := l) (k := k) h1 h2 h3)
  clear hr hp
  go_enter Tryz.func67, Tryz.ntmps67
  go_wp2_with fail
  go_loopw [8] (fun i wr => ∃ k : Nat, k ≤ l.length ∧ i = .int .i64 k ∧ Hid (FL w p b off s l wr) ∧ Hid (∀ j (hj : j < l.length), j < k → above s l[j] = false)) (fun i _ => l.length - (intOf i).toNat)
  case atStart => exact ⟨0, Nat.zero_le _, rfl, HF, Lib.hid (fun j _ hj => by omega)⟩
  case round =>
    obtain ⟨k, hk, rfl, HB, HP⟩ := hrel
    by_cases hlt : k < l.length
    · have HRG := Lib.hid (row_lo HB.out.row hlt)
      have HSK := Lib.hid (fun h => HS.out k hlt h (fun j hj => HP.out j (by omega) hj))
      have HPK := Lib.hid (fun (h : above s l[k] = false) j (hj : j < l.length) (hjk : j < k + 1) => show above s l[j] = false from by
        by_cases hjj : j < k
        · exact HP.out j hj hjj
        · have : j = k := by omega
          subst this
          exact h)
      have HSI := Lib.hid (show (Tryz.prog.info? 87).map (·.size) = some l[k].cells.length by rw [LO.cells_len]; kernel_rfl)
      generalize l[k] = x at *
      go_wp2_with (refine wpList_load_mid rfl 87 (.tmp 14) rfl b (off + k * 7) rfl _ _ HRG.out Tryz.underlying87 rfl HSI.out ?_)
      refine (isStray_any x s p _ HB.out.cell (World.block_lt_of_cell? _ _ HB.out.cell)).mono ?_
      rintro e w2 ⟨rfl, hb2⟩
      have HB2 := Lib.hid (HB.out.next hb2)
      clear hb2
      cases hx : above s x with
      | true =>
        have HRS := Lib.hid (HSK.out hx)
        clear hx HPK HSK
        go_wp2_with fail
        go_ret
        exact ⟨by rw [HRS.out]; rfl, HB2.out.bel⟩
      | false =>
        have HRS := Lib.hid (HPK.out hx)
        clear hx HPK HSK
        go_wp2_with fail
        go_roundw
        case rel => exact ⟨k + 1, by omega, by go_num, HB2, HRS⟩
        case measure => simp [intOf]; omega
    · obtain rfl : k = l.length := by omega
      have HR := Lib.hid (HN.out (fun j hj => HP.out j hj hj))
      go_wp2_with fail
      go_ret
      exact ⟨by rw [HR.out]; rfl, HB.out.bel⟩
/-- An entry that may be: what such a function answers. -/
def EntR (o : Option EN) (e : Ending) : Prop := e = .returned (.tuple #[.agg (o.getD EN.zero).cells.toArray, .bool o.isSome])
theorem below_alloc2 (w : World) (o o' : Obj) : Below w.heap.size w ((w.alloc o).alloc o') := (below_alloc w o).trans ((below_alloc _ o').mono (by simp))
theorem plAt_of {l : List LO} {i : Nat} (hi : i < l.length) : plAt (l.map LO.plain) i = l[i].plain := by
  unfold plAt
  rw [List.getD_eq_getElem?_getD, List.getElem?_map, List.getElem?_eq_getElem hi]
  rfl
def zeroEn : Array Value := #[.int .i64 0, .int .i64 0, .int .i64 0, .int .i64 0, .int .i64 0, .int .i64 0, .slice none 0 0, .string ⟨#[]⟩, .int .i64 0, .int .i64 0, .int .i64 0, .slice none 0 0]
set_option maxHeartbeats 1000000 in
theorem strays_any (l : List LO) (b off c : Nat) (s least : Int) (w : World) (hn : l.length ≤ 10000) (hr : RowAt w (some ⟨b, off, none⟩) (loRow l)) :
    Calls Tryz.prog 39 #[.slice (some ⟨b, off, none⟩) l.length c, .int .i64 s, .int .i64 least] w fun e w' => EntR (straysP (l.map LO.plain) s least) e ∧ Below w.heap.size w w' := by
  have HR := Lib.hid hr
  have B0 := Lib.hid (below_alloc2 w (.cells #[.int .i64 s] 3) (.cells zeroEn 44))
  have HP := Lib.hid (show ((w.alloc (.cells #[.int .i64 s] 3)).alloc (.cells zeroEn 44)).cell? ⟨w.heap.size, 0, none⟩ = some (.int .i64 s) from ((Blk.new w _ _).alloc _).cell 0)
  have HZ := Lib.hid (show Blk ((w.alloc (.cells #[.int .i64 s] 3)).alloc (.cells zeroEn 44)) (w.heap.size + 1) 44 zeroEn from by
    have := Blk.new (w.alloc (.cells #[.int .i64 s] 3)) 44 zeroEn
    simpa using this)
  unfold zeroEn at B0 HP HZ
  have HX := Lib.hid (loIndex_any l b off c w.heap.size s _ (by omega) (HR.out.below B0.out) HP.out)
  have HSL := Lib.hid (fun k h => stray_lt (s := s) (p := l.map LO.plain) (k := k) h)
  clear hr
  go_enter Tryz.func39, Tryz.ntmps39
  go_wp2_with fail
  refine HX.out.mono ?_
  rintro e w1 ⟨rfl, hb1⟩
  have B1 := Lib.hid (B0.out.trans (hb1.mono B0.out.size))
  have HZ1 := Lib.hid (HZ.out.below hb1 HZ.out.lt)
  clear hb1 HX
  cases hs : strayN s (l.map LO.plain) with
  | none =>
    have HS := Lib.hid (show straysP (l.map LO.plain) s least = none by unfold straysP; rw [hs]; rfl)
    clear hs
    dsimp only [idxI]
    go_wp2_with (refine wpList_store_blk rfl 44 (.tmp 6) (.tmp 14) rfl (w.heap.size + 1) #[.int .i64 0, .int .i64 0, .int .i64 0, .int .i64 0, .int .i64 0, .int .i64 0, .slice none 0 0, .string ⟨#[]⟩, .int .i64 0, .int .i64 0, .int .i64 0, .slice none 0 0] rfl rfl 44 _ HZ1.out rfl (by kernel_rfl) (by kernel_rfl) ?_)
    refine Lib.hid ?_
    intro w2 hz ho
    have HZ2 := Lib.hid hz
    have B2 := Lib.hid (B1.out.trans (ho.to_below B1.out.size (fun k hk e => by omega)))
    clear hz ho
    go_wp2_with fail
    refine bodyPost_ret (results_cell_tmp rfl _ _ (w.heap.size + 1) 44 _ (0, 0) _ rfl HZ2.out Tryz.underlying44 rfl (by kernel_rfl)) rfl ?_
    exact ⟨by rw [HS.out]; rfl, B2.out⟩
  | some i =>
    have hil : i < l.length := by simpa using HSL.out i hs
    have HS := Lib.hid (show straysP (l.map LO.plain) s least = some (moveE (l[i]).sh.id least) by unfold straysP; rw [hs, Option.map_some, plAt_of hil]; rfl)
    have c0 : w1.cell? ⟨b, off + i * 7, none⟩ = some (.int .i64 (l[i]).sh.id) := row_lo (HR.out.below B1.out) hil 0 _ rfl
    generalize (l[i]).sh.id = id at *
    have hneg : ¬ (i : Int) < 0 := by omega
    clear hs
    dsimp only [idxI]
    go_wp2_with (refine wpList_store_blk rfl 44 (.tmp 6) (.tmp 22) rfl (w.heap.size + 1) #[.int .i64 2, .int .i64 id, .int .i64 0, .int .i64 least, .int .i64 0, .int .i64 0, .slice none 0 0, .string ⟨#[]⟩, .int .i64 0, .int .i64 0, .int .i64 0, .slice none 0 0] rfl rfl 44 _ HZ1.out rfl (by kernel_rfl) (by kernel_rfl) ?_)
    refine Lib.hid ?_
    intro w2 hz ho
    have HZ2 := Lib.hid hz
    have B2 := Lib.hid (B1.out.trans (ho.to_below B1.out.size (fun k hk e => by omega)))
    clear hz ho
    go_wp2_with fail
    refine bodyPost_ret (results_cell_tmp rfl _ _ (w.heap.size + 1) 44 _ (0, 0) _ rfl HZ2.out Tryz.underlying44 rfl (by kernel_rfl)) rfl ?_
    exact ⟨by rw [HS.out]; rfl, B2.out⟩
end Go.Proofs.YthjmfcdhpdiehaaGreatDoor
