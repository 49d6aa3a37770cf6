/-
  The contract of slices.Reverse at bytes, of a row of the caller's own.
  The contract of (*lines.reader).word.
  Contracts: right_any.
  The contract of lines.number.
-/
import Derived.Test.YtjhmehmmpfnnkaaDoorM03
import Derived.Test.YtjhmehmmpfnnkaaDoorM02
namespace Go.Proofs.YtjhmehmmpfnnkaaDoor
open Go.RowKit Utf
set_option maxRecDepth 100000
set_option linter.unusedSimpArgs false
set_option linter.unusedVariables false

/-- How far the turning is. -/
def RevAt (bs ys : List UInt8) (k : Nat) : Prop := ys.length = bs.length ∧ ∀ p, p < bs.length → ys[p]? = if p < k ∨ bs.length ≤ p + k then bs[bs.length - 1 - p]? else bs[p]?
theorem RevAt.zero (bs : List UInt8) : RevAt bs bs 0 := ⟨rfl, fun p hp => by rw [if_neg (by omega)]⟩
theorem RevAt.step {bs ys : List UInt8} {k : Nat} (h : RevAt bs ys k) (hk : k < bs.length - 1 - k) (h1 : k < ys.length) (h2 : bs.length - 1 - k < ys.length) : RevAt bs ((ys.set k ys[bs.length - 1 - k]).set (bs.length - 1 - k) ys[k]) (k + 1) := by
  obtain ⟨hl, hp⟩ := h
  have e1 := hp k (by omega)
  have e2 := hp (bs.length - 1 - k) (by omega)
  rw [if_neg (by omega), List.getElem?_eq_getElem h1] at e1
  rw [if_neg (by omega), List.getElem?_eq_getElem h2] at e2
  refine ⟨by simp [hl], fun p hpl => ?_⟩
  rw [List.getElem?_set, List.getElem?_set]
  by_cases c1 : bs.length - 1 - k = p
  · subst c1
    rw [if_pos rfl, if_pos (by simp; omega), if_pos (by omega), e1]
    congr 1
    omega
  · rw [if_neg c1]
    by_cases c2 : k = p
    · subst c2
      rw [if_pos rfl, if_pos (by omega), if_pos (by omega), e2]
    · rw [if_neg c2, hp p hpl]
      by_cases c3 : p < k ∨ bs.length ≤ p + k
      · rw [if_pos c3, if_pos (by omega)]
      · rw [if_neg c3, if_neg (by omega)]
theorem RevAt.done {bs ys : List UInt8} {k : Nat} (h : RevAt bs ys k) (hk : ¬ k < bs.length - 1 - k) : ys = bs.reverse := by
  obtain ⟨hl, hp⟩ := h
  apply List.ext_getElem?
  intro p
  by_cases hpl : p < bs.length
  · rw [hp p hpl, List.getElem?_reverse hpl]
    by_cases c3 : p < k ∨ bs.length ≤ p + k
    · rw [if_pos c3]
    · rw [if_neg c3]
      congr 1
      omega
  · rw [List.getElem?_eq_none (by omega), List.getElem?_eq_none (by simp; omega)]
theorem byteRow_at (l : List UInt8) (k : Nat) (hk : k < l.length) : (byteRow l)[k]? = some (.int .u8 (l[k].toNat : Int)) := by
  simp [byteRow, hk]
theorem byteRow_set (l : List UInt8) (k : Nat) (x : UInt8) : (byteRow l).set k (.int .u8 (x.toNat : Int)) = byteRow (l.set k x) := by
  simp [byteRow, List.map_set]

set_option maxHeartbeats 2000000 in
theorem reverse_any (B g cap : Nat) (bs : List UInt8) (w : World) (h : w.ownsRow B 5 1 (.slice (some ⟨g, 0, none⟩) bs.length cap) bs.length (byteRow bs)) (h1 : 1 ≤ bs.length) (hl : bs.length ≤ 1000000) :
    Calls Tryd.prog 70 #[.slice (some ⟨g, 0, none⟩) bs.length cap] w fun e w' => e = .returned (.tuple #[]) ∧ Only (fun k => k = g) w w' ∧ w'.ownsRow B 5 1 (.slice (some ⟨g, 0, none⟩) bs.length cap) bs.length (byteRow bs.reverse) := by
  have H0 := Lib.hid h
  clear h
  go_enter Tryd.func70, Tryd.ntmps70
  go_wp2_with fail
  go_loopw [2, 3] (fun vi vj wr => ∃ (k : Nat) (ys : List UInt8), vi = .int .i64 k ∧ vj = .int .i64 ((bs.length : Int) - 1 - k) ∧ k ≤ bs.length ∧ Hid (RevAt bs ys k) ∧ Hid (Only (fun k => k = g) w wr) ∧ Hid (wr.ownsRow B 5 1 (.slice (some ⟨g, 0, none⟩) bs.length cap) bs.length (byteRow ys))) (fun vi _ _ => bs.length - (intOf vi).toNat)
  case atStart => exact ⟨0, bs, rfl, by go_num, Nat.zero_le _, RevAt.zero _, Only.refl _ _, H0.out⟩
  case round =>
    obtain ⟨k, ys, rfl, rfl, hk, HR, HO, HW⟩ := hrel
    by_cases hlt : k < bs.length - 1 - k
    · have hj : (bs.length : Int) - 1 - (k : Int) = ((bs.length - 1 - k : Nat) : Int) := by omega
      have hyl := HR.out.1
      have g1 : k < ys.length := by omega
      have g2 : bs.length - 1 - k < ys.length := by omega
      have HR2 := Lib.hid (HR.out.step hlt g1 g2)
      have ck := HW.out.cellAt k (by omega)
      have cj := HW.out.cellAt (bs.length - 1 - k) (by omega)
      rw [byteRow_at _ _ g1] at ck
      rw [byteRow_at _ _ g2] at cj
      have fk := HW.out.frozenAt k
      have fj := HW.out.frozenAt (bs.length - 1 - k)
      have HS1 := Lib.hid (HW.out.stored k (.int .u8 (ys[bs.length - 1 - k].toNat : Int))).1
      rw [byteRow_set] at HS1
      have HS2 := Lib.hid (HS1.out.stored (bs.length - 1 - k) (.int .u8 (ys[k].toNat : Int))).1
      rw [byteRow_set] at HS2
      generalize ys[bs.length - 1 - k] = yj at *
      generalize ys[k] = yk at *
      rw [hj]
      have HJ := Lib.hid hj
      generalize hm : bs.length - 1 - k = m at *
      have HM := Lib.hid hm
      have hkn : (k : Int) < (bs.length : Int) := by omega
      have hmn : m < bs.length := by omega
      clear hj hm hyl
      have hlt2 : (k : Int) < (m : Int) := by omega
      have hmn2 : (m : Int) < (bs.length : Int) := by omega
      have hne : k ≠ m := by omega
      have HO2 := Lib.hid ((HO.out.set (p := ⟨g, k, none⟩) (.inl rfl) (.int .u8 (yj.toNat : Int))).set (p := ⟨g, m, none⟩) (.inl rfl) (.int .u8 (yk.toNat : Int)))
      go_wp2_with fail
      go_region
      all_goals
        go_wp2_with fail
        go_roundw
        case rel => exact ⟨k + 1, _, by go_num, by have := HM.out; go_num, by omega, HR2.out, Only.drewN HO2.out 1, HS2.out⟩
        case measure => simp [intOf]; omega
    · have hn2 : ¬ ((k : Int) < (bs.length : Int) - 1 - (k : Int)) := by omega
      have HD := Lib.hid (HR.out.done hlt)
      go_wp2_with fail
      go_end0
      refine ⟨rfl, HO.out, ?_⟩
      rw [← HD.out]
      exact HW.out
end Go.Proofs.YtjhmehmmpfnnkaaDoor

namespace Go.Proofs.YtjhmehmmpfnnkaaDoor
open Go.RowKit Utf
set_option maxRecDepth 100000
set_option linter.unusedSimpArgs false
set_option linter.unusedVariables false

theorem RowAt.rest {w : World} {ao : Option Addr} {x : Value} {xs : List Value} (h : RowAt w ao (x :: xs)) (b o : Nat) (e : ao = some ⟨b, o, none⟩) : RowAt w (some ⟨b, o + 1, none⟩) xs := by
  subst e
  intro i hi
  obtain ⟨b', o', e', hc⟩ := h (i + 1) (by simp; omega)
  cases e'
  refine ⟨b, o + 1, rfl, ?_⟩
  rw [Nat.add_assoc, Nat.add_comm 1 i]
  exact hc

theorem word_err (b : Nat) (ea : Nat → Addr) (ws : List (List Nat)) (n : Nat) (K : Nat → Prop) (w : World) (h : RAt w b ea ws (n + 1) K) :
    Calls Tryd.prog 58 #[.pointer (some ⟨b, 0, none⟩)] w fun e w' => e = .returned (.string ByteArray.empty) ∧ w = w' := by
  obtain ⟨ao, cap, hb, -⟩ := h
  rw [errOf_succ] at hb
  have hc := hb.cell 1
  clear hb
  go_enter Tryd.func58, Tryd.ntmps58
  go_wp2_with fail
  go_ret
  exact ⟨rfl, rfl⟩

theorem word_short (b : Nat) (ea : Nat → Addr) (K : Nat → Prop) (w : World) (h : RAt w b ea [] 0 K) (he : LErr w ea) :
    Calls Tryd.prog 58 #[.pointer (some ⟨b, 0, none⟩)] w fun e w' => e = .returned (.string ByteArray.empty) ∧ Only (fun k => k = b) w w' ∧ RAt w' b ea [] 2 K := by
  have HR := Lib.hid h
  obtain ⟨ao, cap, hb, -⟩ := h
  rw [errOf_zero] at hb
  have hc := hb.cell 1
  have hc0 := hb.cell 0
  have hf := hb.frozen 1
  have c1 := he.short
  clear hb he
  go_enter Tryd.func58, Tryd.ntmps58
  go_wp2_with fail
  go_ret
  refine ⟨rfl, (Only.refl (fun k => k = b) _).set (.inl rfl) _, ?_⟩
  obtain ⟨ao, cap, h1, h2, h3, h4, h5, h6, h7⟩ := HR.out
  exact ⟨ao, cap, h1.put 1 _, fun i hi => by simp [strRow, fieldTexts] at hi, h3, h4, h5, h6, h7⟩

theorem word_cons (b : Nat) (ea : Nat → Addr) (x : List Nat) (ws : List (List Nat)) (K : Nat → Prop) (w : World) (h : RAt w b ea (x :: ws) 0 K) (hK : ¬ K b) :
    Calls Tryd.prog 58 #[.pointer (some ⟨b, 0, none⟩)] w fun e w' => e = .returned (.string (mkS (encAll x))) ∧ Only (fun k => k = b) w w' ∧ RAt w' b ea ws 0 K := by
  obtain ⟨ao, cap, hb, hr, hlc, hcm, hsp, hno, hk⟩ := h
  have hlen : 0 < (strRow (fieldTexts (x :: ws))).length := by simp [strRow, fieldTexts]
  obtain ⟨bb, oo, rfl, hx⟩ := hr 0 hlen
  have hrs := hr.rest bb oo rfl
  have hx' : w.cell? ⟨bb, oo, none⟩ = some (.string (mkS (encAll x))) := hx
  have hbb : bb ≠ b := fun e => hK (by have := hk _ rfl; simp only at this; rwa [e] at this)
  have HB := Lib.hid hb
  have HRS := Lib.hid hrs
  have HK := Lib.hid (show K bb from hk _ rfl)
  have HBB := Lib.hid hbb
  have hc := hb.cell 1
  have hc0 := hb.cell 0
  have hf := hb.frozen 0
  rw [errOf_zero] at hc
  have hlc' : (ws.length : Int) + 1 ≤ (cap : Int) := by simp at hlc; omega
  have hlw : ws.length + 1 ≤ cap := by simpa using hlc
  have hnz : (((ws.length : Int) + 1) == 0) = false := by simp; omega
  simp only [List.length_cons] at hc0
  unfold maxLen at hcm
  clear hb hr hsp hno hk hx hrs hlc hbb hlen
  by_cases hcap : cap = 1
  · have hw0 : ws = [] := List.length_eq_zero_iff.1 (by omega)
    subst hw0
    subst hcap
    clear hlc' hlw
    go_enter Tryd.func58, Tryd.ntmps58
    go_wp2_with fail
    go_ret
    refine ⟨rfl, (Only.refl (fun k => k = b) _).set (.inl rfl) _, ⟨_, _, HB.out.put 0 _, (fun i hi => by simp [strRow, fieldTexts] at hi), by simp, by simp [maxLen], (fun ad e => by cases e; rfl), (fun e => by cases e), (fun ad e => by cases e; exact HK.out)⟩⟩
  · go_enter Tryd.func58, Tryd.ntmps58
    go_wp2_with fail
    go_ret
    refine ⟨rfl, (Only.refl (fun k => k = b) _).set (.inl rfl) _, ⟨_, _, HB.out.put 0 _, ?_, by omega, by unfold maxLen; omega, (fun ad e => by cases e; rfl), (fun e => by cases e), (fun ad e => by cases e; exact HK.out)⟩⟩
    exact HRS.out.only ((Only.refl (fun k => k = b) _).set (.inl rfl) _) (fun ad e s => by cases e; exact HBB.out s)
end Go.Proofs.YtjhmehmmpfnnkaaDoor

namespace Go.Proofs.YtjhmehmmpfnnkaaDoor
open Go.RowKit Utf
set_option maxRecDepth 100000
set_option linter.unusedSimpArgs false
set_option linter.unusedVariables false

set_option maxHeartbeats 400000 in
theorem right_any (s : ByteArray) (w : World) (hs : s.size ≤ maxLen) :
    Calls Tryd.prog 26 #[.string s] w fun e w' => e = .returned (.bool (dec s.data.toList).isSome) ∧ Below w.heap.size w w' := by
  unfold maxLen at hs
  have key : Calls Tryd.prog 26 #[.string s] w fun e w' => e = .returned (.bool (dec s.data.toList).isSome) ∧ ∃ pos, w' = w.iter s pos := by
    go_enter Tryd.func26, Tryd.ntmps26
    go_wp2
    go_loopw [3] (fun n w' => ∃ (rs : List Nat), w' = w.iter s (encAll rs).length ∧ allOk rs ∧ s.data.toList = encAll rs ++ s.data.toList.drop (encAll rs).length) (fun _ w' => s.size - w'.iterPos w.heap.size)
    case atStart => exact ⟨[], rfl, allOk_nil, rfl⟩
    case round =>
      obtain ⟨rs, rfl, ho, hx⟩ := hrel
      by_cases hp : (encAll rs).length < s.size
      · have hdec := decode_dec1 s (encAll rs).length hp
        have hl := drop_len s (encAll rs).length
        have hb := ext_drop s (encAll rs).length 3
        cases hd : dec1 (s.data.toList.drop (encAll rs).length) with
        | none =>
          rw [hd] at hdec
          have hnx : ∀ ty, (Instr.next (.pointer (some ⟨w.heap.size, 0, none⟩)) true ty).run Tryd.prog (w.iter s (encAll rs).length) = .ok (.tuple #[.bool true, .int .i64 (encAll rs).length, .int .i32 (65533 : Int)]) (w.iter s ((encAll rs).length + 1)) := fun ty => by
            rw [run_next_any w s (encAll rs).length ty hp, hdec]; rfl
          have hno : dec s.data.toList = none := by
            rw [hx, dec_append ho]
            cases ht : dec (s.data.toList.drop (encAll rs).length) with
            | none => rfl
            | some ts =>
              obtain ⟨h1, h2⟩ := dec_some ht
              cases ts with
              | nil => rw [h2] at hl; simp [encAll_nil] at hl; omega
              | cons c ts => rw [h2, encAll_cons, dec1_enc c (allOk_cons.1 h1).1] at hd; cases hd
          by_cases h3 : (s.size : Int) - ((encAll rs).length : Int) < 3
          · clear hb hl hd hdec
            have H := Lib.hid hx
            clear hx
            have HN := Lib.hid hno
            clear hno
            go_wp2
            go_ret
            rw [HN.out]
            exact ⟨rfl, _, rfl⟩
          · have hne : (!(s.extract (encAll rs).length ((encAll rs).length + 3)).toList == [239, 191, 189]) = true := by
              rw [hb]
              cases he : (List.take 3 (s.data.toList.drop (encAll rs).length) == [239, 191, 189]) with
              | false => rfl
              | true =>
                exfalso
                rw [beq_iff_eq] at he
                have := dec1_enc 65533 (by decide +kernel) ((s.data.toList.drop (encAll rs).length).drop 3)
                rw [enc_mark, ← he, List.take_append_drop, hd] at this
                cases this
            clear hb hl hd hdec
            have H := Lib.hid hx
            clear hx
            have HN := Lib.hid hno
            clear hno
            go_wp2
            go_ret
            rw [HN.out]
            exact ⟨rfl, _, rfl⟩
        | some cn =>
          obtain ⟨c, n⟩ := cn
          rw [hd] at hdec
          have hnx : ∀ ty, (Instr.next (.pointer (some ⟨w.heap.size, 0, none⟩)) true ty).run Tryd.prog (w.iter s (encAll rs).length) = .ok (.tuple #[.bool true, .int .i64 (encAll rs).length, .int .i32 (c : Int)]) (w.iter s ((encAll rs).length + n)) := fun ty => by
            rw [run_next_any w s (encAll rs).length ty hp, hdec]; rfl
          obtain ⟨d1, d2, d3⟩ := dec1_some hd
          have hn := enc_length c
          have hst := dec_step ho hx hd
          have hq : c = 65533 → (3 : Int) ≤ (s.size : Int) - ((encAll rs).length : Int) ∧ (!(s.extract (encAll rs).length ((encAll rs).length + 3)).toList == [239, 191, 189]) = false := by
            rintro rfl
            rw [d3, List.length_append, enc_mark] at hl
            simp at hl
            refine ⟨by omega, ?_⟩
            rw [hb, d3, enc_mark]
            rfl
          clear hb hl hd hdec d3
          have H := Lib.hid hx
          clear hx
          have HS := Lib.hid hst
          clear hst
          rw [← d2] at hn
          clear d2
          by_cases hc : c = 65533
          · obtain ⟨h3, hne⟩ := hq hc
            have hc' : ((c : Int) == 65533) = true := by simp; omega
            clear hq
            have HC := Lib.hid hc
            clear hc
            go_wp2
            go_roundw
            case rel => exact ⟨rs ++ [c], by rw [HS.out.2.1], HS.out.1, HS.out.2.2⟩
            case measure => simp; omega
          · have hc' : ((c : Int) == 65533) = false := by simp; omega
            clear hq hc
            go_wp2
            go_roundw
            case rel => exact ⟨rs ++ [c], by rw [HS.out.2.1], HS.out.1, HS.out.2.2⟩
            case measure => simp; omega
      · have hnx : ∀ ty, (Instr.next (.pointer (some ⟨w.heap.size, 0, none⟩)) true ty).run Tryd.prog (w.iter s (encAll rs).length) = _ := fun ty => run_next_end w s (encAll rs).length ty hp
        have hd : dec s.data.toList = some rs := by
          have : s.data.toList.drop (encAll rs).length = [] := by
            rw [List.drop_eq_nil_iff]
            simp
            exact Nat.not_lt.1 hp
          rw [hx, this, List.append_nil]
          exact dec_encAll ho
        have H := Lib.hid hx
        clear hx
        have HD := Lib.hid hd
        clear hd
        go_wp2
        go_ret
        rw [HD.out]
        exact ⟨rfl, _, rfl⟩
  refine key.mono ?_
  rintro e w' ⟨rfl, pos, rfl⟩
  exact ⟨rfl, (Below.refl _ _).alloc (Nat.le_refl _) _⟩
end Go.Proofs.YtjhmehmmpfnnkaaDoor

namespace Go.Proofs.YtjhmehmmpfnnkaaDoor
open Go.RowKit Utf
set_option maxRecDepth 100000
set_option linter.unusedSimpArgs false
set_option linter.unusedVariables false

theorem fold_ge (l : List Nat) : ∀ m, m ≤ l.foldl (fun n c => 10 * n + (c - 48)) m := by
  induction l with
  | nil => intro m; exact Nat.le_refl _
  | cons c l ih => intro m; have := ih (10 * m + (c - 48)); simp only [List.foldl_cons]; omega
theorem valOf_pos {c : Nat} {l : List Nat} (h : 48 < c) : 0 < valOf (c :: l) := by
  have := fold_ge l (10 * 0 + (c - 48))
  unfold valOf
  simp only [List.foldl_cons]
  omega
theorem valOf_lt (l : List Nat) (h : ∀ c ∈ l, c ≤ 57) : valOf l < 10 ^ l.length := by
  have key : ∀ (l : List Nat) m, (∀ c ∈ l, c ≤ 57) → l.foldl (fun n c => 10 * n + (c - 48)) m < (m + 1) * 10 ^ l.length := by
    intro l
    induction l with
    | nil => intro m _; simp
    | cons c l ih =>
      intro m h
      have h1 := ih (10 * m + (c - 48)) (fun x hx => h x (List.mem_cons_of_mem _ hx))
      have h2 := h c (List.mem_cons_self ..)
      simp only [List.foldl_cons, List.length_cons, Nat.pow_succ]
      have h3 : (10 * m + (c - 48) + 1) ≤ (m + 1) * 10 := by omega
      have h4 := Nat.mul_le_mul_right (10 ^ l.length) h3
      refine Nat.lt_of_lt_of_le h1 ?_
      rw [Nat.mul_comm (10 ^ l.length) 10, ← Nat.mul_assoc]
      exact h4
  have := key l 0 h
  rwa [Nat.zero_add, Nat.one_mul] at this
theorem isDig_iff (c : Nat) : isDig c = true ↔ 48 ≤ c ∧ c ≤ 57 := by simp [isDig]

/-- How the reader of a number stands behind k runes. -/
def NumAt (r : List Nat) (k : Nat) : Prop := (∀ c ∈ r.take k, 48 ≤ c ∧ c ≤ 57) ∧ k ≤ 9 ∧ (2 ≤ k → r.head? ≠ some 48)

theorem NumAt.zero (r : List Nat) : NumAt r 0 := ⟨by simp, by omega, by omega⟩
theorem NumAt.off {r : List Nat} {k : Nat} (h : NumAt r k) (hk : k ≤ r.length) : off r k = k := by
  unfold Go.Proofs.YtjhmehmmpfnnkaaDoor.off
  have key : ∀ l : List Nat, (∀ c ∈ l, 48 ≤ c ∧ c ≤ 57) → (encAll l).length = l.length := by
    intro l
    induction l with
    | nil => intro _; rfl
    | cons c l ih =>
      intro h
      rw [encAll_cons, List.length_append, ih (fun x hx => h x (List.mem_cons_of_mem _ hx)), enc_one (by have := h c (List.mem_cons_self ..); omega)]
      simp; omega
  rw [key _ h.1, List.length_take]
  omega
theorem NumAt.lt {r : List Nat} {k : Nat} (h : NumAt r k) : valOf (r.take k) < 10 ^ k := by
  have h1 := valOf_lt (r.take k) (fun c hc => (h.1 c hc).2)
  have h2 : (r.take k).length ≤ k := List.length_take_le _ _
  exact Nat.lt_of_lt_of_le h1 (Nat.pow_le_pow_right (by omega) h2)
theorem NumAt.bound {r : List Nat} {k : Nat} (h : NumAt r k) : valOf (r.take k) ≤ 999999999 := by
  have h1 := h.lt
  have h2 : 10 ^ k ≤ 10 ^ 9 := Nat.pow_le_pow_right (by omega) h.2.1
  have h3 : (10 : Nat) ^ 9 = 1000000000 := by decide
  omega
theorem NumAt.bound8 {r : List Nat} {k : Nat} (h : NumAt r k) (hk : k < 9) : valOf (r.take k) ≤ 99999999 := by
  have h1 := h.lt
  have h2 : 10 ^ k ≤ 10 ^ 8 := Nat.pow_le_pow_right (by omega) (by omega)
  have h3 : (10 : Nat) ^ 8 = 100000000 := by decide
  omega
theorem NumAt.zero_head {r : List Nat} {k : Nat} (h : NumAt r k) (hk : 1 ≤ k) (hk2 : k ≤ r.length) (h0 : valOf (r.take k) = 0) : r.head? = some 48 := by
  cases r with
  | nil => simp at hk2; omega
  | cons c l =>
    obtain ⟨k, rfl⟩ : ∃ j, k = j + 1 := ⟨k - 1, by omega⟩
    rw [List.take_succ_cons] at h0
    have hc := h.1 c (by rw [List.take_succ_cons]; exact List.mem_cons_self ..)
    by_cases h48 : c = 48
    · rw [h48]; rfl
    · have := valOf_pos (c := c) (l := l.take k) (by omega)
      omega
theorem NumAt.step {r : List Nat} {k : Nat} (h : NumAt r k) (hk : k < r.length) (hc : 48 ≤ r[k] ∧ r[k] ≤ 57) (h9 : k < 9) (h0 : ¬ (1 ≤ k ∧ valOf (r.take k) = 0)) :
    NumAt r (k + 1) ∧ valOf (r.take (k + 1)) = 10 * valOf (r.take k) + (r[k] - 48) := by
  refine ⟨⟨?_, by omega, ?_⟩, ?_⟩
  · intro c hc'
    rw [List.take_succ_eq_append_getElem hk, List.mem_append] at hc'
    rcases hc' with h1 | h1
    · exact h.1 c h1
    · simp at h1; subst h1; exact hc
  · intro h2 hh
    apply h0
    refine ⟨by omega, ?_⟩
    by_cases hk2 : 2 ≤ k
    · exact absurd hh (h.2.2 hk2)
    · obtain rfl : k = 1 := by omega
      cases r with
      | nil => simp at hk
      | cons c l =>
        simp at hh
        subst hh
        rfl
  · rw [List.take_succ_eq_append_getElem hk, valOf_concat]

theorem numN_dig {m : Bool} {r : List Nat} {k : Nat} (hk : k < r.length) (hc : ¬ (48 ≤ r[k] ∧ r[k] ≤ 57)) : numN m r = none := by
  unfold numN
  rw [if_pos]
  refine .inr (.inr (.inl ?_))
  rw [List.any_eq_true]
  refine ⟨_, List.getElem_mem hk, ?_⟩
  have : ¬ isDig r[k] = true := fun h => hc ((isDig_iff _).1 h)
  simpa using this
theorem numN_long {m : Bool} {r : List Nat} (h : 9 < r.length) : numN m r = none := by
  unfold numN; rw [if_pos (.inr (.inl h))]
theorem numN_zero {m : Bool} {r : List Nat} {k : Nat} (h : NumAt r k) (hk : k < r.length) (h1 : 1 ≤ k) (h0 : valOf (r.take k) = 0) : numN m r = none := by
  unfold numN
  rw [if_pos]
  exact .inr (.inr (.inr ⟨h.zero_head h1 (by omega) h0, .inl (by omega)⟩))
theorem numN_nil (m : Bool) : numN m [] = none := rfl
theorem numN_minus0 {r : List Nat} (h : NumAt r r.length) (hr : r ≠ []) (h0 : valOf r = 0) : numN true r = none := by
  unfold numN
  rw [if_pos]
  have hl := List.length_pos_iff.2 hr
  exact .inr (.inr (.inr ⟨h.zero_head hl (Nat.le_refl _) (by rwa [List.take_length]), .inr rfl⟩))
theorem numN_done {m : Bool} {r : List Nat} (h : NumAt r r.length) (hr : r ≠ []) (hm : m = true → valOf r ≠ 0) : numN m r = some (if m then -(valOf r : Int) else valOf r) := by
  unfold numN
  have hl := List.length_pos_iff.2 hr
  rw [if_neg]
  rintro (h1 | h1 | h1 | ⟨h1, h2⟩)
  · exact hr h1
  · have := h.2.1; omega
  · rw [List.any_eq_true] at h1
    obtain ⟨c, hc, h1⟩ := h1
    have := h.1 c (by rwa [List.take_length])
    rw [(isDig_iff c).2 this] at h1
    cases h1
  · by_cases h3 : 1 < r.length
    · exact h.2.2 h3 h1
    · rcases h2 with h2 | h2
      · exact h3 h2
      · have hone : r.length = 1 := by omega
        obtain ⟨c, rfl⟩ := List.length_eq_one_iff.1 hone
        simp at h1
        subst h1
        exact hm h2 rfl

theorem enc_head {c : Nat} (hc : okR c = true) (rest : List UInt8) : ((enc c ++ rest).take 1 == [45]) = decide (c = 45) := by
  have hc' := hc
  rw [okR_def] at hc'
  have key : ∀ n : Nat, n < 256 → (([UInt8.ofNat n] : List UInt8) == [45]) = decide (n = 45) := by
    intro n hn
    rw [Bool.eq_iff_iff]
    simp only [beq_iff_eq, decide_eq_true_eq, List.cons.injEq, and_true]
    constructor
    · intro h
      have := congrArg UInt8.toNat h
      rw [u8_of n hn] at this
      simpa using this
    · rintro rfl; rfl
  by_cases h1 : c < 128
  · rw [enc_one h1]
    exact key c (by omega)
  · have hne : decide (c = 45) = false := decide_eq_false (by omega)
    rw [hne]
    by_cases h2 : c < 2048
    · rw [enc_two (by omega) h2]
      refine (key (192 + c / 64) (by omega)).trans (decide_eq_false (by omega))
    · by_cases h3 : c < 65536
      · rw [enc_three (by omega) h3 hc]
        refine (key (224 + c / 4096) (by omega)).trans (decide_eq_false (by omega))
      · rw [enc_four (by omega) hc]
        refine (key (240 + c / 262144) (by omega)).trans (decide_eq_false (by omega))

/-- What a text is behind its sign. -/
def unsign (rs : List Nat) : List Nat := if rs.head? = some 45 then rs.tail else rs
def signed (rs : List Nat) : Bool := decide (rs.head? = some 45)

theorem minus_some (s : ByteArray) (rs : List Nat) (w : World) (hs : s.size ≤ 1000000) (ho : allOk rs) (h : s.data.toList = encAll rs) :
    Calls Tryd.prog 81 #[.string s, .string ⟨#[45]⟩] w fun e w' => e = .returned (.bool (signed rs)) ∧ w' = w := by
  by_cases hz : s.size < 1
  · have hr : rs = [] := by
      have := len_le h
      exact List.length_eq_zero_iff.1 (by omega)
    have HS := Lib.hid (show signed rs = false by rw [hr]; rfl)
    have e1 : ¬ (1 : Int) ≤ (s.size : Int) := by omega
    have e2 : decide ((1 : Int) ≤ (s.size : Int)) = false := decide_eq_false e1
    have e3 : ¬ 1 ≤ s.size := by omega
    clear hr h
    go_enter Tryd.func81, Tryd.ntmps81
    go_wp2_with fail
    go_ret
    exact ⟨by rw [HS.out]; rfl, rfl⟩
  · have e1 : (1 : Int) ≤ (s.size : Int) := by omega
    have e2 : decide ((1 : Int) ≤ (s.size : Int)) = true := decide_eq_true e1
    have e3 : 1 ≤ s.size := by omega
    have hx : ((s.extract 0 1).toList == [45]) = signed rs := by
      have e : (s.extract 0 1).toList = (encAll rs).take 1 := by
        rw [Lib.extract_toList, h]; simp
      rw [e]
      cases rs with
      | nil => rw [Lib.size_eq, h] at e3; simp [encAll_nil] at e3
      | cons c l =>
        rw [encAll_cons, enc_head (ho c (List.mem_cons_self ..))]
        simp [signed]
    generalize signed rs = b at *
    clear h
    go_enter Tryd.func81, Tryd.ntmps81
    go_wp2_with fail
    go_ret
    exact ⟨rfl, rfl⟩

theorem unsign_data {s : ByteArray} {rs : List Nat} (h : s.data.toList = encAll rs) (hs : signed rs = true) : (s.extract 1 s.size).data.toList = encAll (unsign rs) ∧ 1 ≤ s.size := by
  have hh : rs.head? = some 45 := of_decide_eq_true hs
  cases rs with
  | nil => cases hh
  | cons c l =>
    simp at hh
    subst hh
    have e1 : enc 45 = [45] := by decide +kernel
    constructor
    · rw [Lib.extract_data, h, encAll_cons, e1, List.take_of_length_le]
      · simp [unsign]
      · rw [Lib.size_eq, h, encAll_cons, e1]; simp
    · rw [Lib.size_eq, h, encAll_cons, e1]; simp

theorem lcut_some (s : ByteArray) (rs : List Nat) (w : World) (hs : s.size ≤ 1000000) (ho : allOk rs) (h : s.data.toList = encAll rs) :
    Calls Tryd.prog 76 #[.string s, .string ⟨#[45]⟩] w fun e w' => ∃ x, x.data.toList = encAll (unsign rs) ∧ x.size ≤ 1000000 ∧ e = .returned (.tuple #[.string x, .bool (signed rs)]) ∧ w' = w := by
  have HM := Lib.hid (fun W => minus_some s rs W hs ho h)
  cases hsg : signed rs with
  | true =>
    have HU := Lib.hid (unsign_data h hsg).1
    have h1 := (unsign_data h hsg).2
    rw [hsg] at HM
    clear h hsg
    go_enter Tryd.func76, Tryd.ntmps76
    go_wp2_with fail
    refine (HM.out _).mono ?_
    rintro e w1 ⟨rfl, rfl⟩
    go_wp2_with fail
    go_ret2
    refine ⟨_, HU.out, ?_, rfl, rfl⟩
    rw [Lib.size_eq, Lib.extract_data, List.length_take]
    omega
  | false =>
    have HU := Lib.hid (show unsign rs = rs from if_neg (of_decide_eq_false hsg))
    have HH := Lib.hid h
    rw [hsg] at HM
    clear h hsg
    go_enter Tryd.func76, Tryd.ntmps76
    go_wp2_with fail
    refine (HM.out _).mono ?_
    rintro e w1 ⟨rfl, rfl⟩
    go_wp2_with fail
    go_ret2
    exact ⟨s, by rw [HU.out]; exact HH.out, hs, rfl, rfl⟩

theorem scut_some (s : ByteArray) (rs : List Nat) (w : World) (hs : s.size ≤ 1000000) (ho : allOk rs) (h : s.data.toList = encAll rs) :
    Calls Tryd.prog 69 #[.string s, .string ⟨#[45]⟩] w fun e w' => ∃ x, x.data.toList = encAll (unsign rs) ∧ x.size ≤ 1000000 ∧ e = .returned (.tuple #[.string x, .bool (signed rs)]) ∧ w = w' := by
  have HM := Lib.hid (fun W => lcut_some s rs W hs ho h)
  clear h
  go_enter Tryd.func69, Tryd.ntmps69
  go_wp2_with fail
  refine (HM.out _).mono ?_
  rintro e w1 ⟨x, hx, hxs, rfl, rfl⟩
  have HX := Lib.hid hx
  clear hx
  go_wp2_with fail
  go_ret2
  exact ⟨x, HX.out, hxs, rfl, rfl⟩

/-- What lines.number answers. -/
def NumberPost (ea : Nat → Addr) (rs : List Nat) (w : World) (e : Ending) (w' : World) : Prop :=
  Below w.heap.size w w' ∧ ((∃ n, numN (signed rs) (unsign rs) = some n ∧ e = .returned (.tuple #[.int .i64 n, .nilIface])) ∨
    (numN (signed rs) (unsign rs) = none ∧ e = .returned (.tuple #[.int .i64 0, .iface 163 (.pointer (some (ea 3)))])))

theorem unsign_ok {rs : List Nat} (h : allOk rs) : allOk (unsign rs) := by
  unfold unsign; split
  · exact fun c hc => h c (List.mem_of_mem_tail hc)
  · exact h

set_option maxHeartbeats 4000000 in
theorem number_some (ea : Nat → Addr) (s : ByteArray) (rs : List Nat) (w : World) (hs : s.size ≤ 1000000) (ho : allOk rs) (h : s.data.toList = encAll rs) (he : LErr w ea) :
    Calls Tryd.prog 59 #[.string s] w (NumberPost ea rs w) := by
  have HM := Lib.hid (fun W => scut_some s rs W hs ho h)
  have hor := unsign_ok ho
  have HEA := Lib.hid he
  clear h he ho
  unfold NumberPost
  generalize unsign rs = r at *
  generalize signed rs = m at *
  go_enter Tryd.func59, Tryd.ntmps59
  go_wp2_with fail
  refine (HM.out _).mono ?_
  rintro e w1 ⟨x, hx, hxs, rfl, rfl⟩
  have hl := len_le hx
  have HN := Lib.hid (fun (w : World) k hk ty => next_off (P := Tryd.prog) hor hx w k hk ty)
  have HE := Lib.hid (fun (w : World) ty => next_off_end (P := Tryd.prog) hx w ty)
  have HME0 := Lib.hid (off_pos_lt hx)
  have HX := Lib.hid hx
  clear hx hor
  go_wp2_with fail
  go_loopw [6] (fun v wr => ∃ (k : Nat), k ≤ r.length ∧ v = .int .i64 (valOf (r.take k) : Nat) ∧ wr = w.iter x (off r k) ∧ Hid (NumAt r k)) (fun _ wr => x.size - wr.iterPos w.heap.size)
  case atStart => exact ⟨0, Nat.zero_le _, rfl, rfl, NumAt.zero r⟩
  case round =>
    obtain ⟨k, hk, rfl, rfl, HC⟩ := hrel
    have hoff := HC.out.off hk
    have HBE := Lib.hid (show Below w.heap.size w (w.iter x (off r k)) from (Below.refl w.heap.size w).alloc (Nat.le_refl _) (.stringIter x (off r k)))
    by_cases hlt : k < r.length
    · have hnx := HN.out w k hlt
      have HME := Lib.hid (HME0.out k hlt)
      have HST := Lib.hid (fun a b c => HC.out.step hlt a b c)
      have HND := Lib.hid (fun a => numN_dig (m := m) hlt a)
      have HNZ := Lib.hid (fun a b => numN_zero (m := m) HC.out hlt a b)
      have HB8 := Lib.hid (fun a => HC.out.bound8 a)
      have hb9 := HC.out.bound
      generalize hcc : r[k] = c at *
      clear hcc
      generalize hvv : valOf (r.take k) = n at *
      have HVV := Lib.hid hvv
      clear hvv
      generalize hoff1 : off r (k + 1) = p1 at *
      have HOF1 := Lib.hid hoff1
      clear hoff1
      generalize hoff0 : off r k = p0 at *
      subst hoff
      have HOF0 := Lib.hid hoff0
      clear hoff0
      have hw2 : Below w.heap.size w (w.iter x p1) := (Below.refl w.heap.size w).alloc (Nat.le_refl _) _
      have HW2 := Lib.hid hw2
      have HLE := Lib.hid (HEA.out.below hw2)
      clear hw2
      generalize hwi : w.iter x p1 = w2 at *
      have HWI := Lib.hid hwi
      clear hwi
      by_cases hd : 48 ≤ c ∧ c ≤ 57
      · have d1 : ¬ (c : Int) < 48 := by omega
        have d2 : ¬ (57 : Int) < (c : Int) := by omega
        have d1' : decide ((c : Int) < 48) = false := decide_eq_false d1
        have d2' : decide ((57 : Int) < (c : Int)) = false := decide_eq_false d2
        by_cases h9 : p0 < 9
        · have d3 : ¬ (9 : Int) ≤ (p0 : Int) := by omega
          have d3' : decide ((9 : Int) ≤ (p0 : Int)) = false := decide_eq_false d3
          by_cases hz : 1 ≤ p0 ∧ n = 0
          · have HNO := Lib.hid (HNZ.out hz.1 hz.2)
            have d4 : (0 : Int) < (p0 : Int) := by omega
            have d4' : decide ((0 : Int) < (p0 : Int)) = true := decide_eq_true d4
            have d4'' : 0 < p0 := hz.1
            obtain rfl : n = 0 := hz.2
            clear hz
            have c3 := HLE.out.form
            go_wp2_with fail
            go_quiet (fail)
            go_wp2_with fail
            go_ret2
            exact ⟨below_drewN HW2.out _, .inr ⟨HNO.out, rfl⟩⟩
          · have HS1 := Lib.hid (HST.out hd h9 hz)
            have hb8 := HB8.out h9
            have hz' : (p0 = 0) ∨ (1 ≤ p0 ∧ ¬ n = 0) := by omega
            clear hz
            rcases hz' with rfl | ⟨z1, z2⟩
            · go_wp2_with fail
              go_roundw
              case rel => exact ⟨0 + 1, by omega, int_val (by rw [HS1.out.2]; omega), HWI.out.symm.trans (by rw [HOF1.out]), HS1.out.1⟩
              case measure => have := HME.out; have h2 := HOF0.out; rw [← HWI.out]; simp; omega
            · have d4 : (0 : Int) < (p0 : Int) := by omega
              have d4' : decide ((0 : Int) < (p0 : Int)) = true := decide_eq_true d4
              have d4'' : 0 < p0 := z1
              have d5 : ((n : Int) == 0) = false := by simp; omega
              clear z2
              go_wp2_with fail
              go_roundw
              case rel => exact ⟨p0 + 1, by omega, int_val (by rw [HS1.out.2]; omega), HWI.out.symm.trans (by rw [HOF1.out]), HS1.out.1⟩
              case measure => have := HME.out; have h2 := HOF0.out; rw [← HWI.out]; simp; omega
        · have HNO := Lib.hid (numN_long (m := m) (r := r) (by omega))
          have d3 : (9 : Int) ≤ (p0 : Int) := by omega
          have d3' : decide ((9 : Int) ≤ (p0 : Int)) = true := decide_eq_true d3
          have c3 := HLE.out.form
          go_wp2_with fail
          go_quiet (fail)
          go_wp2_with fail
          go_ret2
          exact ⟨below_drewN HW2.out _, .inr ⟨HNO.out, rfl⟩⟩
      · have HNO := Lib.hid (HND.out hd)
        have hd' : (c : Int) < 48 ∨ (¬ (c : Int) < 48 ∧ (57 : Int) < (c : Int)) := by omega
        clear hd
        have c3 := HLE.out.form
        rcases hd' with d1 | ⟨d1, d2⟩
        · have d1' : decide ((c : Int) < 48) = true := decide_eq_true d1
          go_wp2_with fail
          go_quiet (fail)
          go_wp2_with fail
          go_ret2
          exact ⟨below_drewN HW2.out _, .inr ⟨HNO.out, rfl⟩⟩
        · have d1' : decide ((c : Int) < 48) = false := decide_eq_false d1
          have d2' : decide ((57 : Int) < (c : Int)) = true := decide_eq_true d2
          go_wp2_with fail
          go_quiet (fail)
          go_wp2_with fail
          go_ret2
          exact ⟨below_drewN HW2.out _, .inr ⟨HNO.out, rfl⟩⟩
    · obtain rfl : k = r.length := by omega
      clear hoff
      have hnx := HE.out w
      have hb9 := HC.out.bound
      rw [List.take_length] at hb9 ⊢
      have c3 := (HEA.out.below HBE.out).form
      by_cases hr : r = []
      · have HNO := Lib.hid (show numN m r = none by rw [hr]; exact numN_nil m)
        have hxe : x.toList = [] := by rw [Lib.toList_data, HX.out, hr]; rfl
        have hxe2 : x.toList.isEmpty = true := by rw [hxe]; rfl
        clear hr
        have HXE := Lib.hid hxe
        clear hxe
        generalize valOf r = n at *
        go_wp2_with fail
        go_quiet (fail)
        go_wp2_with fail
        go_ret2
        exact ⟨below_drewN HBE.out _, .inr ⟨HNO.out, rfl⟩⟩
      · have hxe : ¬ x.toList = [] := by
          rw [Lib.toList_data, HX.out]
          intro h
          have := encAll_len r
          rw [h] at this
          exact hr (List.length_eq_zero_iff.1 (by simpa using this))
        have hxe2 : x.toList.isEmpty = false := by
          cases hh : x.toList with
          | nil => exact absurd hh hxe
          | cons a b => rfl
        have HDN := Lib.hid (fun hm => numN_done (m := m) HC.out hr hm)
        have HM0 := Lib.hid (fun h0 => numN_minus0 HC.out hr h0)
        clear hr
        have HXE := Lib.hid hxe
        clear hxe
        generalize valOf r = n at *
        cases m with
        | false =>
          have HND := Lib.hid (HDN.out (fun h => by cases h))
          go_wp2_with fail
          go_ret2
          exact ⟨HBE.out, .inl ⟨_, HND.out, rfl⟩⟩
        | true =>
          by_cases h0 : n = 0
          · have HNO := Lib.hid (HM0.out h0)
            subst h0
            go_wp2_with fail
            go_quiet (fail)
            go_wp2_with fail
            go_ret2
            exact ⟨below_drewN HBE.out _, .inr ⟨HNO.out, rfl⟩⟩
          · have HND := Lib.hid (HDN.out (fun _ => h0))
            have d5 : ((n : Int) == 0) = false := by simp; omega
            clear h0
            go_wp2_with fail
            go_ret2
            exact ⟨HBE.out, .inl ⟨_, HND.out, rfl⟩⟩
end Go.Proofs.YtjhmehmmpfnnkaaDoor
