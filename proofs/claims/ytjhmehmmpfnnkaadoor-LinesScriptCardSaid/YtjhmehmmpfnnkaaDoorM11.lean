/-
  The contract of tidewaterref31.Number.
  Plain: a line's words, read from a place on. No program in sight.
-/
import Derived.Test.YtjhmehmmpfnnkaaDoorM05
import Derived.Deep.Cut
import Derived.Test.YtjhmehmmpfnnkaaDoorM03
namespace Go.Proofs.YtjhmehmmpfnnkaaDoor
open Go.RowKit Utf
set_option maxRecDepth 100000
set_option linter.unusedSimpArgs false
set_option linter.unusedVariables false

/-- A text's bytes, as numbers. -/
def byN (s : ByteArray) : List Nat := s.data.toList.map UInt8.toNat
theorem byN_len (s : ByteArray) : (byN s).length = s.size := by rw [byN, List.length_map, ← Lib.size_eq]
theorem byN_at (s : ByteArray) (k : Nat) (hk : k < (byN s).length) (hk2 : k < s.size) : (byN s)[k] = s[k].toNat := by
  simp [byN]; rfl
def numS (s : ByteArray) : Option Int := if (byN s).head? = some 45 then numN true (byN s).tail else numN false (byN s)

theorem encAll_dig : ∀ (r : List Nat), (∀ c ∈ r, c < 128) → (encAll r).map UInt8.toNat = r := by
  intro r
  induction r with
  | nil => intro _; rfl
  | cons c l ih =>
    intro h
    have hc := h c (List.mem_cons_self ..)
    rw [encAll_cons, List.map_append, ih (fun x hx => h x (List.mem_cons_of_mem _ hx)), enc_one hc]
    have h1 : c % 256 = c := by omega
    simp [h1]
theorem numN_bytes (m : Bool) (r : List Nat) (ho : allOk r) : numN m ((encAll r).map UInt8.toNat) = numN m r := by
  by_cases h : ∀ c ∈ r, c < 128
  · rw [encAll_dig r h]
  · have h2 : ∃ c, c ∈ r ∧ 128 ≤ c := by
      rcases Classical.em (∃ c, c ∈ r ∧ 128 ≤ c) with h3 | h3
      · exact h3
      · exact absurd (fun c hc => Nat.lt_of_not_le fun hge => h3 ⟨c, hc, hge⟩) h
    obtain ⟨c, hc, hge⟩ := h2
    obtain ⟨k, hk, rfl⟩ := List.getElem_of_mem hc
    rw [numN_dig hk (by omega)]
    obtain ⟨b, hb, hbig⟩ : ∃ b ∈ (encAll r).map UInt8.toNat, 128 ≤ b := by
      have e : encAll r = encAll (r.take k) ++ (enc r[k] ++ encAll (r.drop (k + 1))) := by
        rw [← encAll_cons, ← encAll_append, ← List.drop_eq_getElem_cons hk, List.take_append_drop]
      have hd : ∃ x ∈ enc r[k], 128 ≤ x.toNat := by
        have hok := ho _ hc
        have hok2 := hok
        rw [okR_def] at hok2
        by_cases h1 : r[k] < 2048
        · rw [enc_two hge h1]
          exact ⟨_, List.mem_cons_self .., by rw [u8_of _ (by omega)]; omega⟩
        · by_cases h2 : r[k] < 65536
          · rw [enc_three (by omega) h2 hok]
            exact ⟨_, List.mem_cons_self .., by rw [u8_of _ (by omega)]; omega⟩
          · rw [enc_four (by omega) hok]
            exact ⟨_, List.mem_cons_self .., by rw [u8_of _ (by omega)]; omega⟩
      obtain ⟨x, hx, hxb⟩ := hd
      exact ⟨x.toNat, List.mem_map.2 ⟨x, by rw [e]; simp [hx], rfl⟩, hxb⟩
    obtain ⟨j, hj, rfl⟩ := List.getElem_of_mem hb
    exact numN_dig hj (by omega)
/-- A right text's number, by its bytes and by its runes. -/
theorem numS_runes {s : ByteArray} {rs : List Nat} (ho : allOk rs) (h : s.data.toList = encAll rs) : numS s = numN (signed rs) (unsign rs) := by
  unfold numS
  have e : byN s = (encAll rs).map UInt8.toNat := by rw [byN, h]
  cases rs with
  | nil => rw [e]; rfl
  | cons c l =>
    have hoc := allOk_cons.1 ho
    have hh := enc_head hoc.1 (encAll l)
    rw [← encAll_cons] at hh
    have h1 : ((encAll (c :: l)).map UInt8.toNat).head? = some 45 ↔ c = 45 := by
      rw [show (c = 45) = (decide (c = 45) = true) by simp, ← hh]
      cases he : encAll (c :: l) with
      | nil => simp
      | cons a r =>
        simp
        constructor
        · intro h; exact u8_ext h
        · intro h; subst h; rfl
    by_cases hc : c = 45
    · subst hc
      have e2 : (encAll (45 :: l)).map UInt8.toNat = 45 :: (encAll l).map UInt8.toNat := by rw [encAll_cons, enc_one (by omega)]; rfl
      rw [e, e2]
      simp only [List.head?_cons, if_true, List.tail_cons, signed, unsign, decide_true]
      exact numN_bytes true l hoc.2
    · rw [e, if_neg (fun h => hc (h1.1 h)), numN_bytes false _ ho]
      have h3 : ¬ (some c = some 45) := fun h => hc (Option.some.inj h)
      simp [signed, unsign, hc]

section
variable {t : ByteArray} {m : Bool}
theorem nB_nil (h : t.size < 1) : numN m (byN t) = none := by
  have : byN t = [] := List.length_eq_zero_iff.1 (by rw [byN_len]; omega)
  rw [this]; rfl
theorem nB_long (h : 9 < t.size) : numN m (byN t) = none := numN_long (by rw [byN_len]; exact h)
theorem nB_zero (h : 0 < t.size) (h0 : t[0].toNat = 48) (h2 : 1 < t.size ∨ m = true) : numN m (byN t) = none := by
  unfold numN
  rw [if_pos]
  refine .inr (.inr (.inr ⟨?_, by rw [byN_len]; exact h2⟩))
  have hl : 0 < (byN t).length := by rw [byN_len]; exact h
  rw [List.head?_eq_getElem?, List.getElem?_eq_getElem hl, byN_at t 0 hl h, h0]
theorem nB_dig {k : Nat} (hk : k < t.size) (hc : ¬ (48 ≤ t[k].toNat ∧ t[k].toNat ≤ 57)) : numN m (byN t) = none := by
  refine numN_dig (k := k) (by rw [byN_len]; exact hk) ?_
  rw [byN_at t k _ hk]; exact hc
/-- Not a number that begins with a nought that should not be there. -/
def NoZ (t : ByteArray) (m : Bool) : Prop := ∀ h : 0 < t.size, t[0].toNat = 48 → ¬ (1 < t.size ∨ m = true)
theorem nB_step {k : Nat} (hz : NoZ t m) (h9 : t.size ≤ 9) (h : NumAt (byN t) k) (hk : k < t.size) (hc : 48 ≤ t[k].toNat ∧ t[k].toNat ≤ 57) :
    NumAt (byN t) (k + 1) ∧ valOf ((byN t).take (k + 1)) = 10 * valOf ((byN t).take k) + (t[k].toNat - 48) := by
  have hk' : k < (byN t).length := by rw [byN_len]; exact hk
  have := h.step hk' (by rw [byN_at t k hk' hk]; exact hc) (by omega) (fun ⟨h1, h0⟩ => by
    have h2 := h.zero_head h1 (by omega) h0
    rw [List.head?_eq_getElem?, List.getElem?_eq_getElem (by omega), byN_at t 0 (by omega) (by omega)] at h2
    exact hz (by omega) (Option.some.inj h2) (.inl (by omega)))
  rw [byN_at t k hk' hk] at this
  exact this
theorem nB_done (hz : NoZ t m) (h1 : 1 ≤ t.size) (h : NumAt (byN t) t.size) : numN m (byN t) = some (if m then -(valOf ((byN t).take t.size) : Int) else valOf ((byN t).take t.size)) := by
  have hl := byN_len t
  have hne : byN t ≠ [] := fun e => by rw [e] at hl; simp at hl; omega
  rw [← hl] at h
  have := numN_done (m := m) h hne (fun hm h0 => by
    have h2 := h.zero_head (by omega) (Nat.le_refl _) (by rwa [List.take_length])
    rw [List.head?_eq_getElem?, List.getElem?_eq_getElem (by omega), byN_at t 0 (by omega) (by omega)] at h2
    exact hz (by omega) (Option.some.inj h2) (.inr hm))
  rw [← hl, List.take_length]
  exact this
end

/-- What tidewaterref31.Number answers. -/
def RefNumPost (o : Option Int) (w : World) (e : Ending) (w' : World) : Prop := e = .returned (.tuple #[.int .i64 (o.getD 0), .bool o.isSome]) ∧ w = w'

set_option maxHeartbeats 4000000 in
theorem refNumber_any (s : ByteArray) (w : World) (hs : s.size ≤ 1000000) :
    Calls Tryd.prog 62 #[.string s] w (RefNumPost (numS s) w) := by
  by_cases he : s.size = 0
  · have hed : decide ((0 : Int) < (s.size : Int)) = false := decide_eq_false (by omega)
    have HN := Lib.hid (show numS s = none by
      have : byN s = [] := List.length_eq_zero_iff.1 (by rw [byN_len]; exact he)
      unfold numS; rw [this]; rfl)
    have he2 : (s.size : Int) < 1 := by omega
    go_enter Tryd.func62, Tryd.ntmps62
    go_wp2_with fail
    go_ret2
    unfold RefNumPost
    rw [HN.out]
    exact ⟨rfl, rfl⟩
  · have hep : 0 < s.size := by omega
    have hed : decide ((0 : Int) < (s.size : Int)) = true := decide_eq_true (by omega)
    have hbl := byN_len s
    have hhd : (byN s).head? = some s[0].toNat := by rw [List.head?_eq_getElem?, List.getElem?_eq_getElem (by omega), byN_at s 0 (by omega) hep]
    have h256 := s[0].toNat_lt
    by_cases h45 : s[0].toNat = 45
    · have e45 : ((s[0].toNat : Int) == 45) = true := by simp [h45]
      have HR0 := Lib.hid (show numS s = numN true (byN (s.extract 1 s.size)) by
        unfold numS
        rw [hhd, h45, if_pos rfl]
        congr 1
        unfold byN
        rw [← List.map_tail, ← List.drop_one]
        congr 1
        rw [Lib.extract_data, List.take_of_length_le (by simp)])
      have hx0 : (s.extract 1 s.size).size ≤ 1000000 := by simp; omega
      have hx1 : (s.extract 1 s.size).size = s.size - 1 := by simp
      have HX1 := Lib.hid hx1
      clear hbl hhd h45 h256 hx1
      go_enter Tryd.func62, Tryd.ntmps62
      go_upto_region 4 with (fail)
      generalize s.extract 1 s.size = t at *
      have HR := HR0
      clear HR0 HX1
      by_cases g0 : t.size < 1
      · have g0d : decide ((t.size : Int) < 1) = true := decide_eq_true (by omega)
        have HN := Lib.hid (HR.out.trans (nB_nil (m := true) g0))
        clear g0
        go_wp2_with fail
        go_ret2
        unfold RefNumPost
        rw [HN.out]
        exact ⟨rfl, rfl⟩
      · have g0d : decide ((t.size : Int) < 1) = false := decide_eq_false (by omega)
        by_cases g9 : 9 < t.size
        · have g9d : decide ((9 : Int) < (t.size : Int)) = true := decide_eq_true (by omega)
          have HN := Lib.hid (HR.out.trans (nB_long (m := true) g9))
          clear g9
          go_wp2_with fail
          go_ret2
          unfold RefNumPost
          rw [HN.out]
          exact ⟨rfl, rfl⟩
        · have g9d : decide ((9 : Int) < (t.size : Int)) = false := decide_eq_false (by omega)
          have gp : 0 < t.size := by omega
          have HZ0 := Lib.hid (fun h0 h2 => HR.out.trans (nB_zero (m := true) gp h0 h2))
          have HNZ := Lib.hid (fun (h : ¬ (t[0].toNat = 48 ∧ (1 < t.size ∨ true = true))) => show NoZ t true from fun _ h1 h2 => h ⟨h1, h2⟩)
          have h256 := t[0].toNat_lt
          by_cases gz : t[0].toNat = 48 ∧ (1 < t.size ∨ true = true)
          · obtain ⟨gz0, gz2⟩ := gz
            have HN := Lib.hid (HZ0.out gz0 gz2)
            have gz1 : ((t[0].toNat : Int) == 48) = true := by simp [gz0]
            clear gz0
            by_cases g1 : 1 < t.size
            · have g1d : decide ((1 : Int) < (t.size : Int)) = true := decide_eq_true (by omega)
              go_wp2_with fail
              go_ret2
              unfold RefNumPost
              rw [HN.out]
              exact ⟨rfl, rfl⟩
            have g1d : decide ((1 : Int) < (t.size : Int)) = false := decide_eq_false (by omega)
            all_goals
              go_wp2_with fail
              go_ret2
              unfold RefNumPost
              rw [HN.out]
              exact ⟨rfl, rfl⟩
          · have HNO := Lib.hid (HNZ.out gz)
            have gor : (((t[0].toNat : Int) == 48) = false) ∨ (((t[0].toNat : Int) == 48) = true ∧ t.size = 1 ∧ true = false) := by
              by_cases hz : t[0].toNat = 48
              · refine .inr ⟨by simp [hz], ?_, ?_⟩
                · have : ¬ 1 < t.size := fun h => gz ⟨hz, .inl h⟩
                  omega
                · cases hm : true with
                  | false => rfl
                  | true => exact absurd ⟨hz, .inr hm⟩ gz
              · exact .inl (by simp; omega)
            clear gz
            rcases gor with gz1 | ⟨gz1, gs1, gm⟩
            rotate_left
            · have gs1d : decide ((1 : Int) < (t.size : Int)) = false := decide_eq_false (by omega)
              clear gs1
              cases gm
            · go_wp2_with fail
              go_loop [5, 41] (fun vn vi => ∃ k : Nat, vi = .int .i64 k ∧ k ≤ t.size ∧ Hid (NumAt (byN t) k) ∧ vn = .int .i64 (valOf ((byN t).take k) : Nat)) (fun _ vi => t.size - (intOf vi).toNat)
              case atStart => exact ⟨0, rfl, Nat.zero_le _, NumAt.zero _, rfl⟩
              case round =>
                obtain ⟨k, rfl, hk, HC, rfl⟩ := hrel
                by_cases hlt : k < t.size
                · have hltd : decide (k < t.size) = true := decide_eq_true hlt
                  have HDG := Lib.hid (fun hc => HR.out.trans (nB_dig (m := true) hlt hc))
                  have HST := Lib.hid (fun hc => nB_step HNO.out (by omega) HC.out hlt hc)
                  have hv := HC.out.bound8 (by omega)
                  have hk256 := t[k].toNat_lt
                  generalize hvv : valOf ((byN t).take k) = v at *
                  have HVV := Lib.hid hvv
                  clear hvv
                  by_cases c1 : t[k].toNat < 48
                  · have c1d : decide ((t[k].toNat : Int) < 48) = true := decide_eq_true (by omega)
                    have HN := Lib.hid (HDG.out (by omega))
                    go_wp2_with fail
                    go_ret2
                    unfold RefNumPost
                    rw [HN.out]
                    exact ⟨rfl, rfl⟩
                  · have c1d : decide ((t[k].toNat : Int) < 48) = false := decide_eq_false (by omega)
                    by_cases c2 : 57 < t[k].toNat
                    · have c2d : decide ((57 : Int) < (t[k].toNat : Int)) = true := decide_eq_true (by omega)
                      have HN := Lib.hid (HDG.out (by omega))
                      go_wp2_with fail
                      go_ret2
                      unfold RefNumPost
                      rw [HN.out]
                      exact ⟨rfl, rfl⟩
                    · have c2d : decide ((57 : Int) < (t[k].toNat : Int)) = false := decide_eq_false (by omega)
                      have HN := Lib.hid (HST.out ⟨by omega, by omega⟩)
                      have hc3 : 48 ≤ (t[k].toNat : Int) := by omega
                      have hc4 : (t[k].toNat : Int) ≤ 57 := by omega
                      have hv2 : (v : Int) ≤ 99999999 := by omega
                      go_wp2_with fail
                      go_round
                      case rel => exact ⟨k + 1, by go_num, by omega, HN.out.1, by (rw [HN.out.2]; exact int_val (by omega))⟩
                      case measure => simp [intOf]; omega
                · obtain rfl : k = t.size := by omega
                  have hltd : decide (t.size < t.size) = false := decide_eq_false (by omega)
                  have HN := Lib.hid (HR.out.trans (nB_done HNO.out (by omega) HC.out))
                  have hv := HC.out.bound
                  generalize valOf ((byN t).take t.size) = v at *
                  go_wp2_with fail
                  go_ret2
                  unfold RefNumPost
                  rw [HN.out]
                  exact ⟨rfl, rfl⟩
    · have e45 : ((s[0].toNat : Int) == 45) = false := by simp; omega
      have HR := Lib.hid (show numS s = numN false (byN s) by
        unfold numS
        rw [hhd, if_neg (fun h => h45 (Option.some.inj h))])
      clear hbl hhd h45
      go_enter Tryd.func62, Tryd.ntmps62
      by_cases g0 : s.size < 1
      · have g0d : decide ((s.size : Int) < 1) = true := decide_eq_true (by omega)
        have HN := Lib.hid (HR.out.trans (nB_nil (m := false) g0))
        clear g0
        go_wp2_with fail
        go_ret2
        unfold RefNumPost
        rw [HN.out]
        exact ⟨rfl, rfl⟩
      · have g0d : decide ((s.size : Int) < 1) = false := decide_eq_false (by omega)
        by_cases g9 : 9 < s.size
        · have g9d : decide ((9 : Int) < (s.size : Int)) = true := decide_eq_true (by omega)
          have HN := Lib.hid (HR.out.trans (nB_long (m := false) g9))
          clear g9
          go_wp2_with fail
          go_ret2
          unfold RefNumPost
          rw [HN.out]
          exact ⟨rfl, rfl⟩
        · have g9d : decide ((9 : Int) < (s.size : Int)) = false := decide_eq_false (by omega)
          have gp : 0 < s.size := by omega
          have HZ0 := Lib.hid (fun h0 h2 => HR.out.trans (nB_zero (m := false) gp h0 h2))
          have HNZ := Lib.hid (fun (h : ¬ (s[0].toNat = 48 ∧ (1 < s.size ∨ false = true))) => show NoZ s false from fun _ h1 h2 => h ⟨h1, h2⟩)
          have h256 := s[0].toNat_lt
          by_cases gz : s[0].toNat = 48 ∧ (1 < s.size ∨ false = true)
          · obtain ⟨gz0, gz2⟩ := gz
            have HN := Lib.hid (HZ0.out gz0 gz2)
            have gz1 : ((s[0].toNat : Int) == 48) = true := by simp [gz0]
            clear gz0
            rcases gz2 with gz2 | gz2
            rotate_left
            · cases gz2
            all_goals
              go_wp2_with fail
              go_ret2
              unfold RefNumPost
              rw [HN.out]
              exact ⟨rfl, rfl⟩
          · have HNO := Lib.hid (HNZ.out gz)
            have gor : (((s[0].toNat : Int) == 48) = false) ∨ (((s[0].toNat : Int) == 48) = true ∧ s.size = 1 ∧ false = false) := by
              by_cases hz : s[0].toNat = 48
              · refine .inr ⟨by simp [hz], ?_, ?_⟩
                · have : ¬ 1 < s.size := fun h => gz ⟨hz, .inl h⟩
                  omega
                · cases hm : false with
                  | false => rfl
                  | true => exact absurd ⟨hz, .inr hm⟩ gz
              · exact .inl (by simp; omega)
            clear gz
            rcases gor with gz1 | ⟨gz1, gs1, gm⟩
            rotate_left
            · have gs1d : decide ((1 : Int) < (s.size : Int)) = false := decide_eq_false (by omega)
              clear gs1
              go_wp2_with fail
              go_loop [5, 41] (fun vn vi => ∃ k : Nat, vi = .int .i64 k ∧ k ≤ s.size ∧ Hid (NumAt (byN s) k) ∧ vn = .int .i64 (valOf ((byN s).take k) : Nat)) (fun _ vi => s.size - (intOf vi).toNat)
              case atStart => exact ⟨0, rfl, Nat.zero_le _, NumAt.zero _, rfl⟩
              case round =>
                obtain ⟨k, rfl, hk, HC, rfl⟩ := hrel
                by_cases hlt : k < s.size
                · have hltd : decide (k < s.size) = true := decide_eq_true hlt
                  have HDG := Lib.hid (fun hc => HR.out.trans (nB_dig (m := false) hlt hc))
                  have HST := Lib.hid (fun hc => nB_step HNO.out (by omega) HC.out hlt hc)
                  have hv := HC.out.bound8 (by omega)
                  have hk256 := s[k].toNat_lt
                  generalize hvv : valOf ((byN s).take k) = v at *
                  have HVV := Lib.hid hvv
                  clear hvv
                  by_cases c1 : s[k].toNat < 48
                  · have c1d : decide ((s[k].toNat : Int) < 48) = true := decide_eq_true (by omega)
                    have HN := Lib.hid (HDG.out (by omega))
                    go_wp2_with fail
                    go_ret2
                    unfold RefNumPost
                    rw [HN.out]
                    exact ⟨rfl, rfl⟩
                  · have c1d : decide ((s[k].toNat : Int) < 48) = false := decide_eq_false (by omega)
                    by_cases c2 : 57 < s[k].toNat
                    · have c2d : decide ((57 : Int) < (s[k].toNat : Int)) = true := decide_eq_true (by omega)
                      have HN := Lib.hid (HDG.out (by omega))
                      go_wp2_with fail
                      go_ret2
                      unfold RefNumPost
                      rw [HN.out]
                      exact ⟨rfl, rfl⟩
                    · have c2d : decide ((57 : Int) < (s[k].toNat : Int)) = false := decide_eq_false (by omega)
                      have HN := Lib.hid (HST.out ⟨by omega, by omega⟩)
                      have hc3 : 48 ≤ (s[k].toNat : Int) := by omega
                      have hc4 : (s[k].toNat : Int) ≤ 57 := by omega
                      have hv2 : (v : Int) ≤ 99999999 := by omega
                      go_wp2_with fail
                      go_round
                      case rel => exact ⟨k + 1, by go_num, by omega, HN.out.1, by (rw [HN.out.2]; exact int_val (by omega))⟩
                      case measure => simp [intOf]; omega
                · obtain rfl : k = s.size := by omega
                  have hltd : decide (s.size < s.size) = false := decide_eq_false (by omega)
                  have HN := Lib.hid (HR.out.trans (nB_done HNO.out (by omega) HC.out))
                  have hv := HC.out.bound
                  generalize valOf ((byN s).take s.size) = v at *
                  go_wp2_with fail
                  go_ret2
                  unfold RefNumPost
                  rw [HN.out]
                  exact ⟨rfl, rfl⟩
            · go_wp2_with fail
              go_loop [5, 41] (fun vn vi => ∃ k : Nat, vi = .int .i64 k ∧ k ≤ s.size ∧ Hid (NumAt (byN s) k) ∧ vn = .int .i64 (valOf ((byN s).take k) : Nat)) (fun _ vi => s.size - (intOf vi).toNat)
              case atStart => exact ⟨0, rfl, Nat.zero_le _, NumAt.zero _, rfl⟩
              case round =>
                obtain ⟨k, rfl, hk, HC, rfl⟩ := hrel
                by_cases hlt : k < s.size
                · have hltd : decide (k < s.size) = true := decide_eq_true hlt
                  have HDG := Lib.hid (fun hc => HR.out.trans (nB_dig (m := false) hlt hc))
                  have HST := Lib.hid (fun hc => nB_step HNO.out (by omega) HC.out hlt hc)
                  have hv := HC.out.bound8 (by omega)
                  have hk256 := s[k].toNat_lt
                  generalize hvv : valOf ((byN s).take k) = v at *
                  have HVV := Lib.hid hvv
                  clear hvv
                  by_cases c1 : s[k].toNat < 48
                  · have c1d : decide ((s[k].toNat : Int) < 48) = true := decide_eq_true (by omega)
                    have HN := Lib.hid (HDG.out (by omega))
                    go_wp2_with fail
                    go_ret2
                    unfold RefNumPost
                    rw [HN.out]
                    exact ⟨rfl, rfl⟩
                  · have c1d : decide ((s[k].toNat : Int) < 48) = false := decide_eq_false (by omega)
                    by_cases c2 : 57 < s[k].toNat
                    · have c2d : decide ((57 : Int) < (s[k].toNat : Int)) = true := decide_eq_true (by omega)
                      have HN := Lib.hid (HDG.out (by omega))
                      go_wp2_with fail
                      go_ret2
                      unfold RefNumPost
                      rw [HN.out]
                      exact ⟨rfl, rfl⟩
                    · have c2d : decide ((57 : Int) < (s[k].toNat : Int)) = false := decide_eq_false (by omega)
                      have HN := Lib.hid (HST.out ⟨by omega, by omega⟩)
                      have hc3 : 48 ≤ (s[k].toNat : Int) := by omega
                      have hc4 : (s[k].toNat : Int) ≤ 57 := by omega
                      have hv2 : (v : Int) ≤ 99999999 := by omega
                      go_wp2_with fail
                      go_round
                      case rel => exact ⟨k + 1, by go_num, by omega, HN.out.1, by (rw [HN.out.2]; exact int_val (by omega))⟩
                      case measure => simp [intOf]; omega
                · obtain rfl : k = s.size := by omega
                  have hltd : decide (s.size < s.size) = false := decide_eq_false (by omega)
                  have HN := Lib.hid (HR.out.trans (nB_done HNO.out (by omega) HC.out))
                  have hv := HC.out.bound
                  generalize valOf ((byN s).take s.size) = v at *
                  go_wp2_with fail
                  go_ret2
                  unfold RefNumPost
                  rw [HN.out]
                  exact ⟨rfl, rfl⟩
end Go.Proofs.YtjhmehmmpfnnkaaDoor

namespace Go.Proofs.YtjhmehmmpfnnkaaDoor
set_option linter.unusedSimpArgs false
set_option linter.unusedVariables false

def wF (s : WS) (l : List Nat) : Option (List (List Nat)) := (wsRun s l).bind WS.fin
theorem wF_start (rs : List Nat) : wF ⟨[], [], .gap⟩ (rs.drop 0) = wordsL rs := rfl
theorem wF_at {s : WS} {rs : List Nat} {i : Nat} (hi : i < rs.length) : wF s (rs.drop i) = (s.step rs[i]).bind fun t => wF t (rs.drop (i + 1)) := by
  rw [List.drop_eq_getElem_cons hi]
  unfold wF
  show ((s.step rs[i]).bind fun t => wsRun t (rs.drop (i + 1))).bind WS.fin = _
  cases s.step rs[i] <;> rfl
theorem wF_end {s : WS} {rs : List Nat} {i : Nat} (hi : rs.length ≤ i) : wF s (rs.drop i) = s.fin := by
  rw [List.drop_eq_nil_of_le hi]; rfl
theorem cur_next {rs : List Nat} {f i : Nat} (hf : f ≤ i) (hi : i < rs.length) : (rs.take (i + 1)).drop f = (rs.take i).drop f ++ [rs[i]] := by
  rw [List.take_succ_eq_append_getElem hi, List.drop_append_of_le_length (by rw [List.length_take]; omega)]
theorem cur_none (rs : List Nat) (i : Nat) : (rs.take i).drop i = [] := List.drop_eq_nil_of_le (by rw [List.length_take]; omega)

section
variable {rs : List Nat} {out : List (List Nat)} {X : Option (List (List Nat))} {f i : Nat}
/-- Where a word's rune stands: none yet, or in a bare word. -/
def bareM (f i : Nat) : WM := if i = f then .gap else .bare
theorem w_blank (hi : i < rs.length) (h : wF ⟨out, [], .gap⟩ (rs.drop i) = X) (hc : rs[i] = 32) : wF ⟨out, [], .gap⟩ (rs.drop (i + 1)) = X := by
  rw [wF_at hi] at h
  simpa [WS.step, WM.step, hc] using h
theorem w_open (hi : i < rs.length) (h : wF ⟨out, [], .gap⟩ (rs.drop i) = X) (hc : rs[i] = 34) : wF ⟨out, (rs.take (i + 1)).drop i, .quo⟩ (rs.drop (i + 1)) = X := by
  rw [wF_at hi] at h
  rw [cur_next (Nat.le_refl _) hi, cur_none]
  simpa [WS.step, WM.step, hc] using h
theorem w_bare0 (h : wF ⟨out, [], .gap⟩ (rs.drop i) = X) : wF ⟨out, (rs.take i).drop i, bareM i i⟩ (rs.drop i) = X := by
  rw [cur_none, bareM, if_pos rfl]; exact h
theorem w_bare (hf : f ≤ i) (hi : i < rs.length) (h : wF ⟨out, (rs.take i).drop f, bareM f i⟩ (rs.drop i) = X) (h1 : rs[i] ≠ 32) (h2 : rs[i] ≠ 34) : wF ⟨out, (rs.take (i + 1)).drop f, bareM f (i + 1)⟩ (rs.drop (i + 1)) = X := by
  rw [wF_at hi] at h
  rw [cur_next hf hi]
  have e : bareM f (i + 1) = .bare := by unfold bareM; rw [if_neg (by omega)]
  rw [e]
  unfold bareM at h
  by_cases hfi : i = f
  · rw [if_pos hfi] at h
    simpa [WS.step, WM.step, h1, h2] using h
  · rw [if_neg hfi] at h
    simpa [WS.step, WM.step, h1, h2] using h
theorem w_quo (hf : f ≤ i) (hi : i < rs.length) (h : wF ⟨out, (rs.take i).drop f, .quo⟩ (rs.drop i) = X) (h1 : rs[i] ≠ 34) (h2 : rs[i] ≠ 92) : wF ⟨out, (rs.take (i + 1)).drop f, .quo⟩ (rs.drop (i + 1)) = X := by
  rw [wF_at hi] at h
  rw [cur_next hf hi]
  simpa [WS.step, WM.step, h1, h2] using h
theorem w_esc (hf : f ≤ i) (hi : i + 1 < rs.length) (h : wF ⟨out, (rs.take i).drop f, .quo⟩ (rs.drop i) = X) (h1 : rs[i] = 92) : wF ⟨out, (rs.take (i + 1 + 1)).drop f, .quo⟩ (rs.drop (i + 1 + 1)) = X := by
  rw [wF_at (by omega)] at h
  rw [cur_next (by omega) hi, cur_next hf (by omega)]
  simp only [WS.step, WM.step, h1, if_true, Option.bind_some] at h
  rw [wF_at hi] at h
  simpa [WS.step, WM.step, h1] using h
theorem w_esc_end (hi : i < rs.length) (hn : ¬ i + 1 < rs.length) (h : wF ⟨out, (rs.take i).drop f, .quo⟩ (rs.drop i) = X) (h1 : rs[i] = 92) : X = none := by
  rw [wF_at (by omega)] at h
  simp only [WS.step, WM.step, h1, if_true, Option.bind_some] at h
  rw [wF_end (by omega)] at h
  exact h.symm
theorem w_quo_end (hi : ¬ i < rs.length) (h : wF ⟨out, (rs.take i).drop f, .quo⟩ (rs.drop i) = X) : X = none := by
  rw [wF_end (by omega)] at h
  exact h.symm
theorem w_close (hf : f ≤ i) (hi : i < rs.length) (h : wF ⟨out, (rs.take i).drop f, .quo⟩ (rs.drop i) = X) (h1 : rs[i] = 34) : wF ⟨out, (rs.take (i + 1)).drop f, .shut⟩ (rs.drop (i + 1)) = X := by
  rw [wF_at hi] at h
  rw [cur_next hf hi]
  simpa [WS.step, WM.step, h1] using h
/-- Behind a word stands the end, or a blank. -/
theorem w_done {m : WM} (hm : m = .bare ∨ m = .shut) (hi : ¬ i < rs.length) (h : wF ⟨out, (rs.take i).drop f, m⟩ (rs.drop i) = X) : wF ⟨out ++ [(rs.take i).drop f], [], .gap⟩ (rs.drop i) = X := by
  rw [wF_end (by omega)] at h ⊢
  rw [← h]
  rcases hm with rfl | rfl <;> rfl
theorem w_next {m : WM} (hm : m = .bare ∨ m = .shut) (hi : i < rs.length) (h : wF ⟨out, (rs.take i).drop f, m⟩ (rs.drop i) = X) (h1 : rs[i] = 32) : wF ⟨out ++ [(rs.take i).drop f], [], .gap⟩ (rs.drop i) = X := by
  rw [wF_at hi] at h ⊢
  rw [← h]
  rcases hm with rfl | rfl <;> simp [WS.step, WM.step, h1]
theorem w_bad_shut (hi : i < rs.length) (h : wF ⟨out, (rs.take i).drop f, .shut⟩ (rs.drop i) = X) (h1 : rs[i] ≠ 32) : X = none := by
  rw [wF_at hi] at h
  rw [← h]
  simp [WS.step, WM.step, h1]
theorem w_bad_bare (hi : i < rs.length) (h : wF ⟨out, (rs.take i).drop f, .bare⟩ (rs.drop i) = X) (h1 : rs[i] = 34) : X = none := by
  rw [wF_at hi] at h
  rw [← h]
  simp [WS.step, WM.step, h1]
theorem w_all (hi : ¬ i < rs.length) (h : wF ⟨out, [], .gap⟩ (rs.drop i) = X) : X = some out := by
  rw [wF_end (by omega)] at h
  exact h.symm
theorem bareM_of (h : f < i) : bareM f i = .bare := by unfold bareM; rw [if_neg (by omega)]
end
end Go.Proofs.YtjhmehmmpfnnkaaDoor
