/-
  The contracts of tidewaterref31's line: num, str.
  The contract of tidewaterref31's line.op.
  The contracts of Text's closure and of slices.IndexFunc over it.
-/
import Derived.Test.YtjhmehmmpfnnkaaDoorM20
import Derived.Test.YtjhmehmmpfnnkaaDoorM22
namespace Go.Proofs.YtjhmehmmpfnnkaaDoor
open Go.RowKit Utf
set_option maxRecDepth 100000
set_option linter.unusedSimpArgs false
set_option linter.unusedVariables false

/-- A line that is told: its text in block sb, whether it is right in block kb. -/
def LSt (w : World) (sb kb : Nat) (row : List (Option (List Nat))) : Prop :=
  ∃ t ok, Blk w sb 9 #[.string t] ∧ Blk w kb 4 #[.bool ok] ∧ (∀ ws, tellAll row = some ws → ok = true ∧ t = mkS (encAll (joinW ws))) ∧ (tellAll row = none → ok = false) ∧ t.size ≤ 1000000 * row.length
def LinePost (sb kb : Nat) (row more : List (Option (List Nat))) (w : World) (e : Ending) (w' : World) : Prop :=
  e = .returned (.tuple #[]) ∧ Only (fun k => k = sb ∨ k = kb) w w' ∧ LSt w' sb kb (row ++ more)
theorem joinW_snoc {ws : List (List Nat)} (h : ws ≠ []) (x : List Nat) : joinW (ws ++ [x]) = joinW ws ++ 32 :: x := by
  cases ws with
  | nil => exact absurd rfl h
  | cons a r => simp [joinW]
theorem line_next {w' : World} {sb kb : Nat} {row : List (Option (List Nat))} {t t2 : ByteArray} {ok ok2 : Bool} {x : Option (List Nat)} (h1 : ∀ ws, tellAll row = some ws → ok = true ∧ t = mkS (encAll (joinW ws))) (h2 : tellAll row = none → ok = false) (h3 : t.size ≤ 1000000 * row.length) (hne : row ≠ [])
    (hx : (∃ d, x = some d ∧ t2 = mkS (encAll d) ∧ ok2 = true) ∨ (x = none ∧ ok2 = false)) (hsz : t2.size ≤ 999990) (hs : Blk w' sb 9 #[.string (t ++ (⟨#[32]⟩ ++ t2))]) (hk : Blk w' kb 4 #[.bool (ok && ok2)]) : LSt w' sb kb (row ++ [x]) := by
  refine ⟨_, _, hs, hk, ?_, ?_, ?_⟩
  · intro ws hw
    rw [tellAll_snoc] at hw
    obtain ⟨l, hl, hw2⟩ := Option.bind_eq_some_iff.1 hw
    obtain ⟨hok, ht⟩ := h1 l hl
    rcases hx with ⟨d, rfl, rfl, rfl⟩ | ⟨rfl, rfl⟩
    · obtain rfl := Option.some.inj hw2
      refine ⟨by rw [hok]; rfl, ?_⟩
      have hlne : l ≠ [] := by
        intro e
        subst e
        have := (tellAll_iff _ _).1 hl
        exact hne this
      rw [joinW_snoc hlne, encAll_append, encAll_cons, show enc 32 = [32] from by decide +kernel, ht, ← mkS_append, ← mkS_append]
      rfl
    · cases hw2
  · intro hw
    rw [tellAll_snoc] at hw
    cases hl : tellAll row with
    | none => rw [h2 hl]; rfl
    | some l =>
      rcases hx with ⟨d, rfl, rfl, rfl⟩ | ⟨rfl, rfl⟩
      · rw [hl] at hw; cases hw
      · simp
  · rw [ByteArray.size_append, ByteArray.size_append, List.length_append, List.length_singleton]
    have : (⟨#[32]⟩ : ByteArray).size = 1 := rfl
    omega

theorem quoteR_size (s : ByteArray) : (quoteR s).1.size ≤ 8 * s.size + 8 := by
  by_cases h : (quoteR s).2 = 0
  · obtain ⟨-, q, -, -, h2⟩ := quoteR_back h
    exact h2
  · unfold quoteR at h ⊢
    cases hd : dec s.data.toList with
    | none => exact Nat.zero_le _
    | some rs =>
      simp only
      cases hq : quoteL rs with
      | none => exact Nat.zero_le _
      | some q => rw [hd] at h; simp [hq] at h

set_option maxHeartbeats 4000000 in
theorem line_num (sb kb : Nat) (row : List (Option (List Nat))) (z : Int) (w : World) (h : LSt w sb kb row) (hne : row ≠ []) (hl : row.length ≤ 100000) (hsk : sb ≠ kb) (h1 : -9223372036854775808 ≤ z) (h2 : z ≤ 9223372036854775807) :
    Calls Tryd.prog 52 #[.agg #[.pointer (some ⟨sb, 0, none⟩), .pointer (some ⟨kb, 0, none⟩)], .int .i64 z] w (LinePost sb kb row [decL z] w) := by
  obtain ⟨t, ok, hs, hk, p1, p2, p3⟩ := h
  have HP1 := Lib.hid p1
  have HP2 := Lib.hid p2
  have HD := Lib.hid (fun W => refdec_any z W h1 h2)
  have hN := Blk.new w 112 #[.pointer (some ⟨sb, 0, none⟩), .pointer (some ⟨kb, 0, none⟩)]
  have HN := Lib.hid hN
  have HS := Lib.hid (hs.alloc (.cells #[.pointer (some ⟨sb, 0, none⟩), .pointer (some ⟨kb, 0, none⟩)] 112))
  have HK := Lib.hid (hk.alloc (.cells #[.pointer (some ⟨sb, 0, none⟩), .pointer (some ⟨kb, 0, none⟩)] 112))
  have hsN : sb ≠ w.heap.size := by have := hs.lt; omega
  have hkN : kb ≠ w.heap.size := by have := hk.lt; omega
  clear p1 p2 h1 h2 hN hs hk
  go_enter Tryd.func52, Tryd.ntmps52
  go_wp2_with fail
  refine (HD.out _).mono ?_
  rintro e w1 ⟨hb1, hres⟩
  have HX := Lib.hid (show Only (fun k => k = sb ∨ k = kb) w w1 from ((Only.refl _ w).alloc _).trans (Only.below_all hb1))
  have HN1 := Lib.hid (HN.out.below hb1 HN.out.lt)
  have HS1 := Lib.hid (HS.out.below hb1 HS.out.lt)
  have HK1 := Lib.hid (HK.out.below hb1 HK.out.lt)
  have hres2 : ∃ t2 ok2, e = .returned (.tuple #[.string t2, .bool ok2]) ∧ ((∃ d, decL z = some d ∧ t2 = mkS (encAll d) ∧ ok2 = true) ∨ (decL z = none ∧ ok2 = false)) ∧ t2.size ≤ 50 := by
    rcases hres with ⟨d, hd, rfl⟩ | ⟨hd, rfl⟩
    · refine ⟨_, _, rfl, .inl ⟨d, hd, rfl, rfl⟩, ?_⟩
      have := (decL_word hd).2.2
      rw [mkS_size]
      have := encAll_le d
      omega
    · exact ⟨_, _, rfl, .inr ⟨hd, rfl⟩, by decide⟩
  obtain ⟨t2, ok2, rfl, hx, hsz⟩ := hres2
  have HXX := Lib.hid hx
  clear hres hb1 hx
  have n0 : w1.cell? ⟨w.heap.size, 0, none⟩ = some (.pointer (some ⟨sb, 0, none⟩)) := HN1.out.cell 0
  have n1 : w1.cell? ⟨w.heap.size, 1, none⟩ = some (.pointer (some ⟨kb, 0, none⟩)) := HN1.out.cell 1
  have c0 : w1.cell? ⟨sb, 0, none⟩ = some (.string t) := HS1.out.cell 0
  have c0f := HS1.out.frozen 0
  have c1 : w1.cell? ⟨kb, 0, none⟩ = some (.bool ok) := HK1.out.cell 0
  have c1f := HK1.out.frozen 0
  have hz1 : (⟨#[32]⟩ : ByteArray).size + t2.size ≤ 9223372036854775807 := by show 1 + t2.size ≤ _; omega
  have hz2 : t.size + ((⟨#[32]⟩ : ByteArray) ++ t2).size ≤ 9223372036854775807 := by rw [ByteArray.size_append]; have : (⟨#[32]⟩ : ByteArray).size = 1 := rfl; omega
  have HXS := Lib.hid ((HX.out.set (p := ⟨sb, 0, none⟩) (.inl (.inl rfl)) (.string (t ++ (⟨#[32]⟩ ++ t2)))).set (p := ⟨kb, 0, none⟩) (.inl (.inr rfl)) (.bool (ok && ok2)))
  have HSE := Lib.hid (show Blk ((w1.setCell ⟨sb, 0, none⟩ (.string (t ++ (⟨#[32]⟩ ++ t2)))).setCell ⟨kb, 0, none⟩ (.bool (ok && ok2))) sb 9 #[.string (t ++ (⟨#[32]⟩ ++ t2))] from (HS1.out.put 0 _).far hsk _)
  have HKE := Lib.hid (show Blk ((w1.setCell ⟨sb, 0, none⟩ (.string (t ++ (⟨#[32]⟩ ++ t2)))).setCell ⟨kb, 0, none⟩ (.bool (ok && ok2))) kb 4 #[.bool (ok && ok2)] from (HK1.out.far (Ne.symm hsk) _).put 0 _)
  have n1s : (w1.setCell ⟨sb, 0, none⟩ (.string (t ++ (⟨#[32]⟩ ++ t2)))).cell? ⟨w.heap.size, 1, none⟩ = some (.pointer (some ⟨kb, 0, none⟩)) := (HN1.out.far (Ne.symm hsN) _).cell 1
  have c1s : (w1.setCell ⟨sb, 0, none⟩ (.string (t ++ (⟨#[32]⟩ ++ t2)))).cell? ⟨kb, 0, none⟩ = some (.bool ok) := (HK1.out.far (Ne.symm hsk) _).cell 0
  have c1sf := (HK1.out.far (p := ⟨sb, 0, none⟩) (Ne.symm hsk) (.string (t ++ (⟨#[32]⟩ ++ t2)))).frozen 0
  go_wp2_with fail
  clear n0 n1 c0 c0f c1 c1f
  generalize w1.setCell ⟨sb, 0, none⟩ (.string (t ++ (⟨#[32]⟩ ++ t2))) = w2 at *
  have HLN := Lib.hid (line_next HP1.out HP2.out p3 hne HXX.out (by omega) HSE.out HKE.out)
  clear HP1 HP2 HXX HSE HKE
  cases ok
  all_goals
    go_region
    all_goals
      go_wp2_with fail
      go_end0
      exact ⟨rfl, HXS.out.drewN 1, HLN.out⟩

set_option maxHeartbeats 4000000 in
theorem line_str (sb kb : Nat) (row : List (Option (List Nat))) (z : ByteArray) (w : World) (h : LSt w sb kb row) (hne : row ≠ []) (hl : row.length ≤ 100000) (hsk : sb ≠ kb) (h1 : z.size ≤ 100000) :
    Calls Tryd.prog 53 #[.agg #[.pointer (some ⟨sb, 0, none⟩), .pointer (some ⟨kb, 0, none⟩)], .string z] w (LinePost sb kb row [tellS z] w) := by
  obtain ⟨t, ok, hs, hk, p1, p2, p3⟩ := h
  have HP1 := Lib.hid p1
  have HP2 := Lib.hid p2
  have HD := Lib.hid (fun W => refQuote_all z W (by omega))
  have HQ := Lib.hid (tellS_quoteR z)
  have HQS := Lib.hid (quoteR_size z)
  have hz0 := h1
  have hN := Blk.new w 112 #[.pointer (some ⟨sb, 0, none⟩), .pointer (some ⟨kb, 0, none⟩)]
  have HN := Lib.hid hN
  have HS := Lib.hid (hs.alloc (.cells #[.pointer (some ⟨sb, 0, none⟩), .pointer (some ⟨kb, 0, none⟩)] 112))
  have HK := Lib.hid (hk.alloc (.cells #[.pointer (some ⟨sb, 0, none⟩), .pointer (some ⟨kb, 0, none⟩)] 112))
  have hsN : sb ≠ w.heap.size := by have := hs.lt; omega
  have hkN : kb ≠ w.heap.size := by have := hk.lt; omega
  clear p1 p2 h1 hN hs hk
  go_enter Tryd.func53, Tryd.ntmps53
  go_wp2_with fail
  refine (HD.out _).mono ?_
  rintro e w1 ⟨rfl, hb1⟩
  have HX := Lib.hid (show Only (fun k => k = sb ∨ k = kb) w w1 from ((Only.refl _ w).alloc _).trans (Only.below_all hb1))
  have HN1 := Lib.hid (HN.out.below hb1 HN.out.lt)
  have HS1 := Lib.hid (HS.out.below hb1 HS.out.lt)
  have HK1 := Lib.hid (HK.out.below hb1 HK.out.lt)
  obtain ⟨qv, hqv⟩ : ∃ qv, qv = quoteR z := ⟨_, rfl⟩
  rw [← hqv] at HQ HQS ⊢
  obtain ⟨t2, m⟩ := qv
  have hsz : t2.size ≤ 8 * z.size + 8 := HQS.out
  obtain ⟨ok2, hok2⟩ : ∃ ok2, ok2 = decide (m = 0) := ⟨_, rfl⟩
  have hm2 : ((m : Int) == 0) = ok2 := by rw [hok2, Bool.eq_iff_iff]; simp
  have HXX := Lib.hid (show (∃ d, tellS z = some d ∧ t2 = mkS (encAll d) ∧ ok2 = true) ∨ (tellS z = none ∧ ok2 = false) from by
    rcases HQ.out with ⟨d, hd, hte, hm0⟩ | ⟨hd, hm0⟩
    · exact .inl ⟨d, hd, hte, by rw [hok2]; exact decide_eq_true hm0⟩
    · exact .inr ⟨hd, by rw [hok2]; exact decide_eq_false hm0⟩)
  clear hb1 HQ HQS hqv hok2
  have n0 : w1.cell? ⟨w.heap.size, 0, none⟩ = some (.pointer (some ⟨sb, 0, none⟩)) := HN1.out.cell 0
  have n1 : w1.cell? ⟨w.heap.size, 1, none⟩ = some (.pointer (some ⟨kb, 0, none⟩)) := HN1.out.cell 1
  have c0 : w1.cell? ⟨sb, 0, none⟩ = some (.string t) := HS1.out.cell 0
  have c0f := HS1.out.frozen 0
  have c1 : w1.cell? ⟨kb, 0, none⟩ = some (.bool ok) := HK1.out.cell 0
  have c1f := HK1.out.frozen 0
  have hz1 : (⟨#[32]⟩ : ByteArray).size + t2.size ≤ 9223372036854775807 := by show 1 + t2.size ≤ _; omega
  have hz2 : t.size + ((⟨#[32]⟩ : ByteArray) ++ t2).size ≤ 9223372036854775807 := by rw [ByteArray.size_append]; have : (⟨#[32]⟩ : ByteArray).size = 1 := rfl; omega
  have HXS := Lib.hid ((HX.out.set (p := ⟨sb, 0, none⟩) (.inl (.inl rfl)) (.string (t ++ (⟨#[32]⟩ ++ t2)))).set (p := ⟨kb, 0, none⟩) (.inl (.inr rfl)) (.bool (ok && ok2)))
  have HSE := Lib.hid (show Blk ((w1.setCell ⟨sb, 0, none⟩ (.string (t ++ (⟨#[32]⟩ ++ t2)))).setCell ⟨kb, 0, none⟩ (.bool (ok && ok2))) sb 9 #[.string (t ++ (⟨#[32]⟩ ++ t2))] from (HS1.out.put 0 _).far hsk _)
  have HKE := Lib.hid (show Blk ((w1.setCell ⟨sb, 0, none⟩ (.string (t ++ (⟨#[32]⟩ ++ t2)))).setCell ⟨kb, 0, none⟩ (.bool (ok && ok2))) kb 4 #[.bool (ok && ok2)] from (HK1.out.far (Ne.symm hsk) _).put 0 _)
  have n1s : (w1.setCell ⟨sb, 0, none⟩ (.string (t ++ (⟨#[32]⟩ ++ t2)))).cell? ⟨w.heap.size, 1, none⟩ = some (.pointer (some ⟨kb, 0, none⟩)) := (HN1.out.far (Ne.symm hsN) _).cell 1
  have c1s : (w1.setCell ⟨sb, 0, none⟩ (.string (t ++ (⟨#[32]⟩ ++ t2)))).cell? ⟨kb, 0, none⟩ = some (.bool ok) := (HK1.out.far (Ne.symm hsk) _).cell 0
  have c1sf := (HK1.out.far (p := ⟨sb, 0, none⟩) (Ne.symm hsk) (.string (t ++ (⟨#[32]⟩ ++ t2)))).frozen 0
  go_wp2_with fail
  clear n0 n1 c0 c0f c1 c1f
  generalize w1.setCell ⟨sb, 0, none⟩ (.string (t ++ (⟨#[32]⟩ ++ t2))) = w2 at *
  have HLN := Lib.hid (line_next HP1.out HP2.out p3 hne HXX.out (by omega) HSE.out HKE.out)
  clear HP1 HP2 HXX HSE HKE
  cases ok
  all_goals
    go_region
    all_goals
      go_wp2_with fail
      go_end0
      exact ⟨rfl, HXS.out.drewN 1, HLN.out⟩
end Go.Proofs.YtjhmehmmpfnnkaaDoor

namespace Go.Proofs.YtjhmehmmpfnnkaaDoor
open Go.RowKit Utf
set_option maxRecDepth 100000
set_option linter.unusedSimpArgs false
set_option linter.unusedVariables false

def BOp.okR (o : BOp) : Prop := o.key.size ≤ 100000 ∧ o.value.size ≤ 100000 ∧ o.old.size ≤ 100000 ∧ -9223372036854775808 ≤ o.version ∧ o.version ≤ 9223372036854775807
theorem LSt.ne {row : List (Option (List Nat))} {x : Option (List Nat)} : row ++ [x] ≠ [] := by simp

set_option maxHeartbeats 4000000 in
theorem lineop_1 (sb kb : Nat) (row : List (Option (List Nat))) (key value old : ByteArray) (version : Int) (w : World) (h : LSt w sb kb row) (hne : row ≠ []) (hl : row.length + 5 ≤ 100000) (hsk : sb ≠ kb) (hk : BOp.okR ⟨1, key, value, old, version⟩) :
    Calls Tryd.prog 51 #[.agg #[.pointer (some ⟨sb, 0, none⟩), .pointer (some ⟨kb, 0, none⟩)], .agg #[.int .i64 1, .string key, .string value, .string old, .int .i64 version]] w (LinePost sb kb row (opRow ⟨1, key, value, old, version⟩) w) := by
  obtain ⟨hk1, hk2, hk3, hk4, hk5⟩ := hk
  simp only at hk1 hk2 hk3 hk4 hk5
  obtain ⟨t, ok, hs, hkb, p1, p2, p3⟩ := h
  have hsN : sb < w.heap.size := hs.lt
  have hkN : kb < w.heap.size := hkb.lt
  have hw0 : (w.setCell ⟨sb, 0, none⟩ (.string (t ++ ⟨#[32, 112, 117, 116]⟩))).heap.size = w.heap.size := by simp [World.setCell]
  have c0 : w.cell? ⟨sb, 0, none⟩ = some (.string t) := hs.cell 0
  have c0f := hs.frozen 0
  have hne0 : sb ≠ w.heap.size := by omega
  have hne1 : sb ≠ w.heap.size + 1 := by omega
  have hz2 : t.size + (⟨#[32, 112, 117, 116]⟩ : ByteArray).size ≤ 9223372036854775807 := Nat.le_trans (Nat.add_le_add_left (show (⟨#[32, 112, 117, 116]⟩ : ByteArray).size ≤ 100 by decide) _) (by omega)
  have HX0 := Lib.hid (show Only (fun k => k = sb ∨ k = kb) w (((w.setCell ⟨sb, 0, none⟩ (.string (t ++ ⟨#[32, 112, 117, 116]⟩))).alloc (.cells #[.pointer (some ⟨sb, 0, none⟩), .pointer (some ⟨kb, 0, none⟩)] 112)).alloc (.cells #[.int .i64 1, .string key, .string value, .string old, .int .i64 version] 103)) from (((Only.refl _ w).set (.inl (.inl rfl)) _).alloc _).alloc _)
  have HS0 := Lib.hid (show LSt (((w.setCell ⟨sb, 0, none⟩ (.string (t ++ ⟨#[32, 112, 117, 116]⟩))).alloc (.cells #[.pointer (some ⟨sb, 0, none⟩), .pointer (some ⟨kb, 0, none⟩)] 112)).alloc (.cells #[.int .i64 1, .string key, .string value, .string old, .int .i64 version] 103)) sb kb (row ++ [some [112, 117, 116]]) from
    line_next (t2 := ⟨#[112, 117, 116]⟩) (ok2 := true) (ok := ok) p1 p2 p3 hne (.inl ⟨[112, 117, 116], rfl, by apply str_ext; kernel_rfl, rfl⟩) (by decide) (by
      have e : ((⟨#[32]⟩ : ByteArray) ++ ⟨#[112, 117, 116]⟩) = ⟨#[32, 112, 117, 116]⟩ := by apply str_ext; kernel_rfl
      rw [e]
      exact ((hs.put 0 _).alloc _).alloc _) (by rw [Bool.and_true]; exact ((hkb.far (p := ⟨sb, 0, none⟩) (Ne.symm hsk) _).alloc _).alloc _))
  have HN0 := Lib.hid (show Blk (((w.setCell ⟨sb, 0, none⟩ (.string (t ++ ⟨#[32, 112, 117, 116]⟩))).alloc (.cells #[.pointer (some ⟨sb, 0, none⟩), .pointer (some ⟨kb, 0, none⟩)] 112)).alloc (.cells #[.int .i64 1, .string key, .string value, .string old, .int .i64 version] 103)) w.heap.size 112 #[.pointer (some ⟨sb, 0, none⟩), .pointer (some ⟨kb, 0, none⟩)] from by
    have := (Blk.new (w.setCell ⟨sb, 0, none⟩ (.string (t ++ ⟨#[32, 112, 117, 116]⟩))) 112 #[.pointer (some ⟨sb, 0, none⟩), .pointer (some ⟨kb, 0, none⟩)]).alloc (.cells #[.int .i64 1, .string key, .string value, .string old, .int .i64 version] 103)
    rw [hw0] at this
    exact this)
  have HOB0 := Lib.hid (show Blk (((w.setCell ⟨sb, 0, none⟩ (.string (t ++ ⟨#[32, 112, 117, 116]⟩))).alloc (.cells #[.pointer (some ⟨sb, 0, none⟩), .pointer (some ⟨kb, 0, none⟩)] 112)).alloc (.cells #[.int .i64 1, .string key, .string value, .string old, .int .i64 version] 103)) (w.heap.size + 1) 103 #[.int .i64 1, .string key, .string value, .string old, .int .i64 version] from by
    have := Blk.new ((w.setCell ⟨sb, 0, none⟩ (.string (t ++ ⟨#[32, 112, 117, 116]⟩))).alloc (.cells #[.pointer (some ⟨sb, 0, none⟩), .pointer (some ⟨kb, 0, none⟩)] 112)) 103 #[.int .i64 1, .string key, .string value, .string old, .int .i64 version]
    rw [World.size_alloc, hw0] at this
    exact this)
  clear p1 p2 p3 hs hkb hw0
  go_enter Tryd.func51, Tryd.ntmps51
  go_wp2_with fail
  refine (line_str sb kb _ key _ HS0.out (by simp) (by simp; omega) hsk hk1).mono ?_
  rintro e wa1 ⟨rfl, ho1, hs1⟩
  have HX1 := Lib.hid (HX0.out.trans ho1)
  have HS1 := Lib.hid hs1
  have HN1 := Lib.hid (HN0.out.only ho1 (by omega))
  have HOB1 := Lib.hid (HOB0.out.only ho1 (by omega))
  clear ho1 hs1
  have na1 := HN1.out.cell 0
  have nb1 := HN1.out.cell 1
  have nc1 := HOB1.out.cell 2
  go_wp2_with fail
  refine (line_str sb kb _ value _ HS1.out (by simp) (by simp; omega) hsk hk2).mono ?_
  rintro e wa2 ⟨rfl, ho2, hs2⟩
  have HX2 := Lib.hid (HX1.out.trans ho2)
  have HS2 := Lib.hid hs2
  have HN2 := Lib.hid (HN1.out.only ho2 (by omega))
  have HOB2 := Lib.hid (HOB1.out.only ho2 (by omega))
  clear ho2 hs2 na1 nb1 nc1
  go_wp2_with fail
  go_end0
  refine ⟨rfl, HX2.out, ?_⟩
  have hz := HS2.out
  simp only [List.append_assoc, List.cons_append, List.nil_append] at hz
  exact hz

set_option maxHeartbeats 4000000 in
theorem lineop_2 (sb kb : Nat) (row : List (Option (List Nat))) (key value old : ByteArray) (version : Int) (w : World) (h : LSt w sb kb row) (hne : row ≠ []) (hl : row.length + 5 ≤ 100000) (hsk : sb ≠ kb) (hk : BOp.okR ⟨2, key, value, old, version⟩) :
    Calls Tryd.prog 51 #[.agg #[.pointer (some ⟨sb, 0, none⟩), .pointer (some ⟨kb, 0, none⟩)], .agg #[.int .i64 2, .string key, .string value, .string old, .int .i64 version]] w (LinePost sb kb row (opRow ⟨2, key, value, old, version⟩) w) := by
  obtain ⟨hk1, hk2, hk3, hk4, hk5⟩ := hk
  simp only at hk1 hk2 hk3 hk4 hk5
  obtain ⟨t, ok, hs, hkb, p1, p2, p3⟩ := h
  have hsN : sb < w.heap.size := hs.lt
  have hkN : kb < w.heap.size := hkb.lt
  have hw0 : (w.setCell ⟨sb, 0, none⟩ (.string (t ++ ⟨#[32, 100, 101, 108]⟩))).heap.size = w.heap.size := by simp [World.setCell]
  have c0 : w.cell? ⟨sb, 0, none⟩ = some (.string t) := hs.cell 0
  have c0f := hs.frozen 0
  have hne0 : sb ≠ w.heap.size := by omega
  have hne1 : sb ≠ w.heap.size + 1 := by omega
  have hz2 : t.size + (⟨#[32, 100, 101, 108]⟩ : ByteArray).size ≤ 9223372036854775807 := Nat.le_trans (Nat.add_le_add_left (show (⟨#[32, 100, 101, 108]⟩ : ByteArray).size ≤ 100 by decide) _) (by omega)
  have HX0 := Lib.hid (show Only (fun k => k = sb ∨ k = kb) w (((w.setCell ⟨sb, 0, none⟩ (.string (t ++ ⟨#[32, 100, 101, 108]⟩))).alloc (.cells #[.pointer (some ⟨sb, 0, none⟩), .pointer (some ⟨kb, 0, none⟩)] 112)).alloc (.cells #[.int .i64 2, .string key, .string value, .string old, .int .i64 version] 103)) from (((Only.refl _ w).set (.inl (.inl rfl)) _).alloc _).alloc _)
  have HS0 := Lib.hid (show LSt (((w.setCell ⟨sb, 0, none⟩ (.string (t ++ ⟨#[32, 100, 101, 108]⟩))).alloc (.cells #[.pointer (some ⟨sb, 0, none⟩), .pointer (some ⟨kb, 0, none⟩)] 112)).alloc (.cells #[.int .i64 2, .string key, .string value, .string old, .int .i64 version] 103)) sb kb (row ++ [some [100, 101, 108]]) from
    line_next (t2 := ⟨#[100, 101, 108]⟩) (ok2 := true) (ok := ok) p1 p2 p3 hne (.inl ⟨[100, 101, 108], rfl, by apply str_ext; kernel_rfl, rfl⟩) (by decide) (by
      have e : ((⟨#[32]⟩ : ByteArray) ++ ⟨#[100, 101, 108]⟩) = ⟨#[32, 100, 101, 108]⟩ := by apply str_ext; kernel_rfl
      rw [e]
      exact ((hs.put 0 _).alloc _).alloc _) (by rw [Bool.and_true]; exact ((hkb.far (p := ⟨sb, 0, none⟩) (Ne.symm hsk) _).alloc _).alloc _))
  have HN0 := Lib.hid (show Blk (((w.setCell ⟨sb, 0, none⟩ (.string (t ++ ⟨#[32, 100, 101, 108]⟩))).alloc (.cells #[.pointer (some ⟨sb, 0, none⟩), .pointer (some ⟨kb, 0, none⟩)] 112)).alloc (.cells #[.int .i64 2, .string key, .string value, .string old, .int .i64 version] 103)) w.heap.size 112 #[.pointer (some ⟨sb, 0, none⟩), .pointer (some ⟨kb, 0, none⟩)] from by
    have := (Blk.new (w.setCell ⟨sb, 0, none⟩ (.string (t ++ ⟨#[32, 100, 101, 108]⟩))) 112 #[.pointer (some ⟨sb, 0, none⟩), .pointer (some ⟨kb, 0, none⟩)]).alloc (.cells #[.int .i64 2, .string key, .string value, .string old, .int .i64 version] 103)
    rw [hw0] at this
    exact this)
  have HOB0 := Lib.hid (show Blk (((w.setCell ⟨sb, 0, none⟩ (.string (t ++ ⟨#[32, 100, 101, 108]⟩))).alloc (.cells #[.pointer (some ⟨sb, 0, none⟩), .pointer (some ⟨kb, 0, none⟩)] 112)).alloc (.cells #[.int .i64 2, .string key, .string value, .string old, .int .i64 version] 103)) (w.heap.size + 1) 103 #[.int .i64 2, .string key, .string value, .string old, .int .i64 version] from by
    have := Blk.new ((w.setCell ⟨sb, 0, none⟩ (.string (t ++ ⟨#[32, 100, 101, 108]⟩))).alloc (.cells #[.pointer (some ⟨sb, 0, none⟩), .pointer (some ⟨kb, 0, none⟩)] 112)) 103 #[.int .i64 2, .string key, .string value, .string old, .int .i64 version]
    rw [World.size_alloc, hw0] at this
    exact this)
  clear p1 p2 p3 hs hkb hw0
  go_enter Tryd.func51, Tryd.ntmps51
  go_wp2_with fail
  refine (line_str sb kb _ key _ HS0.out (by simp) (by simp; omega) hsk hk1).mono ?_
  rintro e wa1 ⟨rfl, ho1, hs1⟩
  have HX1 := Lib.hid (HX0.out.trans ho1)
  have HS1 := Lib.hid hs1
  have HN1 := Lib.hid (HN0.out.only ho1 (by omega))
  have HOB1 := Lib.hid (HOB0.out.only ho1 (by omega))
  clear ho1 hs1
  go_wp2_with fail
  go_end0
  refine ⟨rfl, HX1.out, ?_⟩
  have hz := HS1.out
  simp only [List.append_assoc, List.cons_append, List.nil_append] at hz
  exact hz

set_option maxHeartbeats 4000000 in
theorem lineop_3 (sb kb : Nat) (row : List (Option (List Nat))) (key value old : ByteArray) (version : Int) (w : World) (h : LSt w sb kb row) (hne : row ≠ []) (hl : row.length + 5 ≤ 100000) (hsk : sb ≠ kb) (hk : BOp.okR ⟨3, key, value, old, version⟩) :
    Calls Tryd.prog 51 #[.agg #[.pointer (some ⟨sb, 0, none⟩), .pointer (some ⟨kb, 0, none⟩)], .agg #[.int .i64 3, .string key, .string value, .string old, .int .i64 version]] w (LinePost sb kb row (opRow ⟨3, key, value, old, version⟩) w) := by
  obtain ⟨hk1, hk2, hk3, hk4, hk5⟩ := hk
  simp only at hk1 hk2 hk3 hk4 hk5
  obtain ⟨t, ok, hs, hkb, p1, p2, p3⟩ := h
  have hsN : sb < w.heap.size := hs.lt
  have hkN : kb < w.heap.size := hkb.lt
  have hw0 : (w.setCell ⟨sb, 0, none⟩ (.string (t ++ ⟨#[32, 99, 97, 115]⟩))).heap.size = w.heap.size := by simp [World.setCell]
  have c0 : w.cell? ⟨sb, 0, none⟩ = some (.string t) := hs.cell 0
  have c0f := hs.frozen 0
  have hne0 : sb ≠ w.heap.size := by omega
  have hne1 : sb ≠ w.heap.size + 1 := by omega
  have hz2 : t.size + (⟨#[32, 99, 97, 115]⟩ : ByteArray).size ≤ 9223372036854775807 := Nat.le_trans (Nat.add_le_add_left (show (⟨#[32, 99, 97, 115]⟩ : ByteArray).size ≤ 100 by decide) _) (by omega)
  have HX0 := Lib.hid (show Only (fun k => k = sb ∨ k = kb) w (((w.setCell ⟨sb, 0, none⟩ (.string (t ++ ⟨#[32, 99, 97, 115]⟩))).alloc (.cells #[.pointer (some ⟨sb, 0, none⟩), .pointer (some ⟨kb, 0, none⟩)] 112)).alloc (.cells #[.int .i64 3, .string key, .string value, .string old, .int .i64 version] 103)) from (((Only.refl _ w).set (.inl (.inl rfl)) _).alloc _).alloc _)
  have HS0 := Lib.hid (show LSt (((w.setCell ⟨sb, 0, none⟩ (.string (t ++ ⟨#[32, 99, 97, 115]⟩))).alloc (.cells #[.pointer (some ⟨sb, 0, none⟩), .pointer (some ⟨kb, 0, none⟩)] 112)).alloc (.cells #[.int .i64 3, .string key, .string value, .string old, .int .i64 version] 103)) sb kb (row ++ [some [99, 97, 115]]) from
    line_next (t2 := ⟨#[99, 97, 115]⟩) (ok2 := true) (ok := ok) p1 p2 p3 hne (.inl ⟨[99, 97, 115], rfl, by apply str_ext; kernel_rfl, rfl⟩) (by decide) (by
      have e : ((⟨#[32]⟩ : ByteArray) ++ ⟨#[99, 97, 115]⟩) = ⟨#[32, 99, 97, 115]⟩ := by apply str_ext; kernel_rfl
      rw [e]
      exact ((hs.put 0 _).alloc _).alloc _) (by rw [Bool.and_true]; exact ((hkb.far (p := ⟨sb, 0, none⟩) (Ne.symm hsk) _).alloc _).alloc _))
  have HN0 := Lib.hid (show Blk (((w.setCell ⟨sb, 0, none⟩ (.string (t ++ ⟨#[32, 99, 97, 115]⟩))).alloc (.cells #[.pointer (some ⟨sb, 0, none⟩), .pointer (some ⟨kb, 0, none⟩)] 112)).alloc (.cells #[.int .i64 3, .string key, .string value, .string old, .int .i64 version] 103)) w.heap.size 112 #[.pointer (some ⟨sb, 0, none⟩), .pointer (some ⟨kb, 0, none⟩)] from by
    have := (Blk.new (w.setCell ⟨sb, 0, none⟩ (.string (t ++ ⟨#[32, 99, 97, 115]⟩))) 112 #[.pointer (some ⟨sb, 0, none⟩), .pointer (some ⟨kb, 0, none⟩)]).alloc (.cells #[.int .i64 3, .string key, .string value, .string old, .int .i64 version] 103)
    rw [hw0] at this
    exact this)
  have HOB0 := Lib.hid (show Blk (((w.setCell ⟨sb, 0, none⟩ (.string (t ++ ⟨#[32, 99, 97, 115]⟩))).alloc (.cells #[.pointer (some ⟨sb, 0, none⟩), .pointer (some ⟨kb, 0, none⟩)] 112)).alloc (.cells #[.int .i64 3, .string key, .string value, .string old, .int .i64 version] 103)) (w.heap.size + 1) 103 #[.int .i64 3, .string key, .string value, .string old, .int .i64 version] from by
    have := Blk.new ((w.setCell ⟨sb, 0, none⟩ (.string (t ++ ⟨#[32, 99, 97, 115]⟩))).alloc (.cells #[.pointer (some ⟨sb, 0, none⟩), .pointer (some ⟨kb, 0, none⟩)] 112)) 103 #[.int .i64 3, .string key, .string value, .string old, .int .i64 version]
    rw [World.size_alloc, hw0] at this
    exact this)
  clear p1 p2 p3 hs hkb hw0
  go_enter Tryd.func51, Tryd.ntmps51
  go_wp2_with fail
  refine (line_str sb kb _ key _ HS0.out (by simp) (by simp; omega) hsk hk1).mono ?_
  rintro e wa1 ⟨rfl, ho1, hs1⟩
  have HX1 := Lib.hid (HX0.out.trans ho1)
  have HS1 := Lib.hid hs1
  have HN1 := Lib.hid (HN0.out.only ho1 (by omega))
  have HOB1 := Lib.hid (HOB0.out.only ho1 (by omega))
  clear ho1 hs1
  have na1 := HN1.out.cell 0
  have nb1 := HN1.out.cell 1
  have nc1 := HOB1.out.cell 3
  go_wp2_with fail
  refine (line_str sb kb _ old _ HS1.out (by simp) (by simp; omega) hsk hk3).mono ?_
  rintro e wa2 ⟨rfl, ho2, hs2⟩
  have HX2 := Lib.hid (HX1.out.trans ho2)
  have HS2 := Lib.hid hs2
  have HN2 := Lib.hid (HN1.out.only ho2 (by omega))
  have HOB2 := Lib.hid (HOB1.out.only ho2 (by omega))
  clear ho2 hs2 na1 nb1 nc1
  have na2 := HN2.out.cell 0
  have nb2 := HN2.out.cell 1
  have nc2 := HOB2.out.cell 2
  go_wp2_with fail
  refine (line_str sb kb _ value _ HS2.out (by simp) (by simp; omega) hsk hk2).mono ?_
  rintro e wa3 ⟨rfl, ho3, hs3⟩
  have HX3 := Lib.hid (HX2.out.trans ho3)
  have HS3 := Lib.hid hs3
  have HN3 := Lib.hid (HN2.out.only ho3 (by omega))
  have HOB3 := Lib.hid (HOB2.out.only ho3 (by omega))
  clear ho3 hs3 na2 nb2 nc2
  go_wp2_with fail
  go_end0
  refine ⟨rfl, HX3.out, ?_⟩
  have hz := HS3.out
  simp only [List.append_assoc, List.cons_append, List.nil_append] at hz
  exact hz

set_option maxHeartbeats 4000000 in
theorem lineop_4 (sb kb : Nat) (row : List (Option (List Nat))) (key value old : ByteArray) (version : Int) (w : World) (h : LSt w sb kb row) (hne : row ≠ []) (hl : row.length + 5 ≤ 100000) (hsk : sb ≠ kb) (hk : BOp.okR ⟨4, key, value, old, version⟩) :
    Calls Tryd.prog 51 #[.agg #[.pointer (some ⟨sb, 0, none⟩), .pointer (some ⟨kb, 0, none⟩)], .agg #[.int .i64 4, .string key, .string value, .string old, .int .i64 version]] w (LinePost sb kb row (opRow ⟨4, key, value, old, version⟩) w) := by
  obtain ⟨hk1, hk2, hk3, hk4, hk5⟩ := hk
  simp only at hk1 hk2 hk3 hk4 hk5
  obtain ⟨t, ok, hs, hkb, p1, p2, p3⟩ := h
  have hsN : sb < w.heap.size := hs.lt
  have hkN : kb < w.heap.size := hkb.lt
  have hw0 : (w.setCell ⟨sb, 0, none⟩ (.string (t ++ ⟨#[32, 101, 120, 112, 101, 99, 116]⟩))).heap.size = w.heap.size := by simp [World.setCell]
  have c0 : w.cell? ⟨sb, 0, none⟩ = some (.string t) := hs.cell 0
  have c0f := hs.frozen 0
  have hne0 : sb ≠ w.heap.size := by omega
  have hne1 : sb ≠ w.heap.size + 1 := by omega
  have hz2 : t.size + (⟨#[32, 101, 120, 112, 101, 99, 116]⟩ : ByteArray).size ≤ 9223372036854775807 := Nat.le_trans (Nat.add_le_add_left (show (⟨#[32, 101, 120, 112, 101, 99, 116]⟩ : ByteArray).size ≤ 100 by decide) _) (by omega)
  have HX0 := Lib.hid (show Only (fun k => k = sb ∨ k = kb) w (((w.setCell ⟨sb, 0, none⟩ (.string (t ++ ⟨#[32, 101, 120, 112, 101, 99, 116]⟩))).alloc (.cells #[.pointer (some ⟨sb, 0, none⟩), .pointer (some ⟨kb, 0, none⟩)] 112)).alloc (.cells #[.int .i64 4, .string key, .string value, .string old, .int .i64 version] 103)) from (((Only.refl _ w).set (.inl (.inl rfl)) _).alloc _).alloc _)
  have HS0 := Lib.hid (show LSt (((w.setCell ⟨sb, 0, none⟩ (.string (t ++ ⟨#[32, 101, 120, 112, 101, 99, 116]⟩))).alloc (.cells #[.pointer (some ⟨sb, 0, none⟩), .pointer (some ⟨kb, 0, none⟩)] 112)).alloc (.cells #[.int .i64 4, .string key, .string value, .string old, .int .i64 version] 103)) sb kb (row ++ [some [101, 120, 112, 101, 99, 116]]) from
    line_next (t2 := ⟨#[101, 120, 112, 101, 99, 116]⟩) (ok2 := true) (ok := ok) p1 p2 p3 hne (.inl ⟨[101, 120, 112, 101, 99, 116], rfl, by apply str_ext; kernel_rfl, rfl⟩) (by decide) (by
      have e : ((⟨#[32]⟩ : ByteArray) ++ ⟨#[101, 120, 112, 101, 99, 116]⟩) = ⟨#[32, 101, 120, 112, 101, 99, 116]⟩ := by apply str_ext; kernel_rfl
      rw [e]
      exact ((hs.put 0 _).alloc _).alloc _) (by rw [Bool.and_true]; exact ((hkb.far (p := ⟨sb, 0, none⟩) (Ne.symm hsk) _).alloc _).alloc _))
  have HN0 := Lib.hid (show Blk (((w.setCell ⟨sb, 0, none⟩ (.string (t ++ ⟨#[32, 101, 120, 112, 101, 99, 116]⟩))).alloc (.cells #[.pointer (some ⟨sb, 0, none⟩), .pointer (some ⟨kb, 0, none⟩)] 112)).alloc (.cells #[.int .i64 4, .string key, .string value, .string old, .int .i64 version] 103)) w.heap.size 112 #[.pointer (some ⟨sb, 0, none⟩), .pointer (some ⟨kb, 0, none⟩)] from by
    have := (Blk.new (w.setCell ⟨sb, 0, none⟩ (.string (t ++ ⟨#[32, 101, 120, 112, 101, 99, 116]⟩))) 112 #[.pointer (some ⟨sb, 0, none⟩), .pointer (some ⟨kb, 0, none⟩)]).alloc (.cells #[.int .i64 4, .string key, .string value, .string old, .int .i64 version] 103)
    rw [hw0] at this
    exact this)
  have HOB0 := Lib.hid (show Blk (((w.setCell ⟨sb, 0, none⟩ (.string (t ++ ⟨#[32, 101, 120, 112, 101, 99, 116]⟩))).alloc (.cells #[.pointer (some ⟨sb, 0, none⟩), .pointer (some ⟨kb, 0, none⟩)] 112)).alloc (.cells #[.int .i64 4, .string key, .string value, .string old, .int .i64 version] 103)) (w.heap.size + 1) 103 #[.int .i64 4, .string key, .string value, .string old, .int .i64 version] from by
    have := Blk.new ((w.setCell ⟨sb, 0, none⟩ (.string (t ++ ⟨#[32, 101, 120, 112, 101, 99, 116]⟩))).alloc (.cells #[.pointer (some ⟨sb, 0, none⟩), .pointer (some ⟨kb, 0, none⟩)] 112)) 103 #[.int .i64 4, .string key, .string value, .string old, .int .i64 version]
    rw [World.size_alloc, hw0] at this
    exact this)
  clear p1 p2 p3 hs hkb hw0
  go_enter Tryd.func51, Tryd.ntmps51
  go_wp2_with fail
  refine (line_str sb kb _ key _ HS0.out (by simp) (by simp; omega) hsk hk1).mono ?_
  rintro e wa1 ⟨rfl, ho1, hs1⟩
  have HX1 := Lib.hid (HX0.out.trans ho1)
  have HS1 := Lib.hid hs1
  have HN1 := Lib.hid (HN0.out.only ho1 (by omega))
  have HOB1 := Lib.hid (HOB0.out.only ho1 (by omega))
  clear ho1 hs1
  have na1 := HN1.out.cell 0
  have nb1 := HN1.out.cell 1
  have nc1 := HOB1.out.cell 4
  go_wp2_with fail
  refine (line_num sb kb _ version _ HS1.out (by simp) (by simp; omega) hsk hk4 hk5).mono ?_
  rintro e wa2 ⟨rfl, ho2, hs2⟩
  have HX2 := Lib.hid (HX1.out.trans ho2)
  have HS2 := Lib.hid hs2
  have HN2 := Lib.hid (HN1.out.only ho2 (by omega))
  have HOB2 := Lib.hid (HOB1.out.only ho2 (by omega))
  clear ho2 hs2 na1 nb1 nc1
  go_wp2_with fail
  go_end0
  refine ⟨rfl, HX2.out, ?_⟩
  have hz := HS2.out
  simp only [List.append_assoc, List.cons_append, List.nil_append] at hz
  exact hz

set_option maxHeartbeats 2000000 in
theorem lineop_else (sb kb : Nat) (row : List (Option (List Nat))) (o : BOp) (w : World) (h : LSt w sb kb row) (hsk : sb ≠ kb) (hk : o.kind < 1 ∨ 4 < o.kind) :
    Calls Tryd.prog 51 #[.agg #[.pointer (some ⟨sb, 0, none⟩), .pointer (some ⟨kb, 0, none⟩)], .agg (bCells o).toArray] w (LinePost sb kb row (opRow o) w) := by
  have HR := Lib.hid (show opRow o = [none] by unfold opRow; rw [if_neg (by omega), if_neg (by omega), if_neg (by omega), if_neg (by omega)])
  obtain ⟨k, key, value, old, version⟩ := o
  unfold bCells
  simp only at hk ⊢
  obtain ⟨t, ok, hs, hkb, p1, p2, p3⟩ := h
  have hsN : sb < w.heap.size := hs.lt
  have hkN : kb < w.heap.size := hkb.lt
  have k1 := hkb.cell 0
  have k1f := hkb.frozen 0
  have hne0 : kb ≠ w.heap.size := by omega
  have hne1 : kb ≠ w.heap.size + 1 := by omega
  have hb1 : (k == 1) = false := by simp; omega
  have hb2 : (k == 2) = false := by simp; omega
  have hb3 : (k == 3) = false := by simp; omega
  have hb4 : (k == 4) = false := by simp; omega
  have HS := Lib.hid hs
  have HK := Lib.hid hkb
  have HT := Lib.hid p3
  clear hs hkb p1 p2 p3 hk
  go_enter Tryd.func51, Tryd.ntmps51
  go_wp2_with fail
  go_end0
  refine ⟨rfl, (((Only.refl _ w).set (.inl (.inr rfl)) _).alloc _).alloc _, t, false, ((HS.out.far hsk _).alloc _).alloc _, ((HK.out.put 0 _).alloc _).alloc _, ?_, fun _ => rfl, ?_⟩
  · intro ws hw
    rw [HR.out, tellAll_snoc] at hw
    cases hr : tellAll row <;> rw [hr] at hw <;> cases hw
  · rw [HR.out, List.length_append, List.length_singleton]
    have := HT.out
    omega

theorem lineop_any (sb kb : Nat) (row : List (Option (List Nat))) (o : BOp) (w : World) (h : LSt w sb kb row) (hne : row ≠ []) (hl : row.length + 5 ≤ 100000) (hsk : sb ≠ kb) (hk : o.okR) :
    Calls Tryd.prog 51 #[.agg #[.pointer (some ⟨sb, 0, none⟩), .pointer (some ⟨kb, 0, none⟩)], .agg (bCells o).toArray] w (LinePost sb kb row (opRow o) w) := by
  by_cases h1 : o.kind = 1
  · obtain ⟨k, key, value, old, version⟩ := o
    simp only at h1
    subst h1
    exact lineop_1 sb kb row key value old version w h hne hl hsk hk
  · by_cases h2 : o.kind = 2
    · obtain ⟨k, key, value, old, version⟩ := o
      simp only at h2
      subst h2
      exact lineop_2 sb kb row key value old version w h hne hl hsk hk
    · by_cases h3 : o.kind = 3
      · obtain ⟨k, key, value, old, version⟩ := o
        simp only at h3
        subst h3
        exact lineop_3 sb kb row key value old version w h hne hl hsk hk
      · by_cases h4 : o.kind = 4
        · obtain ⟨k, key, value, old, version⟩ := o
          simp only at h4
          subst h4
          exact lineop_4 sb kb row key value old version w h hne hl hsk hk
        · exact lineop_else sb kb row o w h hsk (by omega)
end Go.Proofs.YtjhmehmmpfnnkaaDoor

namespace Go.Proofs.YtjhmehmmpfnnkaaDoor
open Go.RowKit Utf
set_option maxRecDepth 100000
set_option linter.unusedSimpArgs false
set_option linter.unusedVariables false

/-- Where an op's verb stands in the program's table. -/
def kindIdx (k e : Int) : Nat := verbs.findIdx (verbIs k e)
theorem find_idx {α : Type} (p : α → Bool) : ∀ l : List α, l.find? p = l[l.findIdx p]?
  | [] => rfl
  | x :: l => by
    rw [List.find?_cons, List.findIdx_cons]
    cases hx : p x with
    | true => simp
    | false => simp only [cond_false, List.getElem?_cons_succ]; exact find_idx p l
theorem verbT_idx (k e : Int) : verbT k e = verbs[kindIdx k e]? := find_idx _ _
theorem kindIdx_step {k e : Int} {i : Nat} (hi : i < verbs.length) (h : i ≤ kindIdx k e) (hne : verbIs k e verbs[i] = false) : i + 1 ≤ kindIdx k e := by
  rcases Nat.lt_or_ge i (kindIdx k e) with h1 | h1
  · exact h1
  · exfalso
    have e1 : verbs.findIdx (verbIs k e) = i := Nat.le_antisymm h1 h
    have := List.findIdx_getElem (p := verbIs k e) (xs := verbs) (w := by rw [e1]; exact hi)
    have h2 : verbs[verbs.findIdx (verbIs k e)]'(by rw [e1]; exact hi) = verbs[i] := getElem_congr_idx e1
    rw [h2, hne] at this
    cases this
theorem kindIdx_hit {k e : Int} {i : Nat} (hi : i < verbs.length) (h : i ≤ kindIdx k e) (he : verbIs k e verbs[i] = true) : kindIdx k e = i := by
  refine Nat.le_antisymm (Nat.le_of_not_lt fun h1 => ?_) h
  have := List.not_of_lt_findIdx (p := verbIs k e) (xs := verbs) (i := i) h1
  rw [he] at this
  cases this

set_option maxHeartbeats 1000000 in
theorem text1_any (v : Verb) (nm f : ByteArray) (r : Int) (ob : Nat) (kd ed : Int) (w : World) (h0 : w.cell? ⟨ob, 0, none⟩ = some (.int .i64 kd)) (h5 : w.cell? ⟨ob, 5, none⟩ = some (.int .i64 ed)) :
    Calls Tryd.prog 47 #[.agg #[.string nm, .int .i64 (v.kind : Int), .int .i64 (v.ekind : Int), .string f, .int .i32 r], .pointer (some ⟨ob, 0, none⟩)] w fun en w' => en = .returned (.bool (verbIs kd ed v)) ∧ Below w.heap.size w w' := by
  have l0 := World.block_lt_of_cell? w _ h0
  have hne : ob ≠ w.heap.size := by simp only at l0; omega
  have g0 := (World.cell?_alloc_lt w (.cells #[.string nm, .int .i64 (v.kind : Int), .int .i64 (v.ekind : Int), .string f, .int .i32 r] 79) ⟨ob, 0, none⟩ l0).trans h0
  have g5 := (World.cell?_alloc_lt w (.cells #[.string nm, .int .i64 (v.kind : Int), .int .i64 (v.ekind : Int), .string f, .int .i32 r] 79) ⟨ob, 5, none⟩ l0).trans h5
  clear h0 h5 l0
  unfold verbIs
  by_cases c1 : (v.kind : Int) = kd
  · have d1 : ((v.kind : Int) == kd) = true := by simp [c1]
    have e1 : decide ((v.kind : Int) = kd) = true := decide_eq_true c1
    rw [e1]
    by_cases c2 : (v.kind : Int) = 3
    · have d2 : ((v.kind : Int) != 3) = false := by simp [c2]
      have e2 : decide ((v.kind : Int) ≠ 3) = false := by simp [c2]
      rw [e2]
      have HEQ := Lib.hid (show (((v.ekind : Int) == ed)) = decide ((v.ekind : Int) = ed) by rw [Bool.eq_iff_iff]; simp)
      generalize (v.kind : Int) = kk at *
      clear c1 e1 c2 e2
      go_enter Tryd.func47, Tryd.ntmps47
      go_wp2_with fail
      go_ret
      refine ⟨?_, (Below.refl _ _).alloc (Nat.le_refl _) _⟩
      rw [← HEQ.out]
      simp
    · have d2 : ((v.kind : Int) != 3) = true := by simp [c2]
      have e2 : decide ((v.kind : Int) ≠ 3) = true := by simp [c2]
      rw [e2]
      generalize (v.kind : Int) = kk at *
      clear c1 e1 c2 e2
      go_enter Tryd.func47, Tryd.ntmps47
      go_wp2_with fail
      go_ret
      exact ⟨rfl, (Below.refl _ _).alloc (Nat.le_refl _) _⟩
  · have d1 : ((v.kind : Int) == kd) = false := by simp [c1]
    have e1 : decide ((v.kind : Int) = kd) = false := decide_eq_false c1
    rw [e1]
    generalize (v.kind : Int) = kk at *
    clear c1 e1
    go_enter Tryd.func47, Tryd.ntmps47
    go_wp2_with fail
    go_ret
    exact ⟨rfl, (Below.refl _ _).alloc (Nat.le_refl _) _⟩

set_option maxHeartbeats 1000000 in
theorem index_text (b ob : Nat) (kd ed : Int) (w : World) (h0 : w.cell? ⟨ob, 0, none⟩ = some (.int .i64 kd)) (h5 : w.cell? ⟨ob, 5, none⟩ = some (.int .i64 ed)) (hb : Blk w b 79 shapeCells) :
    Calls Tryd.prog 35 #[.slice (some ⟨b, 0, none⟩) 17 17, .func (.func 47) #[] #[.pointer (some ⟨ob, 0, none⟩)]] w fun e w' => e = .returned (.int .i64 (idxInt (kindIdx kd ed))) ∧ Below w.heap.size w w' := by
  have HB := Lib.hid hb
  have H0 := Lib.hid h0
  have H5 := Lib.hid h5
  have hlen : verbs.length = 17 := rfl
  have HLEN := Lib.hid hlen
  clear h0 h5 hb hlen
  go_enter Tryd.func35, Tryd.ntmps35
  go_wp2_with fail
  go_loopw [8] (fun i wr => ∃ k : Nat, k ≤ 17 ∧ i = .int .i64 k ∧ Below w.heap.size w wr ∧ Hid (k ≤ kindIdx kd ed)) (fun i _ => 17 - (intOf i).toNat)
  case atStart => exact ⟨0, by omega, rfl, Below.refl _ _, Nat.zero_le _⟩
  case round =>
    obtain ⟨k, hk, rfl, hbel, HK⟩ := hrel
    have HBE := Lib.hid hbel
    clear hbel
    by_cases hlt : k < 17
    · have hk2 : k < verbs.length := by rw [HLEN.out]; exact hlt
      have HBR := Lib.hid (HB.out.below HBE.out HB.out.lt)
      have hcell : ∀ j, j < 5 → wr.cell? ⟨b, k * 5 + j, none⟩ = (shapeOf verbs[k])[j]? := by
        intro j hj5
        rw [HBR.out.cell, Nat.mul_comm k 5, shape_at k hk2 j hj5]
      have s0 : wr.cell? ⟨b, k * 5, none⟩ = some (.string (mkS verbs[k].name)) := hcell 0 (by omega)
      have s1 : wr.cell? ⟨b, k * 5 + 1, none⟩ = some (.int .i64 (verbs[k].kind : Int)) := hcell 1 (by omega)
      have s2 : wr.cell? ⟨b, k * 5 + 2, none⟩ = some (.int .i64 (verbs[k].ekind : Int)) := hcell 2 (by omega)
      have s3 : wr.cell? ⟨b, k * 5 + 3, none⟩ = some (.string (mkS (encAll (verbs[k].flds.map letP)))) := hcell 3 (by omega)
      have s4 : wr.cell? ⟨b, k * 5 + 4, none⟩ = some (.int .i32 (verbs[k].rest : Int)) := hcell 4 (by omega)
      clear hcell
      have HST := Lib.hid (fun h => kindIdx_step hk2 HK.out h)
      have HHI := Lib.hid (fun h => kindIdx_hit hk2 HK.out h)
      have HP := Lib.hid (text1_any verbs[k] (mkS verbs[k].name) (mkS (encAll (verbs[k].flds.map letP))) verbs[k].rest ob kd ed wr ((HBE.out.cell (World.block_lt_of_cell? w _ H0.out)).trans H0.out) ((HBE.out.cell (World.block_lt_of_cell? w _ H5.out)).trans H5.out))
      generalize verbs[k] = v at *
      cases hq : verbIs kd ed v with
      | true =>
        have HQ := Lib.hid (HHI.out hq)
        rw [hq] at HP
        clear hq
        have HI := Lib.hid (show idxInt (kindIdx kd ed) = (k : Int) by unfold idxInt; rw [HQ.out, if_pos hlt])
        go_wp2_with fail
        refine HP.out.mono ?_
        rintro e w2 ⟨rfl, hb2⟩
        go_wp2_with fail
        go_ret
        rw [HI.out]
        exact ⟨rfl, HBE.out.trans (hb2.mono HBE.out.size)⟩
      | false =>
        have HQ := Lib.hid (HST.out hq)
        rw [hq] at HP
        clear hq
        go_wp2_with fail
        refine HP.out.mono ?_
        rintro e w2 ⟨rfl, hb2⟩
        go_wp2_with fail
        go_roundw
        case rel => exact ⟨k + 1, by omega, by go_num, HBE.out.trans (hb2.mono HBE.out.size), HQ.out⟩
        case measure => simp [intOf]; omega
    · obtain rfl : k = 17 := by omega
      have HI := Lib.hid (show idxInt (kindIdx kd ed) = -1 by unfold idxInt; rw [if_neg (Nat.not_lt.2 HK.out)])
      go_wp2_with fail
      go_ret
      rw [HI.out]
      exact ⟨rfl, HBE.out⟩
end Go.Proofs.YtjhmehmmpfnnkaaDoor
