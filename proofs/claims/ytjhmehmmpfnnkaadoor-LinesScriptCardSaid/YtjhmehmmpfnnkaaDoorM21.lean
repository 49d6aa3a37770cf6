/-
  The contract of (*lines.teller).tell.
-/
import Derived.Test.YtjhmehmmpfnnkaaDoorM20
import Derived.Test.YtjhmehmmpfnnkaaDoorM16
namespace Go.Proofs.YtjhmehmmpfnnkaaDoor
open Go.RowKit Utf
set_option maxRecDepth 100000
set_option linter.unusedSimpArgs false
set_option linter.unusedVariables false

theorem own_slice3 {w : World} {B : Nat} {e : TypeId} {size : Nat} {v : Value} {n : Nat} {xs : List Value} (h : w.ownsRow B e size v n xs) : ∃ a n c, v = .slice a n c := by
  rcases h.2 with ⟨rfl, _⟩ | ⟨g, cap, cur, rfl, _⟩
  · exact ⟨_, _, _, rfl⟩
  · exact ⟨_, _, _, rfl⟩
/-- A teller: block b; its words (a row of the call's own); its error's number. -/
def TAt (w : World) (ea : Nat → Addr) (b B : Nat) (v : Value) (xs : List ByteArray) (n : Nat) : Prop :=
  Blk w b 107 #[v, errOf ea n] ∧ w.ownsRow B 9 1 v xs.length (strRow xs)
/-- What it has told of a row of words. -/
def TSt (row : List (Option (List Nat))) (xs : List ByteArray) (n : Nat) : Prop :=
  xs.length ≤ row.length ∧ (∀ ws, tellAll row = some ws → n = 0 ∧ xs = fieldTexts ws) ∧ (tellAll row = none → n = 4)
/-- What a teller may turn: its own block, rows of words of the call's own. -/
def StrB (b B : Nat) (w : World) (k : Nat) : Prop := k = b ∨ (B ≤ k ∧ ∃ cs fr, w.heap[k]? = some (.cells cs 9 fr))
theorem StrB.trans {b B : Nat} {w w1 w2 : World} (h : Only (StrB b B w) w w1) (h2 : Only (StrB b B w1) w1 w2) : Only (StrB b B w) w w2 :=
  h.step h2 (fun i hi => by
    rcases Nat.lt_or_ge i w.heap.size with hlt | hge
    · left
      rcases hi with rfl | ⟨hB, cs, fr, hc⟩
      · exact .inl rfl
      · rcases Classical.em (StrB b B w i) with h3 | h3
        · exact h3
        · exact .inr ⟨hB, cs, fr, by rw [← h.block i hlt h3]; exact hc⟩
    · exact .inr hge)
theorem Blk.strB {b B g : Nat} {w w' : World} {T : TypeId} {cs : Array Value} (h : Blk w g T cs) (ho : Only (StrB b B w) w w') (hT : 9 ≠ T) (hb : g ≠ b) : Blk w' g T cs :=
  h.only ho (fun hs => by
    rcases hs with rfl | ⟨_, cs', fr, hc⟩
    · exact hb rfl
    · unfold Blk at h
      rw [h] at hc
      simp only [Option.some.injEq, Obj.cells.injEq] at hc
      exact hT hc.2.1.symm)
theorem StrB.ge {b B : Nat} {w : World} {k : Nat} (h : StrB b B w k) (hb : B ≤ b) : B ≤ k := by
  rcases h with rfl | h
  · exact hb
  · exact h.1
theorem own_strB {w : World} {b B : Nat} {size : Nat} {v : Value} {n : Nat} {xs : List Value} (h : w.ownsRow B 9 size v n xs) : ∀ k, v.ownBlock = some k → StrB b B w k := by
  intro k hk
  rcases h.2 with ⟨rfl, _⟩ | ⟨g, cap, cur, rfl, hB, hg, _⟩
  · cases hk
  · cases hk
    exact .inr ⟨hB, _, _, hg⟩
def TellPost (b B : Nat) (ea : Nat → Addr) (row more : List (Option (List Nat))) (w : World) (e : Ending) (w' : World) : Prop :=
  e = .returned (.tuple #[]) ∧ Only (StrB b B w) w w' ∧ ∃ v' xs' n', TAt w' ea b B v' xs' n' ∧ TSt (row ++ more) xs' n'
theorem TSt.good {row : List (Option (List Nat))} {xs : List ByteArray} {n : Nat} (h : TSt row xs n) {x : List Nat} {o : Option (List Nat)} {t : ByteArray} (ho : o = some x) (ht : t = mkS (encAll x)) : TSt (row ++ [o]) (xs ++ [t]) n := by
  subst ho ht
  refine ⟨by have := h.1; simp; omega, ?_, ?_⟩
  · intro ws hw
    rw [tellAll_snoc] at hw
    obtain ⟨l, hl, h2⟩ := Option.bind_eq_some_iff.1 hw
    obtain rfl := Option.some.inj h2
    obtain ⟨h3, h4⟩ := h.2.1 l hl
    exact ⟨h3, by rw [h4]; simp [fieldTexts]⟩
  · intro hw
    rw [tellAll_snoc] at hw
    cases hl : tellAll row with
    | none => exact h.2.2 hl
    | some l => rw [hl] at hw; cases hw
theorem TSt.bad {row : List (Option (List Nat))} {xs : List ByteArray} {n : Nat} (h : TSt row xs n) {o : Option (List Nat)} (t : List ByteArray) (ho : o = none) (hl : t.length ≤ 1) : TSt (row ++ [o]) (xs ++ t) 4 := by
  subst ho
  have hn : tellAll (row ++ [none]) = none := by
    rw [tellAll_snoc]
    cases tellAll row <;> rfl
  refine ⟨by have := h.1; simp; omega, ?_, fun _ => rfl⟩
  intro ws hw
  rw [hn] at hw
  cases hw
theorem tellS_quoteR (s : ByteArray) : ((∃ q, tellS s = some q ∧ (quoteR s).1 = mkS (encAll q) ∧ (quoteR s).2 = 0) ∨ (tellS s = none ∧ (quoteR s).2 ≠ 0)) := by
  unfold tellS quoteR
  cases hd : dec s.data.toList with
  | none => exact .inr ⟨rfl, by simp⟩
  | some rs =>
    simp only [Option.bind_some]
    cases hq : quoteL rs with
    | none => exact .inr ⟨rfl, by simp⟩
    | some q => exact .inl ⟨q, rfl, rfl, rfl⟩
theorem TAt.only {S : Nat → Prop} {w w' : World} {ea : Nat → Addr} {b B : Nat} {v : Value} {xs : List ByteArray} {n : Nat} (h : TAt w ea b B v xs n) (ho : Only S w w') (h1 : ¬ S b) (h2 : ∀ g, v.ownBlock = some g → ¬ S g) : TAt w' ea b B v xs n :=
  ⟨h.1.only ho h1, own_only h.2 ho h2⟩
theorem errOf_ne {ea : Nat → Addr} {n : Nat} (h : n ≠ 0) : ∃ k, errOf ea n = .iface 163 (.pointer (some (ea k))) := by
  obtain ⟨k, rfl⟩ : ∃ k, n = k + 1 := ⟨n - 1, by omega⟩
  exact ⟨k, errOf_succ ea k⟩

set_option maxHeartbeats 4000000 in
theorem tell_num (b B c off : Nat) (ea : Nat → Addr) (v : Value) (xs : List ByteArray) (n : Nat) (row : List (Option (List Nat))) (z : Int) (w : World) (h : TAt w ea b B v xs n) (hs : TSt row xs n) (hl : row.length ≤ 1000000) (hbt : gTop ≤ b) (hBt : gTop ≤ B)
    (hc : w.cell? ⟨c, off, none⟩ = some (.int .i64 z)) (h1 : -9223372036854775808 ≤ z) (h2 : z ≤ 9223372036854775807) (he : LErr w ea) (hBw : B ≤ w.heap.size) :
    Calls Tryd.prog 48 #[.pointer (some ⟨b, 0, none⟩), .iface 95 (.pointer (some ⟨c, off, none⟩))] w (TellPost b B ea row [decL z] w) := by
  obtain ⟨i0, hi, hz0, hz1, hz2⟩ := info_parts Tryd.infoString
  have HD := Lib.hid (decimal_any ea z w h1 h2 he)
  have HT := Lib.hid h
  have HS := Lib.hid hs
  have HE := Lib.hid he
  clear h hs he h1 h2
  have ta := Tryd.taIntInt
  go_enter Tryd.func48, Tryd.ntmps48
  go_wp2_with fail
  refine HD.out.mono ?_
  rintro e w1 ⟨hb1, t, m, rfl, ht, hres⟩
  have HO1 := Lib.hid (show Only (StrB b B w) w w1 from Only.below_all hb1)
  have HT1 := Lib.hid (HT.out.only (S := fun _ => False) (Only.below_all hb1) (fun h => h) (fun _ _ h => h))
  have HE1 := Lib.hid (HE.out.below hb1)
  have HSZ := Lib.hid hb1.size
  have hlen : xs.length ≤ 1000000 := Nat.le_trans HS.out.1 hl
  obtain ⟨ao, no, co, rfl⟩ := own_slice3 HT1.out.2
  clear hb1
  rcases hres with ⟨d, hd, hte, rfl⟩ | ⟨hd, rfl⟩
  · have HST := Lib.hid (HS.out.good hd hte)
    have HTN := Lib.hid HT1.out
    have HSN := Lib.hid (Nat.le_trans hBw HSZ.out)
    have k0 : w1.cell? ⟨b, 0, none⟩ = some (.slice ao no co) := HT1.out.1.cell 0
    rw [errOf_zero]
    clear hd hte
    obtain ⟨wN, hwN⟩ : ∃ wN, wN = w1 := ⟨_, rfl⟩
    subst hwN
    go_wp2_with (at_builtin; refine app1 rfl _ _ 22 rfl 9 i0 (.string ByteArray.empty) 16 Tryd.underlying22 hi hz0 hz1 hz2 rfl B (.slice ao no co) _ _ rfl HTN.out.2 0 (Nat.zero_le _) (Below.refl 0 _) (by have := HSN.out; omega) (.string t) rfl rfl (by omega) (by omega) ?_)
    refine Lib.hid ?_
    intro v4 w4 hown4 hbel4 hgrow4
    have hrow : ∀ k, (Value.slice ao no co).ownBlock = some k → B ≤ k ∧ k < wN.heap.size := fun k hk => HTN.out.2.lt k hk
    have ho4 : Only (StrB b B wN) wN w4 := ((Only.refl (StrB b B wN) wN).alloc _).grown hgrow4 (fun k hk => .inl (own_strB HTN.out.2 k hk))
    have ho4' : Only (fun k => some k = (Value.slice ao no co).ownBlock) wN w4 := ((Only.refl (fun k => some k = (Value.slice ao no co).ownBlock) wN).alloc _).grown hgrow4 (fun k hk => .inl hk.symm)
    have hTne := own_ne_blk HTN.out.2 HTN.out.1 (by decide)
    have hB4 : Blk w4 b 107 _ := HTN.out.1.only ho4' (fun h => hTne h.symm)
    have hcv := own_ne_blk hown4 hB4 (by decide)
    have k4 := hB4.cell 0
    have k4f := hB4.frozen 0
    have HB5 := Lib.hid (hB4.put 0 v4)
    have hset : Only (fun k => k = b) w4 (w4.setCell ⟨b, 0, none⟩ v4) := (Only.refl (fun k => k = b) w4).set (.inl rfl) _
    have HO5 := Lib.hid (StrB.trans HO1.out (StrB.trans ho4 (hset.mono (fun k hk => .inl hk))))
    have HW5 := Lib.hid (own_only hown4 hset (fun g hg hh => by subst hh; exact hcv hg))
    obtain ⟨av, nv, cv, rfl⟩ := own_slice3 hown4
    clear hown4 hbel4 hgrow4 hrow ho4 ho4' hTne hB4 hcv hset
    go_wp2_with fail
    go_end0
    refine ⟨rfl, HO5.out, _, xs ++ [t], n, ⟨HB5.out, ?_⟩, HST.out⟩
    have := HW5.out
    rw [List.length_append, ← strRow_snoc]
    exact this
  · have HST := Lib.hid (HS.out.bad [t] hd (by simp))
    have ke := HE1.out.form
    have k1f := HT1.out.1.frozen 1
    have k1 := HT1.out.1.cell 1
    have k0 : w1.cell? ⟨b, 0, none⟩ = some (.slice ao no co) := HT1.out.1.cell 0
    have hset1 : Only (fun k => k = b) w1 (w1.setCell ⟨b, 1, none⟩ (.iface 163 (.pointer (some (ea 3))))) := (Only.refl (fun k => k = b) w1).set (.inl rfl) _
    have HTN0 := Lib.hid (show TAt (w1.setCell ⟨b, 1, none⟩ (.iface 163 (.pointer (some (ea 3))))) ea b B (.slice ao no co) xs 4 from ⟨HT1.out.1.put 1 _, own_only HT1.out.2 hset1 (fun g hg hh => by subst hh; exact own_ne_blk HT1.out.2 HT1.out.1 (by decide) hg)⟩)
    have HO10 := Lib.hid (show Only (StrB b B w) w (w1.setCell ⟨b, 1, none⟩ (.iface 163 (.pointer (some (ea 3))))) from StrB.trans HO1.out (hset1.mono (fun k hk => .inl hk)))
    have HSN0 := Lib.hid (show B ≤ (w1.setCell ⟨b, 1, none⟩ (.iface 163 (.pointer (some (ea 3))))).heap.size by have := HSZ.out; simp [World.setCell]; omega)
    rw [show errOf ea 4 = .iface 163 (.pointer (some (ea 3))) from rfl]
    clear hd HO1 hset1
    go_wp2_with (at_builtin; refine app1 rfl _ _ 22 rfl 9 i0 (.string ByteArray.empty) 16 Tryd.underlying22 hi hz0 hz1 hz2 rfl B (.slice ao no co) _ _ rfl HTN0.out.2 0 (Nat.zero_le _) (Below.refl 0 _) (by have := HSN0.out; omega) (.string t) rfl (by simp [Act.eval, World.setCell]) (by omega) (by omega) ?_)
    refine Lib.hid ?_
    intro v4 w4 hown4 hbel4 hgrow4
    generalize w1.setCell ⟨b, 1, none⟩ (.iface 163 (.pointer (some (ea 3)))) = wN at *
    have hrow : ∀ k, (Value.slice ao no co).ownBlock = some k → B ≤ k ∧ k < wN.heap.size := fun k hk => HTN0.out.2.lt k hk
    have ho4 : Only (StrB b B wN) wN w4 := ((Only.refl (StrB b B wN) wN).alloc _).grown hgrow4 (fun k hk => .inl (own_strB HTN0.out.2 k hk))
    have ho4' : Only (fun k => some k = (Value.slice ao no co).ownBlock) wN w4 := ((Only.refl (fun k => some k = (Value.slice ao no co).ownBlock) wN).alloc _).grown hgrow4 (fun k hk => .inl hk.symm)
    have hTne := own_ne_blk HTN0.out.2 HTN0.out.1 (by decide)
    have hB4 : Blk w4 b 107 _ := HTN0.out.1.only ho4' (fun h => hTne h.symm)
    have hcv := own_ne_blk hown4 hB4 (by decide)
    have k4 := hB4.cell 0
    have k4f := hB4.frozen 0
    have HB5 := Lib.hid (hB4.put 0 v4)
    have hset : Only (fun k => k = b) w4 (w4.setCell ⟨b, 0, none⟩ v4) := (Only.refl (fun k => k = b) w4).set (.inl rfl) _
    have HO5 := Lib.hid (StrB.trans HO10.out (StrB.trans ho4 (hset.mono (fun k hk => .inl hk))))
    have HW5 := Lib.hid (own_only hown4 hset (fun g hg hh => by subst hh; exact hcv hg))
    obtain ⟨av, nv, cv, rfl⟩ := own_slice3 hown4
    clear hown4 hbel4 hgrow4 hrow ho4 ho4' hTne hB4 hcv hset
    go_wp2_with fail
    go_end0
    refine ⟨rfl, HO5.out, _, xs ++ [t], 4, ⟨HB5.out, ?_⟩, HST.out⟩
    have := HW5.out
    rw [List.length_append, ← strRow_snoc]
    exact this

set_option maxHeartbeats 4000000 in
theorem tell_str (b B c off : Nat) (ea : Nat → Addr) (v : Value) (xs : List ByteArray) (n : Nat) (row : List (Option (List Nat))) (z : ByteArray) (w : World) (h : TAt w ea b B v xs n) (hs : TSt row xs n) (hl : row.length ≤ 1000000) (hbt : gTop ≤ b) (hBt : gTop ≤ B)
    (hc : w.cell? ⟨c, off, none⟩ = some (.string z)) (h1 : z.size ≤ 1000000) (he : LErr w ea) (hBw : B ≤ w.heap.size) :
    Calls Tryd.prog 48 #[.pointer (some ⟨b, 0, none⟩), .iface 100 (.pointer (some ⟨c, off, none⟩))] w (TellPost b B ea row [tellS z] w) := by
  obtain ⟨i0, hi, hz0, hz1, hz2⟩ := info_parts Tryd.infoString
  have HD := Lib.hid (quote_all ea z w h1 he)
  have HQ := Lib.hid (tellS_quoteR z)
  have HT := Lib.hid h
  have HS := Lib.hid hs
  have HE := Lib.hid he
  clear h hs he h1
  have ta := Tryd.taStrInt
  have ta2 := Tryd.taStrStr
  go_enter Tryd.func48, Tryd.ntmps48
  go_wp2_with fail
  refine HD.out.mono ?_
  rintro e w1 ⟨rfl, hb1⟩
  have HO1 := Lib.hid (show Only (StrB b B w) w w1 from Only.below_all hb1)
  have HT1 := Lib.hid (HT.out.only (S := fun _ => False) (Only.below_all hb1) (fun h => h) (fun _ _ h => h))
  have HE1 := Lib.hid (HE.out.below hb1)
  have HSZ := Lib.hid hb1.size
  have hlen : xs.length ≤ 1000000 := Nat.le_trans HS.out.1 hl
  obtain ⟨ao, no, co, rfl⟩ := own_slice3 HT1.out.2
  clear hb1
  obtain ⟨qv, hqv⟩ : ∃ qv, qv = quoteR z := ⟨_, rfl⟩
  rw [← hqv] at HQ ⊢
  obtain ⟨t, m⟩ := qv
  rcases HQ.out with ⟨d, hd, hte, hm0⟩ | ⟨hd, hm0⟩
  · have HST := Lib.hid (HS.out.good hd hte)
    have HTN := Lib.hid HT1.out
    have HSN := Lib.hid (Nat.le_trans hBw HSZ.out)
    have k0 : w1.cell? ⟨b, 0, none⟩ = some (.slice ao no co) := HT1.out.1.cell 0
    obtain rfl : m = 0 := hm0
    rw [show errOf ea ((t, 0) : ByteArray × Nat).2 = .nilIface from rfl]
    clear hd hte HQ hqv
    obtain ⟨wN, hwN⟩ : ∃ wN, wN = w1 := ⟨_, rfl⟩
    subst hwN
    go_wp2_with (at_builtin; refine app1 rfl _ _ 22 rfl 9 i0 (.string ByteArray.empty) 16 Tryd.underlying22 hi hz0 hz1 hz2 rfl B (.slice ao no co) _ _ rfl HTN.out.2 0 (Nat.zero_le _) (Below.refl 0 _) (by have := HSN.out; omega) (.string t) rfl rfl (by omega) (by omega) ?_)
    refine Lib.hid ?_
    intro v4 w4 hown4 hbel4 hgrow4
    have hrow : ∀ k, (Value.slice ao no co).ownBlock = some k → B ≤ k ∧ k < wN.heap.size := fun k hk => HTN.out.2.lt k hk
    have ho4 : Only (StrB b B wN) wN w4 := ((Only.refl (StrB b B wN) wN).alloc _).grown hgrow4 (fun k hk => .inl (own_strB HTN.out.2 k hk))
    have ho4' : Only (fun k => some k = (Value.slice ao no co).ownBlock) wN w4 := ((Only.refl (fun k => some k = (Value.slice ao no co).ownBlock) wN).alloc _).grown hgrow4 (fun k hk => .inl hk.symm)
    have hTne := own_ne_blk HTN.out.2 HTN.out.1 (by decide)
    have hB4 : Blk w4 b 107 _ := HTN.out.1.only ho4' (fun h => hTne h.symm)
    have hcv := own_ne_blk hown4 hB4 (by decide)
    have k4 := hB4.cell 0
    have k4f := hB4.frozen 0
    have HB5 := Lib.hid (hB4.put 0 v4)
    have hset : Only (fun k => k = b) w4 (w4.setCell ⟨b, 0, none⟩ v4) := (Only.refl (fun k => k = b) w4).set (.inl rfl) _
    have HO5 := Lib.hid (StrB.trans HO1.out (StrB.trans ho4 (hset.mono (fun k hk => .inl hk))))
    have HW5 := Lib.hid (own_only hown4 hset (fun g hg hh => by subst hh; exact hcv hg))
    obtain ⟨av, nv, cv, rfl⟩ := own_slice3 hown4
    clear hown4 hbel4 hgrow4 hrow ho4 ho4' hTne hB4 hcv hset
    go_wp2_with fail
    go_end0
    refine ⟨rfl, HO5.out, _, xs ++ [t], n, ⟨HB5.out, ?_⟩, HST.out⟩
    have := HW5.out
    rw [List.length_append, ← strRow_snoc]
    exact this
  · have HST := Lib.hid (HS.out.bad [t] hd (by simp))
    have ke := HE1.out.form
    have k1f := HT1.out.1.frozen 1
    have k1 := HT1.out.1.cell 1
    have k0 : w1.cell? ⟨b, 0, none⟩ = some (.slice ao no co) := HT1.out.1.cell 0
    have hset1 : Only (fun k => k = b) w1 (w1.setCell ⟨b, 1, none⟩ (.iface 163 (.pointer (some (ea 3))))) := (Only.refl (fun k => k = b) w1).set (.inl rfl) _
    have HTN0 := Lib.hid (show TAt (w1.setCell ⟨b, 1, none⟩ (.iface 163 (.pointer (some (ea 3))))) ea b B (.slice ao no co) xs 4 from ⟨HT1.out.1.put 1 _, own_only HT1.out.2 hset1 (fun g hg hh => by subst hh; exact own_ne_blk HT1.out.2 HT1.out.1 (by decide) hg)⟩)
    have HO10 := Lib.hid (show Only (StrB b B w) w (w1.setCell ⟨b, 1, none⟩ (.iface 163 (.pointer (some (ea 3))))) from StrB.trans HO1.out (hset1.mono (fun k hk => .inl hk)))
    have HSN0 := Lib.hid (show B ≤ (w1.setCell ⟨b, 1, none⟩ (.iface 163 (.pointer (some (ea 3))))).heap.size by have := HSZ.out; simp [World.setCell]; omega)
    obtain ⟨ek, hek⟩ := errOf_ne (ea := ea) (n := m) hm0
    rw [show errOf ea ((t, m) : ByteArray × Nat).2 = .iface 163 (.pointer (some (ea ek))) from hek]
    clear hd HO1 hset1 hm0 HQ hqv hek
    go_wp2_with (at_builtin; refine app1 rfl _ _ 22 rfl 9 i0 (.string ByteArray.empty) 16 Tryd.underlying22 hi hz0 hz1 hz2 rfl B (.slice ao no co) _ _ rfl HTN0.out.2 0 (Nat.zero_le _) (Below.refl 0 _) (by have := HSN0.out; omega) (.string t) rfl (by simp [Act.eval, World.setCell]) (by omega) (by omega) ?_)
    refine Lib.hid ?_
    intro v4 w4 hown4 hbel4 hgrow4
    generalize w1.setCell ⟨b, 1, none⟩ (.iface 163 (.pointer (some (ea 3)))) = wN at *
    have hrow : ∀ k, (Value.slice ao no co).ownBlock = some k → B ≤ k ∧ k < wN.heap.size := fun k hk => HTN0.out.2.lt k hk
    have ho4 : Only (StrB b B wN) wN w4 := ((Only.refl (StrB b B wN) wN).alloc _).grown hgrow4 (fun k hk => .inl (own_strB HTN0.out.2 k hk))
    have ho4' : Only (fun k => some k = (Value.slice ao no co).ownBlock) wN w4 := ((Only.refl (fun k => some k = (Value.slice ao no co).ownBlock) wN).alloc _).grown hgrow4 (fun k hk => .inl hk.symm)
    have hTne := own_ne_blk HTN0.out.2 HTN0.out.1 (by decide)
    have hB4 : Blk w4 b 107 _ := HTN0.out.1.only ho4' (fun h => hTne h.symm)
    have hcv := own_ne_blk hown4 hB4 (by decide)
    have k4 := hB4.cell 0
    have k4f := hB4.frozen 0
    have HB5 := Lib.hid (hB4.put 0 v4)
    have hset : Only (fun k => k = b) w4 (w4.setCell ⟨b, 0, none⟩ v4) := (Only.refl (fun k => k = b) w4).set (.inl rfl) _
    have HO5 := Lib.hid (StrB.trans HO10.out (StrB.trans ho4 (hset.mono (fun k hk => .inl hk))))
    have HW5 := Lib.hid (own_only hown4 hset (fun g hg hh => by subst hh; exact hcv hg))
    obtain ⟨av, nv, cv, rfl⟩ := own_slice3 hown4
    clear hown4 hbel4 hgrow4 hrow ho4 ho4' hTne hB4 hcv hset
    go_wp2_with fail
    go_end0
    refine ⟨rfl, HO5.out, _, xs ++ [t], 4, ⟨HB5.out, ?_⟩, HST.out⟩
    have := HW5.out
    rw [List.length_append, ← strRow_snoc]
    exact this
end Go.Proofs.YtjhmehmmpfnnkaaDoor
