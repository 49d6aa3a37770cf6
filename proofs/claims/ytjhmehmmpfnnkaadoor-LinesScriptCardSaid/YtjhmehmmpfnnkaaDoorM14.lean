/-
  The contracts of tidewaterref31's reader: next, num, str.
-/
import Derived.Test.YtjhmehmmpfnnkaaDoorM06
import Derived.Test.YtjhmehmmpfnnkaaDoorM11
import Derived.Test.YtjhmehmmpfnnkaaDoorM13
namespace Go.Proofs.YtjhmehmmpfnnkaaDoor
open Go.RowKit Utf
set_option maxRecDepth 100000
set_option linter.unusedSimpArgs false
set_option linter.unusedVariables false

/-- A reader of words of the reference's: block b; the words that are left; its error's number. -/
def RRAt (w : World) (b : Nat) (ws : List (List Nat)) (n : Nat) (K : Nat → Prop) : Prop :=
  ∃ ao cap, Blk w b 94 #[.slice ao ws.length cap, .int .i64 (n : Nat)] ∧ RowAt w ao (strRow (fieldTexts ws)) ∧ ws.length ≤ cap ∧ cap ≤ maxLen ∧ (∀ ad, ao = some ad → ad.spot = none) ∧ (ao = none → cap = 0) ∧ (∀ ad, ao = some ad → K ad.block)
theorem RRAt.only {S : Nat → Prop} {w w' : World} {b : Nat} {ws : List (List Nat)} {n : Nat} {K : Nat → Prop} (h : RRAt w b ws n K) (ho : Only S w w') (hs : ¬ S b) (hK : ∀ k, S k → ¬ K k) : RRAt w' b ws n K := by
  obtain ⟨ao, cap, h1, h2, h3, h4, h5, h6, h7⟩ := h
  exact ⟨ao, cap, h1.only ho hs, h2.only ho (fun ad e s => hK _ s (h7 ad e)), h3, h4, h5, h6, h7⟩
def GoodR (ws : List (List Nat)) : Prop := ∀ x ∈ ws, allOk x ∧ (encAll x).length ≤ 100000
theorem GoodR.tail {x : List Nat} {ws : List (List Nat)} (h : GoodR (x :: ws)) : GoodR ws := fun y hy => h y (List.mem_cons_of_mem _ hy)

section
variable {b : Nat} {ws : List (List Nat)} {K : Nat → Prop} {w w' : World}
theorem RRAt.cell1 {n : Nat} (h : RRAt w b ws n K) : w.cell? ⟨b, 1, none⟩ = some (.int .i64 (n : Nat)) ∧ w.frozen? ⟨b, 1, none⟩ = false := by
  obtain ⟨ao, cap, h1, -⟩ := h
  exact ⟨h1.cell 1, h1.frozen 1⟩
theorem RRAt.putErr {n : Nat} (h : RRAt w b ws n K) (m : Nat) (hK : ¬ K b) : RRAt (w.setCell ⟨b, 1, none⟩ (.int .i64 (m : Nat))) b ws m K := by
  obtain ⟨ao, cap, h1, h2, h3, h4, h5, h6, h7⟩ := h
  exact ⟨ao, cap, h1.put 1 _, h2.only ((Only.refl (fun k => k = b) _).set (.inl rfl) _) (fun ad e s => hK (by have := h7 ad e; rwa [s] at this)), h3, h4, h5, h6, h7⟩
end

/-- What the next word is, the words that are left, the error's number. -/
def nextR : List (List Nat) → Nat → List Nat × List (List Nat) × Nat
  | ws, n + 1 => ([], ws, n + 1)
  | [], 0 => ([], [], 2)
  | x :: r, 0 => (x, r, 0)
def NextPost (b : Nat) (ws : List (List Nat)) (n : Nat) (K : Nat → Prop) (w : World) (e : Ending) (w' : World) : Prop :=
  e = .returned (.string (mkS (encAll (nextR ws n).1))) ∧ Only (fun k => k = b) w w' ∧ RRAt w' b (nextR ws n).2.1 (nextR ws n).2.2 K

theorem next_err (b : Nat) (ws : List (List Nat)) (n : Nat) (K : Nat → Prop) (w : World) (h : RRAt w b ws (n + 1) K) :
    Calls Tryd.prog 61 #[.pointer (some ⟨b, 0, none⟩)] w (NextPost b ws (n + 1) K w) := by
  have HR := Lib.hid h
  obtain ⟨ao, cap, hb, -⟩ := h
  have hc := hb.cell 1
  have hnz : (((n : Int) + 1) != 0) = true := by simp; omega
  have hnz2 : ((((n + 1 : Nat) : Nat) : Int) != 0) = true := by simp; omega
  clear hb
  go_enter Tryd.func61, Tryd.ntmps61
  go_wp2_with fail
  go_ret
  exact ⟨rfl, Only.refl _ _, HR.out⟩

theorem next_short (b : Nat) (K : Nat → Prop) (w : World) (h : RRAt w b [] 0 K) :
    Calls Tryd.prog 61 #[.pointer (some ⟨b, 0, none⟩)] w (NextPost b [] 0 K w) := by
  have HR := Lib.hid h
  obtain ⟨ao, cap, hb, -⟩ := h
  have hc := hb.cell 1
  have hc0 := hb.cell 0
  have hf := hb.frozen 1
  clear hb
  go_enter Tryd.func61, Tryd.ntmps61
  go_wp2_with fail
  go_ret
  refine ⟨rfl, (Only.refl (fun k => k = b) _).set (.inl rfl) _, ?_⟩
  obtain ⟨ao, cap, h1, h2, h3, h4, h5, h6, h7⟩ := HR.out
  exact ⟨ao, cap, h1.put 1 _, fun i hi => by simp [strRow, fieldTexts, nextR] at hi, h3, h4, h5, h6, h7⟩

theorem next_cons (b : Nat) (x : List Nat) (ws : List (List Nat)) (K : Nat → Prop) (w : World) (h : RRAt w b (x :: ws) 0 K) (hK : ¬ K b) :
    Calls Tryd.prog 61 #[.pointer (some ⟨b, 0, none⟩)] w (NextPost b (x :: ws) 0 K w) := by
  obtain ⟨ao, cap, hb, hr, hlc, hcm, hsp, hno, hk⟩ := h
  have hlen : 0 < (strRow (fieldTexts (x :: ws))).length := by simp [strRow, fieldTexts]
  obtain ⟨bb, oo, rfl, hx⟩ := hr 0 hlen
  have hrs := hr.rest bb oo rfl
  have hx' : w.cell? ⟨bb, oo, none⟩ = some (.string (mkS (encAll x))) := hx
  have hbb : bb ≠ b := fun e => hK (by have := hk _ rfl; simp only at this; rwa [e] at this)
  have HB := Lib.hid hb
  have HRS := Lib.hid hrs
  have HK := Lib.hid (show K bb from hk _ rfl)
  have HBB := Lib.hid hbb
  have hc := hb.cell 1
  have hc0 := hb.cell 0
  have hf := hb.frozen 0
  have hlc' : (ws.length : Int) + 1 ≤ (cap : Int) := by simp at hlc; omega
  have hlw : ws.length + 1 ≤ cap := by simpa using hlc
  have hnz : (((ws.length : Int) + 1) == 0) = false := by simp; omega
  simp only [List.length_cons] at hc0
  unfold maxLen at hcm
  clear hb hr hsp hno hk hx hrs hlc hbb hlen
  by_cases hcap : cap = 1
  · have hw0 : ws = [] := List.length_eq_zero_iff.1 (by omega)
    subst hw0
    subst hcap
    clear hlc' hlw
    go_enter Tryd.func61, Tryd.ntmps61
    go_wp2_with fail
    go_ret
    refine ⟨rfl, (Only.refl (fun k => k = b) _).set (.inl rfl) _, ⟨_, _, HB.out.put 0 _, (fun i hi => by simp [strRow, fieldTexts, nextR] at hi), by simp [nextR], by simp [maxLen], (fun ad e => by cases e; rfl), (fun e => by cases e), (fun ad e => by cases e; exact HK.out)⟩⟩
  · go_enter Tryd.func61, Tryd.ntmps61
    go_wp2_with fail
    go_ret
    refine ⟨rfl, (Only.refl (fun k => k = b) _).set (.inl rfl) _, ⟨_, _, HB.out.put 0 _, ?_, by simp only [nextR]; omega, by unfold maxLen; omega, (fun ad e => by cases e; rfl), (fun e => by cases e), (fun ad e => by cases e; exact HK.out)⟩⟩
    exact HRS.out.only ((Only.refl (fun k => k = b) _).set (.inl rfl) _) (fun ad e s => by cases e; exact HBB.out s)

theorem next_any (b : Nat) (ws : List (List Nat)) (n : Nat) (K : Nat → Prop) (w : World) (h : RRAt w b ws n K) (hK : ¬ K b) :
    Calls Tryd.prog 61 #[.pointer (some ⟨b, 0, none⟩)] w (NextPost b ws n K w) := by
  cases n with
  | succ n => exact next_err b ws n K w h
  | zero =>
    cases ws with
    | nil => exact next_short b K w h
    | cons x r => exact next_cons b x r K w h hK

def NumPost (b : Nat) (ws : List (List Nat)) (n : Nat) (K : Nat → Prop) (w : World) (e : Ending) (w' : World) : Prop :=
  e = .returned (.int .i64 ((rdNum ws n).1.getD 0)) ∧ Only (fun k => k = b) w w' ∧ RRAt w' b (rdNum ws n).2.1 (rdNum ws n).2.2 K
def StrPost (b : Nat) (ws : List (List Nat)) (n : Nat) (K : Nat → Prop) (w : World) (e : Ending) (w' : World) : Prop :=
  e = .returned (.string (mkS (encAll ((rdStr ws n).1.getD [])))) ∧ Only (fun k => k = b) w w' ∧ RRAt w' b (rdStr ws n).2.1 (rdStr ws n).2.2 K

theorem nextR_ok {ws : List (List Nat)} {n : Nat} (hg : GoodR ws) : allOk (nextR ws n).1 ∧ (encAll (nextR ws n).1).length ≤ 100000 := by
  cases n with
  | succ n => cases ws <;> exact ⟨allOk_nil, Nat.zero_le _⟩
  | zero =>
    cases ws with
    | nil => exact ⟨allOk_nil, Nat.zero_le _⟩
    | cons x r => exact hg x (List.mem_cons_self ..)

set_option maxHeartbeats 1000000 in
theorem num_ref (b : Nat) (ws : List (List Nat)) (n : Nat) (K : Nat → Prop) (w : World) (h : RRAt w b ws n K) (hK : ¬ K b) (hg : GoodR ws) :
    Calls Tryd.prog 42 #[.pointer (some ⟨b, 0, none⟩)] w (NumPost b ws n K w) := by
  obtain ⟨hok, hl⟩ := nextR_ok (n := n) hg
  have HN := Lib.hid (next_any b ws n K w h hK)
  have HU := Lib.hid (fun W => refNumber_any (mkS (encAll (nextR ws n).1)) W (by rw [mkS_size]; omega))
  have HE := Lib.hid (numS_runes (s := mkS (encAll (nextR ws n).1)) hok rfl)
  have HK := Lib.hid hK
  clear h hok hl hg hK
  go_enter Tryd.func42, Tryd.ntmps42
  go_wp2_with fail
  refine HN.out.mono ?_
  rintro e w1 ⟨rfl, ho1, hr1⟩
  have HO1 := Lib.hid ho1
  have HR1 := Lib.hid hr1
  have hc1 := hr1.cell1.1
  have hf1 := hr1.cell1.2
  clear ho1 hr1
  go_wp2_with fail
  refine (HU.out _).mono ?_
  rintro e w2 ⟨rfl, rfl⟩
  cases n with
  | succ n =>
    have hnz : ((((nextR ws (n + 1)).2.2 : Nat) : Int) == 0) = false := by cases ws <;> (simp [nextR]; omega)
    have HF := Lib.hid (show (numS (mkS (encAll (nextR ws (n + 1)).1))).getD 0 = 0 by cases ws <;> rfl)
    have HG := Lib.hid (show (rdNum ws (n + 1)) = (none, (nextR ws (n + 1)).2) by cases ws <;> rfl)
    go_wp2_with fail
    go_ret
    unfold NumPost
    rw [HG.out, HF.out]
    exact ⟨rfl, HO1.out, HR1.out⟩
  | zero =>
    cases ws with
    | nil =>
      have hnz : ((((nextR [] 0).2.2 : Nat) : Int) == 0) = false := rfl
      have HF := Lib.hid (show (numS (mkS (encAll (nextR [] 0).1))).getD 0 = 0 by rfl)
      go_wp2_with fail
      go_ret
      unfold NumPost
      rw [HF.out]
      exact ⟨rfl, HO1.out, HR1.out⟩
    | cons x r =>
      have hnz : ((((nextR (x :: r) 0).2.2 : Nat) : Int) == 0) = true := rfl
      have HE2 := Lib.hid (show numS (mkS (encAll (nextR (x :: r) 0).1)) = numW x from HE.out)
      have HNX := Lib.hid (show (nextR (x :: r) 0) = (x, r, 0) from rfl)
      cases hw : numW x with
      | some v =>
        have hs1 : (numS (mkS (encAll (nextR (x :: r) 0).1))).isSome = true := by rw [HE2.out, hw]; rfl
        have HF := Lib.hid (show (numS (mkS (encAll (nextR (x :: r) 0).1))).getD 0 = v by rw [HE2.out, hw]; rfl)
        have HG := Lib.hid (show (rdNum (x :: r) 0) = (some v, r, 0) by simp [rdNum, hw])
        clear hw
        go_wp2_with fail
        go_ret
        unfold NumPost
        rw [HG.out, HF.out]
        exact ⟨rfl, HO1.out, HR1.out⟩
      | none =>
        have hs1 : (numS (mkS (encAll (nextR (x :: r) 0).1))).isSome = false := by rw [HE2.out, hw]; rfl
        have HF := Lib.hid (show (numS (mkS (encAll (nextR (x :: r) 0).1))).getD 0 = 0 by rw [HE2.out, hw]; rfl)
        have HG := Lib.hid (show (rdNum (x :: r) 0) = (some 0, r, 4) by simp [rdNum, hw])
        clear hw
        go_wp2_with fail
        go_ret
        unfold NumPost
        rw [HG.out, HF.out]
        exact ⟨rfl, HO1.out.set (.inl rfl) _, HR1.out.putErr 4 HK.out⟩

theorem unqR_of {x : List Nat} (ho : allOk x) : dec (mkS (encAll x)).data.toList = some x := dec_encAll ho

set_option maxHeartbeats 1000000 in
theorem str_ref (b : Nat) (ws : List (List Nat)) (n : Nat) (K : Nat → Prop) (w : World) (h : RRAt w b ws n K) (hK : ¬ K b) (hg : GoodR ws) :
    Calls Tryd.prog 43 #[.pointer (some ⟨b, 0, none⟩)] w (StrPost b ws n K w) := by
  obtain ⟨hok, hl⟩ := nextR_ok (n := n) hg
  have HN := Lib.hid (next_any b ws n K w h hK)
  have HU := Lib.hid (fun W => refUnq_some (mkS (encAll (nextR ws n).1)) (nextR ws n).1 W (by rw [mkS_size]; omega) hok rfl)
  have HK := Lib.hid hK
  clear h hok hl hg hK
  go_enter Tryd.func43, Tryd.ntmps43
  go_wp2_with fail
  refine HN.out.mono ?_
  rintro e w1 ⟨rfl, ho1, hr1⟩
  have HO1 := Lib.hid ho1
  have HR1 := Lib.hid hr1
  clear ho1 hr1
  go_wp2_with fail
  refine (HU.out _).mono ?_
  rintro e w2 ⟨hb2, hres⟩
  have HO2 := Lib.hid (HO1.out.trans (Only.below_all hb2))
  have hr2 := HR1.out.only (Only.below_all (S := fun _ => False) hb2) (fun h => h) (fun _ h => h.elim)
  have HR2 := Lib.hid hr2
  have hc1 := hr2.cell1.1
  have hf1 := hr2.cell1.2
  clear hb2 hr2
  cases n with
  | succ n =>
    have hnz : ((((nextR ws (n + 1)).2.2 : Nat) : Int) == 0) = false := by cases ws <;> (simp [nextR]; omega)
    have HG := Lib.hid (show (rdStr ws (n + 1)) = (none, (nextR ws (n + 1)).2) by cases ws <;> rfl)
    rcases hres with ⟨t, ht, rfl⟩ | ⟨ht, rfl⟩
    · exact absurd ht (by cases ws <;> (intro h; cases h))
    · clear ht
      go_wp2_with fail
      go_ret
      unfold StrPost
      rw [HG.out]
      exact ⟨rfl, HO2.out, HR2.out⟩
  | zero =>
    cases ws with
    | nil =>
      have hnz : ((((nextR [] 0).2.2 : Nat) : Int) == 0) = false := rfl
      rcases hres with ⟨t, ht, rfl⟩ | ⟨ht, rfl⟩
      · exact absurd ht (by intro h; cases h)
      · clear ht
        go_wp2_with fail
        go_ret
        exact ⟨rfl, HO2.out, HR2.out⟩
    | cons x r =>
      have hnz : ((((nextR (x :: r) 0).2.2 : Nat) : Int) == 0) = true := rfl
      rcases hres with ⟨t, ht, rfl⟩ | ⟨ht, rfl⟩
      · have HG := Lib.hid (show (rdStr (x :: r) 0) = (some t, r, 0) by have ht2 : unquoteL x = some t := ht; simp [rdStr, ht2])
        clear ht
        go_wp2_with fail
        go_ret
        unfold StrPost
        rw [HG.out]
        exact ⟨rfl, HO2.out, HR2.out⟩
      · have HG := Lib.hid (show (rdStr (x :: r) 0) = (some [], r, 4) by have ht2 : unquoteL x = none := ht; simp [rdStr, ht2])
        clear ht
        go_wp2_with fail
        go_ret
        unfold StrPost
        rw [HG.out]
        exact ⟨rfl, HO2.out.set (.inl rfl) _, HR2.out.putErr 4 HK.out⟩
end Go.Proofs.YtjhmehmmpfnnkaaDoor
