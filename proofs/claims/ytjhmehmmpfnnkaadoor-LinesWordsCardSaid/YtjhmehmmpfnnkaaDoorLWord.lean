/-
  The contract of (*lines.reader).word.
-/
import Derived.Test.YtjhmehmmpfnnkaaDoorLBlk
namespace Go.Proofs.YtjhmehmmpfnnkaaDoor
open Go.RowKit Utf
set_option maxRecDepth 100000
set_option linter.unusedSimpArgs false
set_option linter.unusedVariables false

theorem RowAt.rest {w : World} {ao : Option Addr} {x : Value} {xs : List Value} (h : RowAt w ao (x :: xs)) (b o : Nat) (e : ao = some ⟨b, o, none⟩) : RowAt w (some ⟨b, o + 1, none⟩) xs := by
  subst e
  intro i hi
  obtain ⟨b', o', e', hc⟩ := h (i + 1) (by simp; omega)
  cases e'
  refine ⟨b, o + 1, rfl, ?_⟩
  rw [Nat.add_assoc, Nat.add_comm 1 i]
  exact hc

theorem word_err (b : Nat) (ea : Nat → Addr) (ws : List (List Nat)) (n : Nat) (K : Nat → Prop) (w : World) (h : RAt w b ea ws (n + 1) K) :
    Calls Tryd.prog 58 #[.pointer (some ⟨b, 0, none⟩)] w fun e w' => e = .returned (.string ByteArray.empty) ∧ w = w' := by
  obtain ⟨ao, cap, hb, -⟩ := h
  rw [errOf_succ] at hb
  have hc := hb.cell 1
  clear hb
  go_enter Tryd.func58, Tryd.ntmps58
  go_wp2_with fail
  go_ret
  exact ⟨rfl, rfl⟩

theorem word_short (b : Nat) (ea : Nat → Addr) (K : Nat → Prop) (w : World) (h : RAt w b ea [] 0 K) (he : LErr w ea) :
    Calls Tryd.prog 58 #[.pointer (some ⟨b, 0, none⟩)] w fun e w' => e = .returned (.string ByteArray.empty) ∧ Only (fun k => k = b) w w' ∧ RAt w' b ea [] 2 K := by
  have HR := Lib.hid h
  obtain ⟨ao, cap, hb, -⟩ := h
  rw [errOf_zero] at hb
  have hc := hb.cell 1
  have hc0 := hb.cell 0
  have hf := hb.frozen 1
  have c1 := he.short
  clear hb he
  go_enter Tryd.func58, Tryd.ntmps58
  go_wp2_with fail
  go_ret
  refine ⟨rfl, (Only.refl (fun k => k = b) _).set (.inl rfl) _, ?_⟩
  obtain ⟨ao, cap, h1, h2, h3, h4, h5, h6, h7⟩ := HR.out
  exact ⟨ao, cap, h1.put 1 _, fun i hi => by simp [strRow, fieldTexts] at hi, h3, h4, h5, h6, h7⟩

theorem word_cons (b : Nat) (ea : Nat → Addr) (x : List Nat) (ws : List (List Nat)) (K : Nat → Prop) (w : World) (h : RAt w b ea (x :: ws) 0 K) (hK : ¬ K b) :
    Calls Tryd.prog 58 #[.pointer (some ⟨b, 0, none⟩)] w fun e w' => e = .returned (.string (mkS (encAll x))) ∧ Only (fun k => k = b) w w' ∧ RAt w' b ea ws 0 K := by
  obtain ⟨ao, cap, hb, hr, hlc, hcm, hsp, hno, hk⟩ := h
  have hlen : 0 < (strRow (fieldTexts (x :: ws))).length := by simp [strRow, fieldTexts]
  obtain ⟨bb, oo, rfl, hx⟩ := hr 0 hlen
  have hrs := hr.rest bb oo rfl
  have hx' : w.cell? ⟨bb, oo, none⟩ = some (.string (mkS (encAll x))) := hx
  have hbb : bb ≠ b := fun e => hK (by have := hk _ rfl; simp only at this; rwa [e] at this)
  have HB := Lib.hid hb
  have HRS := Lib.hid hrs
  have HK := Lib.hid (show K bb from hk _ rfl)
  have HBB := Lib.hid hbb
  have hc := hb.cell 1
  have hc0 := hb.cell 0
  have hf := hb.frozen 0
  rw [errOf_zero] at hc
  have hlc' : (ws.length : Int) + 1 ≤ (cap : Int) := by simp at hlc; omega
  have hlw : ws.length + 1 ≤ cap := by simpa using hlc
  have hnz : (((ws.length : Int) + 1) == 0) = false := by simp; omega
  simp only [List.length_cons] at hc0
  unfold maxLen at hcm
  clear hb hr hsp hno hk hx hrs hlc hbb hlen
  by_cases hcap : cap = 1
  · have hw0 : ws = [] := List.length_eq_zero_iff.1 (by omega)
    subst hw0
    subst hcap
    clear hlc' hlw
    go_enter Tryd.func58, Tryd.ntmps58
    go_wp2_with fail
    go_ret
    refine ⟨rfl, (Only.refl (fun k => k = b) _).set (.inl rfl) _, ⟨_, _, HB.out.put 0 _, (fun i hi => by simp [strRow, fieldTexts] at hi), by simp, by simp [maxLen], (fun ad e => by cases e; rfl), (fun e => by cases e), (fun ad e => by cases e; exact HK.out)⟩⟩
  · go_enter Tryd.func58, Tryd.ntmps58
    go_wp2_with fail
    go_ret
    refine ⟨rfl, (Only.refl (fun k => k = b) _).set (.inl rfl) _, ⟨_, _, HB.out.put 0 _, ?_, by omega, by unfold maxLen; omega, (fun ad e => by cases e; rfl), (fun e => by cases e), (fun ad e => by cases e; exact HK.out)⟩⟩
    exact HRS.out.only ((Only.refl (fun k => k = b) _).set (.inl rfl) _) (fun ad e s => by cases e; exact HBB.out s)
end Go.Proofs.YtjhmehmmpfnnkaaDoor
