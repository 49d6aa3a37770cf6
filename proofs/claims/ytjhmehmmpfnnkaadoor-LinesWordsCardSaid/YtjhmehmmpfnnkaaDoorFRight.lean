/-
  Contracts: right_any.
-/
import Derived.Test.YtjhmehmmpfnnkaaDoorAKit
namespace Go.Proofs.YtjhmehmmpfnnkaaDoor
open Go.RowKit Utf
set_option maxRecDepth 100000
set_option linter.unusedSimpArgs false
set_option linter.unusedVariables false

set_option maxHeartbeats 400000 in
theorem right_any (s : ByteArray) (w : World) (hs : s.size ≤ maxLen) :
    Calls Tryd.prog 26 #[.string s] w fun e w' => e = .returned (.bool (dec s.data.toList).isSome) ∧ Below w.heap.size w w' := by
  unfold maxLen at hs
  have key : Calls Tryd.prog 26 #[.string s] w fun e w' => e = .returned (.bool (dec s.data.toList).isSome) ∧ ∃ pos, w' = w.iter s pos := by
    go_enter Tryd.func26, Tryd.ntmps26
    go_wp2
    go_loopw [3] (fun n w' => ∃ (rs : List Nat), w' = w.iter s (encAll rs).length ∧ allOk rs ∧ s.data.toList = encAll rs ++ s.data.toList.drop (encAll rs).length) (fun _ w' => s.size - w'.iterPos w.heap.size)
    case atStart => exact ⟨[], rfl, allOk_nil, rfl⟩
    case round =>
      obtain ⟨rs, rfl, ho, hx⟩ := hrel
      by_cases hp : (encAll rs).length < s.size
      · have hdec := decode_dec1 s (encAll rs).length hp
        have hl := drop_len s (encAll rs).length
        have hb := ext_drop s (encAll rs).length 3
        cases hd : dec1 (s.data.toList.drop (encAll rs).length) with
        | none =>
          rw [hd] at hdec
          have hnx : ∀ ty, (Instr.next (.pointer (some ⟨w.heap.size, 0, none⟩)) true ty).run Tryd.prog (w.iter s (encAll rs).length) = .ok (.tuple #[.bool true, .int .i64 (encAll rs).length, .int .i32 (65533 : Int)]) (w.iter s ((encAll rs).length + 1)) := fun ty => by
            rw [run_next_any w s (encAll rs).length ty hp, hdec]; rfl
          have hno : dec s.data.toList = none := by
            rw [hx, dec_append ho]
            cases ht : dec (s.data.toList.drop (encAll rs).length) with
            | none => rfl
            | some ts =>
              obtain ⟨h1, h2⟩ := dec_some ht
              cases ts with
              | nil => rw [h2] at hl; simp [encAll_nil] at hl; omega
              | cons c ts => rw [h2, encAll_cons, dec1_enc c (allOk_cons.1 h1).1] at hd; cases hd
          by_cases h3 : (s.size : Int) - ((encAll rs).length : Int) < 3
          · clear hb hl hd hdec
            have H := Lib.hid hx
            clear hx
            have HN := Lib.hid hno
            clear hno
            go_wp2
            go_ret
            rw [HN.out]
            exact ⟨rfl, _, rfl⟩
          · have hne : (!(s.extract (encAll rs).length ((encAll rs).length + 3)).toList == [239, 191, 189]) = true := by
              rw [hb]
              cases he : (List.take 3 (s.data.toList.drop (encAll rs).length) == [239, 191, 189]) with
              | false => rfl
              | true =>
                exfalso
                rw [beq_iff_eq] at he
                have := dec1_enc 65533 (by decide +kernel) ((s.data.toList.drop (encAll rs).length).drop 3)
                rw [enc_mark, ← he, List.take_append_drop, hd] at this
                cases this
            clear hb hl hd hdec
            have H := Lib.hid hx
            clear hx
            have HN := Lib.hid hno
            clear hno
            go_wp2
            go_ret
            rw [HN.out]
            exact ⟨rfl, _, rfl⟩
        | some cn =>
          obtain ⟨c, n⟩ := cn
          rw [hd] at hdec
          have hnx : ∀ ty, (Instr.next (.pointer (some ⟨w.heap.size, 0, none⟩)) true ty).run Tryd.prog (w.iter s (encAll rs).length) = .ok (.tuple #[.bool true, .int .i64 (encAll rs).length, .int .i32 (c : Int)]) (w.iter s ((encAll rs).length + n)) := fun ty => by
            rw [run_next_any w s (encAll rs).length ty hp, hdec]; rfl
          obtain ⟨d1, d2, d3⟩ := dec1_some hd
          have hn := enc_length c
          have hst := dec_step ho hx hd
          have hq : c = 65533 → (3 : Int) ≤ (s.size : Int) - ((encAll rs).length : Int) ∧ (!(s.extract (encAll rs).length ((encAll rs).length + 3)).toList == [239, 191, 189]) = false := by
            rintro rfl
            rw [d3, List.length_append, enc_mark] at hl
            simp at hl
            refine ⟨by omega, ?_⟩
            rw [hb, d3, enc_mark]
            rfl
          clear hb hl hd hdec d3
          have H := Lib.hid hx
          clear hx
          have HS := Lib.hid hst
          clear hst
          rw [← d2] at hn
          clear d2
          by_cases hc : c = 65533
          · obtain ⟨h3, hne⟩ := hq hc
            have hc' : ((c : Int) == 65533) = true := by simp; omega
            clear hq
            have HC := Lib.hid hc
            clear hc
            go_wp2
            go_roundw
            case rel => exact ⟨rs ++ [c], by rw [HS.out.2.1], HS.out.1, HS.out.2.2⟩
            case measure => simp; omega
          · have hc' : ((c : Int) == 65533) = false := by simp; omega
            clear hq hc
            go_wp2
            go_roundw
            case rel => exact ⟨rs ++ [c], by rw [HS.out.2.1], HS.out.1, HS.out.2.2⟩
            case measure => simp; omega
      · have hnx : ∀ ty, (Instr.next (.pointer (some ⟨w.heap.size, 0, none⟩)) true ty).run Tryd.prog (w.iter s (encAll rs).length) = _ := fun ty => run_next_end w s (encAll rs).length ty hp
        have hd : dec s.data.toList = some rs := by
          have : s.data.toList.drop (encAll rs).length = [] := by
            rw [List.drop_eq_nil_iff]
            simp
            exact Nat.not_lt.1 hp
          rw [hx, this, List.append_nil]
          exact dec_encAll ho
        have H := Lib.hid hx
        clear hx
        have HD := Lib.hid hd
        clear hd
        go_wp2
        go_ret
        rw [HD.out]
        exact ⟨rfl, _, rfl⟩
  refine key.mono ?_
  rintro e w' ⟨rfl, pos, rfl⟩
  exact ⟨rfl, (Below.refl _ _).alloc (Nat.le_refl _) _⟩
end Go.Proofs.YtjhmehmmpfnnkaaDoor
