/-
  Contracts: refText_any.
-/
import Derived.Test.YtjhmehmmpfnnkaaDoorAKit
namespace Go.Proofs.YtjhmehmmpfnnkaaDoor
open Go.RowKit Utf
set_option maxRecDepth 100000
set_option linter.unusedSimpArgs false
set_option linter.unusedVariables false

set_option maxHeartbeats 2000000 in
theorem refText_any (rs : List Nat) (ao : Option Addr) (cap : Nat) (w : World) (hl : rs.length ≤ 1000000) (ho : allOk rs) (hr : RowAt w ao (natRow rs)) :
    Calls Tryd.prog 32 #[.slice ao rs.length cap] w fun e w' => e = .returned (.string (mkS (encAll rs))) ∧ Below w.heap.size w w' := by
  obtain ⟨i0, hi, hz0, hz1, hz2⟩ := info_parts Tryd.infoByte
  have HO := Lib.hid ho
  have HR := Lib.hid hr
  clear ho hr
  go_enter Tryd.func32, Tryd.ntmps32
  go_wp2_with fail
  go_loopw [3, 9] (fun v i wr => ∃ k : Nat, k ≤ rs.length ∧ i = .int .i64 k ∧ Below w.heap.size w wr ∧ wr.ownsRow w.heap.size 5 1 v (encAll (rs.take k)).length (byteRow (encAll (rs.take k)))) (fun _ i _ => rs.length - (intOf i).toNat)
  case atStart => exact ⟨0, Nat.zero_le _, rfl, (Below.refl _ _).alloc (Nat.le_refl _) _, World.ownsRow_made w #[] 0 (Nat.le_refl _) (by simp [maxLen]) rfl⟩
  case round =>
    obtain ⟨k, hk, rfl, hbel, hown⟩ := hrel
    have HBS := Lib.hid hbel.size
    by_cases hlt : k < rs.length
    · obtain ⟨b, of, rfl, hc⟩ := HR.out k (by rw [natRow_len]; exact hlt)
      rw [natRow_at] at hc
      replace hc := (hbel.cell (World.block_lt_of_cell? w _ hc)).trans hc
      have hok := HO.out _ (List.getElem_mem hlt)
      have HT := Lib.hid (show encAll (rs.take (k + 1)) = encAll (rs.take k) ++ enc rs[k] by rw [List.take_succ_eq_append_getElem hlt, encAll_append, encAll_cons, encAll_nil, List.append_nil])
      generalize rs[k] = c at *
      generalize hpre : encAll (rs.take k) = pre at *
      have hpl : pre.length ≤ 4000000 := by rw [← hpre]; have := encAll_le (rs.take k); rw [List.length_take] at this; omega
      clear hpre
      have hcb : c ≤ 1114111 := by rw [okR_def] at hok; omega
      by_cases h1 : (c : Int) < 128
      · go_wp2_with (at_builtin; refine app1 rfl _ _ 41 rfl 5 i0 (.int .u8 0) 1 Tryd.underlying41 hi hz0 hz1 hz2 rfl w.heap.size _ _ _ rfl hown w.heap.size (Nat.le_refl _) hbel HBS.out _ rfl rfl (by omega) (by omega) ?_)
        refine Lib.hid ?_
        intro v' w2 hown' hbel' _
        go_wp2_with fail
        go_roundw
        case rel => exact ⟨k + 1, by omega, by go_num, hbel', by rw [HT.out]; exact own_enc (byteRow_enc1 (by omega)) rfl hown'⟩
        case measure => simp [intOf]; omega
      · by_cases h2 : (c : Int) < 2048
        · have HE := Lib.hid (byteRow_enc2 (c := c) (by omega) (by omega))
          go_wp2_with (at_builtin; refine appN rfl _ _ 41 rfl 5 i0 (.int .u8 0) 1 Tryd.underlying41 hi hz0 hz1 hz2 rfl w.heap.size _ _ _ rfl hown w.heap.size (Nat.le_refl _) hbel HBS.out [Value.int .u8 (192 + (c : Int) / 64), .int .u8 (128 + (c : Int) % 64)] 2 rfl (by intro u hu; simp at hu; rcases hu with rfl | rfl <;> rfl) rfl (by omega) (by omega) ?_)
          refine Lib.hid ?_
          intro v' w2 hown' hbel' _
          go_wp2_with fail
          go_roundw
          case rel => exact ⟨k + 1, by omega, by go_num, hbel', by rw [HT.out]; exact own_enc (HE.out) rfl hown'⟩
          case measure => simp [intOf]; omega
        · by_cases h3 : (c : Int) < 65536
          · have HE := Lib.hid (byteRow_enc3 (c := c) (by omega) (by omega) hok)
            go_wp2_with (at_builtin; refine appN rfl _ _ 41 rfl 5 i0 (.int .u8 0) 1 Tryd.underlying41 hi hz0 hz1 hz2 rfl w.heap.size _ _ _ rfl hown w.heap.size (Nat.le_refl _) hbel HBS.out [Value.int .u8 (224 + (c : Int) / 4096), .int .u8 (128 + (c : Int) / 64 % 64), .int .u8 (128 + (c : Int) % 64)] 3 rfl (by intro u hu; simp at hu; rcases hu with rfl | rfl | rfl <;> rfl) rfl (by omega) (by omega) ?_)
            refine Lib.hid ?_
            intro v' w2 hown' hbel' _
            go_wp2_with fail
            go_roundw
            case rel => exact ⟨k + 1, by omega, by go_num, hbel', by rw [HT.out]; exact own_enc (HE.out) rfl hown'⟩
            case measure => simp [intOf]; omega
          · have HE := Lib.hid (byteRow_enc4 (c := c) (by omega) hok)
            go_wp2_with (at_builtin; refine appN rfl _ _ 41 rfl 5 i0 (.int .u8 0) 1 Tryd.underlying41 hi hz0 hz1 hz2 rfl w.heap.size _ _ _ rfl hown w.heap.size (Nat.le_refl _) hbel HBS.out [Value.int .u8 (240 + (c : Int) / 262144), .int .u8 (128 + (c : Int) / 4096 % 64), .int .u8 (128 + (c : Int) / 64 % 64), .int .u8 (128 + (c : Int) % 64)] 4 rfl (by intro u hu; simp at hu; rcases hu with rfl | rfl | rfl | rfl <;> rfl) rfl (by omega) (by omega) ?_)
            refine Lib.hid ?_
            intro v' w2 hown' hbel' _
            go_wp2_with fail
            go_roundw
            case rel => exact ⟨k + 1, by omega, by go_num, hbel', by rw [HT.out]; exact own_enc (HE.out) rfl hown'⟩
            case measure => simp [intOf]; omega
    · obtain rfl : k = rs.length := by omega
      rw [List.take_length] at hown
      have hcv := fun h => conv_bytes (P := Tryd.prog) (src := 41) (dst := 9) hown h Tryd.underlying5 Tryd.underlying9
      replace hcv := hcv Tryd.underlying41
      go_wp2_with fail
      go_ret
      exact ⟨rfl, hbel⟩
end Go.Proofs.YtjhmehmmpfnnkaaDoor
