/-
  The contract of lines.Parse: a line without right words, without words.
-/
import Derived.Test.YtjhmehmmpfnnkaaDoorLStore
namespace Go.Proofs.YtjhmehmmpfnnkaaDoor
open Go.RowKit Utf
set_option maxRecDepth 100000
set_option linter.unusedSimpArgs false
set_option linter.unusedVariables false

def wZero : Array Value := #[.int .i64 0, .int .i64 0, .int .i64 0, .int .i64 0, .slice none 0 0, .int .i64 0, .int .i64 0, .int .i64 0, .int .i64 0, .int .i64 0, .int .i64 0, .slice none 0 0, .string ByteArray.empty,
    .int .i64 0, .int .i64 0, .int .i64 0, .slice none 0 0, .string ByteArray.empty, .string ByteArray.empty, .string ByteArray.empty, .slice none 0 0, .int .u64 0, .int .i64 0, .int .i64 0]

theorem wZero_one : wZero.all (·.oneCell') = true := by kernel_rfl
theorem Tryd.sizeW : (Tryd.prog.info? 48).map (·.size) = some 24 := by kernel_rfl

set_option maxHeartbeats 4000000 in
theorem parse_bad (ea : Nat → Addr) (s : ByteArray) (rs : List Nat) (w : World) (hs : s.size ≤ 1000000) (ho : allOk rs) (h : s.data.toList = encAll rs) (he : LErr w ea) (hw : wordsL rs = none) :
    Calls Tryd.prog 17 #[.string s] w fun e w' => e = .returned (.tuple #[.agg wZero, errOf ea 4]) ∧ Below w.heap.size w w' := by
  have HW := Lib.hid (fun W he => words_some ea s rs W hs ho h he)
  have hz := Blk.new w 48 wZero
  have HZ := Lib.hid hz
  have HE := Lib.hid (he.only (S := fun _ => False) ((Only.refl _ w).alloc (.cells wZero 48)) (fun _ h => h.elim))
  have HN := Lib.hid hw
  clear h ho he hz hw
  go_enter Tryd.func17, Tryd.ntmps17
  go_wp2_with fail
  refine (HW.out _ HE.out).mono ?_
  rintro e w1 ⟨hb1, hres⟩
  rcases hres with ⟨ws, v, h1, rfl, h3⟩ | ⟨h1, rfl⟩
  · exact absurd (HN.out.symm.trans h1) (by simp)
  have HZ2 := Lib.hid ((HZ.out.below hb1 HZ.out.lt).alloc (.cells #[.slice none 0 0] 22))
  have HO1 := Lib.hid (show Only (fun _ => False) w (w1.alloc (.cells #[.slice none 0 0] 22)) from (((Only.refl _ w).alloc _).trans (Only.below_all hb1)).alloc _)
  clear hb1
  go_wp2_with (refine wpList_store_blk rfl 48 (.tmp 2) (.tmp 20) rfl w.heap.size wZero rfl rfl 48 wZero HZ2.out rfl Tryd.sizeW wZero_one ?_)
  refine Lib.hid ?_
  intro w2 hz2 ho2
  have HZ3 := Lib.hid hz2
  have HO3 := Lib.hid ho2
  clear hz2 ho2
  go_wp2_with fail
  refine bodyPost_ret (results_cell_tmp rfl _ _ w.heap.size 48 wZero (0, 0) _ rfl HZ3.out Tryd.underlying48 rfl Tryd.sizeW) rfl ?_
  exact ⟨rfl, (HO1.out.step HO3.out (fun k hk => .inr (Nat.le_of_eq hk.symm))).to_below (Nat.le_refl _) (fun _ _ h => h)⟩

set_option maxHeartbeats 4000000 in
theorem parse_empty (ea : Nat → Addr) (s : ByteArray) (rs : List Nat) (w : World) (hs : s.size ≤ 1000000) (ho : allOk rs) (h : s.data.toList = encAll rs) (he : LErr w ea) (hw : wordsL rs = some []) :
    Calls Tryd.prog 17 #[.string s] w fun e w' => e = .returned (.tuple #[.agg wZero, errOf ea 16]) ∧ Below w.heap.size w w' := by
  have HW := Lib.hid (fun W he => words_some ea s rs W hs ho h he)
  have hz := Blk.new w 48 wZero
  have HZ := Lib.hid hz
  have HE := Lib.hid (he.only (S := fun _ => False) ((Only.refl _ w).alloc (.cells wZero 48)) (fun _ h => h.elim))
  have HN := Lib.hid hw
  have HEE := Lib.hid he
  clear h ho he hz hw
  go_enter Tryd.func17, Tryd.ntmps17
  go_wp2_with fail
  refine (HW.out _ HE.out).mono ?_
  rintro e w1 ⟨hb1, hres⟩
  rcases hres with ⟨ws, v, h1, rfl, h3⟩ | ⟨h1, rfl⟩
  rotate_left
  · exact absurd (HN.out.symm.trans h1) (by simp)
  obtain rfl : ws = [] := (Option.some.inj (HN.out.symm.trans h1)).symm
  obtain ⟨ao, cap, rfl, -⟩ := h3.row
  have HZ2 := Lib.hid ((HZ.out.below hb1 HZ.out.lt).alloc (.cells #[.slice ao ([] : List (List Nat)).length cap] 22))
  have HO1 := Lib.hid (show Only (fun _ => False) w (w1.alloc (.cells #[.slice ao ([] : List (List Nat)).length cap] 22)) from (((Only.refl _ w).alloc _).trans (Only.below_all hb1)).alloc _)
  have HE2 := Lib.hid ((HE.out.below hb1).only (S := fun _ => False) ((Only.refl _ w1).alloc (.cells #[.slice ao ([] : List (List Nat)).length cap] 22)) (fun _ h => h.elim))
  clear hb1
  simp only [List.length_nil] at HZ2 HO1 HE2 ⊢
  have ke := HE2.out.none
  go_wp2_with fail
  refine wp_region_held_drew (S := fun W => W.cell? ⟨15, 0, none⟩ = some (.iface 163 (.pointer (some (ea 15))))) (by kernel_rfl) ke ?_
  intro hS
  refine wpAnyH_take (i := 0) (v := .agg wZero) rfl (by kernel_rfl) (by kernel_rfl) (by kernel_rfl) (fun _ _ _ h => h) (.inl ⟨by rfl, fun W _ => by kernel_rfl⟩) hS ?_
  refine wpAnyH_take (i := 1) (v := .iface 163 (.pointer (some (ea 15)))) rfl (by kernel_rfl) (by kernel_rfl) (by kernel_rfl) (fun _ _ _ h => h) (.inl ⟨by rfl, fun W hW => by go_simp⟩) hS ?_
  refine wpAnyH_ready (rs := [2]) (by kernel_rfl) (by simp) ?_
  refine AllReadyH.cons rfl (fun K hK => ?_) AllReadyH.nil
  rw [if_pos (by rfl)]
  refine wp_store_blk 48 (.tmp 2) (.tmp 26) rfl w.heap.size wZero rfl rfl 48 wZero (Blk.drewN HZ2.out 1) rfl Tryd.sizeW wZero_one ?_
  intro w2 hz2 ho2
  have HZ3 := Lib.hid hz2
  have HO3 := Lib.hid ho2
  refine hK.out _ _ (ho2.cell hS (fun h => by have := World.block_lt_of_cell? w _ (HEE.out.none); simp only at h this; omega)) (fun hS => ?_)
  clear hK K
  refine wpAnyH_take (i := 3) (v := .iface 163 (.pointer (some (ea 15)))) rfl (by kernel_rfl) (by kernel_rfl) (by kernel_rfl) (fun _ _ _ h => h) (.inl ⟨by rfl, fun W hW => by go_simp⟩) hS ?_
  refine wpAnyH_done (by kernel_rfl) ?_ _
  clear hz2 ho2
  go_wp2_with fail
  refine bodyPost_ret (results_cell_tmp rfl _ _ w.heap.size 48 wZero (0, 0) _ rfl HZ3.out Tryd.underlying48 rfl Tryd.sizeW) rfl ?_
  exact ⟨rfl, (Only.step (Only.drewN HO1.out 1) HO3.out (fun k hk => .inr (Nat.le_of_eq hk.symm))).to_below (Nat.le_refl _) (fun _ _ h => h)⟩
end Go.Proofs.YtjhmehmmpfnnkaaDoor
