/-
  The chapter's example: lines.Parse of 'get 1 "a"'.
-/
import Derived.Test.YtjhmehmmpfnnkaaDoorLParse
namespace Go.Proofs.YtjhmehmmpfnnkaaDoor
open Go.RowKit Utf
set_option maxRecDepth 100000
set_option linter.unusedSimpArgs false
set_option linter.unusedVariables false

def aliveL : List Nat := [103, 101, 116, 32, 49, 32, 34, 97, 34]
def aliveP : PL := ⟨{ PW.zero with kind := 4, n := 1, key := [97] }, [], []⟩
theorem alive_words : wordsL aliveL = some [[103, 101, 116], [49], [34, 97, 34]] := by kernel_rfl
theorem alive_parse : parseW [[103, 101, 116], [49], [34, 97, 34]] = (0, some aliveP) := by kernel_rfl
theorem alive_enc : (⟨#[103, 101, 116, 32, 49, 32, 34, 97, 34]⟩ : ByteArray).data.toList = encAll aliveL := by decide +kernel
theorem alive_ok : allOk aliveL := by
  intro c hc
  simp only [aliveL, List.mem_cons, List.not_mem_nil, or_false] at hc
  rcases hc with rfl | rfl | rfl | rfl | rfl | rfl | rfl | rfl | rfl <;> decide +kernel
theorem alive_a : ((mkS (encAll [97])).toList == [97]) = true := by
  rw [Lib.toList_data]; decide +kernel

set_option maxHeartbeats 4000000 in
theorem alive_any (ea : Nat → Addr) (w : World) (he : LErr w ea) :
    Calls Tryd.prog 8 #[] w fun e w' => e = .returned (.bool true) ∧ Below w.heap.size w w' := by
  have HP := Lib.hid (parse_some ea ⟨#[103, 101, 116, 32, 49, 32, 34, 97, 34]⟩ aliveL [103, 101, 116] [[49], [34, 97, 34]] w (by decide) alive_ok alive_enc he alive_words)
  clear he
  go_enter Tryd.func8, Tryd.ntmps8
  go_wp2_with fail
  refine HP.out.mono ?_
  rintro e w1 ⟨hb1, hres⟩
  rcases hres with ⟨m, h1, rfl⟩ | ⟨l, vo, vg, h1, rfl, ho1, ho2⟩
  · rw [alive_parse] at h1; cases h1
  rw [alive_parse] at h1
  obtain rfl : aliveP = l := by simpa using h1
  have HON := Lib.hid (wCells_one aliveP.p vo vg (own_slice1 ho1) (own_slice1 ho2))
  have HB1 := Lib.hid hb1
  have HZ := Lib.hid (Blk.new w1 48 wZero)
  have HSQ := Lib.hid ((wCells_size aliveP.p vo vg).trans wZero_size.symm)
  have HSI := Lib.hid (show (Tryd.prog.info? 48).map (·.size) = some (wCells aliveP.p vo vg).size by rw [wCells_size]; exact Tryd.sizeW)
  clear hb1 ho1 ho2 h1
  go_wp2_with (refine wpList_store_blk rfl 48 (.tmp 1) (.tmp 5) rfl w1.heap.size (wCells aliveP.p vo vg) rfl rfl 48 wZero HZ.out HSQ.out HSI.out HON.out ?_)
  refine Lib.hid ?_
  intro w2 hz2 ho2
  have c0 : w2.cell? ⟨w1.heap.size, 0, none⟩ = some (.int .i64 4) := hz2.cell 0
  have c2 : w2.cell? ⟨w1.heap.size, 2, none⟩ = some (.int .i64 1) := hz2.cell 2
  have c17 : w2.cell? ⟨w1.heap.size, 17, none⟩ = some (.string (mkS (encAll [97]))) := hz2.cell 17
  have hq := alive_a
  have HB2 := Lib.hid (show Below w.heap.size w w2 from (HB1.out.alloc HB1.out.size _).trans (ho2.to_below (by simp; have := HB1.out.size; omega) (fun k hk h => by have := HB1.out.size; omega)))
  clear hz2 ho2
  generalize mkS (encAll [97]) = sa at *
  go_wp2_with fail
  go_ret
  exact ⟨rfl, HB2.out⟩
end Go.Proofs.YtjhmehmmpfnnkaaDoor
