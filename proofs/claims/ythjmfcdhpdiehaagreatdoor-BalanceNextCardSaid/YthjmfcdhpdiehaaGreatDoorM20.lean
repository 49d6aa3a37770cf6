/-
  tidewaterref03.Join, Cut.
-/
import Derived.Test.YthjmfcdhpdiehaaGreatDoorM08
namespace Go.Proofs.YthjmfcdhpdiehaaGreatDoor
open Go.RowKit Utf
set_option maxRecDepth 100000
set_option linter.unusedSimpArgs false
set_option linter.unusedVariables false

set_option maxHeartbeats 400000 in
theorem rjoin_low (lo hi lo2 hi2 : ByteArray) (w : World) (h1 : lo.size ≤ 1000000) (h2 : hi.size ≤ 1000000) (h3 : lo2.size ≤ 1000000) (h4 : hi2.size ≤ 1000000) (hr : spanR lo hi = true ∧ spanR lo2 hi2 = true) (hh : hi.data.toList.isEmpty = false) (hq : hi = lo2) :
    Calls Tryz.prog 61 #[.agg #[.string lo, .string hi], .agg #[.string lo2, .string hi2]] w fun e w' => e = .returned (.tuple #[.agg #[.string lo, .string hi2], .int .i64 0]) ∧ Below w.heap.size w w' := by
    have HR := Lib.hid hr
    clear hr
    have g1 := (str_cons hh).1
    have g2 := (str_cons hh).2
    subst hq
    clear hh
    go_enter Tryz.func61, Tryz.ntmps61
    go_wp2_with fail
    refine (rright_any lo hi _ h1 h2).mono ?_
    rintro e w1 ⟨rfl, hb1⟩
    have S1 := Lib.hid (Sp3.next (three_new w 52 #[.string lo, .string hi] #[.string hi, .string hi2] _) hb1)
    clear hb1
    rw [HR.out.1]
    have d0 := S1.out.2.2.1.cell 0
    have d1 := S1.out.2.2.1.cell 1
    go_wp2_with fail
    refine (rright_any hi hi2 _ h3 h4).mono ?_
    rintro e w2 ⟨rfl, hb2⟩
    have S2 := Lib.hid (S1.out.next hb2)
    clear hb2 d0 d1
    rw [HR.out.2]
    have c0 := S2.out.2.1.cell 0
    have c1 := S2.out.2.1.cell 1
    have c2 := S2.out.2.2.1.cell 0
    have c3 := S2.out.2.2.1.cell 1
    go_wp2_with (refine wpList_store_blk rfl 52 (.tmp 4) (.tmp 29) rfl (w.heap.size + 1 + 1) #[.string lo, .string hi2] rfl rfl 52 _ S2.out.2.2.2 rfl (by kernel_rfl) (by kernel_rfl) ?_)
    refine Lib.hid ?_
    intro w3 hz ho
    have S3 := Lib.hid (S2.out.put hz ho)
    clear hz ho
    go_wp2_with fail
    refine bodyPost_ret (results_cell_tmp rfl _ _ (w.heap.size + 1 + 1) 52 #[.string lo, .string hi2] (0, 0) _ rfl S3.out.2.2.2 Tryz.underlying52 rfl (by kernel_rfl)) rfl ?_
    exact ⟨rfl, S3.out.1⟩

set_option maxHeartbeats 400000 in
theorem rjoin_high (lo hi lo2 hi2 : ByteArray) (w : World) (h1 : lo.size ≤ 1000000) (h2 : hi.size ≤ 1000000) (h3 : lo2.size ≤ 1000000) (h4 : hi2.size ≤ 1000000) (hr : spanR lo hi = true ∧ spanR lo2 hi2 = true) (hq0 : hi.data.toList.isEmpty = true ∨ hi ≠ lo2) (hh : hi2.data.toList.isEmpty = false) (hq : hi2 = lo) :
    Calls Tryz.prog 61 #[.agg #[.string lo, .string hi], .agg #[.string lo2, .string hi2]] w fun e w' => e = .returned (.tuple #[.agg #[.string lo2, .string hi], .int .i64 0]) ∧ Below w.heap.size w w' := by
    have HR := Lib.hid hr
    clear hr
    have g1 := (str_cons hh).1
    have g2 := (str_cons hh).2
    subst hq
    clear hh
    rcases hq0 with hq0 | hq0
    · have g3 := str_nil hq0
      clear hq0
      go_enter Tryz.func61, Tryz.ntmps61
      go_wp2_with fail
      refine (rright_any hi2 hi _ h4 h2).mono ?_
      rintro e w1 ⟨rfl, hb1⟩
      have S1 := Lib.hid (Sp3.next (three_new w 52 #[.string hi2, .string hi] #[.string lo2, .string hi2] _) hb1)
      clear hb1
      rw [HR.out.1]
      have d0 := S1.out.2.2.1.cell 0
      have d1 := S1.out.2.2.1.cell 1
      go_wp2_with fail
      refine (rright_any lo2 hi2 _ h3 h4).mono ?_
      rintro e w2 ⟨rfl, hb2⟩
      have S2 := Lib.hid (S1.out.next hb2)
      clear hb2 d0 d1
      rw [HR.out.2]
      have c0 := S2.out.2.1.cell 0
      have c1 := S2.out.2.1.cell 1
      have c2 := S2.out.2.2.1.cell 0
      have c3 := S2.out.2.2.1.cell 1
      go_wp2_with (refine wpList_store_blk rfl 52 (.tmp 4) (.tmp 44) rfl (w.heap.size + 1 + 1) #[.string lo2, .string hi] rfl rfl 52 _ S2.out.2.2.2 rfl (by kernel_rfl) (by kernel_rfl) ?_)
      refine Lib.hid ?_
      intro w3 hz ho
      have S3 := Lib.hid (S2.out.put hz ho)
      clear hz ho
      go_wp2_with fail
      refine bodyPost_ret (results_cell_tmp rfl _ _ (w.heap.size + 1 + 1) 52 #[.string lo2, .string hi] (0, 0) _ rfl S3.out.2.2.2 Tryz.underlying52 rfl (by kernel_rfl)) rfl ?_
      exact ⟨rfl, S3.out.1⟩
    · by_cases hn : hi.data.toList.isEmpty = true
      · have g3 := str_nil hn
        clear hn hq0
        go_enter Tryz.func61, Tryz.ntmps61
        go_wp2_with fail
        refine (rright_any hi2 hi _ h4 h2).mono ?_
        rintro e w1 ⟨rfl, hb1⟩
        have S1 := Lib.hid (Sp3.next (three_new w 52 #[.string hi2, .string hi] #[.string lo2, .string hi2] _) hb1)
        clear hb1
        rw [HR.out.1]
        have d0 := S1.out.2.2.1.cell 0
        have d1 := S1.out.2.2.1.cell 1
        go_wp2_with fail
        refine (rright_any lo2 hi2 _ h3 h4).mono ?_
        rintro e w2 ⟨rfl, hb2⟩
        have S2 := Lib.hid (S1.out.next hb2)
        clear hb2 d0 d1
        rw [HR.out.2]
        have c0 := S2.out.2.1.cell 0
        have c1 := S2.out.2.1.cell 1
        have c2 := S2.out.2.2.1.cell 0
        have c3 := S2.out.2.2.1.cell 1
        go_wp2_with (refine wpList_store_blk rfl 52 (.tmp 4) (.tmp 44) rfl (w.heap.size + 1 + 1) #[.string lo2, .string hi] rfl rfl 52 _ S2.out.2.2.2 rfl (by kernel_rfl) (by kernel_rfl) ?_)
        refine Lib.hid ?_
        intro w3 hz ho
        have S3 := Lib.hid (S2.out.put hz ho)
        clear hz ho
        go_wp2_with fail
        refine bodyPost_ret (results_cell_tmp rfl _ _ (w.heap.size + 1 + 1) 52 #[.string lo2, .string hi] (0, 0) _ rfl S3.out.2.2.2 Tryz.underlying52 rfl (by kernel_rfl)) rfl ?_
        exact ⟨rfl, S3.out.1⟩
      · have g3 := (str_cons (by simpa using hn)).1
        have g4 := (str_cons (by simpa using hn)).2
        have g5 : ¬ hi.toList = lo2.toList := fun e => hq0 (str_ext (by rw [← Lib.toList_data, ← Lib.toList_data, e]))
        have g6 : (hi.toList == lo2.toList) = false := beq_eq_false_iff_ne.2 g5
        clear hn hq0 g5
        go_enter Tryz.func61, Tryz.ntmps61
        go_wp2_with fail
        refine (rright_any hi2 hi _ h4 h2).mono ?_
        rintro e w1 ⟨rfl, hb1⟩
        have S1 := Lib.hid (Sp3.next (three_new w 52 #[.string hi2, .string hi] #[.string lo2, .string hi2] _) hb1)
        clear hb1
        rw [HR.out.1]
        have d0 := S1.out.2.2.1.cell 0
        have d1 := S1.out.2.2.1.cell 1
        go_wp2_with fail
        refine (rright_any lo2 hi2 _ h3 h4).mono ?_
        rintro e w2 ⟨rfl, hb2⟩
        have S2 := Lib.hid (S1.out.next hb2)
        clear hb2 d0 d1
        rw [HR.out.2]
        have c0 := S2.out.2.1.cell 0
        have c1 := S2.out.2.1.cell 1
        have c2 := S2.out.2.2.1.cell 0
        have c3 := S2.out.2.2.1.cell 1
        go_wp2_with (refine wpList_store_blk rfl 52 (.tmp 4) (.tmp 44) rfl (w.heap.size + 1 + 1) #[.string lo2, .string hi] rfl rfl 52 _ S2.out.2.2.2 rfl (by kernel_rfl) (by kernel_rfl) ?_)
        refine Lib.hid ?_
        intro w3 hz ho
        have S3 := Lib.hid (S2.out.put hz ho)
        clear hz ho
        go_wp2_with fail
        refine bodyPost_ret (results_cell_tmp rfl _ _ (w.heap.size + 1 + 1) 52 #[.string lo2, .string hi] (0, 0) _ rfl S3.out.2.2.2 Tryz.underlying52 rfl (by kernel_rfl)) rfl ?_
        exact ⟨rfl, S3.out.1⟩

set_option maxHeartbeats 400000 in
theorem rjoin_bad1 (lo hi lo2 hi2 : ByteArray) (w : World) (h1 : lo.size ≤ 1000000) (h2 : hi.size ≤ 1000000) (h3 : lo2.size ≤ 1000000) (h4 : hi2.size ≤ 1000000) (hr : spanR lo hi = false) :
    Calls Tryz.prog 61 #[.agg #[.string lo, .string hi], .agg #[.string lo2, .string hi2]] w fun e w' => e = .returned (.tuple #[.agg #[.string ⟨#[]⟩, .string ⟨#[]⟩], .int .i64 4]) ∧ Below w.heap.size w w' := by
    have HR := Lib.hid hr
    clear hr
    go_enter Tryz.func61, Tryz.ntmps61
    go_wp2_with fail
    refine (rright_any lo hi _ h1 h2).mono ?_
    rintro e w1 ⟨rfl, hb1⟩
    have S1 := Lib.hid (Sp3.next (three_new w 52 #[.string lo, .string hi] #[.string lo2, .string hi2] _) hb1)
    clear hb1
    rw [HR.out]
    go_wp2_with (refine wpList_store_blk rfl 52 (.tmp 4) (.tmp 14) rfl (w.heap.size + 1 + 1) #[.string ⟨#[]⟩, .string ⟨#[]⟩] rfl rfl 52 _ S1.out.2.2.2 rfl (by kernel_rfl) (by kernel_rfl) ?_)
    refine Lib.hid ?_
    intro w4 hz ho
    have S3 := Lib.hid (S1.out.put hz ho)
    clear hz ho
    go_wp2_with fail
    refine bodyPost_ret (results_cell_tmp rfl _ _ (w.heap.size + 1 + 1) 52 #[.string ⟨#[]⟩, .string ⟨#[]⟩] (0, 0) _ rfl S3.out.2.2.2 Tryz.underlying52 rfl (by kernel_rfl)) rfl ?_
    exact ⟨rfl, S3.out.1⟩

set_option maxHeartbeats 400000 in
theorem rjoin_bad2 (lo hi lo2 hi2 : ByteArray) (w : World) (h1 : lo.size ≤ 1000000) (h2 : hi.size ≤ 1000000) (h3 : lo2.size ≤ 1000000) (h4 : hi2.size ≤ 1000000) (hr : spanR lo hi = true ∧ spanR lo2 hi2 = false) :
    Calls Tryz.prog 61 #[.agg #[.string lo, .string hi], .agg #[.string lo2, .string hi2]] w fun e w' => e = .returned (.tuple #[.agg #[.string ⟨#[]⟩, .string ⟨#[]⟩], .int .i64 4]) ∧ Below w.heap.size w w' := by
    have HR := Lib.hid hr
    clear hr
    go_enter Tryz.func61, Tryz.ntmps61
    go_wp2_with fail
    refine (rright_any lo hi _ h1 h2).mono ?_
    rintro e w1 ⟨rfl, hb1⟩
    have S1 := Lib.hid (Sp3.next (three_new w 52 #[.string lo, .string hi] #[.string lo2, .string hi2] _) hb1)
    clear hb1
    rw [HR.out.1]
    have d0 := S1.out.2.2.1.cell 0
    have d1 := S1.out.2.2.1.cell 1
    go_wp2_with fail
    refine (rright_any lo2 hi2 _ h3 h4).mono ?_
    rintro e w2 ⟨rfl, hb2⟩
    have S2 := Lib.hid (S1.out.next hb2)
    clear hb2 d0 d1
    rw [HR.out.2]
    go_wp2_with (refine wpList_store_blk rfl 52 (.tmp 4) (.tmp 14) rfl (w.heap.size + 1 + 1) #[.string ⟨#[]⟩, .string ⟨#[]⟩] rfl rfl 52 _ S2.out.2.2.2 rfl (by kernel_rfl) (by kernel_rfl) ?_)
    refine Lib.hid ?_
    intro w4 hz ho
    have S3 := Lib.hid (S2.out.put hz ho)
    clear hz ho
    go_wp2_with fail
    refine bodyPost_ret (results_cell_tmp rfl _ _ (w.heap.size + 1 + 1) 52 #[.string ⟨#[]⟩, .string ⟨#[]⟩] (0, 0) _ rfl S3.out.2.2.2 Tryz.underlying52 rfl (by kernel_rfl)) rfl ?_
    exact ⟨rfl, S3.out.1⟩

set_option maxHeartbeats 400000 in
theorem rjoin_bad3 (lo hi lo2 hi2 : ByteArray) (w : World) (h1 : lo.size ≤ 1000000) (h2 : hi.size ≤ 1000000) (h3 : lo2.size ≤ 1000000) (h4 : hi2.size ≤ 1000000) (hr : spanR lo hi = true ∧ spanR lo2 hi2 = true) (hx : hi.data.toList.isEmpty = true) (hy : hi2.data.toList.isEmpty = true) :
    Calls Tryz.prog 61 #[.agg #[.string lo, .string hi], .agg #[.string lo2, .string hi2]] w fun e w' => e = .returned (.tuple #[.agg #[.string ⟨#[]⟩, .string ⟨#[]⟩], .int .i64 1]) ∧ Below w.heap.size w w' := by
    have HR := Lib.hid hr
    clear hr
    have g3 := str_nil hx
    clear hx
    have g7 := str_nil hy
    clear hy
    go_enter Tryz.func61, Tryz.ntmps61
    go_wp2_with fail
    refine (rright_any lo hi _ h1 h2).mono ?_
    rintro e w1 ⟨rfl, hb1⟩
    have S1 := Lib.hid (Sp3.next (three_new w 52 #[.string lo, .string hi] #[.string lo2, .string hi2] _) hb1)
    clear hb1
    rw [HR.out.1]
    have d0 := S1.out.2.2.1.cell 0
    have d1 := S1.out.2.2.1.cell 1
    go_wp2_with fail
    refine (rright_any lo2 hi2 _ h3 h4).mono ?_
    rintro e w2 ⟨rfl, hb2⟩
    have S2 := Lib.hid (S1.out.next hb2)
    clear hb2 d0 d1
    rw [HR.out.2]
    have c0 := S2.out.2.1.cell 0
    have c1 := S2.out.2.1.cell 1
    have c2 := S2.out.2.2.1.cell 0
    have c3 := S2.out.2.2.1.cell 1
    go_wp2_with (refine wpList_store_blk rfl 52 (.tmp 4) (.tmp 45) rfl (w.heap.size + 1 + 1) #[.string ⟨#[]⟩, .string ⟨#[]⟩] rfl rfl 52 _ S2.out.2.2.2 rfl (by kernel_rfl) (by kernel_rfl) ?_)
    refine Lib.hid ?_
    intro w4 hz ho
    have S3 := Lib.hid (S2.out.put hz ho)
    clear hz ho
    go_wp2_with fail
    refine bodyPost_ret (results_cell_tmp rfl _ _ (w.heap.size + 1 + 1) 52 #[.string ⟨#[]⟩, .string ⟨#[]⟩] (0, 0) _ rfl S3.out.2.2.2 Tryz.underlying52 rfl (by kernel_rfl)) rfl ?_
    exact ⟨rfl, S3.out.1⟩

set_option maxHeartbeats 400000 in
theorem rjoin_bad4 (lo hi lo2 hi2 : ByteArray) (w : World) (h1 : lo.size ≤ 1000000) (h2 : hi.size ≤ 1000000) (h3 : lo2.size ≤ 1000000) (h4 : hi2.size ≤ 1000000) (hr : spanR lo hi = true ∧ spanR lo2 hi2 = true) (hx : hi.data.toList.isEmpty = true) (hy : hi2.data.toList.isEmpty = false) (hy2 : hi2 ≠ lo) :
    Calls Tryz.prog 61 #[.agg #[.string lo, .string hi], .agg #[.string lo2, .string hi2]] w fun e w' => e = .returned (.tuple #[.agg #[.string ⟨#[]⟩, .string ⟨#[]⟩], .int .i64 1]) ∧ Below w.heap.size w w' := by
    have HR := Lib.hid hr
    clear hr
    have g3 := str_nil hx
    clear hx
    have g7 := (str_cons hy).1
    have g8 := (str_cons hy).2
    have g9 : (hi2.toList == lo.toList) = false := beq_eq_false_iff_ne.2 (fun e => hy2 (str_ext (by rw [← Lib.toList_data, ← Lib.toList_data, e])))
    clear hy hy2
    go_enter Tryz.func61, Tryz.ntmps61
    go_wp2_with fail
    refine (rright_any lo hi _ h1 h2).mono ?_
    rintro e w1 ⟨rfl, hb1⟩
    have S1 := Lib.hid (Sp3.next (three_new w 52 #[.string lo, .string hi] #[.string lo2, .string hi2] _) hb1)
    clear hb1
    rw [HR.out.1]
    have d0 := S1.out.2.2.1.cell 0
    have d1 := S1.out.2.2.1.cell 1
    go_wp2_with fail
    refine (rright_any lo2 hi2 _ h3 h4).mono ?_
    rintro e w2 ⟨rfl, hb2⟩
    have S2 := Lib.hid (S1.out.next hb2)
    clear hb2 d0 d1
    rw [HR.out.2]
    have c0 := S2.out.2.1.cell 0
    have c1 := S2.out.2.1.cell 1
    have c2 := S2.out.2.2.1.cell 0
    have c3 := S2.out.2.2.1.cell 1
    go_wp2_with (refine wpList_store_blk rfl 52 (.tmp 4) (.tmp 45) rfl (w.heap.size + 1 + 1) #[.string ⟨#[]⟩, .string ⟨#[]⟩] rfl rfl 52 _ S2.out.2.2.2 rfl (by kernel_rfl) (by kernel_rfl) ?_)
    refine Lib.hid ?_
    intro w4 hz ho
    have S3 := Lib.hid (S2.out.put hz ho)
    clear hz ho
    go_wp2_with fail
    refine bodyPost_ret (results_cell_tmp rfl _ _ (w.heap.size + 1 + 1) 52 #[.string ⟨#[]⟩, .string ⟨#[]⟩] (0, 0) _ rfl S3.out.2.2.2 Tryz.underlying52 rfl (by kernel_rfl)) rfl ?_
    exact ⟨rfl, S3.out.1⟩

set_option maxHeartbeats 400000 in
theorem rjoin_bad5 (lo hi lo2 hi2 : ByteArray) (w : World) (h1 : lo.size ≤ 1000000) (h2 : hi.size ≤ 1000000) (h3 : lo2.size ≤ 1000000) (h4 : hi2.size ≤ 1000000) (hr : spanR lo hi = true ∧ spanR lo2 hi2 = true) (hx : hi.data.toList.isEmpty = false) (hx2 : hi ≠ lo2) (hy : hi2.data.toList.isEmpty = true) :
    Calls Tryz.prog 61 #[.agg #[.string lo, .string hi], .agg #[.string lo2, .string hi2]] w fun e w' => e = .returned (.tuple #[.agg #[.string ⟨#[]⟩, .string ⟨#[]⟩], .int .i64 1]) ∧ Below w.heap.size w w' := by
    have HR := Lib.hid hr
    clear hr
    have g3 := (str_cons hx).1
    have g4 := (str_cons hx).2
    have g6 : (hi.toList == lo2.toList) = false := beq_eq_false_iff_ne.2 (fun e => hx2 (str_ext (by rw [← Lib.toList_data, ← Lib.toList_data, e])))
    clear hx hx2
    have g7 := str_nil hy
    clear hy
    go_enter Tryz.func61, Tryz.ntmps61
    go_wp2_with fail
    refine (rright_any lo hi _ h1 h2).mono ?_
    rintro e w1 ⟨rfl, hb1⟩
    have S1 := Lib.hid (Sp3.next (three_new w 52 #[.string lo, .string hi] #[.string lo2, .string hi2] _) hb1)
    clear hb1
    rw [HR.out.1]
    have d0 := S1.out.2.2.1.cell 0
    have d1 := S1.out.2.2.1.cell 1
    go_wp2_with fail
    refine (rright_any lo2 hi2 _ h3 h4).mono ?_
    rintro e w2 ⟨rfl, hb2⟩
    have S2 := Lib.hid (S1.out.next hb2)
    clear hb2 d0 d1
    rw [HR.out.2]
    have c0 := S2.out.2.1.cell 0
    have c1 := S2.out.2.1.cell 1
    have c2 := S2.out.2.2.1.cell 0
    have c3 := S2.out.2.2.1.cell 1
    go_wp2_with (refine wpList_store_blk rfl 52 (.tmp 4) (.tmp 45) rfl (w.heap.size + 1 + 1) #[.string ⟨#[]⟩, .string ⟨#[]⟩] rfl rfl 52 _ S2.out.2.2.2 rfl (by kernel_rfl) (by kernel_rfl) ?_)
    refine Lib.hid ?_
    intro w4 hz ho
    have S3 := Lib.hid (S2.out.put hz ho)
    clear hz ho
    go_wp2_with fail
    refine bodyPost_ret (results_cell_tmp rfl _ _ (w.heap.size + 1 + 1) 52 #[.string ⟨#[]⟩, .string ⟨#[]⟩] (0, 0) _ rfl S3.out.2.2.2 Tryz.underlying52 rfl (by kernel_rfl)) rfl ?_
    exact ⟨rfl, S3.out.1⟩

set_option maxHeartbeats 400000 in
theorem rjoin_bad6 (lo hi lo2 hi2 : ByteArray) (w : World) (h1 : lo.size ≤ 1000000) (h2 : hi.size ≤ 1000000) (h3 : lo2.size ≤ 1000000) (h4 : hi2.size ≤ 1000000) (hr : spanR lo hi = true ∧ spanR lo2 hi2 = true) (hx : hi.data.toList.isEmpty = false) (hx2 : hi ≠ lo2) (hy : hi2.data.toList.isEmpty = false) (hy2 : hi2 ≠ lo) :
    Calls Tryz.prog 61 #[.agg #[.string lo, .string hi], .agg #[.string lo2, .string hi2]] w fun e w' => e = .returned (.tuple #[.agg #[.string ⟨#[]⟩, .string ⟨#[]⟩], .int .i64 1]) ∧ Below w.heap.size w w' := by
    have HR := Lib.hid hr
    clear hr
    have g3 := (str_cons hx).1
    have g4 := (str_cons hx).2
    have g6 : (hi.toList == lo2.toList) = false := beq_eq_false_iff_ne.2 (fun e => hx2 (str_ext (by rw [← Lib.toList_data, ← Lib.toList_data, e])))
    clear hx hx2
    have g7 := (str_cons hy).1
    have g8 := (str_cons hy).2
    have g9 : (hi2.toList == lo.toList) = false := beq_eq_false_iff_ne.2 (fun e => hy2 (str_ext (by rw [← Lib.toList_data, ← Lib.toList_data, e])))
    clear hy hy2
    go_enter Tryz.func61, Tryz.ntmps61
    go_wp2_with fail
    refine (rright_any lo hi _ h1 h2).mono ?_
    rintro e w1 ⟨rfl, hb1⟩
    have S1 := Lib.hid (Sp3.next (three_new w 52 #[.string lo, .string hi] #[.string lo2, .string hi2] _) hb1)
    clear hb1
    rw [HR.out.1]
    have d0 := S1.out.2.2.1.cell 0
    have d1 := S1.out.2.2.1.cell 1
    go_wp2_with fail
    refine (rright_any lo2 hi2 _ h3 h4).mono ?_
    rintro e w2 ⟨rfl, hb2⟩
    have S2 := Lib.hid (S1.out.next hb2)
    clear hb2 d0 d1
    rw [HR.out.2]
    have c0 := S2.out.2.1.cell 0
    have c1 := S2.out.2.1.cell 1
    have c2 := S2.out.2.2.1.cell 0
    have c3 := S2.out.2.2.1.cell 1
    go_wp2_with (refine wpList_store_blk rfl 52 (.tmp 4) (.tmp 45) rfl (w.heap.size + 1 + 1) #[.string ⟨#[]⟩, .string ⟨#[]⟩] rfl rfl 52 _ S2.out.2.2.2 rfl (by kernel_rfl) (by kernel_rfl) ?_)
    refine Lib.hid ?_
    intro w4 hz ho
    have S3 := Lib.hid (S2.out.put hz ho)
    clear hz ho
    go_wp2_with fail
    refine bodyPost_ret (results_cell_tmp rfl _ _ (w.heap.size + 1 + 1) 52 #[.string ⟨#[]⟩, .string ⟨#[]⟩] (0, 0) _ rfl S3.out.2.2.2 Tryz.underlying52 rfl (by kernel_rfl)) rfl ?_
    exact ⟨rfl, S3.out.1⟩

/-- span.Join, all told. -/
theorem rjoin_any (lo hi lo2 hi2 : ByteArray) (w : World) (h1 : lo.size ≤ 1000000) (h2 : hi.size ≤ 1000000) (h3 : lo2.size ≤ 1000000) (h4 : hi2.size ≤ 1000000) :
    Calls Tryz.prog 61 #[.agg #[.string lo, .string hi], .agg #[.string lo2, .string hi2]] w fun e w' => (match joinB lo hi lo2 hi2 with
      | some s => e = .returned (.tuple #[.agg #[.string s.1, .string s.2], .int .i64 0])
      | none => ∃ n : Int, e = .returned (.tuple #[.agg #[.string ⟨#[]⟩, .string ⟨#[]⟩], .int .i64 n]) ∧ (n == 0) = false) ∧ Below w.heap.size w w' := by
  unfold joinB
  cases hr1 : spanR lo hi with
  | false => exact (rjoin_bad1 lo hi lo2 hi2 w h1 h2 h3 h4 hr1).mono fun e w' h => ⟨⟨_, h.1, by decide⟩, h.2⟩
  | true =>
    cases hr2 : spanR lo2 hi2 with
    | false => exact (rjoin_bad2 lo hi lo2 hi2 w h1 h2 h3 h4 ⟨hr1, hr2⟩).mono fun e w' h => ⟨⟨_, h.1, by decide⟩, h.2⟩
    | true =>
      have hr := And.intro hr1 hr2
      simp only [Bool.and_self, Bool.not_true, Bool.false_eq_true, if_false]
      cases hx : hi.data.toList.isEmpty with
      | false =>
        by_cases hq : hi = lo2
        · rw [if_pos (by simp [hq])]
          exact rjoin_low lo hi lo2 hi2 w h1 h2 h3 h4 hr hx hq
        · rw [if_neg (by simp [hq])]
          cases hy : hi2.data.toList.isEmpty with
          | false =>
            by_cases hq2 : hi2 = lo
            · rw [if_pos (by simp [hq2])]
              exact rjoin_high lo hi lo2 hi2 w h1 h2 h3 h4 hr (.inr hq) hy hq2
            · rw [if_neg (by simp [hq2])]
              exact (rjoin_bad6 lo hi lo2 hi2 w h1 h2 h3 h4 hr hx hq hy hq2).mono fun e w' h => ⟨⟨_, h.1, by decide⟩, h.2⟩
          | true =>
            rw [if_neg (by simp)]
            exact (rjoin_bad5 lo hi lo2 hi2 w h1 h2 h3 h4 hr hx hq hy).mono fun e w' h => ⟨⟨_, h.1, by decide⟩, h.2⟩
      | true =>
        rw [if_neg (by simp)]
        cases hy : hi2.data.toList.isEmpty with
        | false =>
          by_cases hq2 : hi2 = lo
          · rw [if_pos (by simp [hq2])]
            exact rjoin_high lo hi lo2 hi2 w h1 h2 h3 h4 hr (.inl hx) hy hq2
          · rw [if_neg (by simp [hq2])]
            exact (rjoin_bad4 lo hi lo2 hi2 w h1 h2 h3 h4 hr hx hy hq2).mono fun e w' h => ⟨⟨_, h.1, by decide⟩, h.2⟩
        | true =>
          rw [if_neg (by simp)]
          exact (rjoin_bad3 lo hi lo2 hi2 w h1 h2 h3 h4 hr hx hy).mono fun e w' h => ⟨⟨_, h.1, by decide⟩, h.2⟩

set_option maxHeartbeats 400000 in
theorem rcut_ok (lo hi k : ByteArray) (w : World) (h1 : lo.size ≤ 1000000) (h2 : hi.size ≤ 1000000) (h3 : k.size ≤ 1000000) (hh : hasB lo hi k = true) (hn : k ≠ lo) :
    Calls Tryz.prog 60 #[.agg #[.string lo, .string hi], .string k] w fun e w' => e = .returned (.tuple #[.agg #[.string lo, .string k], .agg #[.string k, .string hi], .int .i64 0]) ∧ Below w.heap.size w w' := by
    have hr : spanR lo hi = true ∧ isKey k = true := by
      unfold hasB at hh
      simp only [Bool.and_eq_true] at hh
      exact ⟨hh.1.1.1, hh.1.1.2⟩
    have g9 : (k.toList == lo.toList) = false := beq_eq_false_iff_ne.2 (fun e => hn (str_ext (by rw [← Lib.toList_data, ← Lib.toList_data, e])))
    have HR := Lib.hid hr
    have HH := Lib.hid hh
    clear hr hh hn
    go_enter Tryz.func60, Tryz.ntmps60
    go_wp2_with fail
    refine (rright_any lo hi _ h1 h2).mono ?_
    rintro e w1 ⟨rfl, hb1⟩
    have S1 := Lib.hid (Sp3.next (three_new w 52 #[.string lo, .string hi] #[.string ByteArray.empty, .string ByteArray.empty] #[.string ByteArray.empty, .string ByteArray.empty]) hb1)
    clear hb1
    rw [HR.out.1]
    go_wp2_with fail
    refine (refKey_any k _ h3).mono ?_
    rintro e w2 ⟨rfl, hb2⟩
    have S2 := Lib.hid (S1.out.next hb2)
    clear hb2
    rw [show keyNum k = 0 from of_decide_eq_true HR.out.2]
    have c0 := S2.out.2.1.cell 0
    have c1 := S2.out.2.1.cell 1
    go_wp2_with fail
    refine (rhas_any lo hi k _ h1 h2 h3).mono ?_
    rintro e w3 ⟨rfl, hb3⟩
    have S3 := Lib.hid (S2.out.next hb3)
    clear hb3 c0 c1
    rw [HH.out]
    have c0 := S3.out.2.1.cell 0
    have c1 := S3.out.2.1.cell 1
    go_wp2_with fail
    have d0 := S3.out.2.2.2.cell 0
    have d1 := S3.out.2.2.2.cell 1
    have f0 := S3.out.2.2.2.frozen 0
    have f1 := S3.out.2.2.2.frozen 1
    have d2 := S3.out.2.2.1.cell 0
    have d3 := S3.out.2.2.1.cell 1
    have f2 := S3.out.2.2.1.frozen 0
    have f3 := S3.out.2.2.1.frozen 1
    go_region
    clear d0 d1 f0 f1 d2 d3 f2 f3 c0 c1
    have S4 := Lib.hid (((S3.out.put2' (.string lo) (.string k)).put2 (.string k) (.string hi)).draw 1)
    go_wp2_with fail
    refine bodyPost_ret (results_cell2_tmp rfl _ _ (w.heap.size + 1) (w.heap.size + 1 + 1) 52 52 #[.string lo, .string k] #[.string k, .string hi] (0, 0) (0, 0) _ rfl S4.out.2.2.1 rfl S4.out.2.2.2 Tryz.underlying52 rfl (by kernel_rfl) (by kernel_rfl)) rfl ?_
    exact ⟨rfl, S4.out.1⟩
end Go.Proofs.YthjmfcdhpdiehaaGreatDoor
