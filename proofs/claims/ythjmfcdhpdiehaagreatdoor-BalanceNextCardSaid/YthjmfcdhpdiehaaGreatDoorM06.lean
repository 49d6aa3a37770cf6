/-
  span.Join, span.Cut.
  A map of shards in memory: find, Shard, Shards, Events, Copy, New.
  shards.New, Copy.
-/
import Derived.Test.YthjmfcdhpdiehaaGreatDoorM05
namespace Go.Proofs.YthjmfcdhpdiehaaGreatDoor
open Go.RowKit Utf
set_option maxRecDepth 100000
set_option linter.unusedSimpArgs false
set_option linter.unusedVariables false

/-- Two spans as one. -/
def joinB (lo hi lo2 hi2 : ByteArray) : Option (ByteArray × ByteArray) :=
  if !(spanR lo hi && spanR lo2 hi2) then none
  else if !hi.data.toList.isEmpty && decide (hi = lo2) then some (lo, hi2)
  else if !hi2.data.toList.isEmpty && decide (hi2 = lo) then some (lo2, hi)
  else none

theorem results_cell2_tmp {P : Program} {fn : Func} {p p2 q : Tmp} {ty : TypeId} (h : fn.results = #[.cell p ty, .cell p2 ty, .tmp q]) (tmps : Array Value) (w : World) (g g2 : Nat) (t t2 : TypeId) (cs cs2 : Array Value) (fr fr2 : Nat × Nat) (d : TypeDesc)
    (hp : tmps.getD p undef = .pointer (some ⟨g, 0, none⟩)) (hg : w.heap[g]? = some (.cells cs t fr)) (hp2 : tmps.getD p2 undef = .pointer (some ⟨g2, 0, none⟩)) (hg2 : w.heap[g2]? = some (.cells cs2 t2 fr2))
    (hu : P.underlying ty = some d) (hd : (match d with | .struct _ | .array _ _ => true | _ => false) = true) (hi : (P.info? ty).map (·.size) = some cs.size) (hi2 : (P.info? ty).map (·.size) = some cs2.size) :
    (results fn tmps).run P w = .ok (.tuple #[.agg cs, .agg cs2, tmps.getD q undef]) w := by
  have hp' : tmps[p]?.getD undef = .pointer (some ⟨g, 0, none⟩) := by simpa using hp
  have hp2' : tmps[p2]?.getD undef = .pointer (some ⟨g2, 0, none⟩) := by simpa using hp2
  simp [results, h, hp', hp2', asAddr, run_loadVar_row w g t ty cs fr d hg hu hd hi, run_loadVar_row w g2 t2 ty cs2 fr2 d hg2 hu hd hi2]

/-- Two boxes and a result's cell. -/
theorem three_new (w : World) (t : TypeId) (a b c : Array Value) : Below w.heap.size w (((w.alloc (.cells a t)).alloc (.cells b t)).alloc (.cells c t)) ∧ Blk (((w.alloc (.cells a t)).alloc (.cells b t)).alloc (.cells c t)) w.heap.size t a ∧
    Blk (((w.alloc (.cells a t)).alloc (.cells b t)).alloc (.cells c t)) (w.heap.size + 1) t b ∧ Blk (((w.alloc (.cells a t)).alloc (.cells b t)).alloc (.cells c t)) (w.heap.size + 1 + 1) t c := by
  refine ⟨((below_alloc w _).alloc (by simp) _).alloc (by simp; omega) _, ((Blk.new w t a).alloc _).alloc _, ?_, ?_⟩
  · have := (Blk.new (w.alloc (.cells a t)) t b).alloc (.cells c t)
    rw [World.size_alloc] at this
    exact this
  · have := Blk.new ((w.alloc (.cells a t)).alloc (.cells b t)) t c
    rw [World.size_alloc, World.size_alloc] at this
    exact this
/-- How span's walks stand: three blocks that were made. -/
def Sp3 (w W : World) (a b c : Array Value) : Prop := Below w.heap.size w W ∧ Blk W w.heap.size 52 a ∧ Blk W (w.heap.size + 1) 52 b ∧ Blk W (w.heap.size + 1 + 1) 52 c
theorem Sp3.next {w W W' : World} {a b c : Array Value} (h : Sp3 w W a b c) (hb : Below W.heap.size W W') : Sp3 w W' a b c :=
  ⟨h.1.trans (hb.mono h.1.size), h.2.1.below hb h.2.1.lt, h.2.2.1.below hb h.2.2.1.lt, h.2.2.2.below hb h.2.2.2.lt⟩
theorem Sp3.draw {w W : World} {a b c : Array Value} (h : Sp3 w W a b c) (n : Nat) : Sp3 w (W.drewN n) a b c := ⟨tame_drewN h.1 n, h.2.1.drewN n, h.2.2.1.drewN n, h.2.2.2.drewN n⟩
/-- A result's cells are stored. -/
theorem Sp3.put {w W W' : World} {a b c c' : Array Value} (h : Sp3 w W a b c) (hz : Blk W' (w.heap.size + 1 + 1) 52 c') (ho : Only (fun k => k = w.heap.size + 1 + 1) W W') : Sp3 w W' a b c' :=
  ⟨h.1.trans (ho.to_below h.1.size (fun k hk e => by omega)), h.2.1.only ho (by omega), h.2.2.1.only ho (by omega), hz⟩
set_option maxHeartbeats 400000 in
theorem join_low (ea : Nat → Addr) (lo hi lo2 hi2 : ByteArray) (w : World) (h1 : lo.size ≤ 1000000) (h2 : hi.size ≤ 1000000) (h3 : lo2.size ≤ 1000000) (h4 : hi2.size ≤ 1000000) (he : BErr w ea) (hr : spanR lo hi = true ∧ spanR lo2 hi2 = true) (hh : hi.data.toList.isEmpty = false) (hq : hi = lo2) :
    Calls Tryz.prog 48 #[.agg #[.string lo, .string hi], .agg #[.string lo2, .string hi2]] w fun e w' => e = .returned (.tuple #[.agg #[.string lo, .string hi2], .nilIface]) ∧ Below w.heap.size w w' := by
    have HE := Lib.hid he
    have HR := Lib.hid hr
    clear he hr
    have g1 := (str_cons hh).1
    have g2 := (str_cons hh).2
    subst hq
    clear hh
    go_enter Tryz.func48, Tryz.ntmps48
    go_wp2_with fail
    refine (spanRight_any ea lo hi _ h1 h2 (HE.out.below (three_new w 52 #[.string lo, .string hi] #[.string hi, .string hi2] _).1)).mono ?_
    rintro e w1 ⟨rfl, hb1⟩
    have S1 := Lib.hid (Sp3.next (three_new w 52 #[.string lo, .string hi] #[.string hi, .string hi2] _) hb1)
    clear hb1
    rw [HR.out.1]
    have d0 := S1.out.2.2.1.cell 0
    have d1 := S1.out.2.2.1.cell 1
    go_wp2_with fail
    refine (spanRight_any ea hi hi2 _ h3 h4 (HE.out.below S1.out.1)).mono ?_
    rintro e w2 ⟨rfl, hb2⟩
    have S2 := Lib.hid (S1.out.next hb2)
    clear hb2 d0 d1
    rw [HR.out.2]
    have c0 := S2.out.2.1.cell 0
    have c1 := S2.out.2.1.cell 1
    have c2 := S2.out.2.2.1.cell 0
    have c3 := S2.out.2.2.1.cell 1
    go_wp2_with (refine wpList_store_blk rfl 52 (.tmp 4) (.tmp 32) rfl (w.heap.size + 1 + 1) #[.string lo, .string hi2] rfl rfl 52 _ S2.out.2.2.2 rfl (by kernel_rfl) (by kernel_rfl) ?_)
    refine Lib.hid ?_
    intro w3 hz ho
    have S3 := Lib.hid (S2.out.put hz ho)
    clear hz ho
    go_wp2_with fail
    refine bodyPost_ret (results_cell_tmp rfl _ _ (w.heap.size + 1 + 1) 52 #[.string lo, .string hi2] (0, 0) _ rfl S3.out.2.2.2 Tryz.underlying52 rfl (by kernel_rfl)) rfl ?_
    exact ⟨rfl, S3.out.1⟩

set_option maxHeartbeats 400000 in
theorem join_high (ea : Nat → Addr) (lo hi lo2 hi2 : ByteArray) (w : World) (h1 : lo.size ≤ 1000000) (h2 : hi.size ≤ 1000000) (h3 : lo2.size ≤ 1000000) (h4 : hi2.size ≤ 1000000) (he : BErr w ea) (hr : spanR lo hi = true ∧ spanR lo2 hi2 = true) (hq0 : hi.data.toList.isEmpty = true ∨ hi ≠ lo2) (hh : hi2.data.toList.isEmpty = false) (hq : hi2 = lo) :
    Calls Tryz.prog 48 #[.agg #[.string lo, .string hi], .agg #[.string lo2, .string hi2]] w fun e w' => e = .returned (.tuple #[.agg #[.string lo2, .string hi], .nilIface]) ∧ Below w.heap.size w w' := by
    have HE := Lib.hid he
    have HR := Lib.hid hr
    clear he hr
    have g1 := (str_cons hh).1
    have g2 := (str_cons hh).2
    subst hq
    clear hh
    rcases hq0 with hq0 | hq0
    · have g3 := str_nil hq0
      clear hq0
      go_enter Tryz.func48, Tryz.ntmps48
      go_wp2_with fail
      refine (spanRight_any ea hi2 hi _ h4 h2 (HE.out.below (three_new w 52 #[.string hi2, .string hi] #[.string lo2, .string hi2] _).1)).mono ?_
      rintro e w1 ⟨rfl, hb1⟩
      have S1 := Lib.hid (Sp3.next (three_new w 52 #[.string hi2, .string hi] #[.string lo2, .string hi2] _) hb1)
      clear hb1
      rw [HR.out.1]
      have d0 := S1.out.2.2.1.cell 0
      have d1 := S1.out.2.2.1.cell 1
      go_wp2_with fail
      refine (spanRight_any ea lo2 hi2 _ h3 h4 (HE.out.below S1.out.1)).mono ?_
      rintro e w2 ⟨rfl, hb2⟩
      have S2 := Lib.hid (S1.out.next hb2)
      clear hb2 d0 d1
      rw [HR.out.2]
      have c0 := S2.out.2.1.cell 0
      have c1 := S2.out.2.1.cell 1
      have c2 := S2.out.2.2.1.cell 0
      have c3 := S2.out.2.2.1.cell 1
      go_wp2_with (refine wpList_store_blk rfl 52 (.tmp 4) (.tmp 48) rfl (w.heap.size + 1 + 1) #[.string lo2, .string hi] rfl rfl 52 _ S2.out.2.2.2 rfl (by kernel_rfl) (by kernel_rfl) ?_)
      refine Lib.hid ?_
      intro w3 hz ho
      have S3 := Lib.hid (S2.out.put hz ho)
      clear hz ho
      go_wp2_with fail
      refine bodyPost_ret (results_cell_tmp rfl _ _ (w.heap.size + 1 + 1) 52 #[.string lo2, .string hi] (0, 0) _ rfl S3.out.2.2.2 Tryz.underlying52 rfl (by kernel_rfl)) rfl ?_
      exact ⟨rfl, S3.out.1⟩
    · by_cases hn : hi.data.toList.isEmpty = true
      · have g3 := str_nil hn
        clear hn hq0
        go_enter Tryz.func48, Tryz.ntmps48
        go_wp2_with fail
        refine (spanRight_any ea hi2 hi _ h4 h2 (HE.out.below (three_new w 52 #[.string hi2, .string hi] #[.string lo2, .string hi2] _).1)).mono ?_
        rintro e w1 ⟨rfl, hb1⟩
        have S1 := Lib.hid (Sp3.next (three_new w 52 #[.string hi2, .string hi] #[.string lo2, .string hi2] _) hb1)
        clear hb1
        rw [HR.out.1]
        have d0 := S1.out.2.2.1.cell 0
        have d1 := S1.out.2.2.1.cell 1
        go_wp2_with fail
        refine (spanRight_any ea lo2 hi2 _ h3 h4 (HE.out.below S1.out.1)).mono ?_
        rintro e w2 ⟨rfl, hb2⟩
        have S2 := Lib.hid (S1.out.next hb2)
        clear hb2 d0 d1
        rw [HR.out.2]
        have c0 := S2.out.2.1.cell 0
        have c1 := S2.out.2.1.cell 1
        have c2 := S2.out.2.2.1.cell 0
        have c3 := S2.out.2.2.1.cell 1
        go_wp2_with (refine wpList_store_blk rfl 52 (.tmp 4) (.tmp 48) rfl (w.heap.size + 1 + 1) #[.string lo2, .string hi] rfl rfl 52 _ S2.out.2.2.2 rfl (by kernel_rfl) (by kernel_rfl) ?_)
        refine Lib.hid ?_
        intro w3 hz ho
        have S3 := Lib.hid (S2.out.put hz ho)
        clear hz ho
        go_wp2_with fail
        refine bodyPost_ret (results_cell_tmp rfl _ _ (w.heap.size + 1 + 1) 52 #[.string lo2, .string hi] (0, 0) _ rfl S3.out.2.2.2 Tryz.underlying52 rfl (by kernel_rfl)) rfl ?_
        exact ⟨rfl, S3.out.1⟩
      · have g3 := (str_cons (by simpa using hn)).1
        have g4 := (str_cons (by simpa using hn)).2
        have g5 : ¬ hi.toList = lo2.toList := fun e => hq0 (str_ext (by rw [← Lib.toList_data, ← Lib.toList_data, e]))
        have g6 : (hi.toList == lo2.toList) = false := beq_eq_false_iff_ne.2 g5
        clear hn hq0 g5
        go_enter Tryz.func48, Tryz.ntmps48
        go_wp2_with fail
        refine (spanRight_any ea hi2 hi _ h4 h2 (HE.out.below (three_new w 52 #[.string hi2, .string hi] #[.string lo2, .string hi2] _).1)).mono ?_
        rintro e w1 ⟨rfl, hb1⟩
        have S1 := Lib.hid (Sp3.next (three_new w 52 #[.string hi2, .string hi] #[.string lo2, .string hi2] _) hb1)
        clear hb1
        rw [HR.out.1]
        have d0 := S1.out.2.2.1.cell 0
        have d1 := S1.out.2.2.1.cell 1
        go_wp2_with fail
        refine (spanRight_any ea lo2 hi2 _ h3 h4 (HE.out.below S1.out.1)).mono ?_
        rintro e w2 ⟨rfl, hb2⟩
        have S2 := Lib.hid (S1.out.next hb2)
        clear hb2 d0 d1
        rw [HR.out.2]
        have c0 := S2.out.2.1.cell 0
        have c1 := S2.out.2.1.cell 1
        have c2 := S2.out.2.2.1.cell 0
        have c3 := S2.out.2.2.1.cell 1
        go_wp2_with (refine wpList_store_blk rfl 52 (.tmp 4) (.tmp 48) rfl (w.heap.size + 1 + 1) #[.string lo2, .string hi] rfl rfl 52 _ S2.out.2.2.2 rfl (by kernel_rfl) (by kernel_rfl) ?_)
        refine Lib.hid ?_
        intro w3 hz ho
        have S3 := Lib.hid (S2.out.put hz ho)
        clear hz ho
        go_wp2_with fail
        refine bodyPost_ret (results_cell_tmp rfl _ _ (w.heap.size + 1 + 1) 52 #[.string lo2, .string hi] (0, 0) _ rfl S3.out.2.2.2 Tryz.underlying52 rfl (by kernel_rfl)) rfl ?_
        exact ⟨rfl, S3.out.1⟩

theorem Sp3.put2 {w W : World} {a b : Array Value} {x y : Value} (h : Sp3 w W a b #[x, y]) (u v : Value) : Sp3 w ((W.setCell ⟨w.heap.size + 1 + 1, 0, none⟩ u).setCell ⟨w.heap.size + 1 + 1, 1, none⟩ v) a b #[u, v] :=
  ⟨((h.1.setCell (by simp; omega) u).setCell (by simp; omega) v), (h.2.1.far (by simp; try omega) u).far (by simp; try omega) v, (h.2.2.1.far (by simp) u).far (by simp) v, (h.2.2.2.put 0 u).put 1 v⟩
theorem Sp3.put2' {w W : World} {a c : Array Value} {x y : Value} (h : Sp3 w W a #[x, y] c) (u v : Value) : Sp3 w ((W.setCell ⟨w.heap.size + 1, 0, none⟩ u).setCell ⟨w.heap.size + 1, 1, none⟩ v) a #[u, v] c :=
  ⟨((h.1.setCell (by simp) u).setCell (by simp) v), (h.2.1.far (by simp) u).far (by simp) v, (h.2.2.1.put 0 u).put 1 v, (h.2.2.2.far (by simp) u).far (by simp) v⟩

set_option maxHeartbeats 400000 in
theorem join_bad1 (ea : Nat → Addr) (lo hi lo2 hi2 : ByteArray) (w : World) (h1 : lo.size ≤ 1000000) (h2 : hi.size ≤ 1000000) (h3 : lo2.size ≤ 1000000) (h4 : hi2.size ≤ 1000000) (he : BErr w ea) (hr : spanR lo hi = false) :
    Calls Tryz.prog 48 #[.agg #[.string lo, .string hi], .agg #[.string lo2, .string hi2]] w fun e w' => e = .returned (.tuple #[.agg #[.string ⟨#[]⟩, .string ⟨#[]⟩], .iface 184 (.pointer (some (ea 3)))]) ∧ Below w.heap.size w w' := by
    have HE := Lib.hid he
    have HR := Lib.hid hr
    clear he hr
    go_enter Tryz.func48, Tryz.ntmps48
    go_wp2_with fail
    refine (spanRight_any ea lo hi _ h1 h2 (HE.out.below (three_new w 52 #[.string lo, .string hi] #[.string lo2, .string hi2] _).1)).mono ?_
    rintro e w1 ⟨rfl, hb1⟩
    have S1 := Lib.hid (Sp3.next (three_new w 52 #[.string lo, .string hi] #[.string lo2, .string hi2] _) hb1)
    clear hb1
    rw [HR.out]
    go_wp2_with fail
    have e3 : w1.cell? ⟨0, 0, none⟩ = some (.iface 184 (.pointer (some (ea 3)))) := (HE.out.below S1.out.1).cell 3 (by omega)
    have d0 := S1.out.2.2.2.cell 0
    have d1 := S1.out.2.2.2.cell 1
    have f0 := S1.out.2.2.2.frozen 0
    have f1 := S1.out.2.2.2.frozen 1
    go_region
    clear d0 d1 f0 f1 e3
    have S3 := Lib.hid ((S1.out.put2 (.string ⟨#[]⟩) (.string ⟨#[]⟩)).draw 1)
    go_wp2_with fail
    refine bodyPost_ret (results_cell_tmp rfl _ _ (w.heap.size + 1 + 1) 52 #[.string ⟨#[]⟩, .string ⟨#[]⟩] (0, 0) _ rfl S3.out.2.2.2 Tryz.underlying52 rfl (by kernel_rfl)) rfl ?_
    exact ⟨rfl, S3.out.1⟩

set_option maxHeartbeats 400000 in
theorem join_bad2 (ea : Nat → Addr) (lo hi lo2 hi2 : ByteArray) (w : World) (h1 : lo.size ≤ 1000000) (h2 : hi.size ≤ 1000000) (h3 : lo2.size ≤ 1000000) (h4 : hi2.size ≤ 1000000) (he : BErr w ea) (hr : spanR lo hi = true ∧ spanR lo2 hi2 = false) :
    Calls Tryz.prog 48 #[.agg #[.string lo, .string hi], .agg #[.string lo2, .string hi2]] w fun e w' => e = .returned (.tuple #[.agg #[.string ⟨#[]⟩, .string ⟨#[]⟩], .iface 184 (.pointer (some (ea 3)))]) ∧ Below w.heap.size w w' := by
    have HE := Lib.hid he
    have HR := Lib.hid hr
    clear he hr
    go_enter Tryz.func48, Tryz.ntmps48
    go_wp2_with fail
    refine (spanRight_any ea lo hi _ h1 h2 (HE.out.below (three_new w 52 #[.string lo, .string hi] #[.string lo2, .string hi2] _).1)).mono ?_
    rintro e w1 ⟨rfl, hb1⟩
    have S1 := Lib.hid (Sp3.next (three_new w 52 #[.string lo, .string hi] #[.string lo2, .string hi2] _) hb1)
    clear hb1
    rw [HR.out.1]
    have d0 := S1.out.2.2.1.cell 0
    have d1 := S1.out.2.2.1.cell 1
    go_wp2_with fail
    refine (spanRight_any ea lo2 hi2 _ h3 h4 (HE.out.below S1.out.1)).mono ?_
    rintro e w2 ⟨rfl, hb2⟩
    have S2 := Lib.hid (S1.out.next hb2)
    clear hb2 d0 d1
    rw [HR.out.2]
    go_wp2_with fail
    have e3 : w2.cell? ⟨0, 0, none⟩ = some (.iface 184 (.pointer (some (ea 3)))) := (HE.out.below S2.out.1).cell 3 (by omega)
    have d0 := S2.out.2.2.2.cell 0
    have d1 := S2.out.2.2.2.cell 1
    have f0 := S2.out.2.2.2.frozen 0
    have f1 := S2.out.2.2.2.frozen 1
    go_region
    clear d0 d1 f0 f1 e3
    have S3 := Lib.hid ((S2.out.put2 (.string ⟨#[]⟩) (.string ⟨#[]⟩)).draw 1)
    go_wp2_with fail
    refine bodyPost_ret (results_cell_tmp rfl _ _ (w.heap.size + 1 + 1) 52 #[.string ⟨#[]⟩, .string ⟨#[]⟩] (0, 0) _ rfl S3.out.2.2.2 Tryz.underlying52 rfl (by kernel_rfl)) rfl ?_
    exact ⟨rfl, S3.out.1⟩

set_option maxHeartbeats 400000 in
theorem join_bad3 (ea : Nat → Addr) (lo hi lo2 hi2 : ByteArray) (w : World) (h1 : lo.size ≤ 1000000) (h2 : hi.size ≤ 1000000) (h3 : lo2.size ≤ 1000000) (h4 : hi2.size ≤ 1000000) (he : BErr w ea) (hr : spanR lo hi = true ∧ spanR lo2 hi2 = true) (hx : hi.data.toList.isEmpty = true) (hy : hi2.data.toList.isEmpty = true) :
    Calls Tryz.prog 48 #[.agg #[.string lo, .string hi], .agg #[.string lo2, .string hi2]] w fun e w' => e = .returned (.tuple #[.agg #[.string ⟨#[]⟩, .string ⟨#[]⟩], .iface 184 (.pointer (some (ea 0)))]) ∧ Below w.heap.size w w' := by
    have HE := Lib.hid he
    have HR := Lib.hid hr
    clear he hr
    have g3 := str_nil hx
    clear hx
    have g7 := str_nil hy
    clear hy
    go_enter Tryz.func48, Tryz.ntmps48
    go_wp2_with fail
    refine (spanRight_any ea lo hi _ h1 h2 (HE.out.below (three_new w 52 #[.string lo, .string hi] #[.string lo2, .string hi2] _).1)).mono ?_
    rintro e w1 ⟨rfl, hb1⟩
    have S1 := Lib.hid (Sp3.next (three_new w 52 #[.string lo, .string hi] #[.string lo2, .string hi2] _) hb1)
    clear hb1
    rw [HR.out.1]
    have d0 := S1.out.2.2.1.cell 0
    have d1 := S1.out.2.2.1.cell 1
    go_wp2_with fail
    refine (spanRight_any ea lo2 hi2 _ h3 h4 (HE.out.below S1.out.1)).mono ?_
    rintro e w2 ⟨rfl, hb2⟩
    have S2 := Lib.hid (S1.out.next hb2)
    clear hb2 d0 d1
    rw [HR.out.2]
    have c0 := S2.out.2.1.cell 0
    have c1 := S2.out.2.1.cell 1
    have c2 := S2.out.2.2.1.cell 0
    have c3 := S2.out.2.2.1.cell 1
    go_wp2_with fail
    clear c0 c1 c2 c3
    have e3 : w2.cell? ⟨1, 0, none⟩ = some (.iface 184 (.pointer (some (ea 0)))) := (HE.out.below S2.out.1).cell 0 (by omega)
    have d0 := S2.out.2.2.2.cell 0
    have d1 := S2.out.2.2.2.cell 1
    have f0 := S2.out.2.2.2.frozen 0
    have f1 := S2.out.2.2.2.frozen 1
    go_region
    clear d0 d1 f0 f1 e3
    have S3 := Lib.hid ((S2.out.put2 (.string ⟨#[]⟩) (.string ⟨#[]⟩)).draw 1)
    go_wp2_with fail
    refine bodyPost_ret (results_cell_tmp rfl _ _ (w.heap.size + 1 + 1) 52 #[.string ⟨#[]⟩, .string ⟨#[]⟩] (0, 0) _ rfl S3.out.2.2.2 Tryz.underlying52 rfl (by kernel_rfl)) rfl ?_
    exact ⟨rfl, S3.out.1⟩

set_option maxHeartbeats 400000 in
theorem join_bad4 (ea : Nat → Addr) (lo hi lo2 hi2 : ByteArray) (w : World) (h1 : lo.size ≤ 1000000) (h2 : hi.size ≤ 1000000) (h3 : lo2.size ≤ 1000000) (h4 : hi2.size ≤ 1000000) (he : BErr w ea) (hr : spanR lo hi = true ∧ spanR lo2 hi2 = true) (hx : hi.data.toList.isEmpty = true) (hy : hi2.data.toList.isEmpty = false) (hy2 : hi2 ≠ lo) :
    Calls Tryz.prog 48 #[.agg #[.string lo, .string hi], .agg #[.string lo2, .string hi2]] w fun e w' => e = .returned (.tuple #[.agg #[.string ⟨#[]⟩, .string ⟨#[]⟩], .iface 184 (.pointer (some (ea 0)))]) ∧ Below w.heap.size w w' := by
    have HE := Lib.hid he
    have HR := Lib.hid hr
    clear he hr
    have g3 := str_nil hx
    clear hx
    have g7 := (str_cons hy).1
    have g8 := (str_cons hy).2
    have g9 : (hi2.toList == lo.toList) = false := beq_eq_false_iff_ne.2 (fun e => hy2 (str_ext (by rw [← Lib.toList_data, ← Lib.toList_data, e])))
    clear hy hy2
    go_enter Tryz.func48, Tryz.ntmps48
    go_wp2_with fail
    refine (spanRight_any ea lo hi _ h1 h2 (HE.out.below (three_new w 52 #[.string lo, .string hi] #[.string lo2, .string hi2] _).1)).mono ?_
    rintro e w1 ⟨rfl, hb1⟩
    have S1 := Lib.hid (Sp3.next (three_new w 52 #[.string lo, .string hi] #[.string lo2, .string hi2] _) hb1)
    clear hb1
    rw [HR.out.1]
    have d0 := S1.out.2.2.1.cell 0
    have d1 := S1.out.2.2.1.cell 1
    go_wp2_with fail
    refine (spanRight_any ea lo2 hi2 _ h3 h4 (HE.out.below S1.out.1)).mono ?_
    rintro e w2 ⟨rfl, hb2⟩
    have S2 := Lib.hid (S1.out.next hb2)
    clear hb2 d0 d1
    rw [HR.out.2]
    have c0 := S2.out.2.1.cell 0
    have c1 := S2.out.2.1.cell 1
    have c2 := S2.out.2.2.1.cell 0
    have c3 := S2.out.2.2.1.cell 1
    go_wp2_with fail
    clear c0 c1 c2 c3
    have e3 : w2.cell? ⟨1, 0, none⟩ = some (.iface 184 (.pointer (some (ea 0)))) := (HE.out.below S2.out.1).cell 0 (by omega)
    have d0 := S2.out.2.2.2.cell 0
    have d1 := S2.out.2.2.2.cell 1
    have f0 := S2.out.2.2.2.frozen 0
    have f1 := S2.out.2.2.2.frozen 1
    go_region
    clear d0 d1 f0 f1 e3
    have S3 := Lib.hid ((S2.out.put2 (.string ⟨#[]⟩) (.string ⟨#[]⟩)).draw 1)
    go_wp2_with fail
    refine bodyPost_ret (results_cell_tmp rfl _ _ (w.heap.size + 1 + 1) 52 #[.string ⟨#[]⟩, .string ⟨#[]⟩] (0, 0) _ rfl S3.out.2.2.2 Tryz.underlying52 rfl (by kernel_rfl)) rfl ?_
    exact ⟨rfl, S3.out.1⟩

set_option maxHeartbeats 400000 in
theorem join_bad5 (ea : Nat → Addr) (lo hi lo2 hi2 : ByteArray) (w : World) (h1 : lo.size ≤ 1000000) (h2 : hi.size ≤ 1000000) (h3 : lo2.size ≤ 1000000) (h4 : hi2.size ≤ 1000000) (he : BErr w ea) (hr : spanR lo hi = true ∧ spanR lo2 hi2 = true) (hx : hi.data.toList.isEmpty = false) (hx2 : hi ≠ lo2) (hy : hi2.data.toList.isEmpty = true) :
    Calls Tryz.prog 48 #[.agg #[.string lo, .string hi], .agg #[.string lo2, .string hi2]] w fun e w' => e = .returned (.tuple #[.agg #[.string ⟨#[]⟩, .string ⟨#[]⟩], .iface 184 (.pointer (some (ea 0)))]) ∧ Below w.heap.size w w' := by
    have HE := Lib.hid he
    have HR := Lib.hid hr
    clear he hr
    have g3 := (str_cons hx).1
    have g4 := (str_cons hx).2
    have g6 : (hi.toList == lo2.toList) = false := beq_eq_false_iff_ne.2 (fun e => hx2 (str_ext (by rw [← Lib.toList_data, ← Lib.toList_data, e])))
    clear hx hx2
    have g7 := str_nil hy
    clear hy
    go_enter Tryz.func48, Tryz.ntmps48
    go_wp2_with fail
    refine (spanRight_any ea lo hi _ h1 h2 (HE.out.below (three_new w 52 #[.string lo, .string hi] #[.string lo2, .string hi2] _).1)).mono ?_
    rintro e w1 ⟨rfl, hb1⟩
    have S1 := Lib.hid (Sp3.next (three_new w 52 #[.string lo, .string hi] #[.string lo2, .string hi2] _) hb1)
    clear hb1
    rw [HR.out.1]
    have d0 := S1.out.2.2.1.cell 0
    have d1 := S1.out.2.2.1.cell 1
    go_wp2_with fail
    refine (spanRight_any ea lo2 hi2 _ h3 h4 (HE.out.below S1.out.1)).mono ?_
    rintro e w2 ⟨rfl, hb2⟩
    have S2 := Lib.hid (S1.out.next hb2)
    clear hb2 d0 d1
    rw [HR.out.2]
    have c0 := S2.out.2.1.cell 0
    have c1 := S2.out.2.1.cell 1
    have c2 := S2.out.2.2.1.cell 0
    have c3 := S2.out.2.2.1.cell 1
    go_wp2_with fail
    clear c0 c1 c2 c3
    have e3 : w2.cell? ⟨1, 0, none⟩ = some (.iface 184 (.pointer (some (ea 0)))) := (HE.out.below S2.out.1).cell 0 (by omega)
    have d0 := S2.out.2.2.2.cell 0
    have d1 := S2.out.2.2.2.cell 1
    have f0 := S2.out.2.2.2.frozen 0
    have f1 := S2.out.2.2.2.frozen 1
    go_region
    clear d0 d1 f0 f1 e3
    have S3 := Lib.hid ((S2.out.put2 (.string ⟨#[]⟩) (.string ⟨#[]⟩)).draw 1)
    go_wp2_with fail
    refine bodyPost_ret (results_cell_tmp rfl _ _ (w.heap.size + 1 + 1) 52 #[.string ⟨#[]⟩, .string ⟨#[]⟩] (0, 0) _ rfl S3.out.2.2.2 Tryz.underlying52 rfl (by kernel_rfl)) rfl ?_
    exact ⟨rfl, S3.out.1⟩

set_option maxHeartbeats 400000 in
theorem join_bad6 (ea : Nat → Addr) (lo hi lo2 hi2 : ByteArray) (w : World) (h1 : lo.size ≤ 1000000) (h2 : hi.size ≤ 1000000) (h3 : lo2.size ≤ 1000000) (h4 : hi2.size ≤ 1000000) (he : BErr w ea) (hr : spanR lo hi = true ∧ spanR lo2 hi2 = true) (hx : hi.data.toList.isEmpty = false) (hx2 : hi ≠ lo2) (hy : hi2.data.toList.isEmpty = false) (hy2 : hi2 ≠ lo) :
    Calls Tryz.prog 48 #[.agg #[.string lo, .string hi], .agg #[.string lo2, .string hi2]] w fun e w' => e = .returned (.tuple #[.agg #[.string ⟨#[]⟩, .string ⟨#[]⟩], .iface 184 (.pointer (some (ea 0)))]) ∧ Below w.heap.size w w' := by
    have HE := Lib.hid he
    have HR := Lib.hid hr
    clear he hr
    have g3 := (str_cons hx).1
    have g4 := (str_cons hx).2
    have g6 : (hi.toList == lo2.toList) = false := beq_eq_false_iff_ne.2 (fun e => hx2 (str_ext (by rw [← Lib.toList_data, ← Lib.toList_data, e])))
    clear hx hx2
    have g7 := (str_cons hy).1
    have g8 := (str_cons hy).2
    have g9 : (hi2.toList == lo.toList) = false := beq_eq_false_iff_ne.2 (fun e => hy2 (str_ext (by rw [← Lib.toList_data, ← Lib.toList_data, e])))
    clear hy hy2
    go_enter Tryz.func48, Tryz.ntmps48
    go_wp2_with fail
    refine (spanRight_any ea lo hi _ h1 h2 (HE.out.below (three_new w 52 #[.string lo, .string hi] #[.string lo2, .string hi2] _).1)).mono ?_
    rintro e w1 ⟨rfl, hb1⟩
    have S1 := Lib.hid (Sp3.next (three_new w 52 #[.string lo, .string hi] #[.string lo2, .string hi2] _) hb1)
    clear hb1
    rw [HR.out.1]
    have d0 := S1.out.2.2.1.cell 0
    have d1 := S1.out.2.2.1.cell 1
    go_wp2_with fail
    refine (spanRight_any ea lo2 hi2 _ h3 h4 (HE.out.below S1.out.1)).mono ?_
    rintro e w2 ⟨rfl, hb2⟩
    have S2 := Lib.hid (S1.out.next hb2)
    clear hb2 d0 d1
    rw [HR.out.2]
    have c0 := S2.out.2.1.cell 0
    have c1 := S2.out.2.1.cell 1
    have c2 := S2.out.2.2.1.cell 0
    have c3 := S2.out.2.2.1.cell 1
    go_wp2_with fail
    clear c0 c1 c2 c3
    have e3 : w2.cell? ⟨1, 0, none⟩ = some (.iface 184 (.pointer (some (ea 0)))) := (HE.out.below S2.out.1).cell 0 (by omega)
    have d0 := S2.out.2.2.2.cell 0
    have d1 := S2.out.2.2.2.cell 1
    have f0 := S2.out.2.2.2.frozen 0
    have f1 := S2.out.2.2.2.frozen 1
    go_region
    clear d0 d1 f0 f1 e3
    have S3 := Lib.hid ((S2.out.put2 (.string ⟨#[]⟩) (.string ⟨#[]⟩)).draw 1)
    go_wp2_with fail
    refine bodyPost_ret (results_cell_tmp rfl _ _ (w.heap.size + 1 + 1) 52 #[.string ⟨#[]⟩, .string ⟨#[]⟩] (0, 0) _ rfl S3.out.2.2.2 Tryz.underlying52 rfl (by kernel_rfl)) rfl ?_
    exact ⟨rfl, S3.out.1⟩

/-- span.Join, all told. -/
theorem join_any (ea : Nat → Addr) (lo hi lo2 hi2 : ByteArray) (w : World) (h1 : lo.size ≤ 1000000) (h2 : hi.size ≤ 1000000) (h3 : lo2.size ≤ 1000000) (h4 : hi2.size ≤ 1000000) (he : BErr w ea) :
    Calls Tryz.prog 48 #[.agg #[.string lo, .string hi], .agg #[.string lo2, .string hi2]] w fun e w' => (match joinB lo hi lo2 hi2 with
      | some s => e = .returned (.tuple #[.agg #[.string s.1, .string s.2], .nilIface])
      | none => ∃ n, e = .returned (.tuple #[.agg #[.string ⟨#[]⟩, .string ⟨#[]⟩], .iface 184 (.pointer (some (ea n)))])) ∧ Below w.heap.size w w' := by
  unfold joinB
  cases hr1 : spanR lo hi with
  | false => exact (join_bad1 ea lo hi lo2 hi2 w h1 h2 h3 h4 he hr1).mono fun e w' h => ⟨⟨_, h.1⟩, h.2⟩
  | true =>
    cases hr2 : spanR lo2 hi2 with
    | false => exact (join_bad2 ea lo hi lo2 hi2 w h1 h2 h3 h4 he ⟨hr1, hr2⟩).mono fun e w' h => ⟨⟨_, h.1⟩, h.2⟩
    | true =>
      have hr := And.intro hr1 hr2
      simp only [Bool.and_self, Bool.not_true, Bool.false_eq_true, if_false]
      cases hx : hi.data.toList.isEmpty with
      | false =>
        by_cases hq : hi = lo2
        · rw [if_pos (by simp [hq])]
          exact join_low ea lo hi lo2 hi2 w h1 h2 h3 h4 he hr hx hq
        · rw [if_neg (by simp [hq])]
          cases hy : hi2.data.toList.isEmpty with
          | false =>
            by_cases hq2 : hi2 = lo
            · rw [if_pos (by simp [hq2])]
              exact join_high ea lo hi lo2 hi2 w h1 h2 h3 h4 he hr (.inr hq) hy hq2
            · rw [if_neg (by simp [hq2])]
              exact (join_bad6 ea lo hi lo2 hi2 w h1 h2 h3 h4 he hr hx hq hy hq2).mono fun e w' h => ⟨⟨_, h.1⟩, h.2⟩
          | true =>
            rw [if_neg (by simp)]
            exact (join_bad5 ea lo hi lo2 hi2 w h1 h2 h3 h4 he hr hx hq hy).mono fun e w' h => ⟨⟨_, h.1⟩, h.2⟩
      | true =>
        rw [if_neg (by simp)]
        cases hy : hi2.data.toList.isEmpty with
        | false =>
          by_cases hq2 : hi2 = lo
          · rw [if_pos (by simp [hq2])]
            exact join_high ea lo hi lo2 hi2 w h1 h2 h3 h4 he hr (.inl hx) hy hq2
          · rw [if_neg (by simp [hq2])]
            exact (join_bad4 ea lo hi lo2 hi2 w h1 h2 h3 h4 he hr hx hy hq2).mono fun e w' h => ⟨⟨_, h.1⟩, h.2⟩
        | true =>
          rw [if_neg (by simp)]
          exact (join_bad3 ea lo hi lo2 hi2 w h1 h2 h3 h4 he hr hx hy).mono fun e w' h => ⟨⟨_, h.1⟩, h.2⟩

set_option maxHeartbeats 400000 in
theorem cut_ok (ea : Nat → Addr) (lo hi k : ByteArray) (w : World) (h1 : lo.size ≤ 1000000) (h2 : hi.size ≤ 1000000) (h3 : k.size ≤ 1000000) (he : BErr w ea) (hh : hasB lo hi k = true) (hn : k ≠ lo) :
    Calls Tryz.prog 79 #[.agg #[.string lo, .string hi], .string k] w fun e w' => e = .returned (.tuple #[.agg #[.string lo, .string k], .agg #[.string k, .string hi], .nilIface]) ∧ Below w.heap.size w w' := by
    have hr : spanR lo hi = true ∧ isKey k = true := by
      unfold hasB at hh
      simp only [Bool.and_eq_true] at hh
      exact ⟨hh.1.1.1, hh.1.1.2⟩
    have g9 : (k.toList == lo.toList) = false := beq_eq_false_iff_ne.2 (fun e => hn (str_ext (by rw [← Lib.toList_data, ← Lib.toList_data, e])))
    have HE := Lib.hid he
    have HR := Lib.hid hr
    have HH := Lib.hid hh
    clear he hr hh hn
    go_enter Tryz.func79, Tryz.ntmps79
    go_wp2_with fail
    refine (spanRight_any ea lo hi _ h1 h2 (HE.out.below (three_new w 52 #[.string lo, .string hi] #[.string ByteArray.empty, .string ByteArray.empty] #[.string ByteArray.empty, .string ByteArray.empty]).1)).mono ?_
    rintro e w1 ⟨rfl, hb1⟩
    have S1 := Lib.hid (Sp3.next (three_new w 52 #[.string lo, .string hi] #[.string ByteArray.empty, .string ByteArray.empty] #[.string ByteArray.empty, .string ByteArray.empty]) hb1)
    clear hb1
    rw [HR.out.1]
    go_wp2_with fail
    refine (key_good ea k _ h3 (HE.out.below S1.out.1) HR.out.2).mono ?_
    rintro e w2 ⟨rfl, hb2⟩
    have S2 := Lib.hid (S1.out.next hb2)
    clear hb2
    have c0 := S2.out.2.1.cell 0
    have c1 := S2.out.2.1.cell 1
    go_wp2_with fail
    refine (spanHas_any ea lo hi k _ h1 h2 h3 (HE.out.below S2.out.1)).mono ?_
    rintro e w3 ⟨rfl, hb3⟩
    have S3 := Lib.hid (S2.out.next hb3)
    clear hb3 c0 c1
    rw [HH.out]
    have c0 := S3.out.2.1.cell 0
    have c1 := S3.out.2.1.cell 1
    go_wp2_with fail
    have d0 := S3.out.2.2.2.cell 0
    have d1 := S3.out.2.2.2.cell 1
    have f0 := S3.out.2.2.2.frozen 0
    have f1 := S3.out.2.2.2.frozen 1
    have d2 := S3.out.2.2.1.cell 0
    have d3 := S3.out.2.2.1.cell 1
    have f2 := S3.out.2.2.1.frozen 0
    have f3 := S3.out.2.2.1.frozen 1
    go_region
    clear d0 d1 f0 f1 d2 d3 f2 f3 c0 c1
    have S4 := Lib.hid (((S3.out.put2' (.string lo) (.string k)).put2 (.string k) (.string hi)).draw 1)
    go_wp2_with fail
    refine bodyPost_ret (results_cell2_tmp rfl _ _ (w.heap.size + 1) (w.heap.size + 1 + 1) 52 52 #[.string lo, .string k] #[.string k, .string hi] (0, 0) (0, 0) _ rfl S4.out.2.2.1 rfl S4.out.2.2.2 Tryz.underlying52 rfl (by kernel_rfl) (by kernel_rfl)) rfl ?_
    exact ⟨rfl, S4.out.1⟩
end Go.Proofs.YthjmfcdhpdiehaaGreatDoor

namespace Go.Proofs.YthjmfcdhpdiehaaGreatDoor
open Go.RowKit Utf
set_option maxRecDepth 100000
set_option linter.unusedSimpArgs false
set_option linter.unusedVariables false

/-- A map: the shards that live, by rising Lo; the numbers used; the events. -/
structure PM where
  live : List Sh
  used : Nat → Bool
  evs : List Ev
def pmC (vl : Value) (u : Nat → Bool) (ve : Value) : Array Value :=
  #[vl, .bool (u 0), .bool (u 1), .bool (u 2), .bool (u 3), .bool (u 4), .bool (u 5), .bool (u 6), .bool (u 7), .bool (u 8), .bool (u 9), .bool (u 10), .bool (u 11), .bool (u 12), ve]
/-- It lies in memory, from block B on. -/
structure MapV (w : World) (B b : Nat) (m : PM) (vl ve : Value) : Prop where
  blk : Blk w b 100 (pmC vl m.used ve)
  ge : B ≤ b
  live : w.ownsRow B 54 5 vl m.live.length (shRow m.live)
  ev : (m.evs = [] ∧ ve = .slice none 0 0) ∨ (1 ≤ m.evs.length ∧ w.ownsRow B 103 13 ve m.evs.length (evRow m.evs))
  l1 : 1 ≤ m.live.length
  len : m.live.length ≤ 10000 ∧ m.evs.length ≤ 10000
  ok : ∀ s ∈ m.live, s.ok
def MapAt (w : World) (B b : Nat) (m : PM) : Prop := ∃ vl ve, MapV w B b m vl ve
/-- What kinds of block a map is made of. -/
def PT (t : TypeId) : Prop := t = 100 ∨ t = 54 ∨ t = 103
section
variable {w w' : World} {B B' b : Nat} {m : PM} {vl ve : Value}
theorem MapV.below (h : MapV w B b m vl ve) (hb : Below w.heap.size w w') : MapV w' B b m vl ve :=
  ⟨h.blk.below hb h.blk.lt, h.ge, own_below h.live hb, h.ev.imp id (fun k => ⟨k.1, own_below k.2 hb⟩), h.l1, h.len, h.ok⟩
theorem MapV.base (h : MapV w B b m vl ve) (hb : B' ≤ B) : MapV w B' b m vl ve :=
  ⟨h.blk, Nat.le_trans hb h.ge, own_base h.live hb, h.ev.imp id (fun k => ⟨k.1, own_base k.2 hb⟩), h.l1, h.len, h.ok⟩
theorem MapV.chg {T : TypeId → Prop} {D : Nat} (h : MapV w B b m vl ve) (hc : Chg T D w w') (h1 : ¬ T 100) (h2 : ¬ T 54) (h3 : ¬ T 103) : MapV w' B b m vl ve :=
  ⟨h.blk.chg hc (.inr h1), h.ge, own_chg h.live hc h2, h.ev.imp id (fun k => ⟨k.1, own_chg k.2 hc h3⟩), h.l1, h.len, h.ok⟩
theorem MapAt.below (h : MapAt w B b m) (hb : Below w.heap.size w w') : MapAt w' B b m := by
  obtain ⟨vl, ve, h⟩ := h
  exact ⟨vl, ve, h.below hb⟩
theorem MapAt.base (h : MapAt w B b m) (hb : B' ≤ B) : MapAt w B' b m := by
  obtain ⟨vl, ve, h⟩ := h
  exact ⟨vl, ve, h.base hb⟩
theorem MapAt.chg {T : TypeId → Prop} {D : Nat} (h : MapAt w B b m) (hc : Chg T D w w') (h1 : ¬ T 100) (h2 : ¬ T 54) (h3 : ¬ T 103) : MapAt w' B b m := by
  obtain ⟨vl, ve, h⟩ := h
  exact ⟨vl, ve, h.chg hc h1 h2 h3⟩
end
/-- An owned row of at least one element. -/
theorem own_some {w : World} {B sz : Nat} {e : TypeId} {v : Value} {n : Nat} {xs : List Value} (h : w.ownsRow B e sz v n xs) (hn : 1 ≤ n) : ∃ g cap, v = .slice (some ⟨g, 0, none⟩) n cap ∧ B ≤ g ∧ g < w.heap.size ∧ n ≤ cap ∧ RowAt w (some ⟨g, 0, none⟩) xs := by
  obtain ⟨ao, cap, hv, hr⟩ := own_row_of h
  rcases h.2 with ⟨h1, h2⟩ | ⟨g, cap', cur, hv', hB, hg, hc, -⟩
  · omega
  · rw [hv'] at hv
    cases hv
    exact ⟨g, cap, hv', hB, (Array.getElem?_eq_some_iff.1 hg).1, hc, hr⟩

set_option maxHeartbeats 1000000 in
theorem find_any (b B : Nat) (m : PM) (id : Int) (w : World) (hm : MapAt w B b m) :
    Calls Tryz.prog 45 #[.pointer (some ⟨b, 0, none⟩), .int .i64 id] w fun e w' => e = .returned (.int .i64 (idxI (findN id m.live))) ∧ Below w.heap.size w w' := by
  obtain ⟨vl, ve, hm⟩ := hm
  obtain ⟨g, cap, rfl, -, -, -, hr⟩ := own_some hm.live hm.l1
  have B0 := Lib.hid (below_alloc w (.cells #[.int .i64 id] 3))
  have HR := Lib.hid (hr.below B0.out)
  have HP := Lib.hid (show (w.alloc (.cells #[.int .i64 id] 3)).cell? ⟨w.heap.size, 0, none⟩ = some (.int .i64 id) from (Blk.new w _ _).cell 0)
  have HL := Lib.hid (show m.live.length ≤ 1000000 by have := hm.len; omega)
  have c0 : (w.alloc (.cells #[.int .i64 id] 3)).cell? ⟨b, 0, none⟩ = some (.slice (some ⟨g, 0, none⟩) m.live.length cap) := (hm.blk.alloc _).cell 0
  clear hm hr
  go_enter Tryz.func45, Tryz.ntmps45
  go_wp2_with fail
  refine (shIndex_any m.live g 0 cap w.heap.size id _ HL.out HR.out HP.out).mono ?_
  rintro e w1 ⟨rfl, hb1⟩
  have B1 := Lib.hid (B0.out.trans (hb1.mono B0.out.size))
  clear hb1
  go_wp2_with fail
  go_ret
  exact ⟨rfl, B1.out⟩

set_option maxHeartbeats 1000000 in
theorem shards_any (b B : Nat) (m : PM) (w : World) (hm : MapAt w B b m) :
    Calls Tryz.prog 15 #[.pointer (some ⟨b, 0, none⟩)] w fun e w' => ∃ v, e = .returned v ∧ w'.ownsRow w.heap.size 54 5 v m.live.length (shRow m.live) ∧ Below w.heap.size w w' := by
  obtain ⟨vl, ve, hm⟩ := hm
  obtain ⟨g, cap, rfl, -, -, -, hr⟩ := own_some hm.live hm.l1
  have HC := Lib.hid (cloneSh_any m.live g 0 cap w hm.l1 (by have := hm.len; omega) hr)
  have c0 : w.cell? ⟨b, 0, none⟩ = some (.slice (some ⟨g, 0, none⟩) m.live.length cap) := hm.blk.cell 0
  clear hm hr
  go_enter Tryz.func15, Tryz.ntmps15
  go_wp2_with fail
  refine HC.out.mono ?_
  rintro e w1 ⟨v, rfl, h1, h2⟩
  have H1 := Lib.hid h1
  have H2 := Lib.hid h2
  clear h1 h2
  go_wp2_with fail
  go_ret
  exact ⟨v, rfl, H1.out, H2.out⟩

/-- A clone of events: nil of none, or a row of its own. -/
def EvOwn (w : World) (B : Nat) (v : Value) (l : List Ev) : Prop := (l = [] ∧ v = .slice none 0 0) ∨ (1 ≤ l.length ∧ w.ownsRow B 103 13 v l.length (evRow l))
theorem cloneEv_all (l : List Ev) (B : Nat) (v : Value) (w : World) (hn : l.length ≤ 1000000) (h : EvOwn w B v l) :
    Calls Tryz.prog 44 #[v] w fun e w' => ∃ v', e = .returned v' ∧ EvOwn w' w.heap.size v' l ∧ Below w.heap.size w w' := by
  rcases h with ⟨rfl, rfl⟩ | ⟨h1, h2⟩
  · exact (cloneEv_nil w).mono fun e w' ⟨h3, h4⟩ => by
      subst h4
      exact ⟨_, h3, .inl ⟨rfl, rfl⟩, Below.refl _ _⟩
  · obtain ⟨g, cap, rfl, -, -, -, hr⟩ := own_some h2 h1
    exact (cloneEv_any l g 0 cap w h1 hn hr).mono fun e w' ⟨v, h3, h4, h5⟩ => ⟨v, h3, .inr ⟨h1, h4⟩, h5⟩

set_option maxHeartbeats 1000000 in
theorem events_any (b B : Nat) (m : PM) (w : World) (hm : MapAt w B b m) :
    Calls Tryz.prog 98 #[.pointer (some ⟨b, 0, none⟩)] w fun e w' => ∃ v, e = .returned v ∧ EvOwn w' w.heap.size v m.evs ∧ Below w.heap.size w w' := by
  obtain ⟨vl, ve, hm⟩ := hm
  have HC := Lib.hid (cloneEv_all m.evs B ve w (by have := hm.len; omega) hm.ev)
  have c0 : w.cell? ⟨b, 14, none⟩ = some ve := hm.blk.cell 14
  clear hm
  go_enter Tryz.func98, Tryz.ntmps98
  go_wp2_with fail
  refine HC.out.mono ?_
  rintro e w1 ⟨v, rfl, h1, h2⟩
  have H1 := Lib.hid h1
  have H2 := Lib.hid h2
  clear h1 h2
  go_wp2_with fail
  go_ret
  exact ⟨v, rfl, H1.out, H2.out⟩

end Go.Proofs.YthjmfcdhpdiehaaGreatDoor

namespace Go.Proofs.YthjmfcdhpdiehaaGreatDoor
open Go.RowKit Utf
set_option maxRecDepth 100000
set_option linter.unusedSimpArgs false
set_option linter.unusedVariables false

theorem EvOwn.below {w w' : World} {B : Nat} {v : Value} {l : List Ev} (h : EvOwn w B v l) (hb : Below w.heap.size w w') : EvOwn w' B v l := h.imp id (fun k => ⟨k.1, own_below k.2 hb⟩)
theorem EvOwn.slice {w : World} {B : Nat} {v : Value} {l : List Ev} (h : EvOwn w B v l) : ∃ ao c, v = .slice ao l.length c := by
  rcases h with ⟨rfl, rfl⟩ | ⟨h1, h2⟩
  · exact ⟨none, 0, rfl⟩
  · obtain ⟨ao, c, e, -⟩ := own_row_of h2
    exact ⟨ao, c, e⟩
theorem EvOwn.base {w : World} {B B' : Nat} {v : Value} {l : List Ev} (h : EvOwn w B v l) (hb : B' ≤ B) : EvOwn w B' v l := h.imp id (fun k => ⟨k.1, own_base k.2 hb⟩)
/-- The numbers used, as an array's cells. -/
theorem pm_used {W : World} {B b : Nat} {m : PM} {vl ve : Value} (h : MapV W B b m vl ve) : W.rangeAt b 1 [.bool (m.used 0), .bool (m.used 1), .bool (m.used 2), .bool (m.used 3), .bool (m.used 4), .bool (m.used 5), .bool (m.used 6), .bool (m.used 7), .bool (m.used 8), .bool (m.used 9), .bool (m.used 10), .bool (m.used 11), .bool (m.used 12)] := fun j v hj => by
  rw [h.blk.cell]
  rcases j with _ | _ | _ | _ | _ | _ | _ | _ | _ | _ | _ | _ | _ | j <;> first | exact hj | (simp at hj)

/-- What is read of a map while it is copied; the clones that are there. -/
structure CP (w : World) (b B : Nat) (m : PM) (vl ve : Value) (W : World) : Prop where
  bel : Below w.heap.size w W
  map : MapV W B b m vl ve
theorem CP.next {w W W' : World} {b B : Nat} {m : PM} {vl ve : Value} (h : CP w b B m vl ve W) (hb : Below W.heap.size W W') : CP w b B m vl ve W' :=
  ⟨h.bel.trans (hb.mono h.bel.size), h.map.below hb⟩

set_option maxHeartbeats 1000000 in
theorem copy_any (b B : Nat) (m : PM) (w : World) (hm : MapAt w B b m) :
    Calls Tryz.prog 16 #[.pointer (some ⟨b, 0, none⟩)] w fun e w' => ∃ b', e = .returned (.pointer (some ⟨b', 0, none⟩)) ∧ MapAt w' w.heap.size b' m ∧ Below w.heap.size w w' := by
  obtain ⟨vl, ve, hm⟩ := hm
  obtain ⟨g, cap, rfl, -, -, -, -⟩ := own_some hm.live hm.l1
  have HM := Lib.hid hm
  have HL := Lib.hid hm.len
  have HL1 := Lib.hid hm.l1
  have HOK := Lib.hid hm.ok
  clear hm
  go_enter Tryz.func16, Tryz.ntmps16
  go_wp2_with fail
  refine wp_region_wb ((CP w b B m (.slice (some ⟨g, 0, none⟩) m.live.length cap) ve)) (by kernel_rfl) (⟨tame_drewN (Below.refl _ w) 1, HM.out.below (tame_drewN (Below.refl _ w) 1)⟩) (fun _ _ _ _ _ h => h) ?_
  intro hS HZQ
  refine wa_k 0 3 (.pointer (some ⟨b, 0, none⟩)) hS HZQ (wa_k 1 4 (.pointer (some ⟨b, 0, none⟩)) hS HZQ (wa_k 2 5 (.pointer (some ⟨b, 0, none⟩)) hS HZQ (wa_v 3 6 (.slice (some ⟨g, 0, none⟩) m.live.length cap) hS HZQ (fun W hW => run_load1 48 (.tmp 5) (by kernel_rfl) ⟨b, 0, none⟩ (by kernel_rfl) (.slice (some ⟨g, 0, none⟩) m.live.length cap) (hW.map.blk.cell 0) _ Tryz.underlying48 rfl) (wa_k 5 8 (.pointer (some ⟨b, 0, none⟩)) hS HZQ (wa_k 6 9 (.pointer (some ⟨b, 0, none⟩)) hS HZQ (wa_k 7 10 (.pointer (some ⟨b, 1, none⟩)) hS HZQ (wa_v 8 11 (.agg #[.bool (m.used 0), .bool (m.used 1), .bool (m.used 2), .bool (m.used 3), .bool (m.used 4), .bool (m.used 5), .bool (m.used 6), .bool (m.used 7), .bool (m.used 8), .bool (m.used 9), .bool (m.used 10), .bool (m.used 11), .bool (m.used 12)]) hS HZQ (fun W hW => run_eqv (run_loadN 97 (.tmp 10) (by kernel_rfl) b 1 (by kernel_rfl) [.bool (m.used 0), .bool (m.used 1), .bool (m.used 2), .bool (m.used 3), .bool (m.used 4), .bool (m.used 5), .bool (m.used 6), .bool (m.used 7), .bool (m.used 8), .bool (m.used 9), .bool (m.used 10), .bool (m.used 11), .bool (m.used 12)] (pm_used hW.map) _ Tryz.underlying97 rfl (by kernel_rfl)) rfl) ?_)))))))
  refine wa_k 9 12 (.pointer (some ⟨b, 0, none⟩)) hS HZQ (wa_k 10 13 (.pointer (some ⟨b, 0, none⟩)) hS HZQ (wa_k 11 14 (.pointer (some ⟨b, 14, none⟩)) hS HZQ (wa_v 12 15 (ve) hS HZQ (fun W hW => run_load1 98 (.tmp 14) (by kernel_rfl) ⟨b, 14, none⟩ (by kernel_rfl) ve (hW.map.blk.cell 14) _ Tryz.underlying98 rfl) ?_)))
  refine wa_r [4] ?_
  refine ar_a (some 7) (fun K hK => ?_) ar_nil
  obtain ⟨g', cap', e', -, -, -, hr⟩ := own_some hS.map.live HL1.out
  cases e'
  refine ow_call 43 #[.slice (some ⟨g, 0, none⟩) m.live.length cap] (by kernel_rfl) (fun v w' => w'.ownsRow _ 54 5 v m.live.length (shRow m.live) ∧ Below _ _ w') (cloneSh_any m.live g 0 cap _ HL1.out (by have := HL.out; omega) hr) (Lib.hid ?_)
  rintro v1 w1 ⟨h1, hb1⟩
  obtain ⟨g1, c1, rfl, -⟩ := own_some h1 HL1.out
  refine hK.out _ _ (hS.next hb1) (fun hS1 => ?_)
  have H1 := Lib.hid (own_base h1 (show w.heap.size ≤ w.drew.heap.size from Nat.le_refl _))
  clear hK K hb1 hS hr h1
  refine wa_r [13] ?_
  refine ar_a (some 16) (fun K hK => ?_) ar_nil
  refine ow_call 44 #[ve] (by kernel_rfl) (fun v w' => EvOwn w' _ v m.evs ∧ Below _ _ w') (cloneEv_all m.evs B ve _ (by have := HL.out; omega) hS1.map.ev) (Lib.hid ?_)
  rintro v2 w2 ⟨h2, hb2⟩
  obtain ⟨a2, c2, rfl⟩ := h2.slice
  refine hK.out _ _ (hS1.next hb2) (fun hS2 => ?_)
  have H2 := Lib.hid (h2.base hS1.bel.size)
  have H3 := Lib.hid (own_below H1.out hb2)
  clear hK K hb2 hS1 h2 H1
  refine wa_k 14 17 (.agg (pmC (.slice (some ⟨g1, 0, none⟩) m.live.length c1) m.used (.slice a2 m.evs.length c2))) hS2 HZQ ?_
  refine wa_r [15] ?_
  refine ar_a (some 18) (fun K hK => ?_) ar_nil
  refine ow_val (.pointer (some ⟨w2.heap.size, 0, none⟩)) (w2.alloc (.cells (pmC (.slice (some ⟨g1, 0, none⟩) m.live.length c1) m.used (.slice a2 m.evs.length c2)) 100)) (by kernel_rfl) ?_
  refine hK.out _ _ (hS2.next (below_alloc _ _)) (fun hS3 => ?_)
  have H4 := Lib.hid (show MapV (w2.alloc (.cells (pmC (.slice (some ⟨g1, 0, none⟩) m.live.length c1) m.used (.slice a2 m.evs.length c2)) 100)) w.heap.size w2.heap.size m (.slice (some ⟨g1, 0, none⟩) m.live.length c1) (.slice a2 m.evs.length c2) from
    ⟨Blk.new w2 _ _, hS2.bel.size, own_below H3.out (below_alloc _ _), H2.out.below (below_alloc _ _), HL1.out, HL.out, HOK.out⟩)
  have H5 := Lib.hid (show Below w.heap.size w (w2.alloc (.cells (pmC (.slice (some ⟨g1, 0, none⟩) m.live.length c1) m.used (.slice a2 m.evs.length c2)) 100)) from hS2.bel.trans ((below_alloc w2 _).mono hS2.bel.size))
  clear hK K hS2
  refine wa_k 16 2 (.pointer (some ⟨w2.heap.size, 0, none⟩)) hS3 HZQ ?_
  refine wa_done (by kernel_rfl) ?_
  dsimp only [Exit.then, Act.put]
  simp only [List.setIfInBounds_toArray, List.set_cons_succ, List.set_cons_zero]
  clear hS3
  go_wp2_with fail
  go_ret
  exact ⟨w2.heap.size, rfl, ⟨_, _, H4.out⟩, H5.out⟩

/-- The map at first. -/
def PM.new : PM := ⟨[⟨1, 1, 0, ⟨#[]⟩, ⟨#[]⟩⟩], fun k => k == 1, []⟩

set_option maxHeartbeats 1000000 in
theorem new_any (w : World) :
    Calls Tryz.prog 32 #[] w fun e w' => ∃ b, e = .returned (.pointer (some ⟨b, 0, none⟩)) ∧ MapAt w' w.heap.size b PM.new ∧ Below w.heap.size w w' := by
  go_enter Tryz.func32, Tryz.ntmps32
  go_wp2_with fail
  go_ret
  refine ⟨w.heap.size + 1, rfl, ⟨.slice (some ⟨w.heap.size, 0, none⟩) 1 1, .slice none 0 0, ?_⟩, (below_alloc w _).alloc (by simp) _⟩
  have hb := Blk.new (w.alloc (.cells #[.int .i64 1, .int .i64 1, .int .i64 0, .string ⟨#[]⟩, .string ⟨#[]⟩] 54)) 100 (pmC (.slice (some ⟨w.heap.size, 0, none⟩) 1 1) PM.new.used (.slice none 0 0))
  rw [World.size_alloc] at hb
  refine ⟨hb, by omega, ?_, .inl ⟨rfl, rfl⟩, Nat.le_refl _, ⟨by decide, by decide⟩, fun s hs => ?_⟩
  · exact ⟨rfl, .inr ⟨w.heap.size, 1, _, rfl, Nat.le_refl _, ((Blk.new w _ _).alloc _), Nat.le_refl _, by unfold maxLen; omega, rfl, rfl⟩⟩
  · simp only [PM.new, List.mem_singleton] at hs
    subst hs
    exact ⟨by decide, by decide⟩
end Go.Proofs.YthjmfcdhpdiehaaGreatDoor
