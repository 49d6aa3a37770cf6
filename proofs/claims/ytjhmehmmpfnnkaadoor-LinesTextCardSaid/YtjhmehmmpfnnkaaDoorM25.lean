/-
  The contract of tidewaterref31's line.op.
  How the reference's telling of an op stands.
-/
import Derived.Test.YtjhmehmmpfnnkaaDoorM24
import Derived.Test.YtjhmehmmpfnnkaaDoorM20
import Derived.Test.YtjhmehmmpfnnkaaDoorM22
namespace Go.Proofs.YtjhmehmmpfnnkaaDoor
open Go.RowKit Utf
set_option maxRecDepth 100000
set_option linter.unusedSimpArgs false
set_option linter.unusedVariables false

def BOp.okR (o : BOp) : Prop := o.key.size ≤ 100000 ∧ o.value.size ≤ 100000 ∧ o.old.size ≤ 100000 ∧ -9223372036854775808 ≤ o.version ∧ o.version ≤ 9223372036854775807
theorem LSt.ne {row : List (Option (List Nat))} {x : Option (List Nat)} : row ++ [x] ≠ [] := by simp

set_option maxHeartbeats 4000000 in
theorem lineop_1 (sb kb : Nat) (row : List (Option (List Nat))) (key value old : ByteArray) (version : Int) (w : World) (h : LSt w sb kb row) (hne : row ≠ []) (hl : row.length + 5 ≤ 100000) (hsk : sb ≠ kb) (hk : BOp.okR ⟨1, key, value, old, version⟩) :
    Calls Tryd.prog 51 #[.agg #[.pointer (some ⟨sb, 0, none⟩), .pointer (some ⟨kb, 0, none⟩)], .agg #[.int .i64 1, .string key, .string value, .string old, .int .i64 version]] w (LinePost sb kb row (opRow ⟨1, key, value, old, version⟩) w) := by
  obtain ⟨hk1, hk2, hk3, hk4, hk5⟩ := hk
  simp only at hk1 hk2 hk3 hk4 hk5
  obtain ⟨t, ok, hs, hkb, p1, p2, p3⟩ := h
  have hsN : sb < w.heap.size := hs.lt
  have hkN : kb < w.heap.size := hkb.lt
  have hw0 : (w.setCell ⟨sb, 0, none⟩ (.string (t ++ ⟨#[32, 112, 117, 116]⟩))).heap.size = w.heap.size := by simp [World.setCell]
  have c0 : w.cell? ⟨sb, 0, none⟩ = some (.string t) := hs.cell 0
  have c0f := hs.frozen 0
  have hne0 : sb ≠ w.heap.size := by omega
  have hne1 : sb ≠ w.heap.size + 1 := by omega
  have hz2 : t.size + (⟨#[32, 112, 117, 116]⟩ : ByteArray).size ≤ 9223372036854775807 := Nat.le_trans (Nat.add_le_add_left (show (⟨#[32, 112, 117, 116]⟩ : ByteArray).size ≤ 100 by decide) _) (by omega)
  have HX0 := Lib.hid (show Only (fun k => k = sb ∨ k = kb) w (((w.setCell ⟨sb, 0, none⟩ (.string (t ++ ⟨#[32, 112, 117, 116]⟩))).alloc (.cells #[.pointer (some ⟨sb, 0, none⟩), .pointer (some ⟨kb, 0, none⟩)] 112)).alloc (.cells #[.int .i64 1, .string key, .string value, .string old, .int .i64 version] 103)) from (((Only.refl _ w).set (.inl (.inl rfl)) _).alloc _).alloc _)
  have HS0 := Lib.hid (show LSt (((w.setCell ⟨sb, 0, none⟩ (.string (t ++ ⟨#[32, 112, 117, 116]⟩))).alloc (.cells #[.pointer (some ⟨sb, 0, none⟩), .pointer (some ⟨kb, 0, none⟩)] 112)).alloc (.cells #[.int .i64 1, .string key, .string value, .string old, .int .i64 version] 103)) sb kb (row ++ [some [112, 117, 116]]) from
    line_next (t2 := ⟨#[112, 117, 116]⟩) (ok2 := true) (ok := ok) p1 p2 p3 hne (.inl ⟨[112, 117, 116], rfl, by apply str_ext; kernel_rfl, rfl⟩) (by decide) (by
      have e : ((⟨#[32]⟩ : ByteArray) ++ ⟨#[112, 117, 116]⟩) = ⟨#[32, 112, 117, 116]⟩ := by apply str_ext; kernel_rfl
      rw [e]
      exact ((hs.put 0 _).alloc _).alloc _) (by rw [Bool.and_true]; exact ((hkb.far (p := ⟨sb, 0, none⟩) (Ne.symm hsk) _).alloc _).alloc _))
  have HN0 := Lib.hid (show Blk (((w.setCell ⟨sb, 0, none⟩ (.string (t ++ ⟨#[32, 112, 117, 116]⟩))).alloc (.cells #[.pointer (some ⟨sb, 0, none⟩), .pointer (some ⟨kb, 0, none⟩)] 112)).alloc (.cells #[.int .i64 1, .string key, .string value, .string old, .int .i64 version] 103)) w.heap.size 112 #[.pointer (some ⟨sb, 0, none⟩), .pointer (some ⟨kb, 0, none⟩)] from by
    have := (Blk.new (w.setCell ⟨sb, 0, none⟩ (.string (t ++ ⟨#[32, 112, 117, 116]⟩))) 112 #[.pointer (some ⟨sb, 0, none⟩), .pointer (some ⟨kb, 0, none⟩)]).alloc (.cells #[.int .i64 1, .string key, .string value, .string old, .int .i64 version] 103)
    rw [hw0] at this
    exact this)
  have HOB0 := Lib.hid (show Blk (((w.setCell ⟨sb, 0, none⟩ (.string (t ++ ⟨#[32, 112, 117, 116]⟩))).alloc (.cells #[.pointer (some ⟨sb, 0, none⟩), .pointer (some ⟨kb, 0, none⟩)] 112)).alloc (.cells #[.int .i64 1, .string key, .string value, .string old, .int .i64 version] 103)) (w.heap.size + 1) 103 #[.int .i64 1, .string key, .string value, .string old, .int .i64 version] from by
    have := Blk.new ((w.setCell ⟨sb, 0, none⟩ (.string (t ++ ⟨#[32, 112, 117, 116]⟩))).alloc (.cells #[.pointer (some ⟨sb, 0, none⟩), .pointer (some ⟨kb, 0, none⟩)] 112)) 103 #[.int .i64 1, .string key, .string value, .string old, .int .i64 version]
    rw [World.size_alloc, hw0] at this
    exact this)
  clear p1 p2 p3 hs hkb hw0
  go_enter Tryd.func51, Tryd.ntmps51
  go_wp2_with fail
  refine (line_str sb kb _ key _ HS0.out (by simp) (by simp; omega) hsk hk1).mono ?_
  rintro e wa1 ⟨rfl, ho1, hs1⟩
  have HX1 := Lib.hid (HX0.out.trans ho1)
  have HS1 := Lib.hid hs1
  have HN1 := Lib.hid (HN0.out.only ho1 (by omega))
  have HOB1 := Lib.hid (HOB0.out.only ho1 (by omega))
  clear ho1 hs1
  have na1 := HN1.out.cell 0
  have nb1 := HN1.out.cell 1
  have nc1 := HOB1.out.cell 2
  go_wp2_with fail
  refine (line_str sb kb _ value _ HS1.out (by simp) (by simp; omega) hsk hk2).mono ?_
  rintro e wa2 ⟨rfl, ho2, hs2⟩
  have HX2 := Lib.hid (HX1.out.trans ho2)
  have HS2 := Lib.hid hs2
  have HN2 := Lib.hid (HN1.out.only ho2 (by omega))
  have HOB2 := Lib.hid (HOB1.out.only ho2 (by omega))
  clear ho2 hs2 na1 nb1 nc1
  go_wp2_with fail
  go_end0
  refine ⟨rfl, HX2.out, ?_⟩
  have hz := HS2.out
  simp only [List.append_assoc, List.cons_append, List.nil_append] at hz
  exact hz

set_option maxHeartbeats 4000000 in
theorem lineop_2 (sb kb : Nat) (row : List (Option (List Nat))) (key value old : ByteArray) (version : Int) (w : World) (h : LSt w sb kb row) (hne : row ≠ []) (hl : row.length + 5 ≤ 100000) (hsk : sb ≠ kb) (hk : BOp.okR ⟨2, key, value, old, version⟩) :
    Calls Tryd.prog 51 #[.agg #[.pointer (some ⟨sb, 0, none⟩), .pointer (some ⟨kb, 0, none⟩)], .agg #[.int .i64 2, .string key, .string value, .string old, .int .i64 version]] w (LinePost sb kb row (opRow ⟨2, key, value, old, version⟩) w) := by
  obtain ⟨hk1, hk2, hk3, hk4, hk5⟩ := hk
  simp only at hk1 hk2 hk3 hk4 hk5
  obtain ⟨t, ok, hs, hkb, p1, p2, p3⟩ := h
  have hsN : sb < w.heap.size := hs.lt
  have hkN : kb < w.heap.size := hkb.lt
  have hw0 : (w.setCell ⟨sb, 0, none⟩ (.string (t ++ ⟨#[32, 100, 101, 108]⟩))).heap.size = w.heap.size := by simp [World.setCell]
  have c0 : w.cell? ⟨sb, 0, none⟩ = some (.string t) := hs.cell 0
  have c0f := hs.frozen 0
  have hne0 : sb ≠ w.heap.size := by omega
  have hne1 : sb ≠ w.heap.size + 1 := by omega
  have hz2 : t.size + (⟨#[32, 100, 101, 108]⟩ : ByteArray).size ≤ 9223372036854775807 := Nat.le_trans (Nat.add_le_add_left (show (⟨#[32, 100, 101, 108]⟩ : ByteArray).size ≤ 100 by decide) _) (by omega)
  have HX0 := Lib.hid (show Only (fun k => k = sb ∨ k = kb) w (((w.setCell ⟨sb, 0, none⟩ (.string (t ++ ⟨#[32, 100, 101, 108]⟩))).alloc (.cells #[.pointer (some ⟨sb, 0, none⟩), .pointer (some ⟨kb, 0, none⟩)] 112)).alloc (.cells #[.int .i64 2, .string key, .string value, .string old, .int .i64 version] 103)) from (((Only.refl _ w).set (.inl (.inl rfl)) _).alloc _).alloc _)
  have HS0 := Lib.hid (show LSt (((w.setCell ⟨sb, 0, none⟩ (.string (t ++ ⟨#[32, 100, 101, 108]⟩))).alloc (.cells #[.pointer (some ⟨sb, 0, none⟩), .pointer (some ⟨kb, 0, none⟩)] 112)).alloc (.cells #[.int .i64 2, .string key, .string value, .string old, .int .i64 version] 103)) sb kb (row ++ [some [100, 101, 108]]) from
    line_next (t2 := ⟨#[100, 101, 108]⟩) (ok2 := true) (ok := ok) p1 p2 p3 hne (.inl ⟨[100, 101, 108], rfl, by apply str_ext; kernel_rfl, rfl⟩) (by decide) (by
      have e : ((⟨#[32]⟩ : ByteArray) ++ ⟨#[100, 101, 108]⟩) = ⟨#[32, 100, 101, 108]⟩ := by apply str_ext; kernel_rfl
      rw [e]
      exact ((hs.put 0 _).alloc _).alloc _) (by rw [Bool.and_true]; exact ((hkb.far (p := ⟨sb, 0, none⟩) (Ne.symm hsk) _).alloc _).alloc _))
  have HN0 := Lib.hid (show Blk (((w.setCell ⟨sb, 0, none⟩ (.string (t ++ ⟨#[32, 100, 101, 108]⟩))).alloc (.cells #[.pointer (some ⟨sb, 0, none⟩), .pointer (some ⟨kb, 0, none⟩)] 112)).alloc (.cells #[.int .i64 2, .string key, .string value, .string old, .int .i64 version] 103)) w.heap.size 112 #[.pointer (some ⟨sb, 0, none⟩), .pointer (some ⟨kb, 0, none⟩)] from by
    have := (Blk.new (w.setCell ⟨sb, 0, none⟩ (.string (t ++ ⟨#[32, 100, 101, 108]⟩))) 112 #[.pointer (some ⟨sb, 0, none⟩), .pointer (some ⟨kb, 0, none⟩)]).alloc (.cells #[.int .i64 2, .string key, .string value, .string old, .int .i64 version] 103)
    rw [hw0] at this
    exact this)
  have HOB0 := Lib.hid (show Blk (((w.setCell ⟨sb, 0, none⟩ (.string (t ++ ⟨#[32, 100, 101, 108]⟩))).alloc (.cells #[.pointer (some ⟨sb, 0, none⟩), .pointer (some ⟨kb, 0, none⟩)] 112)).alloc (.cells #[.int .i64 2, .string key, .string value, .string old, .int .i64 version] 103)) (w.heap.size + 1) 103 #[.int .i64 2, .string key, .string value, .string old, .int .i64 version] from by
    have := Blk.new ((w.setCell ⟨sb, 0, none⟩ (.string (t ++ ⟨#[32, 100, 101, 108]⟩))).alloc (.cells #[.pointer (some ⟨sb, 0, none⟩), .pointer (some ⟨kb, 0, none⟩)] 112)) 103 #[.int .i64 2, .string key, .string value, .string old, .int .i64 version]
    rw [World.size_alloc, hw0] at this
    exact this)
  clear p1 p2 p3 hs hkb hw0
  go_enter Tryd.func51, Tryd.ntmps51
  go_wp2_with fail
  refine (line_str sb kb _ key _ HS0.out (by simp) (by simp; omega) hsk hk1).mono ?_
  rintro e wa1 ⟨rfl, ho1, hs1⟩
  have HX1 := Lib.hid (HX0.out.trans ho1)
  have HS1 := Lib.hid hs1
  have HN1 := Lib.hid (HN0.out.only ho1 (by omega))
  have HOB1 := Lib.hid (HOB0.out.only ho1 (by omega))
  clear ho1 hs1
  go_wp2_with fail
  go_end0
  refine ⟨rfl, HX1.out, ?_⟩
  have hz := HS1.out
  simp only [List.append_assoc, List.cons_append, List.nil_append] at hz
  exact hz

set_option maxHeartbeats 4000000 in
theorem lineop_3 (sb kb : Nat) (row : List (Option (List Nat))) (key value old : ByteArray) (version : Int) (w : World) (h : LSt w sb kb row) (hne : row ≠ []) (hl : row.length + 5 ≤ 100000) (hsk : sb ≠ kb) (hk : BOp.okR ⟨3, key, value, old, version⟩) :
    Calls Tryd.prog 51 #[.agg #[.pointer (some ⟨sb, 0, none⟩), .pointer (some ⟨kb, 0, none⟩)], .agg #[.int .i64 3, .string key, .string value, .string old, .int .i64 version]] w (LinePost sb kb row (opRow ⟨3, key, value, old, version⟩) w) := by
  obtain ⟨hk1, hk2, hk3, hk4, hk5⟩ := hk
  simp only at hk1 hk2 hk3 hk4 hk5
  obtain ⟨t, ok, hs, hkb, p1, p2, p3⟩ := h
  have hsN : sb < w.heap.size := hs.lt
  have hkN : kb < w.heap.size := hkb.lt
  have hw0 : (w.setCell ⟨sb, 0, none⟩ (.string (t ++ ⟨#[32, 99, 97, 115]⟩))).heap.size = w.heap.size := by simp [World.setCell]
  have c0 : w.cell? ⟨sb, 0, none⟩ = some (.string t) := hs.cell 0
  have c0f := hs.frozen 0
  have hne0 : sb ≠ w.heap.size := by omega
  have hne1 : sb ≠ w.heap.size + 1 := by omega
  have hz2 : t.size + (⟨#[32, 99, 97, 115]⟩ : ByteArray).size ≤ 9223372036854775807 := Nat.le_trans (Nat.add_le_add_left (show (⟨#[32, 99, 97, 115]⟩ : ByteArray).size ≤ 100 by decide) _) (by omega)
  have HX0 := Lib.hid (show Only (fun k => k = sb ∨ k = kb) w (((w.setCell ⟨sb, 0, none⟩ (.string (t ++ ⟨#[32, 99, 97, 115]⟩))).alloc (.cells #[.pointer (some ⟨sb, 0, none⟩), .pointer (some ⟨kb, 0, none⟩)] 112)).alloc (.cells #[.int .i64 3, .string key, .string value, .string old, .int .i64 version] 103)) from (((Only.refl _ w).set (.inl (.inl rfl)) _).alloc _).alloc _)
  have HS0 := Lib.hid (show LSt (((w.setCell ⟨sb, 0, none⟩ (.string (t ++ ⟨#[32, 99, 97, 115]⟩))).alloc (.cells #[.pointer (some ⟨sb, 0, none⟩), .pointer (some ⟨kb, 0, none⟩)] 112)).alloc (.cells #[.int .i64 3, .string key, .string value, .string old, .int .i64 version] 103)) sb kb (row ++ [some [99, 97, 115]]) from
    line_next (t2 := ⟨#[99, 97, 115]⟩) (ok2 := true) (ok := ok) p1 p2 p3 hne (.inl ⟨[99, 97, 115], rfl, by apply str_ext; kernel_rfl, rfl⟩) (by decide) (by
      have e : ((⟨#[32]⟩ : ByteArray) ++ ⟨#[99, 97, 115]⟩) = ⟨#[32, 99, 97, 115]⟩ := by apply str_ext; kernel_rfl
      rw [e]
      exact ((hs.put 0 _).alloc _).alloc _) (by rw [Bool.and_true]; exact ((hkb.far (p := ⟨sb, 0, none⟩) (Ne.symm hsk) _).alloc _).alloc _))
  have HN0 := Lib.hid (show Blk (((w.setCell ⟨sb, 0, none⟩ (.string (t ++ ⟨#[32, 99, 97, 115]⟩))).alloc (.cells #[.pointer (some ⟨sb, 0, none⟩), .pointer (some ⟨kb, 0, none⟩)] 112)).alloc (.cells #[.int .i64 3, .string key, .string value, .string old, .int .i64 version] 103)) w.heap.size 112 #[.pointer (some ⟨sb, 0, none⟩), .pointer (some ⟨kb, 0, none⟩)] from by
    have := (Blk.new (w.setCell ⟨sb, 0, none⟩ (.string (t ++ ⟨#[32, 99, 97, 115]⟩))) 112 #[.pointer (some ⟨sb, 0, none⟩), .pointer (some ⟨kb, 0, none⟩)]).alloc (.cells #[.int .i64 3, .string key, .string value, .string old, .int .i64 version] 103)
    rw [hw0] at this
    exact this)
  have HOB0 := Lib.hid (show Blk (((w.setCell ⟨sb, 0, none⟩ (.string (t ++ ⟨#[32, 99, 97, 115]⟩))).alloc (.cells #[.pointer (some ⟨sb, 0, none⟩), .pointer (some ⟨kb, 0, none⟩)] 112)).alloc (.cells #[.int .i64 3, .string key, .string value, .string old, .int .i64 version] 103)) (w.heap.size + 1) 103 #[.int .i64 3, .string key, .string value, .string old, .int .i64 version] from by
    have := Blk.new ((w.setCell ⟨sb, 0, none⟩ (.string (t ++ ⟨#[32, 99, 97, 115]⟩))).alloc (.cells #[.pointer (some ⟨sb, 0, none⟩), .pointer (some ⟨kb, 0, none⟩)] 112)) 103 #[.int .i64 3, .string key, .string value, .string old, .int .i64 version]
    rw [World.size_alloc, hw0] at this
    exact this)
  clear p1 p2 p3 hs hkb hw0
  go_enter Tryd.func51, Tryd.ntmps51
  go_wp2_with fail
  refine (line_str sb kb _ key _ HS0.out (by simp) (by simp; omega) hsk hk1).mono ?_
  rintro e wa1 ⟨rfl, ho1, hs1⟩
  have HX1 := Lib.hid (HX0.out.trans ho1)
  have HS1 := Lib.hid hs1
  have HN1 := Lib.hid (HN0.out.only ho1 (by omega))
  have HOB1 := Lib.hid (HOB0.out.only ho1 (by omega))
  clear ho1 hs1
  have na1 := HN1.out.cell 0
  have nb1 := HN1.out.cell 1
  have nc1 := HOB1.out.cell 3
  go_wp2_with fail
  refine (line_str sb kb _ old _ HS1.out (by simp) (by simp; omega) hsk hk3).mono ?_
  rintro e wa2 ⟨rfl, ho2, hs2⟩
  have HX2 := Lib.hid (HX1.out.trans ho2)
  have HS2 := Lib.hid hs2
  have HN2 := Lib.hid (HN1.out.only ho2 (by omega))
  have HOB2 := Lib.hid (HOB1.out.only ho2 (by omega))
  clear ho2 hs2 na1 nb1 nc1
  have na2 := HN2.out.cell 0
  have nb2 := HN2.out.cell 1
  have nc2 := HOB2.out.cell 2
  go_wp2_with fail
  refine (line_str sb kb _ value _ HS2.out (by simp) (by simp; omega) hsk hk2).mono ?_
  rintro e wa3 ⟨rfl, ho3, hs3⟩
  have HX3 := Lib.hid (HX2.out.trans ho3)
  have HS3 := Lib.hid hs3
  have HN3 := Lib.hid (HN2.out.only ho3 (by omega))
  have HOB3 := Lib.hid (HOB2.out.only ho3 (by omega))
  clear ho3 hs3 na2 nb2 nc2
  go_wp2_with fail
  go_end0
  refine ⟨rfl, HX3.out, ?_⟩
  have hz := HS3.out
  simp only [List.append_assoc, List.cons_append, List.nil_append] at hz
  exact hz

set_option maxHeartbeats 4000000 in
theorem lineop_4 (sb kb : Nat) (row : List (Option (List Nat))) (key value old : ByteArray) (version : Int) (w : World) (h : LSt w sb kb row) (hne : row ≠ []) (hl : row.length + 5 ≤ 100000) (hsk : sb ≠ kb) (hk : BOp.okR ⟨4, key, value, old, version⟩) :
    Calls Tryd.prog 51 #[.agg #[.pointer (some ⟨sb, 0, none⟩), .pointer (some ⟨kb, 0, none⟩)], .agg #[.int .i64 4, .string key, .string value, .string old, .int .i64 version]] w (LinePost sb kb row (opRow ⟨4, key, value, old, version⟩) w) := by
  obtain ⟨hk1, hk2, hk3, hk4, hk5⟩ := hk
  simp only at hk1 hk2 hk3 hk4 hk5
  obtain ⟨t, ok, hs, hkb, p1, p2, p3⟩ := h
  have hsN : sb < w.heap.size := hs.lt
  have hkN : kb < w.heap.size := hkb.lt
  have hw0 : (w.setCell ⟨sb, 0, none⟩ (.string (t ++ ⟨#[32, 101, 120, 112, 101, 99, 116]⟩))).heap.size = w.heap.size := by simp [World.setCell]
  have c0 : w.cell? ⟨sb, 0, none⟩ = some (.string t) := hs.cell 0
  have c0f := hs.frozen 0
  have hne0 : sb ≠ w.heap.size := by omega
  have hne1 : sb ≠ w.heap.size + 1 := by omega
  have hz2 : t.size + (⟨#[32, 101, 120, 112, 101, 99, 116]⟩ : ByteArray).size ≤ 9223372036854775807 := Nat.le_trans (Nat.add_le_add_left (show (⟨#[32, 101, 120, 112, 101, 99, 116]⟩ : ByteArray).size ≤ 100 by decide) _) (by omega)
  have HX0 := Lib.hid (show Only (fun k => k = sb ∨ k = kb) w (((w.setCell ⟨sb, 0, none⟩ (.string (t ++ ⟨#[32, 101, 120, 112, 101, 99, 116]⟩))).alloc (.cells #[.pointer (some ⟨sb, 0, none⟩), .pointer (some ⟨kb, 0, none⟩)] 112)).alloc (.cells #[.int .i64 4, .string key, .string value, .string old, .int .i64 version] 103)) from (((Only.refl _ w).set (.inl (.inl rfl)) _).alloc _).alloc _)
  have HS0 := Lib.hid (show LSt (((w.setCell ⟨sb, 0, none⟩ (.string (t ++ ⟨#[32, 101, 120, 112, 101, 99, 116]⟩))).alloc (.cells #[.pointer (some ⟨sb, 0, none⟩), .pointer (some ⟨kb, 0, none⟩)] 112)).alloc (.cells #[.int .i64 4, .string key, .string value, .string old, .int .i64 version] 103)) sb kb (row ++ [some [101, 120, 112, 101, 99, 116]]) from
    line_next (t2 := ⟨#[101, 120, 112, 101, 99, 116]⟩) (ok2 := true) (ok := ok) p1 p2 p3 hne (.inl ⟨[101, 120, 112, 101, 99, 116], rfl, by apply str_ext; kernel_rfl, rfl⟩) (by decide) (by
      have e : ((⟨#[32]⟩ : ByteArray) ++ ⟨#[101, 120, 112, 101, 99, 116]⟩) = ⟨#[32, 101, 120, 112, 101, 99, 116]⟩ := by apply str_ext; kernel_rfl
      rw [e]
      exact ((hs.put 0 _).alloc _).alloc _) (by rw [Bool.and_true]; exact ((hkb.far (p := ⟨sb, 0, none⟩) (Ne.symm hsk) _).alloc _).alloc _))
  have HN0 := Lib.hid (show Blk (((w.setCell ⟨sb, 0, none⟩ (.string (t ++ ⟨#[32, 101, 120, 112, 101, 99, 116]⟩))).alloc (.cells #[.pointer (some ⟨sb, 0, none⟩), .pointer (some ⟨kb, 0, none⟩)] 112)).alloc (.cells #[.int .i64 4, .string key, .string value, .string old, .int .i64 version] 103)) w.heap.size 112 #[.pointer (some ⟨sb, 0, none⟩), .pointer (some ⟨kb, 0, none⟩)] from by
    have := (Blk.new (w.setCell ⟨sb, 0, none⟩ (.string (t ++ ⟨#[32, 101, 120, 112, 101, 99, 116]⟩))) 112 #[.pointer (some ⟨sb, 0, none⟩), .pointer (some ⟨kb, 0, none⟩)]).alloc (.cells #[.int .i64 4, .string key, .string value, .string old, .int .i64 version] 103)
    rw [hw0] at this
    exact this)
  have HOB0 := Lib.hid (show Blk (((w.setCell ⟨sb, 0, none⟩ (.string (t ++ ⟨#[32, 101, 120, 112, 101, 99, 116]⟩))).alloc (.cells #[.pointer (some ⟨sb, 0, none⟩), .pointer (some ⟨kb, 0, none⟩)] 112)).alloc (.cells #[.int .i64 4, .string key, .string value, .string old, .int .i64 version] 103)) (w.heap.size + 1) 103 #[.int .i64 4, .string key, .string value, .string old, .int .i64 version] from by
    have := Blk.new ((w.setCell ⟨sb, 0, none⟩ (.string (t ++ ⟨#[32, 101, 120, 112, 101, 99, 116]⟩))).alloc (.cells #[.pointer (some ⟨sb, 0, none⟩), .pointer (some ⟨kb, 0, none⟩)] 112)) 103 #[.int .i64 4, .string key, .string value, .string old, .int .i64 version]
    rw [World.size_alloc, hw0] at this
    exact this)
  clear p1 p2 p3 hs hkb hw0
  go_enter Tryd.func51, Tryd.ntmps51
  go_wp2_with fail
  refine (line_str sb kb _ key _ HS0.out (by simp) (by simp; omega) hsk hk1).mono ?_
  rintro e wa1 ⟨rfl, ho1, hs1⟩
  have HX1 := Lib.hid (HX0.out.trans ho1)
  have HS1 := Lib.hid hs1
  have HN1 := Lib.hid (HN0.out.only ho1 (by omega))
  have HOB1 := Lib.hid (HOB0.out.only ho1 (by omega))
  clear ho1 hs1
  have na1 := HN1.out.cell 0
  have nb1 := HN1.out.cell 1
  have nc1 := HOB1.out.cell 4
  go_wp2_with fail
  refine (line_num sb kb _ version _ HS1.out (by simp) (by simp; omega) hsk hk4 hk5).mono ?_
  rintro e wa2 ⟨rfl, ho2, hs2⟩
  have HX2 := Lib.hid (HX1.out.trans ho2)
  have HS2 := Lib.hid hs2
  have HN2 := Lib.hid (HN1.out.only ho2 (by omega))
  have HOB2 := Lib.hid (HOB1.out.only ho2 (by omega))
  clear ho2 hs2 na1 nb1 nc1
  go_wp2_with fail
  go_end0
  refine ⟨rfl, HX2.out, ?_⟩
  have hz := HS2.out
  simp only [List.append_assoc, List.cons_append, List.nil_append] at hz
  exact hz

set_option maxHeartbeats 2000000 in
theorem lineop_else (sb kb : Nat) (row : List (Option (List Nat))) (o : BOp) (w : World) (h : LSt w sb kb row) (hsk : sb ≠ kb) (hk : o.kind < 1 ∨ 4 < o.kind) :
    Calls Tryd.prog 51 #[.agg #[.pointer (some ⟨sb, 0, none⟩), .pointer (some ⟨kb, 0, none⟩)], .agg (bCells o).toArray] w (LinePost sb kb row (opRow o) w) := by
  have HR := Lib.hid (show opRow o = [none] by unfold opRow; rw [if_neg (by omega), if_neg (by omega), if_neg (by omega), if_neg (by omega)])
  obtain ⟨k, key, value, old, version⟩ := o
  unfold bCells
  simp only at hk ⊢
  obtain ⟨t, ok, hs, hkb, p1, p2, p3⟩ := h
  have hsN : sb < w.heap.size := hs.lt
  have hkN : kb < w.heap.size := hkb.lt
  have k1 := hkb.cell 0
  have k1f := hkb.frozen 0
  have hne0 : kb ≠ w.heap.size := by omega
  have hne1 : kb ≠ w.heap.size + 1 := by omega
  have hb1 : (k == 1) = false := by simp; omega
  have hb2 : (k == 2) = false := by simp; omega
  have hb3 : (k == 3) = false := by simp; omega
  have hb4 : (k == 4) = false := by simp; omega
  have HS := Lib.hid hs
  have HK := Lib.hid hkb
  have HT := Lib.hid p3
  clear hs hkb p1 p2 p3 hk
  go_enter Tryd.func51, Tryd.ntmps51
  go_wp2_with fail
  go_end0
  refine ⟨rfl, (((Only.refl _ w).set (.inl (.inr rfl)) _).alloc _).alloc _, t, false, ((HS.out.far hsk _).alloc _).alloc _, ((HK.out.put 0 _).alloc _).alloc _, ?_, fun _ => rfl, ?_⟩
  · intro ws hw
    rw [HR.out, tellAll_snoc] at hw
    cases hr : tellAll row <;> rw [hr] at hw <;> cases hw
  · rw [HR.out, List.length_append, List.length_singleton]
    have := HT.out
    omega

theorem lineop_any (sb kb : Nat) (row : List (Option (List Nat))) (o : BOp) (w : World) (h : LSt w sb kb row) (hne : row ≠ []) (hl : row.length + 5 ≤ 100000) (hsk : sb ≠ kb) (hk : o.okR) :
    Calls Tryd.prog 51 #[.agg #[.pointer (some ⟨sb, 0, none⟩), .pointer (some ⟨kb, 0, none⟩)], .agg (bCells o).toArray] w (LinePost sb kb row (opRow o) w) := by
  by_cases h1 : o.kind = 1
  · obtain ⟨k, key, value, old, version⟩ := o
    simp only at h1
    subst h1
    exact lineop_1 sb kb row key value old version w h hne hl hsk hk
  · by_cases h2 : o.kind = 2
    · obtain ⟨k, key, value, old, version⟩ := o
      simp only at h2
      subst h2
      exact lineop_2 sb kb row key value old version w h hne hl hsk hk
    · by_cases h3 : o.kind = 3
      · obtain ⟨k, key, value, old, version⟩ := o
        simp only at h3
        subst h3
        exact lineop_3 sb kb row key value old version w h hne hl hsk hk
      · by_cases h4 : o.kind = 4
        · obtain ⟨k, key, value, old, version⟩ := o
          simp only at h4
          subst h4
          exact lineop_4 sb kb row key value old version w h hne hl hsk hk
        · exact lineop_else sb kb row o w h hsk (by omega)
end Go.Proofs.YtjhmehmmpfnnkaaDoor

namespace Go.Proofs.YtjhmehmmpfnnkaaDoor
open Go.RowKit Utf
set_option maxRecDepth 100000
set_option linter.unusedSimpArgs false
set_option linter.unusedVariables false

def refKind (k e : Int) : Nat := refVerbs.findIdx (verbIs k e)
theorem refKind_step {k e : Int} {i : Nat} (hi : i < refVerbs.length) (h : i ≤ refKind k e) (hne : verbIs k e refVerbs[i] = false) : i + 1 ≤ refKind k e := by
  rcases Nat.lt_or_ge i (refKind k e) with h1 | h1
  · exact h1
  · exfalso
    have e1 : refVerbs.findIdx (verbIs k e) = i := Nat.le_antisymm h1 h
    have := List.findIdx_getElem (p := verbIs k e) (xs := refVerbs) (w := by rw [e1]; exact hi)
    have h2 : refVerbs[refVerbs.findIdx (verbIs k e)]'(by rw [e1]; exact hi) = refVerbs[i] := getElem_congr_idx e1
    rw [h2, hne] at this
    cases this
theorem refKind_hit {k e : Int} {i : Nat} (hi : i < refVerbs.length) (h : i ≤ refKind k e) (he : verbIs k e refVerbs[i] = true) : refKind k e = i := by
  refine Nat.le_antisymm (Nat.le_of_not_lt fun h1 => ?_) h
  have := List.not_of_lt_findIdx (p := verbIs k e) (xs := refVerbs) (i := i) h1
  rw [he] at this
  cases this
theorem ref_find : ∀ v ∈ verbs, refVerbs.find? (verbIs v.kind v.ekind) = some v := by
  intro v hv
  simp only [verbs, List.mem_cons, List.not_mem_nil, or_false] at hv
  rcases hv with rfl | rfl | rfl | rfl | rfl | rfl | rfl | rfl | rfl | rfl | rfl | rfl | rfl | rfl | rfl | rfl | rfl <;> rfl
theorem verbIs_fun {k e : Int} {v : Verb} (h : verbIs k e v = true) : verbIs k e = verbIs v.kind v.ekind := by
  unfold verbIs at h
  simp only [Bool.and_eq_true, Bool.or_eq_true, decide_eq_true_eq] at h
  obtain ⟨rfl, h2⟩ := h
  funext u
  unfold verbIs
  rw [Bool.eq_iff_iff]
  simp only [Bool.and_eq_true, Bool.or_eq_true, decide_eq_true_eq]
  constructor
  · rintro ⟨h3, h4⟩
    refine ⟨h3, ?_⟩
    rcases h4 with h4 | h4
    · exact .inl h4
    · rcases h2 with h2 | h2
      · exact .inl (by rw [h3]; exact h2)
      · exact .inr (by rw [h4, h2])
  · rintro ⟨h3, h4⟩
    refine ⟨h3, ?_⟩
    rcases h4 with h4 | h4
    · exact .inl h4
    · rcases h2 with h2 | h2
      · exact .inl (by rw [h3]; exact h2)
      · exact .inr (by rw [h4, h2])
/-- The same verb by either table. -/
theorem verbT_ref (k e : Int) : verbT k e = refVerbs[refKind k e]? := by
  rw [show refVerbs[refKind k e]? = refVerbs.find? (verbIs k e) from (find_idx _ _).symm]
  unfold verbT
  cases hf : verbs.find? (verbIs k e) with
  | some v =>
    rw [verbIs_fun (List.find?_some hf), ref_find v (List.mem_of_find?_eq_some hf)]
  | none =>
    cases hr : refVerbs.find? (verbIs k e) with
    | none => rfl
    | some u =>
      have hm := refVerb_mem u (List.mem_of_find?_eq_some hr)
      have := List.find?_eq_none.1 hf u (List.mem_of_getElem? hm)
      exact absurd (List.find?_some hr) this

/-- A call of a Go function, as one step of a region; the operation is told by where its answer goes (the proof of 'hrun' is looked at by the kernel alone, too late to choose by). -/
theorem step_call2 {P : Program} {ops : Array Oper} {o : Oper} {a : Act} {w : World} {K : Act → World → Prop} {Q : Exit → Act → World → Prop} {E : Prop} (hgd : o.guard = none) (d : Tmp) (hd : o.dst = some d)
    (f : FuncId) (args : Array Value) (hrun : (execOp a.eval o).run P w = .ok (.enter f args) w) (R : Value → World → Prop) (hc : Calls P f args w fun e w' => ∃ v, e = .returned v ∧ R v w')
    (h : Hid (∀ v w', R v w' → K (a.put o.dst v) w')) : if Region.wanted o (yielded ops a.tmps) = true then Oper.wp P o a w K Q else E :=
  step_call hgd f args hrun R hc h
structure QSt (w : World) (d ob : Nat) (ocs : Array Value) (fs : ByteArray) (wr : World) (row : List (Option (List Nat))) : Prop where
  only : Only (fun _ => False) w wr
  oo : Blk wr ob 52 ocs
  rw : wr.cell? ⟨d, 3, none⟩ = some (.string fs)
  ln : Blk wr (d + 3) 112 #[.pointer (some ⟨d + 1, 0, none⟩), .pointer (some ⟨d + 2, 0, none⟩)]
  st : LSt wr (d + 1) (d + 2) row
  hob : ob < d
  base : w.heap.size ≤ d
section
variable {w : World} {d ob : Nat} {ocs : Array Value} {fs : ByteArray} {wr w' : World} {row more : List (Option (List Nat))}
theorem QSt.told (h : QSt w d ob ocs fs wr row) (ho : Only (fun k => k = d + 1 ∨ k = d + 2) wr w') (hs : LSt w' (d + 1) (d + 2) (row ++ more)) : QSt w d ob ocs fs w' (row ++ more) := by
  have h1 := h.hob
  have h2 := h.base
  exact ⟨h.only.step ho (fun k hk => .inr (by omega)), h.oo.only ho (by omega), ho.cell h.rw (by simp only; omega), h.ln.only ho (by omega), hs, h1, h2⟩
theorem QSt.alloc (h : QSt w d ob ocs fs wr row) (o : Obj) : QSt w d ob ocs fs (wr.alloc o) row := by
  obtain ⟨t, ok, h1, h2, h3⟩ := h.st
  exact ⟨h.only.alloc _, h.oo.alloc _, (World.cell?_alloc_lt wr o ⟨d, 3, none⟩ (World.block_lt_of_cell? wr _ h.rw)).trans h.rw, h.ln.alloc _, ⟨t, ok, h1.alloc _, h2.alloc _, h3⟩, h.hob, h.base⟩
theorem QSt.draw (h : QSt w d ob ocs fs wr row) : QSt w d ob ocs fs wr.drew row := by
  obtain ⟨t, ok, h1, h2, h3⟩ := h.st
  exact ⟨h.only.drewN 1, h.oo, h.rw, h.ln, ⟨t, ok, h1, h2, h3⟩, h.hob, h.base⟩
end
structure BP.okR (p : BP) : Prop where
  num : ∀ f, isNum f = true → -9223372036854775808 ≤ p.getN f ∧ p.getN f ≤ 9223372036854775807
  str : ∀ f, isNum f = false → (p.getS f).size ≤ 100000
/-- What tidewaterref31.Text answers. -/
def RefTextPost (l : BL) (w : World) (e : Ending) (w' : World) : Prop :=
  Below w.heap.size w w' ∧ ((∃ ws, textW l = some ws ∧ e = .returned (.tuple #[.string (mkS (encAll (joinW ws))), .bool true])) ∨ (textW l = none ∧ ∃ t, e = .returned (.tuple #[.string t, .bool false])))
end Go.Proofs.YtjhmehmmpfnnkaaDoor
