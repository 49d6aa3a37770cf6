/-
  The contract of (*lines.teller).op.
-/
import Derived.Test.YtjhmehmmpfnnkaaDoorM21
namespace Go.Proofs.YtjhmehmmpfnnkaaDoor
open Go.RowKit Utf
set_option maxRecDepth 100000
set_option linter.unusedSimpArgs false
set_option linter.unusedVariables false

/-- An operation's cells. -/
def bCells (o : BOp) : List Value := [.int .i64 o.kind, .string o.key, .string o.value, .string o.old, .int .i64 o.version]
def BOp.ok (o : BOp) : Prop := o.key.size ≤ 1000000 ∧ o.value.size ≤ 1000000 ∧ o.old.size ≤ 1000000 ∧ -9223372036854775808 ≤ o.version ∧ o.version ≤ 9223372036854775807
theorem LErr.strB {W W' : World} {ea : Nat → Addr} {b B : Nat} (h : LErr W ea) (ho : Only (StrB b B W) W W') (hb : B ≤ b) (hB : gTop ≤ B) : LErr W' ea :=
  h.only ho (fun k hk => Nat.le_trans hB (hk.ge hb))

/-- What the append of a word leaves. -/
theorem tell_app {w w2 w4 : World} {ea : Nat → Addr} {b B ob g4 n4 cap4 : Nat} {v : Value} {xs : List ByteArray} {n : Nat} {t : ByteArray} {us : Array Value} {cs : Array Value} (HX : Only (StrB b B w) w w2) (hT : TAt w2 ea b B v xs n) (hO : Blk w2 ob 103 cs) (he : LErr w2 ea) (hbB : B ≤ b) (hBt : gTop ≤ B)
    (hgrow : (w2.drew.alloc (.cells us 9)).grownBy w4 v.ownBlock) (hown : w4.ownsRow B 9 1 (.slice (some ⟨g4, 0, none⟩) n4 cap4) (xs.length + 1) (strRow xs ++ [.string t])) (hblk : Blk w4 b 107 #[v, errOf ea n]) (hne : ob ≠ b) :
    Only (StrB b B w) w (w4.setCell ⟨b, 0, none⟩ (.slice (some ⟨g4, 0, none⟩) n4 cap4)) ∧ TAt (w4.setCell ⟨b, 0, none⟩ (.slice (some ⟨g4, 0, none⟩) n4 cap4)) ea b B (.slice (some ⟨g4, 0, none⟩) n4 cap4) (xs ++ [t]) n ∧ Blk (w4.setCell ⟨b, 0, none⟩ (.slice (some ⟨g4, 0, none⟩) n4 cap4)) ob 103 cs ∧ LErr (w4.setCell ⟨b, 0, none⟩ (.slice (some ⟨g4, 0, none⟩) n4 cap4)) ea := by
  have ho4 : Only (StrB b B w2) w2 w4 := (((Only.refl (StrB b B w2) w2).drewN 1).alloc (.cells us 9)).grown hgrow (fun k hk => .inl (own_strB hT.2 k hk))
  have hset : Only (fun k => k = b) w4 (w4.setCell ⟨b, 0, none⟩ (.slice (some ⟨g4, 0, none⟩) n4 cap4)) := (Only.refl (fun k => k = b) w4).set (.inl rfl) _
  have hset2 : Only (StrB b B w4) w4 (w4.setCell ⟨b, 0, none⟩ (.slice (some ⟨g4, 0, none⟩) n4 cap4)) := hset.mono (fun k hk => .inl hk)
  have hcv := own_ne_blk hown hblk (by decide)
  refine ⟨StrB.trans HX (StrB.trans ho4 hset2), ⟨hblk.put 0 _, ?_⟩, ?_, ?_⟩
  · have := own_only hown hset (fun g hg hh => by subst hh; exact hcv hg)
    rw [List.length_append, ← strRow_snoc]
    exact this
  · exact (hO.strB ho4 (by decide) hne).only hset hne
  · exact (he.strB ho4 hbB hBt).strB hset2 hbB hBt

set_option maxHeartbeats 4000000 in
theorem tellop_1 (b B : Nat) (ea : Nat → Addr) (v : Value) (xs : List ByteArray) (n : Nat) (row : List (Option (List Nat))) (key value old : ByteArray) (version : Int) (w : World) (h : TAt w ea b B v xs n) (hs : TSt row xs n) (hl : row.length + 5 ≤ 1000000) (hbB : B ≤ b) (hBt : gTop ≤ B)
    (hk : BOp.ok ⟨1, key, value, old, version⟩) (he : LErr w ea) (hBw : B ≤ w.heap.size) :
    Calls Tryd.prog 49 #[.pointer (some ⟨b, 0, none⟩), .agg #[.int .i64 1, .string key, .string value, .string old, .int .i64 version]] w (TellPost b B ea row (opRow ⟨1, key, value, old, version⟩) w) := by
  obtain ⟨i0, hi, hz0, hz1, hz2⟩ := info_parts Tryd.infoString
  obtain ⟨hk1, hk2, hk3, hk4, hk5⟩ := hk
  simp only at hk1 hk2 hk3 hk4 hk5
  have hblt : b < w.heap.size := h.1.lt
  have hX : Only (StrB b B w) w ((w.alloc (.cells #[.int .i64 1, .string key, .string value, .string old, .int .i64 version] 103)).alloc (.cells #[.string ⟨#[]⟩, .string ⟨#[112, 117, 116]⟩, .string ⟨#[100, 101, 108]⟩, .string ⟨#[99, 97, 115]⟩, .string ⟨#[101, 120, 112, 101, 99, 116]⟩] 9)) := ((Only.refl _ w).alloc _).alloc _
  have HX := Lib.hid hX
  have HOB := Lib.hid ((Blk.new w 103 #[.int .i64 1, .string key, .string value, .string old, .int .i64 version]).alloc (.cells #[.string ⟨#[]⟩, .string ⟨#[112, 117, 116]⟩, .string ⟨#[100, 101, 108]⟩, .string ⟨#[99, 97, 115]⟩, .string ⟨#[101, 120, 112, 101, 99, 116]⟩] 9))
  have HT1 := Lib.hid (show TAt ((w.alloc (.cells #[.int .i64 1, .string key, .string value, .string old, .int .i64 version] 103)).alloc (.cells #[.string ⟨#[]⟩, .string ⟨#[112, 117, 116]⟩, .string ⟨#[100, 101, 108]⟩, .string ⟨#[99, 97, 115]⟩, .string ⟨#[101, 120, 112, 101, 99, 116]⟩] 9)) ea b B v xs n from ⟨(h.1.alloc _).alloc _, (h.2.alloc _).alloc _⟩)
  have HE1 := Lib.hid (show LErr ((w.alloc (.cells #[.int .i64 1, .string key, .string value, .string old, .int .i64 version] 103)).alloc (.cells #[.string ⟨#[]⟩, .string ⟨#[112, 117, 116]⟩, .string ⟨#[100, 101, 108]⟩, .string ⟨#[99, 97, 115]⟩, .string ⟨#[101, 120, 112, 101, 99, 116]⟩] 9)) ea from he.only (S := fun _ => False) (((Only.refl _ w).alloc _).alloc _) (fun _ h => h.elim))
  have HST := Lib.hid (hs.good (x := [112, 117, 116]) (o := some [112, 117, 116]) (t := ⟨#[112, 117, 116]⟩) rfl (by apply str_ext; kernel_rfl))
  have hlen : xs.length ≤ 1000000 := by have := hs.1; omega
  have HSN := Lib.hid (show B ≤ ((w.alloc (.cells #[.int .i64 1, .string key, .string value, .string old, .int .i64 version] 103)).alloc (.cells #[.string ⟨#[]⟩, .string ⟨#[112, 117, 116]⟩, .string ⟨#[100, 101, 108]⟩, .string ⟨#[99, 97, 115]⟩, .string ⟨#[101, 120, 112, 101, 99, 116]⟩] 9)).heap.size by simp; omega)
  obtain ⟨ao, no, co, rfl⟩ := own_slice3 h.2
  have k0 : w.cell? ⟨b, 0, none⟩ = some (.slice ao no co) := h.1.cell 0
  have hne0 : b ≠ w.heap.size := by omega
  have hne1 : b ≠ w.heap.size + 1 := by omega
  have hne2 : b ≠ w.heap.size + 1 + 1 := by omega
  clear h hs he hX
  go_enter Tryd.func49, Tryd.ntmps49
  go_wp2_with fail
  have k3 : (((w.alloc (.cells #[.int .i64 1, .string key, .string value, .string old, .int .i64 version] 103)).alloc (.cells #[.string ⟨#[]⟩, .string ⟨#[112, 117, 116]⟩, .string ⟨#[100, 101, 108]⟩, .string ⟨#[99, 97, 115]⟩, .string ⟨#[101, 120, 112, 101, 99, 116]⟩] 9)).alloc (.cells #[.string ⟨#[112, 117, 116]⟩] 9)).cell? ⟨b, 0, none⟩ = some (.slice ao no co) := (HT1.out.1.alloc _).cell 0
  have HTA := Lib.hid (show TAt (((w.alloc (.cells #[.int .i64 1, .string key, .string value, .string old, .int .i64 version] 103)).alloc (.cells #[.string ⟨#[]⟩, .string ⟨#[112, 117, 116]⟩, .string ⟨#[100, 101, 108]⟩, .string ⟨#[99, 97, 115]⟩, .string ⟨#[101, 120, 112, 101, 99, 116]⟩] 9)).drew.alloc (.cells #[.string ⟨#[112, 117, 116]⟩] 9)) ea b B (.slice ao no co) xs n from ⟨Blk.alloc (w := ((w.alloc (.cells #[.int .i64 1, .string key, .string value, .string old, .int .i64 version] 103)).alloc (.cells #[.string ⟨#[]⟩, .string ⟨#[112, 117, 116]⟩, .string ⟨#[100, 101, 108]⟩, .string ⟨#[99, 97, 115]⟩, .string ⟨#[101, 120, 112, 101, 99, 116]⟩] 9)).drew) HT1.out.1 _, World.ownsRow.alloc (w := ((w.alloc (.cells #[.int .i64 1, .string key, .string value, .string old, .int .i64 version] 103)).alloc (.cells #[.string ⟨#[]⟩, .string ⟨#[112, 117, 116]⟩, .string ⟨#[100, 101, 108]⟩, .string ⟨#[99, 97, 115]⟩, .string ⟨#[101, 120, 112, 101, 99, 116]⟩] 9)).drew) HT1.out.2 _⟩)
  have hnc := new_cells [.string ⟨#[112, 117, 116]⟩] ((w.alloc (.cells #[.int .i64 1, .string key, .string value, .string old, .int .i64 version] 103)).alloc (.cells #[.string ⟨#[]⟩, .string ⟨#[112, 117, 116]⟩, .string ⟨#[100, 101, 108]⟩, .string ⟨#[99, 97, 115]⟩, .string ⟨#[101, 120, 112, 101, 99, 116]⟩] 9)).drew 9
  rw [show ((w.alloc (.cells #[.int .i64 1, .string key, .string value, .string old, .int .i64 version] 103)).alloc (.cells #[.string ⟨#[]⟩, .string ⟨#[112, 117, 116]⟩, .string ⟨#[100, 101, 108]⟩, .string ⟨#[99, 97, 115]⟩, .string ⟨#[101, 120, 112, 101, 99, 116]⟩] 9)).drew.heap.size = w.heap.size + 1 + 1 from (World.size_alloc _ _).trans (congrArg (· + 1) (World.size_alloc _ _))] at hnc
  have HNC := Lib.hid hnc
  clear hnc
  go_region_law (refine step_app rfl _ _ 22 rfl B 9 i0 _ 1 16 Tryd.underlying22 hi hz0 hz1 hz2 rfl (by omega) (.slice ao no co) xs.length (strRow xs) (by simp [Act.eval, Act.put]) HTA.out.2 (w.heap.size + 1 + 1) [.string ⟨#[112, 117, 116]⟩] (by simp [Act.eval, Act.put]) rfl HNC.out (by intro u hu; simp at hu; subst hu; rfl) (by omega) (by omega) (by simp; omega) b 0 rfl 107 _ (.slice ao no co) HTA.out.1 rfl (by decide) ?_; intro g4 cap4 w4 hown4 hgrow4 hblk4 hcell4 hfz4)
  all_goals
    have happ := tell_app HX.out HT1.out HOB.out HE1.out hbB hBt hgrow4 hown4 hblk4 (fun h => hne0 h.symm)
    have HX0 := Lib.hid happ.1
    have HT0 := Lib.hid happ.2.1
    have HOB0 := Lib.hid happ.2.2.1
    have HE0 := Lib.hid happ.2.2.2
    have HS0 := Lib.hid HST.out
    have HSZ0 := Lib.hid (show B ≤ (w4.setCell ⟨b, 0, none⟩ (.slice (some ⟨g4, 0, none⟩) (xs.length + 1) cap4)).heap.size from Nat.le_trans hBw HX0.out.size)
    clear happ hown4 hgrow4 hblk4 hcell4 hfz4 HTA HNC k3
    generalize w4.setCell ⟨b, 0, none⟩ (.slice (some ⟨g4, 0, none⟩) (xs.length + 1) cap4) = wa0 at *
    have kob0 := HOB0.out.cell 0
    go_wp2_with fail
    refine (tell_str b B w.heap.size 1 ea _ _ _ _ key wa0 HT0.out HS0.out (by simp; omega) (by omega) hBt (HOB0.out.cell 1) hk1 HE0.out HSZ0.out).mono ?_
    rintro e wa1 ⟨rfl, ho1, v1, xs1, n1, ht1, hs1⟩
    have HX1 := Lib.hid (StrB.trans HX0.out ho1)
    have HT1 := Lib.hid ht1
    have HS1 := Lib.hid hs1
    have HOB1 := Lib.hid (HOB0.out.strB ho1 (by decide) (fun h => hne0 h.symm))
    have HE1 := Lib.hid (HE0.out.strB ho1 hbB hBt)
    have HSZ1 := Lib.hid (Nat.le_trans HSZ0.out ho1.size)
    clear ho1 ht1 hs1 kob0
    have kob1 := HOB1.out.cell 0
    go_wp2_with fail
    refine (tell_str b B w.heap.size 2 ea _ _ _ _ value wa1 HT1.out HS1.out (by simp; omega) (by omega) hBt (HOB1.out.cell 2) hk2 HE1.out HSZ1.out).mono ?_
    rintro e wa2 ⟨rfl, ho2, v2, xs2, n2, ht2, hs2⟩
    have HX2 := Lib.hid (StrB.trans HX1.out ho2)
    have HT2 := Lib.hid ht2
    have HS2 := Lib.hid hs2
    have HOB2 := Lib.hid (HOB1.out.strB ho2 (by decide) (fun h => hne0 h.symm))
    have HE2 := Lib.hid (HE1.out.strB ho2 hbB hBt)
    have HSZ2 := Lib.hid (Nat.le_trans HSZ1.out ho2.size)
    clear ho2 ht2 hs2 kob1
    have kobz := HOB2.out.cell 0
    go_wp2_with fail
    go_end0
    refine ⟨rfl, HX2.out, v2, xs2, n2, HT2.out, ?_⟩
    have hz := HS2.out
    simp only [List.append_assoc, List.cons_append, List.nil_append] at hz
    exact hz

set_option maxHeartbeats 4000000 in
theorem tellop_2 (b B : Nat) (ea : Nat → Addr) (v : Value) (xs : List ByteArray) (n : Nat) (row : List (Option (List Nat))) (key value old : ByteArray) (version : Int) (w : World) (h : TAt w ea b B v xs n) (hs : TSt row xs n) (hl : row.length + 5 ≤ 1000000) (hbB : B ≤ b) (hBt : gTop ≤ B)
    (hk : BOp.ok ⟨2, key, value, old, version⟩) (he : LErr w ea) (hBw : B ≤ w.heap.size) :
    Calls Tryd.prog 49 #[.pointer (some ⟨b, 0, none⟩), .agg #[.int .i64 2, .string key, .string value, .string old, .int .i64 version]] w (TellPost b B ea row (opRow ⟨2, key, value, old, version⟩) w) := by
  obtain ⟨i0, hi, hz0, hz1, hz2⟩ := info_parts Tryd.infoString
  obtain ⟨hk1, hk2, hk3, hk4, hk5⟩ := hk
  simp only at hk1 hk2 hk3 hk4 hk5
  have hblt : b < w.heap.size := h.1.lt
  have hX : Only (StrB b B w) w ((w.alloc (.cells #[.int .i64 2, .string key, .string value, .string old, .int .i64 version] 103)).alloc (.cells #[.string ⟨#[]⟩, .string ⟨#[112, 117, 116]⟩, .string ⟨#[100, 101, 108]⟩, .string ⟨#[99, 97, 115]⟩, .string ⟨#[101, 120, 112, 101, 99, 116]⟩] 9)) := ((Only.refl _ w).alloc _).alloc _
  have HX := Lib.hid hX
  have HOB := Lib.hid ((Blk.new w 103 #[.int .i64 2, .string key, .string value, .string old, .int .i64 version]).alloc (.cells #[.string ⟨#[]⟩, .string ⟨#[112, 117, 116]⟩, .string ⟨#[100, 101, 108]⟩, .string ⟨#[99, 97, 115]⟩, .string ⟨#[101, 120, 112, 101, 99, 116]⟩] 9))
  have HT1 := Lib.hid (show TAt ((w.alloc (.cells #[.int .i64 2, .string key, .string value, .string old, .int .i64 version] 103)).alloc (.cells #[.string ⟨#[]⟩, .string ⟨#[112, 117, 116]⟩, .string ⟨#[100, 101, 108]⟩, .string ⟨#[99, 97, 115]⟩, .string ⟨#[101, 120, 112, 101, 99, 116]⟩] 9)) ea b B v xs n from ⟨(h.1.alloc _).alloc _, (h.2.alloc _).alloc _⟩)
  have HE1 := Lib.hid (show LErr ((w.alloc (.cells #[.int .i64 2, .string key, .string value, .string old, .int .i64 version] 103)).alloc (.cells #[.string ⟨#[]⟩, .string ⟨#[112, 117, 116]⟩, .string ⟨#[100, 101, 108]⟩, .string ⟨#[99, 97, 115]⟩, .string ⟨#[101, 120, 112, 101, 99, 116]⟩] 9)) ea from he.only (S := fun _ => False) (((Only.refl _ w).alloc _).alloc _) (fun _ h => h.elim))
  have HST := Lib.hid (hs.good (x := [100, 101, 108]) (o := some [100, 101, 108]) (t := ⟨#[100, 101, 108]⟩) rfl (by apply str_ext; kernel_rfl))
  have hlen : xs.length ≤ 1000000 := by have := hs.1; omega
  have HSN := Lib.hid (show B ≤ ((w.alloc (.cells #[.int .i64 2, .string key, .string value, .string old, .int .i64 version] 103)).alloc (.cells #[.string ⟨#[]⟩, .string ⟨#[112, 117, 116]⟩, .string ⟨#[100, 101, 108]⟩, .string ⟨#[99, 97, 115]⟩, .string ⟨#[101, 120, 112, 101, 99, 116]⟩] 9)).heap.size by simp; omega)
  obtain ⟨ao, no, co, rfl⟩ := own_slice3 h.2
  have k0 : w.cell? ⟨b, 0, none⟩ = some (.slice ao no co) := h.1.cell 0
  have hne0 : b ≠ w.heap.size := by omega
  have hne1 : b ≠ w.heap.size + 1 := by omega
  have hne2 : b ≠ w.heap.size + 1 + 1 := by omega
  clear h hs he hX
  go_enter Tryd.func49, Tryd.ntmps49
  go_wp2_with fail
  have k3 : (((w.alloc (.cells #[.int .i64 2, .string key, .string value, .string old, .int .i64 version] 103)).alloc (.cells #[.string ⟨#[]⟩, .string ⟨#[112, 117, 116]⟩, .string ⟨#[100, 101, 108]⟩, .string ⟨#[99, 97, 115]⟩, .string ⟨#[101, 120, 112, 101, 99, 116]⟩] 9)).alloc (.cells #[.string ⟨#[100, 101, 108]⟩] 9)).cell? ⟨b, 0, none⟩ = some (.slice ao no co) := (HT1.out.1.alloc _).cell 0
  have HTA := Lib.hid (show TAt (((w.alloc (.cells #[.int .i64 2, .string key, .string value, .string old, .int .i64 version] 103)).alloc (.cells #[.string ⟨#[]⟩, .string ⟨#[112, 117, 116]⟩, .string ⟨#[100, 101, 108]⟩, .string ⟨#[99, 97, 115]⟩, .string ⟨#[101, 120, 112, 101, 99, 116]⟩] 9)).drew.alloc (.cells #[.string ⟨#[100, 101, 108]⟩] 9)) ea b B (.slice ao no co) xs n from ⟨Blk.alloc (w := ((w.alloc (.cells #[.int .i64 2, .string key, .string value, .string old, .int .i64 version] 103)).alloc (.cells #[.string ⟨#[]⟩, .string ⟨#[112, 117, 116]⟩, .string ⟨#[100, 101, 108]⟩, .string ⟨#[99, 97, 115]⟩, .string ⟨#[101, 120, 112, 101, 99, 116]⟩] 9)).drew) HT1.out.1 _, World.ownsRow.alloc (w := ((w.alloc (.cells #[.int .i64 2, .string key, .string value, .string old, .int .i64 version] 103)).alloc (.cells #[.string ⟨#[]⟩, .string ⟨#[112, 117, 116]⟩, .string ⟨#[100, 101, 108]⟩, .string ⟨#[99, 97, 115]⟩, .string ⟨#[101, 120, 112, 101, 99, 116]⟩] 9)).drew) HT1.out.2 _⟩)
  have hnc := new_cells [.string ⟨#[100, 101, 108]⟩] ((w.alloc (.cells #[.int .i64 2, .string key, .string value, .string old, .int .i64 version] 103)).alloc (.cells #[.string ⟨#[]⟩, .string ⟨#[112, 117, 116]⟩, .string ⟨#[100, 101, 108]⟩, .string ⟨#[99, 97, 115]⟩, .string ⟨#[101, 120, 112, 101, 99, 116]⟩] 9)).drew 9
  rw [show ((w.alloc (.cells #[.int .i64 2, .string key, .string value, .string old, .int .i64 version] 103)).alloc (.cells #[.string ⟨#[]⟩, .string ⟨#[112, 117, 116]⟩, .string ⟨#[100, 101, 108]⟩, .string ⟨#[99, 97, 115]⟩, .string ⟨#[101, 120, 112, 101, 99, 116]⟩] 9)).drew.heap.size = w.heap.size + 1 + 1 from (World.size_alloc _ _).trans (congrArg (· + 1) (World.size_alloc _ _))] at hnc
  have HNC := Lib.hid hnc
  clear hnc
  go_region_law (refine step_app rfl _ _ 22 rfl B 9 i0 _ 1 16 Tryd.underlying22 hi hz0 hz1 hz2 rfl (by omega) (.slice ao no co) xs.length (strRow xs) (by simp [Act.eval, Act.put]) HTA.out.2 (w.heap.size + 1 + 1) [.string ⟨#[100, 101, 108]⟩] (by simp [Act.eval, Act.put]) rfl HNC.out (by intro u hu; simp at hu; subst hu; rfl) (by omega) (by omega) (by simp; omega) b 0 rfl 107 _ (.slice ao no co) HTA.out.1 rfl (by decide) ?_; intro g4 cap4 w4 hown4 hgrow4 hblk4 hcell4 hfz4)
  all_goals
    have happ := tell_app HX.out HT1.out HOB.out HE1.out hbB hBt hgrow4 hown4 hblk4 (fun h => hne0 h.symm)
    have HX0 := Lib.hid happ.1
    have HT0 := Lib.hid happ.2.1
    have HOB0 := Lib.hid happ.2.2.1
    have HE0 := Lib.hid happ.2.2.2
    have HS0 := Lib.hid HST.out
    have HSZ0 := Lib.hid (show B ≤ (w4.setCell ⟨b, 0, none⟩ (.slice (some ⟨g4, 0, none⟩) (xs.length + 1) cap4)).heap.size from Nat.le_trans hBw HX0.out.size)
    clear happ hown4 hgrow4 hblk4 hcell4 hfz4 HTA HNC k3
    generalize w4.setCell ⟨b, 0, none⟩ (.slice (some ⟨g4, 0, none⟩) (xs.length + 1) cap4) = wa0 at *
    have kob0 := HOB0.out.cell 0
    go_wp2_with fail
    refine (tell_str b B w.heap.size 1 ea _ _ _ _ key wa0 HT0.out HS0.out (by simp; omega) (by omega) hBt (HOB0.out.cell 1) hk1 HE0.out HSZ0.out).mono ?_
    rintro e wa1 ⟨rfl, ho1, v1, xs1, n1, ht1, hs1⟩
    have HX1 := Lib.hid (StrB.trans HX0.out ho1)
    have HT1 := Lib.hid ht1
    have HS1 := Lib.hid hs1
    have HOB1 := Lib.hid (HOB0.out.strB ho1 (by decide) (fun h => hne0 h.symm))
    have HE1 := Lib.hid (HE0.out.strB ho1 hbB hBt)
    have HSZ1 := Lib.hid (Nat.le_trans HSZ0.out ho1.size)
    clear ho1 ht1 hs1 kob0
    have kobz := HOB1.out.cell 0
    go_wp2_with fail
    go_end0
    refine ⟨rfl, HX1.out, v1, xs1, n1, HT1.out, ?_⟩
    have hz := HS1.out
    simp only [List.append_assoc, List.cons_append, List.nil_append] at hz
    exact hz

set_option maxHeartbeats 4000000 in
theorem tellop_3 (b B : Nat) (ea : Nat → Addr) (v : Value) (xs : List ByteArray) (n : Nat) (row : List (Option (List Nat))) (key value old : ByteArray) (version : Int) (w : World) (h : TAt w ea b B v xs n) (hs : TSt row xs n) (hl : row.length + 5 ≤ 1000000) (hbB : B ≤ b) (hBt : gTop ≤ B)
    (hk : BOp.ok ⟨3, key, value, old, version⟩) (he : LErr w ea) (hBw : B ≤ w.heap.size) :
    Calls Tryd.prog 49 #[.pointer (some ⟨b, 0, none⟩), .agg #[.int .i64 3, .string key, .string value, .string old, .int .i64 version]] w (TellPost b B ea row (opRow ⟨3, key, value, old, version⟩) w) := by
  obtain ⟨i0, hi, hz0, hz1, hz2⟩ := info_parts Tryd.infoString
  obtain ⟨hk1, hk2, hk3, hk4, hk5⟩ := hk
  simp only at hk1 hk2 hk3 hk4 hk5
  have hblt : b < w.heap.size := h.1.lt
  have hX : Only (StrB b B w) w ((w.alloc (.cells #[.int .i64 3, .string key, .string value, .string old, .int .i64 version] 103)).alloc (.cells #[.string ⟨#[]⟩, .string ⟨#[112, 117, 116]⟩, .string ⟨#[100, 101, 108]⟩, .string ⟨#[99, 97, 115]⟩, .string ⟨#[101, 120, 112, 101, 99, 116]⟩] 9)) := ((Only.refl _ w).alloc _).alloc _
  have HX := Lib.hid hX
  have HOB := Lib.hid ((Blk.new w 103 #[.int .i64 3, .string key, .string value, .string old, .int .i64 version]).alloc (.cells #[.string ⟨#[]⟩, .string ⟨#[112, 117, 116]⟩, .string ⟨#[100, 101, 108]⟩, .string ⟨#[99, 97, 115]⟩, .string ⟨#[101, 120, 112, 101, 99, 116]⟩] 9))
  have HT1 := Lib.hid (show TAt ((w.alloc (.cells #[.int .i64 3, .string key, .string value, .string old, .int .i64 version] 103)).alloc (.cells #[.string ⟨#[]⟩, .string ⟨#[112, 117, 116]⟩, .string ⟨#[100, 101, 108]⟩, .string ⟨#[99, 97, 115]⟩, .string ⟨#[101, 120, 112, 101, 99, 116]⟩] 9)) ea b B v xs n from ⟨(h.1.alloc _).alloc _, (h.2.alloc _).alloc _⟩)
  have HE1 := Lib.hid (show LErr ((w.alloc (.cells #[.int .i64 3, .string key, .string value, .string old, .int .i64 version] 103)).alloc (.cells #[.string ⟨#[]⟩, .string ⟨#[112, 117, 116]⟩, .string ⟨#[100, 101, 108]⟩, .string ⟨#[99, 97, 115]⟩, .string ⟨#[101, 120, 112, 101, 99, 116]⟩] 9)) ea from he.only (S := fun _ => False) (((Only.refl _ w).alloc _).alloc _) (fun _ h => h.elim))
  have HST := Lib.hid (hs.good (x := [99, 97, 115]) (o := some [99, 97, 115]) (t := ⟨#[99, 97, 115]⟩) rfl (by apply str_ext; kernel_rfl))
  have hlen : xs.length ≤ 1000000 := by have := hs.1; omega
  have HSN := Lib.hid (show B ≤ ((w.alloc (.cells #[.int .i64 3, .string key, .string value, .string old, .int .i64 version] 103)).alloc (.cells #[.string ⟨#[]⟩, .string ⟨#[112, 117, 116]⟩, .string ⟨#[100, 101, 108]⟩, .string ⟨#[99, 97, 115]⟩, .string ⟨#[101, 120, 112, 101, 99, 116]⟩] 9)).heap.size by simp; omega)
  obtain ⟨ao, no, co, rfl⟩ := own_slice3 h.2
  have k0 : w.cell? ⟨b, 0, none⟩ = some (.slice ao no co) := h.1.cell 0
  have hne0 : b ≠ w.heap.size := by omega
  have hne1 : b ≠ w.heap.size + 1 := by omega
  have hne2 : b ≠ w.heap.size + 1 + 1 := by omega
  clear h hs he hX
  go_enter Tryd.func49, Tryd.ntmps49
  go_wp2_with fail
  have k3 : (((w.alloc (.cells #[.int .i64 3, .string key, .string value, .string old, .int .i64 version] 103)).alloc (.cells #[.string ⟨#[]⟩, .string ⟨#[112, 117, 116]⟩, .string ⟨#[100, 101, 108]⟩, .string ⟨#[99, 97, 115]⟩, .string ⟨#[101, 120, 112, 101, 99, 116]⟩] 9)).alloc (.cells #[.string ⟨#[99, 97, 115]⟩] 9)).cell? ⟨b, 0, none⟩ = some (.slice ao no co) := (HT1.out.1.alloc _).cell 0
  have HTA := Lib.hid (show TAt (((w.alloc (.cells #[.int .i64 3, .string key, .string value, .string old, .int .i64 version] 103)).alloc (.cells #[.string ⟨#[]⟩, .string ⟨#[112, 117, 116]⟩, .string ⟨#[100, 101, 108]⟩, .string ⟨#[99, 97, 115]⟩, .string ⟨#[101, 120, 112, 101, 99, 116]⟩] 9)).drew.alloc (.cells #[.string ⟨#[99, 97, 115]⟩] 9)) ea b B (.slice ao no co) xs n from ⟨Blk.alloc (w := ((w.alloc (.cells #[.int .i64 3, .string key, .string value, .string old, .int .i64 version] 103)).alloc (.cells #[.string ⟨#[]⟩, .string ⟨#[112, 117, 116]⟩, .string ⟨#[100, 101, 108]⟩, .string ⟨#[99, 97, 115]⟩, .string ⟨#[101, 120, 112, 101, 99, 116]⟩] 9)).drew) HT1.out.1 _, World.ownsRow.alloc (w := ((w.alloc (.cells #[.int .i64 3, .string key, .string value, .string old, .int .i64 version] 103)).alloc (.cells #[.string ⟨#[]⟩, .string ⟨#[112, 117, 116]⟩, .string ⟨#[100, 101, 108]⟩, .string ⟨#[99, 97, 115]⟩, .string ⟨#[101, 120, 112, 101, 99, 116]⟩] 9)).drew) HT1.out.2 _⟩)
  have hnc := new_cells [.string ⟨#[99, 97, 115]⟩] ((w.alloc (.cells #[.int .i64 3, .string key, .string value, .string old, .int .i64 version] 103)).alloc (.cells #[.string ⟨#[]⟩, .string ⟨#[112, 117, 116]⟩, .string ⟨#[100, 101, 108]⟩, .string ⟨#[99, 97, 115]⟩, .string ⟨#[101, 120, 112, 101, 99, 116]⟩] 9)).drew 9
  rw [show ((w.alloc (.cells #[.int .i64 3, .string key, .string value, .string old, .int .i64 version] 103)).alloc (.cells #[.string ⟨#[]⟩, .string ⟨#[112, 117, 116]⟩, .string ⟨#[100, 101, 108]⟩, .string ⟨#[99, 97, 115]⟩, .string ⟨#[101, 120, 112, 101, 99, 116]⟩] 9)).drew.heap.size = w.heap.size + 1 + 1 from (World.size_alloc _ _).trans (congrArg (· + 1) (World.size_alloc _ _))] at hnc
  have HNC := Lib.hid hnc
  clear hnc
  go_region_law (refine step_app rfl _ _ 22 rfl B 9 i0 _ 1 16 Tryd.underlying22 hi hz0 hz1 hz2 rfl (by omega) (.slice ao no co) xs.length (strRow xs) (by simp [Act.eval, Act.put]) HTA.out.2 (w.heap.size + 1 + 1) [.string ⟨#[99, 97, 115]⟩] (by simp [Act.eval, Act.put]) rfl HNC.out (by intro u hu; simp at hu; subst hu; rfl) (by omega) (by omega) (by simp; omega) b 0 rfl 107 _ (.slice ao no co) HTA.out.1 rfl (by decide) ?_; intro g4 cap4 w4 hown4 hgrow4 hblk4 hcell4 hfz4)
  all_goals
    have happ := tell_app HX.out HT1.out HOB.out HE1.out hbB hBt hgrow4 hown4 hblk4 (fun h => hne0 h.symm)
    have HX0 := Lib.hid happ.1
    have HT0 := Lib.hid happ.2.1
    have HOB0 := Lib.hid happ.2.2.1
    have HE0 := Lib.hid happ.2.2.2
    have HS0 := Lib.hid HST.out
    have HSZ0 := Lib.hid (show B ≤ (w4.setCell ⟨b, 0, none⟩ (.slice (some ⟨g4, 0, none⟩) (xs.length + 1) cap4)).heap.size from Nat.le_trans hBw HX0.out.size)
    clear happ hown4 hgrow4 hblk4 hcell4 hfz4 HTA HNC k3
    generalize w4.setCell ⟨b, 0, none⟩ (.slice (some ⟨g4, 0, none⟩) (xs.length + 1) cap4) = wa0 at *
    have kob0 := HOB0.out.cell 0
    go_wp2_with fail
    refine (tell_str b B w.heap.size 1 ea _ _ _ _ key wa0 HT0.out HS0.out (by simp; omega) (by omega) hBt (HOB0.out.cell 1) hk1 HE0.out HSZ0.out).mono ?_
    rintro e wa1 ⟨rfl, ho1, v1, xs1, n1, ht1, hs1⟩
    have HX1 := Lib.hid (StrB.trans HX0.out ho1)
    have HT1 := Lib.hid ht1
    have HS1 := Lib.hid hs1
    have HOB1 := Lib.hid (HOB0.out.strB ho1 (by decide) (fun h => hne0 h.symm))
    have HE1 := Lib.hid (HE0.out.strB ho1 hbB hBt)
    have HSZ1 := Lib.hid (Nat.le_trans HSZ0.out ho1.size)
    clear ho1 ht1 hs1 kob0
    have kob1 := HOB1.out.cell 0
    go_wp2_with fail
    refine (tell_str b B w.heap.size 3 ea _ _ _ _ old wa1 HT1.out HS1.out (by simp; omega) (by omega) hBt (HOB1.out.cell 3) hk3 HE1.out HSZ1.out).mono ?_
    rintro e wa2 ⟨rfl, ho2, v2, xs2, n2, ht2, hs2⟩
    have HX2 := Lib.hid (StrB.trans HX1.out ho2)
    have HT2 := Lib.hid ht2
    have HS2 := Lib.hid hs2
    have HOB2 := Lib.hid (HOB1.out.strB ho2 (by decide) (fun h => hne0 h.symm))
    have HE2 := Lib.hid (HE1.out.strB ho2 hbB hBt)
    have HSZ2 := Lib.hid (Nat.le_trans HSZ1.out ho2.size)
    clear ho2 ht2 hs2 kob1
    have kob2 := HOB2.out.cell 0
    go_wp2_with fail
    refine (tell_str b B w.heap.size 2 ea _ _ _ _ value wa2 HT2.out HS2.out (by simp; omega) (by omega) hBt (HOB2.out.cell 2) hk2 HE2.out HSZ2.out).mono ?_
    rintro e wa3 ⟨rfl, ho3, v3, xs3, n3, ht3, hs3⟩
    have HX3 := Lib.hid (StrB.trans HX2.out ho3)
    have HT3 := Lib.hid ht3
    have HS3 := Lib.hid hs3
    have HOB3 := Lib.hid (HOB2.out.strB ho3 (by decide) (fun h => hne0 h.symm))
    have HE3 := Lib.hid (HE2.out.strB ho3 hbB hBt)
    have HSZ3 := Lib.hid (Nat.le_trans HSZ2.out ho3.size)
    clear ho3 ht3 hs3 kob2
    have kobz := HOB3.out.cell 0
    go_wp2_with fail
    go_end0
    refine ⟨rfl, HX3.out, v3, xs3, n3, HT3.out, ?_⟩
    have hz := HS3.out
    simp only [List.append_assoc, List.cons_append, List.nil_append] at hz
    exact hz

set_option maxHeartbeats 4000000 in
theorem tellop_4 (b B : Nat) (ea : Nat → Addr) (v : Value) (xs : List ByteArray) (n : Nat) (row : List (Option (List Nat))) (key value old : ByteArray) (version : Int) (w : World) (h : TAt w ea b B v xs n) (hs : TSt row xs n) (hl : row.length + 5 ≤ 1000000) (hbB : B ≤ b) (hBt : gTop ≤ B)
    (hk : BOp.ok ⟨4, key, value, old, version⟩) (he : LErr w ea) (hBw : B ≤ w.heap.size) :
    Calls Tryd.prog 49 #[.pointer (some ⟨b, 0, none⟩), .agg #[.int .i64 4, .string key, .string value, .string old, .int .i64 version]] w (TellPost b B ea row (opRow ⟨4, key, value, old, version⟩) w) := by
  obtain ⟨i0, hi, hz0, hz1, hz2⟩ := info_parts Tryd.infoString
  obtain ⟨hk1, hk2, hk3, hk4, hk5⟩ := hk
  simp only at hk1 hk2 hk3 hk4 hk5
  have hblt : b < w.heap.size := h.1.lt
  have hX : Only (StrB b B w) w ((w.alloc (.cells #[.int .i64 4, .string key, .string value, .string old, .int .i64 version] 103)).alloc (.cells #[.string ⟨#[]⟩, .string ⟨#[112, 117, 116]⟩, .string ⟨#[100, 101, 108]⟩, .string ⟨#[99, 97, 115]⟩, .string ⟨#[101, 120, 112, 101, 99, 116]⟩] 9)) := ((Only.refl _ w).alloc _).alloc _
  have HX := Lib.hid hX
  have HOB := Lib.hid ((Blk.new w 103 #[.int .i64 4, .string key, .string value, .string old, .int .i64 version]).alloc (.cells #[.string ⟨#[]⟩, .string ⟨#[112, 117, 116]⟩, .string ⟨#[100, 101, 108]⟩, .string ⟨#[99, 97, 115]⟩, .string ⟨#[101, 120, 112, 101, 99, 116]⟩] 9))
  have HT1 := Lib.hid (show TAt ((w.alloc (.cells #[.int .i64 4, .string key, .string value, .string old, .int .i64 version] 103)).alloc (.cells #[.string ⟨#[]⟩, .string ⟨#[112, 117, 116]⟩, .string ⟨#[100, 101, 108]⟩, .string ⟨#[99, 97, 115]⟩, .string ⟨#[101, 120, 112, 101, 99, 116]⟩] 9)) ea b B v xs n from ⟨(h.1.alloc _).alloc _, (h.2.alloc _).alloc _⟩)
  have HE1 := Lib.hid (show LErr ((w.alloc (.cells #[.int .i64 4, .string key, .string value, .string old, .int .i64 version] 103)).alloc (.cells #[.string ⟨#[]⟩, .string ⟨#[112, 117, 116]⟩, .string ⟨#[100, 101, 108]⟩, .string ⟨#[99, 97, 115]⟩, .string ⟨#[101, 120, 112, 101, 99, 116]⟩] 9)) ea from he.only (S := fun _ => False) (((Only.refl _ w).alloc _).alloc _) (fun _ h => h.elim))
  have HST := Lib.hid (hs.good (x := [101, 120, 112, 101, 99, 116]) (o := some [101, 120, 112, 101, 99, 116]) (t := ⟨#[101, 120, 112, 101, 99, 116]⟩) rfl (by apply str_ext; kernel_rfl))
  have hlen : xs.length ≤ 1000000 := by have := hs.1; omega
  have HSN := Lib.hid (show B ≤ ((w.alloc (.cells #[.int .i64 4, .string key, .string value, .string old, .int .i64 version] 103)).alloc (.cells #[.string ⟨#[]⟩, .string ⟨#[112, 117, 116]⟩, .string ⟨#[100, 101, 108]⟩, .string ⟨#[99, 97, 115]⟩, .string ⟨#[101, 120, 112, 101, 99, 116]⟩] 9)).heap.size by simp; omega)
  obtain ⟨ao, no, co, rfl⟩ := own_slice3 h.2
  have k0 : w.cell? ⟨b, 0, none⟩ = some (.slice ao no co) := h.1.cell 0
  have hne0 : b ≠ w.heap.size := by omega
  have hne1 : b ≠ w.heap.size + 1 := by omega
  have hne2 : b ≠ w.heap.size + 1 + 1 := by omega
  clear h hs he hX
  go_enter Tryd.func49, Tryd.ntmps49
  go_wp2_with fail
  have k3 : (((w.alloc (.cells #[.int .i64 4, .string key, .string value, .string old, .int .i64 version] 103)).alloc (.cells #[.string ⟨#[]⟩, .string ⟨#[112, 117, 116]⟩, .string ⟨#[100, 101, 108]⟩, .string ⟨#[99, 97, 115]⟩, .string ⟨#[101, 120, 112, 101, 99, 116]⟩] 9)).alloc (.cells #[.string ⟨#[101, 120, 112, 101, 99, 116]⟩] 9)).cell? ⟨b, 0, none⟩ = some (.slice ao no co) := (HT1.out.1.alloc _).cell 0
  have HTA := Lib.hid (show TAt (((w.alloc (.cells #[.int .i64 4, .string key, .string value, .string old, .int .i64 version] 103)).alloc (.cells #[.string ⟨#[]⟩, .string ⟨#[112, 117, 116]⟩, .string ⟨#[100, 101, 108]⟩, .string ⟨#[99, 97, 115]⟩, .string ⟨#[101, 120, 112, 101, 99, 116]⟩] 9)).drew.alloc (.cells #[.string ⟨#[101, 120, 112, 101, 99, 116]⟩] 9)) ea b B (.slice ao no co) xs n from ⟨Blk.alloc (w := ((w.alloc (.cells #[.int .i64 4, .string key, .string value, .string old, .int .i64 version] 103)).alloc (.cells #[.string ⟨#[]⟩, .string ⟨#[112, 117, 116]⟩, .string ⟨#[100, 101, 108]⟩, .string ⟨#[99, 97, 115]⟩, .string ⟨#[101, 120, 112, 101, 99, 116]⟩] 9)).drew) HT1.out.1 _, World.ownsRow.alloc (w := ((w.alloc (.cells #[.int .i64 4, .string key, .string value, .string old, .int .i64 version] 103)).alloc (.cells #[.string ⟨#[]⟩, .string ⟨#[112, 117, 116]⟩, .string ⟨#[100, 101, 108]⟩, .string ⟨#[99, 97, 115]⟩, .string ⟨#[101, 120, 112, 101, 99, 116]⟩] 9)).drew) HT1.out.2 _⟩)
  have hnc := new_cells [.string ⟨#[101, 120, 112, 101, 99, 116]⟩] ((w.alloc (.cells #[.int .i64 4, .string key, .string value, .string old, .int .i64 version] 103)).alloc (.cells #[.string ⟨#[]⟩, .string ⟨#[112, 117, 116]⟩, .string ⟨#[100, 101, 108]⟩, .string ⟨#[99, 97, 115]⟩, .string ⟨#[101, 120, 112, 101, 99, 116]⟩] 9)).drew 9
  rw [show ((w.alloc (.cells #[.int .i64 4, .string key, .string value, .string old, .int .i64 version] 103)).alloc (.cells #[.string ⟨#[]⟩, .string ⟨#[112, 117, 116]⟩, .string ⟨#[100, 101, 108]⟩, .string ⟨#[99, 97, 115]⟩, .string ⟨#[101, 120, 112, 101, 99, 116]⟩] 9)).drew.heap.size = w.heap.size + 1 + 1 from (World.size_alloc _ _).trans (congrArg (· + 1) (World.size_alloc _ _))] at hnc
  have HNC := Lib.hid hnc
  clear hnc
  go_region_law (refine step_app rfl _ _ 22 rfl B 9 i0 _ 1 16 Tryd.underlying22 hi hz0 hz1 hz2 rfl (by omega) (.slice ao no co) xs.length (strRow xs) (by simp [Act.eval, Act.put]) HTA.out.2 (w.heap.size + 1 + 1) [.string ⟨#[101, 120, 112, 101, 99, 116]⟩] (by simp [Act.eval, Act.put]) rfl HNC.out (by intro u hu; simp at hu; subst hu; rfl) (by omega) (by omega) (by simp; omega) b 0 rfl 107 _ (.slice ao no co) HTA.out.1 rfl (by decide) ?_; intro g4 cap4 w4 hown4 hgrow4 hblk4 hcell4 hfz4)
  all_goals
    have happ := tell_app HX.out HT1.out HOB.out HE1.out hbB hBt hgrow4 hown4 hblk4 (fun h => hne0 h.symm)
    have HX0 := Lib.hid happ.1
    have HT0 := Lib.hid happ.2.1
    have HOB0 := Lib.hid happ.2.2.1
    have HE0 := Lib.hid happ.2.2.2
    have HS0 := Lib.hid HST.out
    have HSZ0 := Lib.hid (show B ≤ (w4.setCell ⟨b, 0, none⟩ (.slice (some ⟨g4, 0, none⟩) (xs.length + 1) cap4)).heap.size from Nat.le_trans hBw HX0.out.size)
    clear happ hown4 hgrow4 hblk4 hcell4 hfz4 HTA HNC k3
    generalize w4.setCell ⟨b, 0, none⟩ (.slice (some ⟨g4, 0, none⟩) (xs.length + 1) cap4) = wa0 at *
    have kob0 := HOB0.out.cell 0
    go_wp2_with fail
    refine (tell_str b B w.heap.size 1 ea _ _ _ _ key wa0 HT0.out HS0.out (by simp; omega) (by omega) hBt (HOB0.out.cell 1) hk1 HE0.out HSZ0.out).mono ?_
    rintro e wa1 ⟨rfl, ho1, v1, xs1, n1, ht1, hs1⟩
    have HX1 := Lib.hid (StrB.trans HX0.out ho1)
    have HT1 := Lib.hid ht1
    have HS1 := Lib.hid hs1
    have HOB1 := Lib.hid (HOB0.out.strB ho1 (by decide) (fun h => hne0 h.symm))
    have HE1 := Lib.hid (HE0.out.strB ho1 hbB hBt)
    have HSZ1 := Lib.hid (Nat.le_trans HSZ0.out ho1.size)
    clear ho1 ht1 hs1 kob0
    have kob1 := HOB1.out.cell 0
    go_wp2_with fail
    refine (tell_num b B w.heap.size 4 ea _ _ _ _ version wa1 HT1.out HS1.out (by simp; omega) (by omega) hBt (HOB1.out.cell 4) hk4 hk5 HE1.out HSZ1.out).mono ?_
    rintro e wa2 ⟨rfl, ho2, v2, xs2, n2, ht2, hs2⟩
    have HX2 := Lib.hid (StrB.trans HX1.out ho2)
    have HT2 := Lib.hid ht2
    have HS2 := Lib.hid hs2
    have HOB2 := Lib.hid (HOB1.out.strB ho2 (by decide) (fun h => hne0 h.symm))
    have HE2 := Lib.hid (HE1.out.strB ho2 hbB hBt)
    have HSZ2 := Lib.hid (Nat.le_trans HSZ1.out ho2.size)
    clear ho2 ht2 hs2 kob1
    have kobz := HOB2.out.cell 0
    go_wp2_with fail
    go_end0
    refine ⟨rfl, HX2.out, v2, xs2, n2, HT2.out, ?_⟩
    have hz := HS2.out
    simp only [List.append_assoc, List.cons_append, List.nil_append] at hz
    exact hz

set_option maxHeartbeats 2000000 in
theorem tellop_else (b B : Nat) (ea : Nat → Addr) (v : Value) (xs : List ByteArray) (n : Nat) (row : List (Option (List Nat))) (o : BOp) (w : World) (h : TAt w ea b B v xs n) (hs : TSt row xs n) (hbB : B ≤ b)
    (hk : o.kind < 1 ∨ 4 < o.kind) (he : LErr w ea) :
    Calls Tryd.prog 49 #[.pointer (some ⟨b, 0, none⟩), .agg (bCells o).toArray] w (TellPost b B ea row (opRow o) w) := by
  have HR := Lib.hid (show opRow o = [none] by unfold opRow; rw [if_neg (by omega), if_neg (by omega), if_neg (by omega), if_neg (by omega)])
  obtain ⟨k, key, value, old, version⟩ := o
  unfold bCells
  simp only at hk ⊢
  have hblt : b < w.heap.size := h.1.lt
  have ke := (show LErr ((w.alloc (.cells #[.int .i64 k, .string key, .string value, .string old, .int .i64 version] 103)).alloc (.cells #[.string ⟨#[]⟩, .string ⟨#[112, 117, 116]⟩, .string ⟨#[100, 101, 108]⟩, .string ⟨#[99, 97, 115]⟩, .string ⟨#[101, 120, 112, 101, 99, 116]⟩] 9)) ea from he.only (S := fun _ => False) (((Only.refl _ w).alloc _).alloc _) (fun _ h => h.elim)).form
  have k1 := h.1.cell 1
  have k1f := h.1.frozen 1
  have hne0 : b ≠ w.heap.size := by omega
  have hne1 : b ≠ w.heap.size + 1 := by omega
  have HT := Lib.hid h
  have HS := Lib.hid (hs.bad [] (o := none) rfl (by simp))
  clear h hs he
  have hkk : k < 1 ∨ (¬ k < 1 ∧ 4 < k) := by omega
  clear hk
  rcases hkk with hk | ⟨hk, hk4⟩
  all_goals
    go_enter Tryd.func49, Tryd.ntmps49
    go_wp2_with fail
    first | (refine bodyPost_ret (results_none rfl _ _ _) rfl ?_) | go_end0 | go_outline
    have hset : Only (fun k => k = b) w (w.setCell ⟨b, 1, none⟩ (.iface 163 (.pointer (some (ea 3))))) := (Only.refl (fun k => k = b) w).set (.inl rfl) _
    have hT1 : TAt (w.setCell ⟨b, 1, none⟩ (.iface 163 (.pointer (some (ea 3))))) ea b B v xs 4 := ⟨HT.out.1.put 1 _, own_only HT.out.2 hset (fun g hg hh => by subst hh; exact own_ne_blk HT.out.2 HT.out.1 (by decide) hg)⟩
    refine ⟨rfl, ((hset.mono (fun k hk => .inl hk)).alloc _).alloc _, v, xs, 4, ⟨(hT1.1.alloc _).alloc _, (hT1.2.alloc _).alloc _⟩, ?_⟩
    rw [HR.out]
    have := HS.out
    rw [List.append_nil] at this
    exact this

theorem tellop_any (b B : Nat) (ea : Nat → Addr) (v : Value) (xs : List ByteArray) (n : Nat) (row : List (Option (List Nat))) (o : BOp) (w : World) (h : TAt w ea b B v xs n) (hs : TSt row xs n) (hl : row.length + 5 ≤ 1000000) (hbB : B ≤ b) (hBt : gTop ≤ B)
    (hk : o.ok) (he : LErr w ea) (hBw : B ≤ w.heap.size) :
    Calls Tryd.prog 49 #[.pointer (some ⟨b, 0, none⟩), .agg (bCells o).toArray] w (TellPost b B ea row (opRow o) w) := by
  by_cases h1 : o.kind = 1
  · obtain ⟨k, key, value, old, version⟩ := o
    simp only at h1
    subst h1
    exact tellop_1 b B ea v xs n row key value old version w h hs hl hbB hBt hk he hBw
  · by_cases h2 : o.kind = 2
    · obtain ⟨k, key, value, old, version⟩ := o
      simp only at h2
      subst h2
      exact tellop_2 b B ea v xs n row key value old version w h hs hl hbB hBt hk he hBw
    · by_cases h3 : o.kind = 3
      · obtain ⟨k, key, value, old, version⟩ := o
        simp only at h3
        subst h3
        exact tellop_3 b B ea v xs n row key value old version w h hs hl hbB hBt hk he hBw
      · by_cases h4 : o.kind = 4
        · obtain ⟨k, key, value, old, version⟩ := o
          simp only at h4
          subst h4
          exact tellop_4 b B ea v xs n row key value old version w h hs hl hbB hBt hk he hBw
        · exact tellop_else b B ea v xs n row o w h hs hbB (by omega) he
end Go.Proofs.YtjhmehmmpfnnkaaDoor
