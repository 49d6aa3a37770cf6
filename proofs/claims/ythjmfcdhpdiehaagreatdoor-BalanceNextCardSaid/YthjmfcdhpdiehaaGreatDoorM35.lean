/-
  The reference's Check.
  The reference's Num and Text of little numbers, Bytes of right entries that count, Same. (Printed by wip/gen/rbytes.py.)
  A plan, step by step, on the reference's map. Plain Lean.
-/
import Derived.Test.YthjmfcdhpdiehaaGreatDoorM30
import Derived.Test.YthjmfcdhpdiehaaGreatDoorM15
import Derived.Test.YthjmfcdhpdiehaaGreatDoorM08
import Derived.Test.YthjmfcdhpdiehaaGreatDoorM06
import Derived.Test.YthjmfcdhpdiehaaGreatDoorM07
import Derived.Lib.AppendStr
import Derived.Test.YthjmfcdhpdiehaaGreatDoorM31
import Derived.Test.YthjmfcdhpdiehaaGreatDoorM27
namespace Go.Proofs.YthjmfcdhpdiehaaGreatDoor
open Go.RowKit Utf
set_option maxRecDepth 100000
set_option linter.unusedSimpArgs false
set_option linter.unusedVariables false

set_option maxHeartbeats 1000000 in
theorem rcheckN_any (l : List LD) (lo : Option Addr) (lc : Nat) (s most : Int) (w : World) (hn : l.length ≤ 1000000) (hr : RowAt w lo (ldRow l)) (hk : LdOk l) :
    Calls Tryz.prog 27 #[.slice lo l.length lc, .int .i64 s, .int .i64 most] w fun e w' => e = .returned (.int .i64 ((checkN l s most : Nat) : Int)) ∧ Below w.heap.size w w' := by
  have HF := Lib.hid (rld_any l lo lc w hn hr hk)
  clear hr hk
  cases hrb : rightB l with
  | false =>
    have HZ := Lib.hid (show ((checkN l s most : Nat) : Int) = 4 from by unfold checkN; rw [if_pos hrb]; rfl)
    rw [hrb] at HF
    rw [HZ.out]
    clear hrb HZ
    go_enter Tryz.func27, Tryz.ntmps27
    go_wp2_with fail
    refine HF.out.mono ?_
    rintro e w1 ⟨rfl, hb⟩
    have HB := Lib.hid hb
    clear hb
    go_wp2_with fail
    go_ret
    exact ⟨rfl, HB.out⟩
  | true =>
    have HZ := Lib.hid (show ((checkN l s most : Nat) : Int) = if s < 1 then 1 else if 4 < s then 1 else if most < 1 then 1 else 0 from by
      unfold checkN
      rw [if_neg (by rw [hrb]; decide)]
      by_cases h1 : s < 1
      · rw [if_pos h1, if_pos h1]; rfl
      · by_cases h2 : 4 < s
        · rw [if_neg h1, if_neg h1, if_pos h2, if_pos h2]; rfl
        · by_cases h3 : most < 1
          · rw [if_neg h1, if_neg h1, if_neg h2, if_neg h2, if_pos h3, if_pos h3]; rfl
          · rw [if_neg h1, if_neg h1, if_neg h2, if_neg h2, if_neg h3, if_neg h3]; rfl)
    rw [hrb] at HF
    rw [HZ.out]
    clear hrb HZ
    by_cases h1 : s < 1
    · rw [if_pos h1]
      go_enter Tryz.func27, Tryz.ntmps27
      go_wp2_with fail
      refine HF.out.mono ?_
      rintro e w1 ⟨rfl, hb⟩
      have HB := Lib.hid hb
      clear hb
      go_wp2_with fail
      go_ret
      exact ⟨rfl, HB.out⟩
    rw [if_neg h1]
    by_cases h2 : 4 < s
    · rw [if_pos h2]
      go_enter Tryz.func27, Tryz.ntmps27
      go_wp2_with fail
      refine HF.out.mono ?_
      rintro e w1 ⟨rfl, hb⟩
      have HB := Lib.hid hb
      clear hb
      go_wp2_with fail
      go_ret
      exact ⟨rfl, HB.out⟩
    rw [if_neg h2]
    by_cases h3 : most < 1
    · rw [if_pos h3]
      go_enter Tryz.func27, Tryz.ntmps27
      go_wp2_with fail
      refine HF.out.mono ?_
      rintro e w1 ⟨rfl, hb⟩
      have HB := Lib.hid hb
      clear hb
      go_wp2_with fail
      go_ret
      exact ⟨rfl, HB.out⟩
    rw [if_neg h3]
    go_enter Tryz.func27, Tryz.ntmps27
    go_wp2_with fail
    refine HF.out.mono ?_
    rintro e w1 ⟨rfl, hb⟩
    have HB := Lib.hid hb
    clear hb
    go_wp2_with fail
    go_ret
    exact ⟨rfl, HB.out⟩
end Go.Proofs.YthjmfcdhpdiehaaGreatDoor

namespace Go.Proofs.YthjmfcdhpdiehaaGreatDoor
open Go.RowKit Utf Lib
set_option maxRecDepth 100000
set_option linter.unusedSimpArgs false
set_option linter.unusedVariables false

section
variable {P : Program} {ops : Array Oper} {rest : List Oper} {o : Oper} {a : Act} {Q : Exit → Act → World → Prop} {wp w0 : World}
/-- A text is appended to a row of the call's own. -/
theorem appStr (hgd : o.guard = none) (sl x : Operand) (t u : TypeId) (ho : o.op = .call { callee := .builtin .append, args := #[sl, x], argTypes := #[t, u] })
    (B : Nat) (e : TypeId) (i : TypeInfo) (ht : P.underlying t = some (.slice e)) (hu : P.underlying u = some .string) (hi : P.info? e = some i) (hz : i.zero = some (.int .u8 0)) (hsize : i.size = 1) (hby : i.bytes = 1)
    (v : Value) (n : Nat) (xs : List Value) (hs : a.eval sl = v) (hown : wp.ownsRow B e 1 v n xs) (s : ByteArray) (hx : a.eval x = .string s) (hn : n + s.size ≤ 1000000) (hbel : Below B w0 wp) (hB : B ≤ wp.heap.size)
    (h : Hid (∀ v' w', w'.ownsRow B e 1 v' (n + s.size) (xs ++ strCells s) → Below B w0 w' → wpList P ops Q rest (a.put o.dst v') w')) : wpList P ops Q (o :: rest) a wp := by
  refine wpList_append_own_string wp hgd sl x t u ho B e i ht hu hi hz hsize hby v n xs hs hown s hx (by unfold maxLen; omega) (by omega) hB ?_
  intro v' w' h1 h2 _
  exact h.out v' w' h1 (hbel.grown h2 hB (fun k hk => (hown.lt k hk).1))
end
theorem u8_row (n : Nat) (h : n < 128) : byteRow [UInt8.ofNat n] = [Value.int .u8 (n : Int)] := by
  simp only [byteRow, List.map_cons, List.map_nil]
  rw [u8_of n (by omega)]
theorem ownE_owns {w : World} {B : Nat} {e : TypeId} {size : Nat} {v : Value} {n : Nat} {xs : List Value} (h : OwnE w B e size v n xs) (hn : 1 ≤ n) : w.ownsRow B e size v n xs := by
  rcases h with ⟨-, h0, -⟩ | h
  · omega
  · exact h
theorem natRow_cell {w : World} {g : Nat} {ns : List Nat} (h : RowAt w (some ⟨g, 0, none⟩) (natRow ns)) {k : Nat} (hk : k < ns.length) : w.cell? ⟨g, k, none⟩ = some (.int .i64 (ns[k] : Nat)) := by
  obtain ⟨b, o, e, hc⟩ := h k (by rw [natRow_len]; exact hk)
  cases e
  rw [Nat.zero_add] at hc
  rw [hc]
  simp [natRow]
theorem byteRow_one (l : List UInt8) : ∀ u ∈ byteRow l, u.oneCell' = true := by
  intro u hu
  obtain ⟨x, -, rfl⟩ := List.mem_map.1 hu
  rfl
set_option maxHeartbeats 1000000 in
theorem num1_any (n : Nat) (w : World) (hn : n < 128) :
    Calls Tryz.prog 89 #[.int .i64 n] w fun e w' => ∃ v, e = .returned v ∧ w'.ownsRow w.heap.size 5 1 v 1 (byteRow [UInt8.ofNat n]) ∧ Below w.heap.size w w' := by
  have hlt : (n : Int) < 128 := by omega
  have hw : IntKind.u8.wrap (n : Int) = (n : Int) := Go.IntWalk.u8_in _ (by omega)
  have HR := Lib.hid (u8_row n hn)
  go_enter Tryz.func89, Tryz.ntmps89
  go_wp2_with fail
  go_ret
  refine ⟨_, rfl, ?_, below_alloc _ _⟩
  rw [HR.out]
  exact World.ownsRow_lit (size := 1) w #[.int .u8 (n : Int)] 1 (Nat.le_refl _) (by decide) rfl

set_option maxHeartbeats 1000000 in
theorem text1_any (s : ByteArray) (w : World) (hs : s.size < 128) :
    Calls Tryz.prog 90 #[.string s] w fun e w' => ∃ v, e = .returned v ∧ w'.ownsRow w.heap.size 5 1 v (1 + s.size) (byteRow (UInt8.ofNat s.size :: s.data.toList)) ∧ Below w.heap.size w w' := by
  obtain ⟨i0, hi, hz0, hz1, hz2⟩ := info_parts Tryz.infoByte
  have HI := Lib.hid (And.intro hi (And.intro hz0 (And.intro hz1 hz2)))
  have HSZ := Lib.hid hs
  clear hi hz0 hz1 hz2 hs
  go_enter Tryz.func90, Tryz.ntmps90
  go_wp2_with fail
  refine (num1_any s.size w HSZ.out).mono ?_
  rintro e w1 ⟨v, rfl, ho, hb⟩
  have HO := Lib.hid ho
  have HB := Lib.hid hb
  clear ho hb
  go_wp2_with (at_builtin; refine appStr rfl _ _ 42 9 rfl w.heap.size 5 i0 Tryz.underlying42 Tryz.underlying9 HI.out.1 HI.out.2.1 HI.out.2.2.1 HI.out.2.2.2 _ 1 _ rfl HO.out s rfl (by have := HSZ.out; omega) HB.out HB.out.size ?_)
  refine Lib.hid ?_
  intro v' w' h1 h2
  have H1 := Lib.hid h1
  have H2 := Lib.hid h2
  clear h1 h2
  go_wp2_with fail
  go_ret
  exact ⟨_, rfl, H1.out, H2.out⟩

/-- The numbers that an entry that counts is told by, and its bytes. -/
def numsE (e : EN) : List Nat := e.kind.toNat :: e.shard.toNat :: (if e.kind = 2 then [e.server.toNat] else if e.kind = 3 then [e.other.toNat, e.server.toNat] else [e.other.toNat])
def bytesE (e : EN) : List UInt8 := (numsE e).map UInt8.ofNat ++ (if e.kind = 3 then UInt8.ofNat e.key.size :: e.key.data.toList else [])
/-- How Bytes stands. -/
structure BX (w : World) (cs : Array Value) (g : Nat) (ns : List Nat) (W : World) : Prop where
  bel : Below w.heap.size w W
  box : Blk W w.heap.size 44 cs
  row : RowAt W (some ⟨g, 0, none⟩) (natRow ns)
theorem BX.next {w W W' : World} {cs : Array Value} {g : Nat} {ns : List Nat} (h : BX w cs g ns W) (hb : Below W.heap.size W W') : BX w cs g ns W' :=
  ⟨h.bel.trans (hb.mono h.bel.size), h.box.below hb h.box.lt, h.row.below hb⟩
set_option maxHeartbeats 4000000 in
theorem bytes_k2 (sh sv : Nat) (ot cl sq : Int) (ao : Option Addr) (no co : Nat) (key : ByteArray) (upto part parts : Int) (ad : Option Addr) (nd cd : Nat) (w : World) (h1 : sh ≤ 12) (h2 : sv ≤ 4) :
    Calls Tryz.prog 57 #[.agg #[.int .i64 2, .int .i64 (sh : Int), .int .i64 ot, .int .i64 (sv : Int), .int .i64 cl, .int .i64 sq, .slice ao no co, .string key, .int .i64 upto, .int .i64 part, .int .i64 parts, .slice ad nd cd]] w fun e' w' => ∃ v, e' = .returned v ∧ w'.ownsRow w.heap.size 5 1 v (byteRow ([2, sh, sv].map UInt8.ofNat)).length (byteRow ([2, sh, sv].map UInt8.ofNat)) ∧ Below w.heap.size w w' := by
  obtain ⟨i0, hi, hz0, hz1, hz2⟩ := info_parts Tryz.infoByte
  have HI := Lib.hid (And.intro hi (And.intro hz0 (And.intro hz1 hz2)))
  clear hi hz0 hz1 hz2
  obtain ⟨i1, hj, hy0, hy1, hy2⟩ := info_parts Tryz.infoInt
  have HJ := Lib.hid (And.intro hj (And.intro hy0 (And.intro hy1 hy2)))
  clear hj hy0 hy1 hy2
  have HX0 := Lib.hid (Blk.new w 44 #[.int .i64 2, .int .i64 (sh : Int), .int .i64 ot, .int .i64 (sv : Int), .int .i64 cl, .int .i64 sq, .slice ao no co, .string key, .int .i64 upto, .int .i64 part, .int .i64 parts, .slice ad nd cd])
  have hB0 := below_alloc w (.cells #[.int .i64 2, .int .i64 (sh : Int), .int .i64 ot, .int .i64 (sv : Int), .int .i64 cl, .int .i64 sq, .slice ao no co, .string key, .int .i64 upto, .int .i64 part, .int .i64 parts, .slice ad nd cd] 44)
  have HL0 := Lib.hid (World.ownsRow_lit (e := 3) (size := 1) (base := w.heap.size) (w.alloc (.cells #[.int .i64 2, .int .i64 (sh : Int), .int .i64 ot, .int .i64 (sv : Int), .int .i64 cl, .int .i64 sq, .slice ao no co, .string key, .int .i64 upto, .int .i64 part, .int .i64 parts, .slice ad nd cd] 44)) #[.int .i64 2, .int .i64 (sh : Int)] 2 hB0.size (by decide) rfl)
  rw [World.size_alloc] at HL0
  have HB0 := Lib.hid hB0
  clear hB0
  go_enter Tryz.func57, Tryz.ntmps57
  go_wp2_with (at_builtin; refine appE rfl _ _ 37 rfl 3 i1 (.int .i64 0) 1 8 Tryz.underlying37 HJ.out.1 HJ.out.2.1 HJ.out.2.2.1 HJ.out.2.2.2 rfl (by omega) w.heap.size _ _ _ rfl (.inr HL0.out) w.heap.size (Nat.le_refl _) ((HB0.out.trans ((below_alloc _ _).mono HB0.out.size))) (by simp <;> omega) [.int .i64 (sv : Int)] 1 rfl (by omega) (by intro u hu; simp at hu; subst hu; rfl) (by rw [World.size_alloc, World.size_alloc]; rfl) (by omega) (by omega) ?_)
  refine Lib.hid ?_
  intro v3 w3 h1 h2 h3
  obtain ⟨g3, c3, rfl, -, -, -, hr3⟩ := own_some h1 (by omega)
  obtain ⟨ns, HN0⟩ : ∃ ns : List Nat, Hid (ns = [2, sh, sv]) := ⟨_, Lib.hid rfl⟩
  have S3 := Lib.hid (show BX w #[.int .i64 2, .int .i64 (sh : Int), .int .i64 ot, .int .i64 (sv : Int), .int .i64 cl, .int .i64 sq, .slice ao no co, .string key, .int .i64 upto, .int .i64 part, .int .i64 parts, .slice ad nd cd] g3 ns w3 from ⟨h2, (h3.block w.heap.size (by simp <;> omega) (by simp [ownB])).trans ((HX0.out.alloc _).alloc _), by rw [HN0.out]; exact hr3⟩)
  have HNS := Lib.hid (show ∀ k (h : k < ns.length), ns[k] < 128 from by
    intro k h
    have hn := HN0.out
    subst hn
    have : k = 0 ∨ k = 1 ∨ k = 2 := by simp at h; omega
    rcases this with rfl | rfl | rfl <;> simp <;> omega)
  have HNL := Lib.hid (show ns.length = 3 from by rw [HN0.out]; rfl)
  clear h1 h2 h3 hr3 HX0 HL0 HB0
  have S4 := Lib.hid (OwnE.new (w := w3.alloc (.cells #[] 5)) (B := w3.heap.size) (e := 5) (size := 1) (g := w3.heap.size))
  have B4 := Lib.hid (below_alloc w3 (.cells #[] 5))
  go_wp2_with fail
  go_loopw [4, 65] (fun b4 i wr => ∃ k : Nat, k ≤ 3 ∧ i = .int .i64 k ∧ Hid (OwnE wr w3.heap.size 5 1 b4 k (byteRow ((ns.take k).map UInt8.ofNat))) ∧ Hid (Below w3.heap.size w3 wr)) (fun _ i _ => 3 - (intOf i).toNat)
  case atStart => exact ⟨0, Nat.zero_le _, rfl, S4, B4⟩
  case round =>
    obtain ⟨k, hk, rfl, HO, HB⟩ := hrel
    clear S4 B4
    by_cases hlt : k < 3
    · have hkl : k < ns.length := by have := HNL.out; omega
      have ck := natRow_cell (S3.out.next HB.out).row hkl
      have HN := Lib.hid (HNS.out k hkl)
      have HTK := Lib.hid (show byteRow ((ns.take k).map UInt8.ofNat) ++ byteRow [UInt8.ofNat ns[k]] = byteRow ((ns.take (k + 1)).map UInt8.ofNat) from by rw [← byteRow_app, List.take_succ_eq_append_getElem hkl, List.map_append]; rfl)
      have HTL := Lib.hid (show (byteRow ((ns.take k).map UInt8.ofNat)).length = k from by rw [byteRow_len, List.length_map, List.length_take]; omega)
      generalize (byteRow ((ns.take k).map UInt8.ofNat)) = rk at *
      generalize ns[k] = nk at *
      go_wp2_with fail
      refine (num1_any nk wr HN.out).mono ?_
      rintro e w4 ⟨v, rfl, ho, hb⟩
      obtain ⟨g4, c4, rfl, -, -, -, hr4⟩ := own_some ho (by omega)
      have HR4 := Lib.hid hr4
      have HO4 := Lib.hid (HO.out.below hb)
      have HB4 := Lib.hid (HB.out.trans (hb.mono HB.out.size))
      clear ho hb hr4 HO HB ck
      go_wp2_with (at_builtin; refine wpList_appX rfl _ _ 42 rfl 5 i0 _ 1 1 Tryz.underlying42 HI.out.1 HI.out.2.1 HI.out.2.2.1 HI.out.2.2.2 rfl (by decide) w3.heap.size _ k rk rfl HO4.out HB4.out.size g4 0 1 c4 (byteRow [UInt8.ofNat nk]) rfl rfl (Nat.le_refl _) HR4.out (by intro u hu; simp [byteRow] at hu; subst hu; rfl) (by omega) (by decide) ?_)
      refine Lib.hid ?_
      intro v5 w5 h1 h2
      have HO5 := Lib.hid (show OwnE w5 w3.heap.size 5 1 v5 (k + 1) (byteRow ((ns.take (k + 1)).map UInt8.ofNat)) from .inr (by rw [← HTK.out]; exact h1))
      have HB5 := Lib.hid (HB4.out.grown h2 HB4.out.size (fun q hq => (HO4.out.lt q hq).1))
      clear h1 h2 HO4 HB4
      go_wp2_with fail
      go_roundw
      case rel => exact ⟨k + 1, by omega, by go_num, HO5, HB5⟩
      case measure => simp [intOf]; omega
    · obtain rfl : k = 3 := by omega
      have HTK := Lib.hid (show (ns.take 3) = ns from List.take_of_length_le (by have := HNL.out; omega))
      have S6 := Lib.hid (S3.out.next HB.out)
      have c0 : wr.cell? ⟨w.heap.size, 0, none⟩ = some (.int .i64 2) := S6.out.box.cell 0
      have HO6 := Lib.hid (ownE_owns HO.out (by omega))
      rw [HTK.out] at HO6
      have HB6 := Lib.hid S6.out.bel
      have HS3 : Hid (w.heap.size ≤ w3.heap.size) := Lib.hid S3.out.bel.size
      have HSW : Hid (w3.heap.size ≤ wr.heap.size) := Lib.hid HB.out.size
      have HNM := Lib.hid (show (byteRow (ns.map UInt8.ofNat)).length = 3 from by rw [byteRow_len, List.length_map]; exact HNL.out)
      clear HO HB S6 HTK S3
      generalize wr = w6 at *
      go_wp2_with fail
      go_ret
      exact ⟨_, rfl, by rw [← HN0.out, HNM.out]; exact own_base HO6.out HS3.out, HB6.out⟩

set_option maxHeartbeats 4000000 in
theorem bytes_k3 (sh ot sv : Nat) (cl sq : Int) (ao : Option Addr) (no co : Nat) (key : ByteArray) (upto part parts : Int) (ad : Option Addr) (nd cd : Nat) (w : World) (h1 : sh ≤ 12) (h2 : ot ≤ 12) (h3 : sv ≤ 4) (h4 : key.size ≤ 100) :
    Calls Tryz.prog 57 #[.agg #[.int .i64 3, .int .i64 (sh : Int), .int .i64 (ot : Int), .int .i64 (sv : Int), .int .i64 cl, .int .i64 sq, .slice ao no co, .string key, .int .i64 upto, .int .i64 part, .int .i64 parts, .slice ad nd cd]] w fun e' w' => ∃ v, e' = .returned v ∧ w'.ownsRow w.heap.size 5 1 v (byteRow ([3, sh, ot, sv].map UInt8.ofNat ++ UInt8.ofNat key.size :: key.data.toList)).length (byteRow ([3, sh, ot, sv].map UInt8.ofNat ++ UInt8.ofNat key.size :: key.data.toList)) ∧ Below w.heap.size w w' := by
  obtain ⟨i0, hi, hz0, hz1, hz2⟩ := info_parts Tryz.infoByte
  have HI := Lib.hid (And.intro hi (And.intro hz0 (And.intro hz1 hz2)))
  clear hi hz0 hz1 hz2
  obtain ⟨i1, hj, hy0, hy1, hy2⟩ := info_parts Tryz.infoInt
  have HJ := Lib.hid (And.intro hj (And.intro hy0 (And.intro hy1 hy2)))
  clear hj hy0 hy1 hy2
  have HX0 := Lib.hid (Blk.new w 44 #[.int .i64 3, .int .i64 (sh : Int), .int .i64 (ot : Int), .int .i64 (sv : Int), .int .i64 cl, .int .i64 sq, .slice ao no co, .string key, .int .i64 upto, .int .i64 part, .int .i64 parts, .slice ad nd cd])
  have hB0 := below_alloc w (.cells #[.int .i64 3, .int .i64 (sh : Int), .int .i64 (ot : Int), .int .i64 (sv : Int), .int .i64 cl, .int .i64 sq, .slice ao no co, .string key, .int .i64 upto, .int .i64 part, .int .i64 parts, .slice ad nd cd] 44)
  have HL0 := Lib.hid (World.ownsRow_lit (e := 3) (size := 1) (base := w.heap.size) (w.alloc (.cells #[.int .i64 3, .int .i64 (sh : Int), .int .i64 (ot : Int), .int .i64 (sv : Int), .int .i64 cl, .int .i64 sq, .slice ao no co, .string key, .int .i64 upto, .int .i64 part, .int .i64 parts, .slice ad nd cd] 44)) #[.int .i64 3, .int .i64 (sh : Int)] 2 hB0.size (by decide) rfl)
  rw [World.size_alloc] at HL0
  have HB0 := Lib.hid hB0
  clear hB0
  go_enter Tryz.func57, Tryz.ntmps57
  go_wp2_with (at_builtin; refine appE rfl _ _ 37 rfl 3 i1 (.int .i64 0) 1 8 Tryz.underlying37 HJ.out.1 HJ.out.2.1 HJ.out.2.2.1 HJ.out.2.2.2 rfl (by omega) w.heap.size _ _ _ rfl (.inr HL0.out) w.heap.size (Nat.le_refl _) ((HB0.out.trans ((below_alloc _ _).mono HB0.out.size))) (by simp <;> omega) [.int .i64 (ot : Int), .int .i64 (sv : Int)] 2 rfl (by omega) (by intro u hu; simp at hu; rcases hu with rfl | rfl <;> rfl) (by rw [World.size_alloc, World.size_alloc]; rfl) (by omega) (by omega) ?_)
  refine Lib.hid ?_
  intro v3 w3 h1 h2 h3
  obtain ⟨g3, c3, rfl, -, -, -, hr3⟩ := own_some h1 (by omega)
  obtain ⟨ns, HN0⟩ : ∃ ns : List Nat, Hid (ns = [3, sh, ot, sv]) := ⟨_, Lib.hid rfl⟩
  have S3 := Lib.hid (show BX w #[.int .i64 3, .int .i64 (sh : Int), .int .i64 (ot : Int), .int .i64 (sv : Int), .int .i64 cl, .int .i64 sq, .slice ao no co, .string key, .int .i64 upto, .int .i64 part, .int .i64 parts, .slice ad nd cd] g3 ns w3 from ⟨h2, (h3.block w.heap.size (by simp <;> omega) (by simp [ownB])).trans ((HX0.out.alloc _).alloc _), by rw [HN0.out]; exact hr3⟩)
  have HNS := Lib.hid (show ∀ k (h : k < ns.length), ns[k] < 128 from by
    intro k h
    have hn := HN0.out
    subst hn
    have : k = 0 ∨ k = 1 ∨ k = 2 ∨ k = 3 := by simp at h; omega
    rcases this with rfl | rfl | rfl | rfl <;> simp <;> omega)
  have HNL := Lib.hid (show ns.length = 4 from by rw [HN0.out]; rfl)
  clear h1 h2 h3 hr3 HX0 HL0 HB0
  have S4 := Lib.hid (OwnE.new (w := w3.alloc (.cells #[] 5)) (B := w3.heap.size) (e := 5) (size := 1) (g := w3.heap.size))
  have B4 := Lib.hid (below_alloc w3 (.cells #[] 5))
  go_wp2_with fail
  go_loopw [4, 65] (fun b4 i wr => ∃ k : Nat, k ≤ 4 ∧ i = .int .i64 k ∧ Hid (OwnE wr w3.heap.size 5 1 b4 k (byteRow ((ns.take k).map UInt8.ofNat))) ∧ Hid (Below w3.heap.size w3 wr)) (fun _ i _ => 4 - (intOf i).toNat)
  case atStart => exact ⟨0, Nat.zero_le _, rfl, S4, B4⟩
  case round =>
    obtain ⟨k, hk, rfl, HO, HB⟩ := hrel
    clear S4 B4
    by_cases hlt : k < 4
    · have hkl : k < ns.length := by have := HNL.out; omega
      have ck := natRow_cell (S3.out.next HB.out).row hkl
      have HN := Lib.hid (HNS.out k hkl)
      have HTK := Lib.hid (show byteRow ((ns.take k).map UInt8.ofNat) ++ byteRow [UInt8.ofNat ns[k]] = byteRow ((ns.take (k + 1)).map UInt8.ofNat) from by rw [← byteRow_app, List.take_succ_eq_append_getElem hkl, List.map_append]; rfl)
      have HTL := Lib.hid (show (byteRow ((ns.take k).map UInt8.ofNat)).length = k from by rw [byteRow_len, List.length_map, List.length_take]; omega)
      generalize (byteRow ((ns.take k).map UInt8.ofNat)) = rk at *
      generalize ns[k] = nk at *
      go_wp2_with fail
      refine (num1_any nk wr HN.out).mono ?_
      rintro e w4 ⟨v, rfl, ho, hb⟩
      obtain ⟨g4, c4, rfl, -, -, -, hr4⟩ := own_some ho (by omega)
      have HR4 := Lib.hid hr4
      have HO4 := Lib.hid (HO.out.below hb)
      have HB4 := Lib.hid (HB.out.trans (hb.mono HB.out.size))
      clear ho hb hr4 HO HB ck
      go_wp2_with (at_builtin; refine wpList_appX rfl _ _ 42 rfl 5 i0 _ 1 1 Tryz.underlying42 HI.out.1 HI.out.2.1 HI.out.2.2.1 HI.out.2.2.2 rfl (by decide) w3.heap.size _ k rk rfl HO4.out HB4.out.size g4 0 1 c4 (byteRow [UInt8.ofNat nk]) rfl rfl (Nat.le_refl _) HR4.out (by intro u hu; simp [byteRow] at hu; subst hu; rfl) (by omega) (by decide) ?_)
      refine Lib.hid ?_
      intro v5 w5 h1 h2
      have HO5 := Lib.hid (show OwnE w5 w3.heap.size 5 1 v5 (k + 1) (byteRow ((ns.take (k + 1)).map UInt8.ofNat)) from .inr (by rw [← HTK.out]; exact h1))
      have HB5 := Lib.hid (HB4.out.grown h2 HB4.out.size (fun q hq => (HO4.out.lt q hq).1))
      clear h1 h2 HO4 HB4
      go_wp2_with fail
      go_roundw
      case rel => exact ⟨k + 1, by omega, by go_num, HO5, HB5⟩
      case measure => simp [intOf]; omega
    · obtain rfl : k = 4 := by omega
      have HTK := Lib.hid (show (ns.take 4) = ns from List.take_of_length_le (by have := HNL.out; omega))
      have S6 := Lib.hid (S3.out.next HB.out)
      have c0 : wr.cell? ⟨w.heap.size, 0, none⟩ = some (.int .i64 3) := S6.out.box.cell 0
      have c7 : wr.cell? ⟨w.heap.size, 7, none⟩ = some (.string key) := S6.out.box.cell 7
      have HO6 := Lib.hid (ownE_owns HO.out (by omega))
      rw [HTK.out] at HO6
      have HB6 := Lib.hid S6.out.bel
      have HS3 : Hid (w.heap.size ≤ w3.heap.size) := Lib.hid S3.out.bel.size
      have HSW : Hid (w3.heap.size ≤ wr.heap.size) := Lib.hid HB.out.size
      have HNM := Lib.hid (show (byteRow (ns.map UInt8.ofNat)).length = 4 from by rw [byteRow_len, List.length_map]; exact HNL.out)
      clear HO HB S6 HTK S3
      generalize wr = w6 at *
      go_wp2_with fail
      refine (text1_any key w6 (by omega)).mono ?_
      rintro e w7 ⟨v7, rfl, ho, hb⟩
      obtain ⟨g7, c7', rfl, -, -, -, hr7⟩ := own_some ho (by omega)
      have HR7 := Lib.hid hr7
      have HO7 := Lib.hid (own_below HO6.out hb)
      have HB7 := Lib.hid (HB6.out.trans (hb.mono HB6.out.size))
      have HS7 := Lib.hid (Nat.le_trans HSW.out hb.size)
      clear ho hb hr7 HO6 HB6
      go_wp2_with (at_builtin; refine wpList_appX rfl _ _ 42 rfl 5 i0 _ 1 1 Tryz.underlying42 HI.out.1 HI.out.2.1 HI.out.2.2.1 HI.out.2.2.2 rfl (by decide) w3.heap.size _ 4 (byteRow (ns.map UInt8.ofNat)) rfl (.inr HO7.out) HS7.out g7 0 (1 + key.size) c7' (byteRow (UInt8.ofNat key.size :: key.data.toList)) rfl (by rw [byteRow_len, List.length_cons, Array.length_toList, Nat.mul_one, Nat.add_comm]; rfl) (by omega) HR7.out (byteRow_one _) (by omega) (by decide) ?_)
      refine Lib.hid ?_
      intro v8 w8 h1 h2
      have HO8 := Lib.hid h1
      have HB8 := Lib.hid (HB7.out.grown h2 HB7.out.size (fun q hq => Nat.le_trans HS3.out (OwnE.lt (.inr HO7.out) q hq).1))
      clear h1 h2
      go_wp2_with fail
      go_ret
      refine ⟨_, rfl, ?_, HB8.out⟩
      rw [← HN0.out, byteRow_app, List.length_append, HNM.out, byteRow_len, List.length_cons, Array.length_toList, Nat.add_comm key.data.size 1]
      exact own_base HO8.out HS3.out

set_option maxHeartbeats 4000000 in
theorem bytes_k4 (sh ot : Nat) (sv cl sq : Int) (ao : Option Addr) (no co : Nat) (key : ByteArray) (upto part parts : Int) (ad : Option Addr) (nd cd : Nat) (w : World) (h1 : sh ≤ 12) (h2 : ot ≤ 12) :
    Calls Tryz.prog 57 #[.agg #[.int .i64 4, .int .i64 (sh : Int), .int .i64 (ot : Int), .int .i64 sv, .int .i64 cl, .int .i64 sq, .slice ao no co, .string key, .int .i64 upto, .int .i64 part, .int .i64 parts, .slice ad nd cd]] w fun e' w' => ∃ v, e' = .returned v ∧ w'.ownsRow w.heap.size 5 1 v (byteRow ([4, sh, ot].map UInt8.ofNat)).length (byteRow ([4, sh, ot].map UInt8.ofNat)) ∧ Below w.heap.size w w' := by
  obtain ⟨i0, hi, hz0, hz1, hz2⟩ := info_parts Tryz.infoByte
  have HI := Lib.hid (And.intro hi (And.intro hz0 (And.intro hz1 hz2)))
  clear hi hz0 hz1 hz2
  obtain ⟨i1, hj, hy0, hy1, hy2⟩ := info_parts Tryz.infoInt
  have HJ := Lib.hid (And.intro hj (And.intro hy0 (And.intro hy1 hy2)))
  clear hj hy0 hy1 hy2
  have HX0 := Lib.hid (Blk.new w 44 #[.int .i64 4, .int .i64 (sh : Int), .int .i64 (ot : Int), .int .i64 sv, .int .i64 cl, .int .i64 sq, .slice ao no co, .string key, .int .i64 upto, .int .i64 part, .int .i64 parts, .slice ad nd cd])
  have hB0 := below_alloc w (.cells #[.int .i64 4, .int .i64 (sh : Int), .int .i64 (ot : Int), .int .i64 sv, .int .i64 cl, .int .i64 sq, .slice ao no co, .string key, .int .i64 upto, .int .i64 part, .int .i64 parts, .slice ad nd cd] 44)
  have HL0 := Lib.hid (World.ownsRow_lit (e := 3) (size := 1) (base := w.heap.size) (w.alloc (.cells #[.int .i64 4, .int .i64 (sh : Int), .int .i64 (ot : Int), .int .i64 sv, .int .i64 cl, .int .i64 sq, .slice ao no co, .string key, .int .i64 upto, .int .i64 part, .int .i64 parts, .slice ad nd cd] 44)) #[.int .i64 4, .int .i64 (sh : Int)] 2 hB0.size (by decide) rfl)
  rw [World.size_alloc] at HL0
  have HB0 := Lib.hid hB0
  clear hB0
  go_enter Tryz.func57, Tryz.ntmps57
  go_wp2_with (at_builtin; refine appE rfl _ _ 37 rfl 3 i1 (.int .i64 0) 1 8 Tryz.underlying37 HJ.out.1 HJ.out.2.1 HJ.out.2.2.1 HJ.out.2.2.2 rfl (by omega) w.heap.size _ _ _ rfl (.inr HL0.out) w.heap.size (Nat.le_refl _) ((HB0.out.trans ((below_alloc _ _).mono HB0.out.size))) (by simp <;> omega) [.int .i64 (ot : Int)] 1 rfl (by omega) (by intro u hu; simp at hu; subst hu; rfl) (by rw [World.size_alloc, World.size_alloc]; rfl) (by omega) (by omega) ?_)
  refine Lib.hid ?_
  intro v3 w3 h1 h2 h3
  obtain ⟨g3, c3, rfl, -, -, -, hr3⟩ := own_some h1 (by omega)
  obtain ⟨ns, HN0⟩ : ∃ ns : List Nat, Hid (ns = [4, sh, ot]) := ⟨_, Lib.hid rfl⟩
  have S3 := Lib.hid (show BX w #[.int .i64 4, .int .i64 (sh : Int), .int .i64 (ot : Int), .int .i64 sv, .int .i64 cl, .int .i64 sq, .slice ao no co, .string key, .int .i64 upto, .int .i64 part, .int .i64 parts, .slice ad nd cd] g3 ns w3 from ⟨h2, (h3.block w.heap.size (by simp <;> omega) (by simp [ownB])).trans ((HX0.out.alloc _).alloc _), by rw [HN0.out]; exact hr3⟩)
  have HNS := Lib.hid (show ∀ k (h : k < ns.length), ns[k] < 128 from by
    intro k h
    have hn := HN0.out
    subst hn
    have : k = 0 ∨ k = 1 ∨ k = 2 := by simp at h; omega
    rcases this with rfl | rfl | rfl <;> simp <;> omega)
  have HNL := Lib.hid (show ns.length = 3 from by rw [HN0.out]; rfl)
  clear h1 h2 h3 hr3 HX0 HL0 HB0
  have S4 := Lib.hid (OwnE.new (w := w3.alloc (.cells #[] 5)) (B := w3.heap.size) (e := 5) (size := 1) (g := w3.heap.size))
  have B4 := Lib.hid (below_alloc w3 (.cells #[] 5))
  go_wp2_with fail
  go_loopw [4, 65] (fun b4 i wr => ∃ k : Nat, k ≤ 3 ∧ i = .int .i64 k ∧ Hid (OwnE wr w3.heap.size 5 1 b4 k (byteRow ((ns.take k).map UInt8.ofNat))) ∧ Hid (Below w3.heap.size w3 wr)) (fun _ i _ => 3 - (intOf i).toNat)
  case atStart => exact ⟨0, Nat.zero_le _, rfl, S4, B4⟩
  case round =>
    obtain ⟨k, hk, rfl, HO, HB⟩ := hrel
    clear S4 B4
    by_cases hlt : k < 3
    · have hkl : k < ns.length := by have := HNL.out; omega
      have ck := natRow_cell (S3.out.next HB.out).row hkl
      have HN := Lib.hid (HNS.out k hkl)
      have HTK := Lib.hid (show byteRow ((ns.take k).map UInt8.ofNat) ++ byteRow [UInt8.ofNat ns[k]] = byteRow ((ns.take (k + 1)).map UInt8.ofNat) from by rw [← byteRow_app, List.take_succ_eq_append_getElem hkl, List.map_append]; rfl)
      have HTL := Lib.hid (show (byteRow ((ns.take k).map UInt8.ofNat)).length = k from by rw [byteRow_len, List.length_map, List.length_take]; omega)
      generalize (byteRow ((ns.take k).map UInt8.ofNat)) = rk at *
      generalize ns[k] = nk at *
      go_wp2_with fail
      refine (num1_any nk wr HN.out).mono ?_
      rintro e w4 ⟨v, rfl, ho, hb⟩
      obtain ⟨g4, c4, rfl, -, -, -, hr4⟩ := own_some ho (by omega)
      have HR4 := Lib.hid hr4
      have HO4 := Lib.hid (HO.out.below hb)
      have HB4 := Lib.hid (HB.out.trans (hb.mono HB.out.size))
      clear ho hb hr4 HO HB ck
      go_wp2_with (at_builtin; refine wpList_appX rfl _ _ 42 rfl 5 i0 _ 1 1 Tryz.underlying42 HI.out.1 HI.out.2.1 HI.out.2.2.1 HI.out.2.2.2 rfl (by decide) w3.heap.size _ k rk rfl HO4.out HB4.out.size g4 0 1 c4 (byteRow [UInt8.ofNat nk]) rfl rfl (Nat.le_refl _) HR4.out (by intro u hu; simp [byteRow] at hu; subst hu; rfl) (by omega) (by decide) ?_)
      refine Lib.hid ?_
      intro v5 w5 h1 h2
      have HO5 := Lib.hid (show OwnE w5 w3.heap.size 5 1 v5 (k + 1) (byteRow ((ns.take (k + 1)).map UInt8.ofNat)) from .inr (by rw [← HTK.out]; exact h1))
      have HB5 := Lib.hid (HB4.out.grown h2 HB4.out.size (fun q hq => (HO4.out.lt q hq).1))
      clear h1 h2 HO4 HB4
      go_wp2_with fail
      go_roundw
      case rel => exact ⟨k + 1, by omega, by go_num, HO5, HB5⟩
      case measure => simp [intOf]; omega
    · obtain rfl : k = 3 := by omega
      have HTK := Lib.hid (show (ns.take 3) = ns from List.take_of_length_le (by have := HNL.out; omega))
      have S6 := Lib.hid (S3.out.next HB.out)
      have c0 : wr.cell? ⟨w.heap.size, 0, none⟩ = some (.int .i64 4) := S6.out.box.cell 0
      have HO6 := Lib.hid (ownE_owns HO.out (by omega))
      rw [HTK.out] at HO6
      have HB6 := Lib.hid S6.out.bel
      have HS3 : Hid (w.heap.size ≤ w3.heap.size) := Lib.hid S3.out.bel.size
      have HSW : Hid (w3.heap.size ≤ wr.heap.size) := Lib.hid HB.out.size
      have HNM := Lib.hid (show (byteRow (ns.map UInt8.ofNat)).length = 3 from by rw [byteRow_len, List.length_map]; exact HNL.out)
      clear HO HB S6 HTK S3
      generalize wr = w6 at *
      go_wp2_with fail
      go_ret
      exact ⟨_, rfl, by rw [← HN0.out, HNM.out]; exact own_base HO6.out HS3.out, HB6.out⟩

theorem key_size {s : ByteArray} (h : isKey s = true) : s.size ≤ 96 := by
  unfold isKey at h
  have h := of_decide_eq_true h
  cases hd : dec s.data.toList with
  | none => rw [keyNum_none hd] at h; cases h
  | some rs =>
    rw [keyNum_some hd] at h
    have hl : rs.length ≤ 24 := by
      by_cases h0 : rs.length = 0
      · omega
      · rw [if_neg h0] at h
        by_cases h1 : 24 < rs.length
        · rw [if_pos h1] at h; cases h
        · omega
    have he := encAll_le rs
    have hs : s.size = (encAll rs).length := by rw [← (dec_some hd).2]; rfl
    omega
theorem within_nat {n : Int} {m : Nat} (h : within n m = true) : ∃ k : Nat, n = (k : Int) ∧ k ≤ m := by
  unfold within at h
  simp only [Bool.and_eq_true, decide_eq_true_eq] at h
  exact ⟨n.toNat, by omega, by omega⟩
theorem bytes_any (e : EN) (w : World) (hr : rightE e = true) (hk : e.kind = 2 ∨ e.kind = 3 ∨ e.kind = 4) :
    Calls Tryz.prog 57 #[.agg e.cells.toArray] w fun e' w' => ∃ v, e' = .returned v ∧ w'.ownsRow w.heap.size 5 1 v (bytesE e).length (byteRow (bytesE e)) ∧ Below w.heap.size w w' := by
  obtain ⟨kind, shard, other, server, client, seq, ao, no, co, key, upto, part, parts, ad, nd, cd⟩ := e
  unfold rightE twoR at hr
  rcases hk with hk | hk | hk
  · obtain rfl : kind = 2 := hk
    dsimp only at hr
    rw [if_pos rfl] at hr
    simp only [Bool.and_eq_true] at hr
    obtain ⟨sh, rfl, h1⟩ := within_nat (m := 12) hr.1
    obtain ⟨sv, rfl, h2⟩ := within_nat (m := 4) hr.2
    have := bytes_k2 sh sv other client seq ao no co key upto part parts ad nd cd w h1 h2
    rw [byteRow_len] at this
    have e : bytesE ⟨2, sh, other, sv, client, seq, ao, no, co, key, upto, part, parts, ad, nd, cd⟩ = [2, sh, sv].map UInt8.ofNat := by simp [bytesE, numsE]
    rw [e]
    exact this
  · obtain rfl : kind = 3 := hk
    dsimp only at hr
    rw [if_neg (by decide), if_pos rfl] at hr
    simp only [Bool.and_eq_true] at hr
    obtain ⟨sh, rfl, h1⟩ := within_nat (m := 12) hr.1.1.1.1
    obtain ⟨ot, rfl, h2⟩ := within_nat (m := 12) hr.1.1.1.2
    obtain ⟨sv, rfl, h3⟩ := within_nat (m := 4) hr.1.2
    have := bytes_k3 sh ot sv client seq ao no co key upto part parts ad nd cd w h1 h2 h3 (by have := key_size hr.2; omega)
    rw [byteRow_len] at this
    have e : bytesE ⟨3, sh, ot, sv, client, seq, ao, no, co, key, upto, part, parts, ad, nd, cd⟩ = [3, sh, ot, sv].map UInt8.ofNat ++ UInt8.ofNat key.size :: key.data.toList := by simp [bytesE, numsE]
    rw [e]
    exact this
  · obtain rfl : kind = 4 := hk
    dsimp only at hr
    rw [if_neg (by decide), if_neg (by decide), if_pos rfl] at hr
    simp only [Bool.and_eq_true] at hr
    obtain ⟨sh, rfl, h1⟩ := within_nat (m := 12) hr.1.1
    obtain ⟨ot, rfl, h2⟩ := within_nat (m := 12) hr.1.2
    have := bytes_k4 sh ot server client seq ao no co key upto part parts ad nd cd w h1 h2
    rw [byteRow_len] at this
    have e : bytesE ⟨4, sh, ot, server, client, seq, ao, no, co, key, upto, part, parts, ad, nd, cd⟩ = [4, sh, ot].map UInt8.ofNat := by simp [bytesE, numsE]
    rw [e]
    exact this
section
variable {P : Program} {a : Act} {o : Oper} {W : World}
theorem run_conv (src dst : TypeId) (x : Operand) (ho : o.op = .convert src dst x) (v v' : Value) (hx : a.eval x = v) (h : (convert src dst v).run P W = .ok v' W) : (execOp a.eval o).run P W = .ok (.value v') W := by
  unfold execOp
  simp only [ho, hx]
  simp [Sem.run_bind, h]
end
/-- How Same stands. -/
structure SZ5 (w : World) (e : EN) (W : World) : Prop where
  bel : Below w.heap.size w W
  ok : e.at W
  r1 : W.rangeAt w.heap.size 0 e.cells
  r2 : W.rangeAt (w.heap.size + 1) 0 e.cells
theorem SZ5.next {w W W' : World} {e : EN} (h : SZ5 w e W) (hb : Below W.heap.size W W') : SZ5 w e W' :=
  ⟨h.bel.trans (hb.mono h.bel.size), h.ok.below hb, tame_range hb h.r1, tame_range hb h.r2⟩

set_option maxHeartbeats 4000000 in
theorem rsame_any (e : EN) (w : World) (ha : e.at w) (hr : rightE e = true) (hk : e.kind = 2 ∨ e.kind = 3 ∨ e.kind = 4) :
    Calls Tryz.prog 29 #[.agg e.cells.toArray, .agg e.cells.toArray] w fun e' w' => e' = .returned (.bool true) ∧ Below w.heap.size w w' := by
  have HRT := Lib.hid (fun W (h : e.at W) => (rentry_any e W h).mono fun e' w' h => show e' = .returned (.bool true) ∧ Below W.heap.size W w' from by
    obtain ⟨⟨b, h1, h2⟩, h3⟩ := h
    rw [h2 hk, hr] at h1
    exact ⟨h1, h3⟩)
  have HBY := Lib.hid (fun W => bytes_any e W hr hk)
  have S0 := Lib.hid (show SZ5 w e ((w.alloc (.cells e.cells.toArray 44)).alloc (.cells e.cells.toArray 44)) from ⟨below_alloc2 w _ _, ha.below (below_alloc2 w _ _),
    ((Blk.new w 44 e.cells.toArray).alloc _).range (fun j v hj => by rw [Nat.zero_add]; simpa using hj),
    (by have := Blk.new (w.alloc (.cells e.cells.toArray 44)) 44 e.cells.toArray; rw [World.size_alloc] at this; exact this.range (fun j v hj => by rw [Nat.zero_add]; simpa using hj))⟩)
  generalize bytesE e = bl at *
  obtain ⟨kind, shard, other, server, client, seq, ao, no, co, key, upto, part, parts, ad, nd, cd⟩ := e
  clear ha hr hk
  have HR1 := Lib.hid (fun W (h : SZ5 w ⟨kind, shard, other, server, client, seq, ao, no, co, key, upto, part, parts, ad, nd, cd⟩ W) => h.r1)
  have HR2 := Lib.hid (fun W (h : SZ5 w ⟨kind, shard, other, server, client, seq, ao, no, co, key, upto, part, parts, ad, nd, cd⟩ W) => h.r2)
  unfold EN.cells at HRT HBY S0 HR1 HR2 ⊢
  dsimp only at HRT HBY S0 HR1 HR2 ⊢
  go_enter Tryz.func29, Tryz.ntmps29
  go_wp2_with fail
  refine wp_region_wb ((SZ5 w ⟨kind, shard, other, server, client, seq, ao, no, co, key, upto, part, parts, ad, nd, cd⟩)) (by kernel_rfl) (S0.out.next (tame_drewN (Below.refl _ _) 1)) (fun _ _ _ _ _ h => h) ?_
  intro hS HZQ
  refine wa_v 0 5 (.agg #[.int .i64 kind, .int .i64 shard, .int .i64 other, .int .i64 server, .int .i64 client, .int .i64 seq, .slice ao no co, .string key, .int .i64 upto, .int .i64 part, .int .i64 parts, .slice ad nd cd]) hS HZQ (fun W hW => run_eqv (run_loadN 44 (.tmp 2) (by kernel_rfl) w.heap.size 0 (by kernel_rfl) [.int .i64 kind, .int .i64 shard, .int .i64 other, .int .i64 server, .int .i64 client, .int .i64 seq, .slice ao no co, .string key, .int .i64 upto, .int .i64 part, .int .i64 parts, .slice ad nd cd] (HR1.out W hW) _ Tryz.underlying44 rfl (by kernel_rfl)) rfl) ?_
  refine wa_r [1] ?_
  refine ar_a (some 6) (fun K hK => ?_) ar_nil
  refine ow_call 56 #[.agg #[.int .i64 kind, .int .i64 shard, .int .i64 other, .int .i64 server, .int .i64 client, .int .i64 seq, .slice ao no co, .string key, .int .i64 upto, .int .i64 part, .int .i64 parts, .slice ad nd cd]] (by kernel_rfl) (fun v w' => v = .bool true ∧ Below _ _ w') ((HRT.out _ hS.ok).mono fun e' w' h => ⟨_, h.1, rfl, h.2⟩) (Lib.hid ?_)
  rintro v wx ⟨rfl, hbx⟩
  refine hK.out _ _ (hS.next hbx) (fun hS => ?_)
  clear hK K hbx
  refine wa_k 2 7 (.bool true) hS HZQ (wa_v 3 8 (.agg #[.int .i64 kind, .int .i64 shard, .int .i64 other, .int .i64 server, .int .i64 client, .int .i64 seq, .slice ao no co, .string key, .int .i64 upto, .int .i64 part, .int .i64 parts, .slice ad nd cd]) hS HZQ (fun W hW => run_eqv (run_loadN 44 (.tmp 3) (by kernel_rfl) (w.heap.size + 1) 0 (by kernel_rfl) [.int .i64 kind, .int .i64 shard, .int .i64 other, .int .i64 server, .int .i64 client, .int .i64 seq, .slice ao no co, .string key, .int .i64 upto, .int .i64 part, .int .i64 parts, .slice ad nd cd] (HR2.out W hW) _ Tryz.underlying44 rfl (by kernel_rfl)) rfl) ?_)
  refine wa_r [4] ?_
  refine ar_a (some 9) (fun K hK => ?_) ar_nil
  refine ow_call 56 #[.agg #[.int .i64 kind, .int .i64 shard, .int .i64 other, .int .i64 server, .int .i64 client, .int .i64 seq, .slice ao no co, .string key, .int .i64 upto, .int .i64 part, .int .i64 parts, .slice ad nd cd]] (by kernel_rfl) (fun v w' => v = .bool true ∧ Below _ _ w') ((HRT.out _ hS.ok).mono fun e' w' h => ⟨_, h.1, rfl, h.2⟩) (Lib.hid ?_)
  rintro v wx ⟨rfl, hbx⟩
  refine hK.out _ _ (hS.next hbx) (fun hS => ?_)
  clear hK K hbx
  refine wa_k 5 10 (.bool true) hS HZQ (wa_k 6 11 (.bool true) hS HZQ (wa_v 7 12 (.agg #[.int .i64 kind, .int .i64 shard, .int .i64 other, .int .i64 server, .int .i64 client, .int .i64 seq, .slice ao no co, .string key, .int .i64 upto, .int .i64 part, .int .i64 parts, .slice ad nd cd]) hS HZQ (fun W hW => run_eqv (run_loadN 44 (.tmp 2) (by kernel_rfl) w.heap.size 0 (by kernel_rfl) [.int .i64 kind, .int .i64 shard, .int .i64 other, .int .i64 server, .int .i64 client, .int .i64 seq, .slice ao no co, .string key, .int .i64 upto, .int .i64 part, .int .i64 parts, .slice ad nd cd] (HR1.out W hW) _ Tryz.underlying44 rfl (by kernel_rfl)) rfl) (wa_v 10 15 (.agg #[.int .i64 kind, .int .i64 shard, .int .i64 other, .int .i64 server, .int .i64 client, .int .i64 seq, .slice ao no co, .string key, .int .i64 upto, .int .i64 part, .int .i64 parts, .slice ad nd cd]) hS HZQ (fun W hW => run_eqv (run_loadN 44 (.tmp 3) (by kernel_rfl) (w.heap.size + 1) 0 (by kernel_rfl) [.int .i64 kind, .int .i64 shard, .int .i64 other, .int .i64 server, .int .i64 client, .int .i64 seq, .slice ao no co, .string key, .int .i64 upto, .int .i64 part, .int .i64 parts, .slice ad nd cd] (HR2.out W hW) _ Tryz.underlying44 rfl (by kernel_rfl)) rfl) ?_)))
  refine wa_r [8] ?_
  refine ar_a (some 13) (fun K hK => ?_) ar_nil
  refine ow_call 57 #[.agg #[.int .i64 kind, .int .i64 shard, .int .i64 other, .int .i64 server, .int .i64 client, .int .i64 seq, .slice ao no co, .string key, .int .i64 upto, .int .i64 part, .int .i64 parts, .slice ad nd cd]] (by kernel_rfl) (fun v w' => w'.ownsRow _ 5 1 v bl.length (byteRow bl) ∧ Below _ _ w') ((HBY.out _).mono fun e' w' h => h) (Lib.hid ?_)
  rintro va wx ⟨hox, hbx⟩
  have HVA := Lib.hid hox
  refine hK.out _ _ (hS.next hbx) (fun hS => ?_)
  clear hK K hbx hox
  refine wa_r [9, 11] ?_
  refine (ar_a (some 14) (fun K hK => ?_) (ar_a (some 16) (fun K hK => ?_) ar_nil))
  ·
    refine ow_val (.string (mkS bl)) _ (run_conv 42 9 (.tmp 13) rfl va _ (by kernel_rfl) (conv_bytes HVA.out Tryz.underlying42 Tryz.underlying5 Tryz.underlying9)) ?_
    refine hK.out _ _ hS (fun hS => ?_)
    clear hK K
    refine wa_r [11] ?_
    refine ar_a (some 16) (fun K hK => ?_) ar_nil
    refine ow_call 57 #[.agg #[.int .i64 kind, .int .i64 shard, .int .i64 other, .int .i64 server, .int .i64 client, .int .i64 seq, .slice ao no co, .string key, .int .i64 upto, .int .i64 part, .int .i64 parts, .slice ad nd cd]] (by kernel_rfl) (fun v w' => w'.ownsRow _ 5 1 v bl.length (byteRow bl) ∧ Below _ _ w') ((HBY.out _).mono fun e' w' h => h) (Lib.hid ?_)
    rintro vb wx ⟨hox, hbx⟩
    have HVB := Lib.hid hox
    have HVA := Lib.hid (own_below HVA.out hbx)
    refine hK.out _ _ (hS.next hbx) (fun hS => ?_)
    clear hK K hbx hox
    refine wa_r [12] ?_
    refine ar_a (some 17) (fun K hK => ?_) ar_nil
    refine ow_val (.string (mkS bl)) _ (run_conv 42 9 (.tmp 16) rfl vb _ (by kernel_rfl) (conv_bytes HVB.out Tryz.underlying42 Tryz.underlying5 Tryz.underlying9)) ?_
    refine hK.out _ _ hS (fun hS => ?_)
    clear hK K
    refine wa_v 13 18 (.bool true) hS HZQ (fun W hW => run_eqv (v := .bool ((mkS bl).toList == (mkS bl).toList)) (by kernel_rfl) ((by rw [beq_self_eq_true]))) (wa_k 14 19 (.bool true) hS HZQ (wa_k 15 4 (.bool true) hS HZQ ?_))
    refine wa_done (by kernel_rfl) ?_
    dsimp only [Exit.then, Act.put]
    simp only [List.setIfInBounds_toArray, List.set_cons_succ, List.set_cons_zero]
    go_wp2_with fail
    go_ret
    exact ⟨rfl, hS.bel⟩
  ·
    refine ow_call 57 #[.agg #[.int .i64 kind, .int .i64 shard, .int .i64 other, .int .i64 server, .int .i64 client, .int .i64 seq, .slice ao no co, .string key, .int .i64 upto, .int .i64 part, .int .i64 parts, .slice ad nd cd]] (by kernel_rfl) (fun v w' => w'.ownsRow _ 5 1 v bl.length (byteRow bl) ∧ Below _ _ w') ((HBY.out _).mono fun e' w' h => h) (Lib.hid ?_)
    rintro vb wx ⟨hox, hbx⟩
    have HVB := Lib.hid hox
    have HVA := Lib.hid (own_below HVA.out hbx)
    refine hK.out _ _ (hS.next hbx) (fun hS => ?_)
    clear hK K hbx hox
    refine wa_r [9, 12] ?_
    refine (ar_a (some 14) (fun K hK => ?_) (ar_a (some 17) (fun K hK => ?_) ar_nil))
    ·
      refine ow_val (.string (mkS bl)) _ (run_conv 42 9 (.tmp 13) rfl va _ (by kernel_rfl) (conv_bytes HVA.out Tryz.underlying42 Tryz.underlying5 Tryz.underlying9)) ?_
      refine hK.out _ _ hS (fun hS => ?_)
      clear hK K
      refine wa_r [12] ?_
      refine ar_a (some 17) (fun K hK => ?_) ar_nil
      refine ow_val (.string (mkS bl)) _ (run_conv 42 9 (.tmp 16) rfl vb _ (by kernel_rfl) (conv_bytes HVB.out Tryz.underlying42 Tryz.underlying5 Tryz.underlying9)) ?_
      refine hK.out _ _ hS (fun hS => ?_)
      clear hK K
      refine wa_v 13 18 (.bool true) hS HZQ (fun W hW => run_eqv (v := .bool ((mkS bl).toList == (mkS bl).toList)) (by kernel_rfl) ((by rw [beq_self_eq_true]))) (wa_k 14 19 (.bool true) hS HZQ (wa_k 15 4 (.bool true) hS HZQ ?_))
      refine wa_done (by kernel_rfl) ?_
      dsimp only [Exit.then, Act.put]
      simp only [List.setIfInBounds_toArray, List.set_cons_succ, List.set_cons_zero]
      go_wp2_with fail
      go_ret
      exact ⟨rfl, hS.bel⟩
    ·
      refine ow_val (.string (mkS bl)) _ (run_conv 42 9 (.tmp 16) rfl vb _ (by kernel_rfl) (conv_bytes HVB.out Tryz.underlying42 Tryz.underlying5 Tryz.underlying9)) ?_
      refine hK.out _ _ hS (fun hS => ?_)
      clear hK K
      refine wa_r [9] ?_
      refine ar_a (some 14) (fun K hK => ?_) ar_nil
      refine ow_val (.string (mkS bl)) _ (run_conv 42 9 (.tmp 13) rfl va _ (by kernel_rfl) (conv_bytes HVA.out Tryz.underlying42 Tryz.underlying5 Tryz.underlying9)) ?_
      refine hK.out _ _ hS (fun hS => ?_)
      clear hK K
      refine wa_v 13 18 (.bool true) hS HZQ (fun W hW => run_eqv (v := .bool ((mkS bl).toList == (mkS bl).toList)) (by kernel_rfl) ((by rw [beq_self_eq_true]))) (wa_k 14 19 (.bool true) hS HZQ (wa_k 15 4 (.bool true) hS HZQ ?_))
      refine wa_done (by kernel_rfl) ?_
      dsimp only [Exit.then, Act.put]
      simp only [List.setIfInBounds_toArray, List.set_cons_succ, List.set_cons_zero]
      go_wp2_with fail
      go_ret
      exact ⟨rfl, hS.bel⟩
end Go.Proofs.YthjmfcdhpdiehaaGreatDoor

namespace Go.Proofs.YthjmfcdhpdiehaaGreatDoor
open Go.RowKit Utf
set_option maxRecDepth 100000
set_option linter.unusedSimpArgs false
set_option linter.unusedVariables false

/-- The reference's map behind the first entries. -/
def rstepAt (r0 : RM) (es : List EN) (k : Nat) : RM := (List.range k).foldl (fun r i => (rapplyP r (es.getD i EN.zero) (i : Nat)).2) r0
theorem rstepAt_succ (r0 : RM) (es : List EN) (k : Nat) : rstepAt r0 es (k + 1) = (rapplyP (rstepAt r0 es k) (es.getD k EN.zero) (k : Nat)).2 := by
  unfold rstepAt
  rw [List.range_succ, List.foldl_append]
  rfl
theorem step_same {m : PM} {r : RM} (h : SameM m r) (hi : Inv m) (es : List EN) : ∀ k, SameM (stepAt m es k) (rstepAt r es k)
  | 0 => h
  | k + 1 => by
    rw [stepAt_succ, rstepAt_succ]
    exact (step_same h hi es k).apply (step_inv hi es k) _ _
theorem rapply_true {m : PM} {r : RM} {e : EN} {k : Nat} (h : SameM m r) (hi : Inv m) (hk : k ≤ 4095) (hc : countsP m e = true) : (rapplyP r e (k : Nat)).1 = true := by
  unfold rapplyP
  rw [if_pos (by rw [h.counts hi, hc, decide_eq_true (show (0 : Int) ≤ (k : Nat) by omega), decide_eq_true (show ((k : Nat) : Int) ≤ 4095 by omega)]; rfl)]
theorem rstep_len {r : RM} {n : Nat} (h : RLen r n) (es : List EN) : ∀ k, RLen (rstepAt r es k) (n + k)
  | 0 => h
  | k + 1 => by
    rw [rstepAt_succ]
    exact (rstep_len h es k).apply _ _
theorem plan_map (l : List LD) (s : Nat) (most : Int) (m0 : PM) : ∀ (n : Nat) (m : PM) (out : List EN), stepAt m0 out out.length = m →
    stepAt m0 (planS l s most n m out).1 (planS l s most n m out).1.length = (planS l s most n m out).2
  | 0, m, out, h => h
  | n + 1, m, out, hm => by
    unfold planS
    cases hn : nextP m l s most with
    | none => exact hm
    | some e =>
      refine plan_map l s most m0 n _ _ ?_
      rw [List.length_append, List.length_singleton, stepAt_succ, stepAt_pre m0 (es' := out) _ (fun i hi => getD_pre out e hi), getD_last, hm]
theorem counts_right {m : PM} {e : EN} (h : countsP m e = true) : rightE e = true ∧ (e.kind = 2 ∨ e.kind = 3 ∨ e.kind = 4) := by
  have hk := counts_kind h
  refine ⟨?_, hk⟩
  unfold countsP at h
  cases hf : findN e.shard m.live with
  | none => rw [hf] at h; cases h
  | some i =>
    rw [hf] at h
    dsimp only at h
    by_cases h2 : e.kind = 2
    · rw [if_pos h2] at h; exact h
    rw [if_neg h2] at h
    by_cases h3 : e.kind = 3
    · rw [if_pos h3] at h
      simp only [Bool.and_eq_true] at h
      exact h.1.1.1
    rw [if_neg h3] at h
    have h4 : e.kind = 4 := by omega
    rw [if_pos h4] at h
    simp only [Bool.and_eq_true] at h
    exact h.1
/-- What the two maps are alike in, all along a plan. -/
structure Along (l : List LD) (s : Nat) (most : Int) (m : PM) (r : RM) (out : List EN) (k : Nat) : Prop where
  same : SameM (stepAt m out k) (rstepAt r out k)
  inv : Inv (stepAt m out k)
  ok : PMok (stepAt m out k) (100 + k)
  len : RLen (rstepAt r out k) (100 + k)
  next : nextP (stepAt m out k) l s most = if k < out.length then some (out.getD k EN.zero) else none
end Go.Proofs.YthjmfcdhpdiehaaGreatDoor
