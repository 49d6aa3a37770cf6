/-
  The library's strings.Join, strings.Index at one byte: their contracts laid at this program by the kit's tool.
  strings.SplitSeq at a text and one byte: what it yields, in order. The iterator keeps its text in a box of its own.
  A loop over a text's lines: for line := range strings.SplitSeq(text, "\n"). The body goes on or returns.
  The values of package api's errors: what the listed variables give; errors.Is between two of them.
  Plain: a line's words, a text in quotes, as lists of runes' numbers. No program in sight.
  Plain: a word's number and a number's word, as lists of runes' numbers. No program in sight.
-/
import Derived.Shelf.Strings.Builder1
import Derived.Shelf.Strings.Builder2
import Derived.Shelf.Strings.OnBuilder
import Derived.Shelf.Strings.Search3
import Derived.Test.YtjhmehmmpfnnkaaDoorM02
import Derived.RangeFuncBound
import Derived.RangeFuncCalls
import Derived.RangeFuncLeaves
import Derived.RangeFuncBox
import Derived.Shelf.Abstract
import Derived.TacticsInMore
import Derived.LoopNIn
import Derived.LoopIn
import Derived.RangeFuncWrites
import Derived.LaidEql
import Derived.Stop.Asserts
import Derived.RowKitTokens
import Derived.LaidLaws
import Derived.Test.YtjhmehmmpfnnkaaDoorM01
namespace Go.Proofs.YtjhmehmmpfnnkaaDoor
open Go.RowKit Go.Shelf
set_option maxRecDepth 100000
def Tryd.lays156_ren : Go.Shelf.Ren := ⟨fun | 156 => 50 | 165 => 64 | 166 => 65 | 169 => 66 | 240 => 71 | 241 => 72 | 276 => 77 | 277 => 78 | n => n, fun | 31 => 22 | 9 => 9 | 3 => 3 | 4 => 4 | 0 => 0 | 20 => 20 | 72 => 131 | 76 => 124 | 70 => 129 | 37 => 41 | 75 => 26 | 127 => 146 | 164 => 150 | 5 => 5 | 80 => 99 | n => n, fun | n => n⟩
theorem Tryd.lays156 : Go.Proofs.Lays.n156 Tryd.prog Tryd.lays156_ren := {
  mixed := by kernel_rfl
  f156 := Tryd.func50.trans (congrArg some (by kernel_rfl))
  f165 := Tryd.func64.trans (congrArg some (by kernel_rfl))
  f166 := Tryd.func65.trans (congrArg some (by kernel_rfl))
  f169 := Tryd.func66.trans (congrArg some (by kernel_rfl))
  f240 := Tryd.func71.trans (congrArg some (by kernel_rfl))
  f241 := Tryd.func72.trans (congrArg some (by kernel_rfl))
  f276 := Tryd.func77.trans (congrArg some (by kernel_rfl))
  f277 := Tryd.func78.trans (congrArg some (by kernel_rfl))
  t0 := Tryd.underlying0
  a0 := Tryd.isAgg0
  z0 := Tryd.sizeOf0
  v0 := Tryd.zeroValue0
  t3 := Tryd.underlying3
  a3 := Tryd.isAgg3
  z3 := Tryd.sizeOf3
  v3 := Tryd.zeroValue3
  t4 := Tryd.underlying4
  a4 := Tryd.isAgg4
  z4 := Tryd.sizeOf4
  v4 := Tryd.zeroValue4
  t9 := Tryd.underlying9
  a9 := Tryd.isAgg9
  z9 := Tryd.sizeOf9
  v9 := Tryd.zeroValue9
  t20 := Tryd.underlying20
  a20 := Tryd.isAgg20
  z20 := Tryd.sizeOf20
  v20 := Tryd.zeroValue20
  t31 := Tryd.underlying22
  a31 := Tryd.isAgg22
  z31 := Tryd.sizeOf22
  v31 := Tryd.zeroValue22
  t37 := Tryd.underlying41
  a37 := Tryd.isAgg41
  z37 := Tryd.sizeOf41
  v37 := Tryd.zeroValue41
  t70 := Tryd.underlying129
  a70 := Tryd.isAgg129
  z70 := Tryd.sizeOf129
  v70 := Tryd.zeroValue129
  t72 := Tryd.underlying131
  a72 := Tryd.isAgg131
  z72 := Tryd.sizeOf131
  v72 := Tryd.zeroValue131
  t75 := Tryd.underlying26
  a75 := Tryd.isAgg26
  z75 := Tryd.sizeOf26
  v75 := Tryd.zeroValue26
  t76 := Tryd.underlying124
  a76 := Tryd.isAgg124
  z76 := Tryd.sizeOf124
  v76 := Tryd.zeroValue124
  t127 := Tryd.underlying146
  a127 := Tryd.isAgg146
  z127 := Tryd.sizeOf146
  v127 := Tryd.zeroValue146
  t164 := Tryd.underlying150
  a164 := Tryd.isAgg150
  z164 := Tryd.sizeOf150
  v164 := Tryd.zeroValue150 }
theorem Tryd.Builder_Extra_156 : Builder.Extra Tryd.prog Tryd.lays156_ren := {
  sizeBuilder := by kernel_rfl
  liesBuilder := by kernel_rfl
  t5 := Tryd.underlying5
  a5 := Tryd.isAgg5
  z5 := Tryd.sizeOf5
  v5 := Tryd.zeroValue5
  infoByte := by kernel_rfl
  cellsByte := by kernel_rfl
  sizeByte := by kernel_rfl
  neB5 := by decide }
open Go.RowKit in
theorem Tryd.strings_Join_none (a : Option Addr) (c : Nat) (sep : ByteArray) (w : World) :
    Calls Tryd.prog 50 #[.slice a 0 c, .string sep] w fun e w' => e = .returned (.string ⟨#[]⟩) ∧ w' = w := Any.strings_Join_none Tryd.lays156 Tryd.Builder_Extra_156 a c sep w
open Go.RowKit in
theorem Tryd.strings_Join (bk o c : Nat) (xs : List ByteArray) (sep : ByteArray) (w : World) (hcells : ∀ (j : Nat) x, xs[j]? = some x → w.cell? ⟨bk, o + j, none⟩ = some (.string x)) (hbk : bk < w.heap.size) (hN : xs.length ≤ 140737488355328) (hcap : xs.length ≤ c) (hlen : (Lib.join (xs.map (·.data.toList)) sep.data.toList).length ≤ 140737488355328) :
    Calls Tryd.prog 50 #[.slice (some ⟨bk, o, none⟩) xs.length c, .string sep] w fun e w' => e = .returned (.string ⟨(Lib.join (xs.map (·.data.toList)) sep.data.toList).toArray⟩) ∧ Below w.heap.size w w' := Any.strings_Join Tryd.lays156 Tryd.Builder_Extra_156 bk o c xs sep w hcells hbk hN hcap hlen
def Tryd.lays143_ren : Go.Shelf.Ren := ⟨fun | 143 => 75 | 219 => 80 | 217 => 82 | 225 => 83 | 224 => 84 | 267 => 85 | 266 => 86 | 314 => 87 | n => n, fun | 9 => 9 | 3 => 3 | 4 => 4 | 5 => 5 | 46 => 29 | 146 => 161 | 51 => 160 | n => n, fun | 1 => 19 | n => n⟩
theorem Tryd.lays143 : Go.Proofs.Lays.n143 Tryd.prog Tryd.lays143_ren := {
  mixed := by kernel_rfl
  f143 := Tryd.func75.trans (congrArg some (by kernel_rfl))
  f217 := Tryd.func82.trans (congrArg some (by kernel_rfl))
  f219 := Tryd.func80.trans (congrArg some (by kernel_rfl))
  f224 := Tryd.func84.trans (congrArg some (by kernel_rfl))
  f225 := Tryd.func83.trans (congrArg some (by kernel_rfl))
  f266 := Tryd.func86.trans (congrArg some (by kernel_rfl))
  f267 := Tryd.func85.trans (congrArg some (by kernel_rfl))
  f314 := Tryd.func87.trans (congrArg some (by kernel_rfl))
  t3 := Tryd.underlying3
  a3 := Tryd.isAgg3
  z3 := Tryd.sizeOf3
  v3 := Tryd.zeroValue3
  t4 := Tryd.underlying4
  a4 := Tryd.isAgg4
  z4 := Tryd.sizeOf4
  v4 := Tryd.zeroValue4
  t5 := Tryd.underlying5
  a5 := Tryd.isAgg5
  z5 := Tryd.sizeOf5
  v5 := Tryd.zeroValue5
  t9 := Tryd.underlying9
  a9 := Tryd.isAgg9
  z9 := Tryd.sizeOf9
  v9 := Tryd.zeroValue9
  t46 := Tryd.underlying29
  a46 := Tryd.isAgg29
  z46 := Tryd.sizeOf29
  v46 := Tryd.zeroValue29
  t51 := Tryd.underlying160
  a51 := Tryd.isAgg160
  z51 := Tryd.sizeOf160
  v51 := Tryd.zeroValue160
  t146 := Tryd.underlying161
  a146 := Tryd.isAgg161
  z146 := Tryd.sizeOf161
  v146 := Tryd.zeroValue161
  g1 := by kernel_rfl }
open Go.RowKit Go.Lib in
theorem Tryd.strings_Index_one (s : ByteArray) (c : UInt8) (w : World) :
    Calls Tryd.prog 75 #[.string s, .string ⟨#[c]⟩] w fun e w' => e = .returned (.int .i64 (Lib.indexByte s.data.toList c)) ∧ w' = w := Any.strings_Index_one Tryd.lays143 s c w
end Go.Proofs.YtjhmehmmpfnnkaaDoor

namespace Go.Proofs.YtjhmehmmpfnnkaaDoor
open Go.RowKit Utf
set_option maxRecDepth 100000
set_option linter.unusedSimpArgs false
set_option linter.unusedVariables false
attribute [local go_sem] Oper.semAt_some
open Go.Shelf

/-! ### A text's lines -/
def splitL : List UInt8 → List (List UInt8)
  | [] => [[]]
  | b :: l => if b = 10 then [] :: splitL l else match splitL l with
    | [] => [[b]]
    | x :: r => (b :: x) :: r
theorem splitL_ne : ∀ l, splitL l ≠ []
  | [] => by simp [splitL]
  | b :: l => by
    simp only [splitL]
    split
    · simp
    · split <;> simp
theorem split_none : ∀ {l : List UInt8}, Lib.indexByte l 10 = -1 → splitL l = [l]
  | [], _ => rfl
  | b :: l, h => by
    simp only [Lib.indexByte] at h
    split at h
    · cases h
    · rename_i hb
      have hb' : ¬ b = 10 := by simpa using hb
      split at h
      · rename_i h1
        have h1' : Lib.indexByte l 10 = -1 := by simpa using h1
        simp only [splitL, if_neg hb', split_none h1']
      · rename_i h1
        have := Lib.indexByte_ge l 10
        have h2 : ¬ Lib.indexByte l 10 = -1 := by simpa using h1
        omega
theorem split_at : ∀ {l : List UInt8} {i : Nat}, Lib.indexByte l 10 = (i : Int) → i < l.length ∧ splitL l = l.take i :: splitL (l.drop (i + 1))
  | [], i, h => by simp only [Lib.indexByte] at h; omega
  | b :: l, i, h => by
    simp only [Lib.indexByte] at h
    split at h
    · rename_i hb
      have hb' : b = 10 := by simpa using hb
      obtain rfl : i = 0 := by omega
      exact ⟨by simp, by simp [splitL, hb']⟩
    · rename_i hb
      have hb' : ¬ b = 10 := by simpa using hb
      split at h
      · omega
      · rename_i h1
        have h2 := Lib.indexByte_ge l 10
        have h3 : ¬ Lib.indexByte l 10 = -1 := by simpa using h1
        obtain ⟨j, hj⟩ : ∃ j : Nat, Lib.indexByte l 10 = (j : Int) := ⟨(Lib.indexByte l 10).toNat, by omega⟩
        obtain rfl : i = j + 1 := by omega
        obtain ⟨h4, h5⟩ := split_at hj
        exact ⟨by simp; omega, by simp only [splitL, if_neg hb', h5]; rfl⟩
def linesB (s : ByteArray) : List ByteArray := (splitL s.data.toList).map fun l => ⟨l.toArray⟩

/-- How much of the iterator's text is left. -/
def restLen (Bs : Nat) (W : World) : Nat := match W.cell? ⟨Bs, 0, none⟩ with
  | some (.string s) => s.size
  | _ => 0
theorem restLen_of {Bs : Nat} {W : World} {s : ByteArray} (h : W.cell? ⟨Bs, 0, none⟩ = some (.string s)) : restLen Bs W = s.size := by unfold restLen; rw [h]

/-- What a round must leave as it is: the iterator's three boxes. -/
def Kept3 (Bp Bs Bv : Nat) (W W' : World) : Prop := W'.heap[Bp]? = W.heap[Bp]? ∧ W'.heap[Bs]? = W.heap[Bs]? ∧ W'.heap[Bv]? = W.heap[Bv]?

set_option maxHeartbeats 4000000 in
theorem splitSeq1_in (n : Nat) (hn : 1 ≤ n) (l Bp Bs Bv : Nat) (text : ByteArray) (hm : text.size ≤ 1000000) (h1 : Bp ≠ Bs) (h2 : Bv ≠ Bs)
    (J Jx : Nat → World → Prop) (hJ : ∀ k A v, J k A → J k (A.setCell ⟨Bs, 0, none⟩ v))
    (hY : ∀ k x W, J k W → (linesB text)[k]? = some x → YieldAt Fence.wide (n - 1) Tryd.prog l #[.string x] W fun e W' =>
      (e = .returned (.bool true) ∧ J (k + 1) W' ∧ Kept3 Bp Bs Bv W W') ∨ (e = .returned (.bool false) ∧ Jx (k + 1) W'))
    (W : World) (hcp : Boxed W Bp 9 (.string ⟨#[10]⟩)) (hcs : Boxed W Bs 9 (.string text)) (hcv : Boxed W Bv 3 (.int .i64 0)) (h0 : J 0 W) :
    CallsIn Fence.wide n Tryd.prog 73 #[.func (.yield l) #[] #[], .pointer (some ⟨Bp, 0, none⟩), .pointer (some ⟨Bs, 0, none⟩), .pointer (some ⟨Bv, 0, none⟩)] W fun e W' => (∃ v, e = .returned v) ∧
      (J (linesB text).length W' ∨ (∃ k, k ≤ (linesB text).length ∧ Jx k W')) := by
  have HY := Lib.hid hY
  have HJ := Lib.hid hJ
  have HP := Lib.hid hcp
  have HS := Lib.hid hcs
  have HV := Lib.hid hcv
  clear hY hJ
  refine callsIn_of_wp Tryd.func73 rfl trivial ?_ rfl
  simp only [Tryd.ntmps73, List.size_toArray, List.length_cons, List.length_nil, Nat.reduceAdd, Nat.reduceSub, Array.replicate_succ, Array.replicate_zero, List.push_toArray, List.append_toArray, List.nil_append, List.cons_append]
  have hp1 := hcp.cell
  have hs1 := hcs.cell
  have hv1 := hcv.cell
  clear hcp hcs hcv
  gi_wp2
  gi_loopw [7] (fun _ wr => ∃ (k : Nat) (done : List (List UInt8)) (r : ByteArray), done.length = k ∧ splitL text.data.toList = done ++ splitL r.data.toList ∧ r.size ≤ text.size ∧ Boxed wr Bs 9 (.string r) ∧ Boxed wr Bp 9 (.string ⟨#[10]⟩) ∧ Boxed wr Bv 3 (.int .i64 0) ∧ J k wr)
    (fun _ wr => restLen Bs wr)
  case atStart => exact ⟨0, [], text, rfl, rfl, Nat.le_refl _, HS.out, HP.out, HV.out, h0⟩
  case round =>
    obtain ⟨k, done, r, hk, hsp, hrs, bs, bp, bv, hj⟩ := hrel
    have HIX := Lib.hid (fun W => Tryd.strings_Index_one r 10 W)
    have q1 := bp.cell
    have q2 := bs.cell
    have q3 := bv.cell
    have HBS := Lib.hid bs
    have HBP := Lib.hid bp
    have HBV := Lib.hid bv
    have HSP := Lib.hid hsp
    have HJK := Lib.hid hj
    clear bs bp bv hsp hj hp1 hs1 hv1 h0 HP HS HV
    by_cases hneg : Lib.indexByte r.data.toList 10 = -1
    · have HLAST := Lib.hid (split_none hneg)
      rw [hneg] at HIX
      clear hneg
      gi_wp2_with fail
      refine ⟨trivial, ?_⟩
      refine (callsIn_wide.2 (HIX.out _)).mono ?_
      rintro e w1 ⟨rfl, rfl⟩
      have HLEN := Lib.hid (show (linesB text).length = k + 1 by unfold linesB; rw [List.length_map, HSP.out, HLAST.out, List.length_append, hk]; rfl)
      have HAT := Lib.hid (show (linesB text)[k]? = some r by
        unfold linesB
        rw [List.getElem?_map, HSP.out, HLAST.out, List.getElem?_append_right (by omega), hk, Nat.sub_self]
        rfl)
      obtain ⟨fn, tmps, assign, body, hy, hR⟩ := HY.out k r _ HJK.out HAT.out
      gi_wp2
      refine hR.mono ?_
      rintro e W3 (⟨rfl, hJ3, hk3⟩ | ⟨rfl, hJx3⟩)
      · gi_wp2
        go_end0
        exact ⟨⟨_, rfl⟩, .inl (by rw [HLEN.out]; exact hJ3)⟩
      · gi_wp2
        go_end0
        exact ⟨⟨_, rfl⟩, .inr ⟨k + 1, by rw [HLEN.out]; exact Nat.le_refl _, hJx3⟩⟩
    · have hge := Lib.indexByte_ge r.data.toList 10
      obtain ⟨i, hi⟩ : ∃ i : Nat, Lib.indexByte r.data.toList 10 = (i : Int) := ⟨(Lib.indexByte r.data.toList 10).toNat, by omega⟩
      obtain ⟨hil, hsa⟩ := split_at hi
      rw [hi] at HIX
      have HSA := Lib.hid hsa
      have hir : i < r.size := by rw [Lib.size_eq]; exact hil
      clear hneg hge hi hil hsa
      gi_wp2_with fail
      refine ⟨trivial, ?_⟩
      refine (callsIn_wide.2 (HIX.out _)).mono ?_
      rintro e w1 ⟨rfl, rfl⟩
      have hx8 : r.extract 0 i = ⟨(r.data.toList.take i).toArray⟩ := by
        apply str_ext
        rw [ByteArray.data_extract, Array.toList_extract]
        simp
      have HAT := Lib.hid (show (linesB text)[k]? = some (r.extract 0 i) by
        unfold linesB
        rw [List.getElem?_map, HSP.out, HSA.out, List.getElem?_append_right (by omega), hk, Nat.sub_self, hx8]
        rfl)
      have hlt : k < (linesB text).length := (List.getElem?_eq_some_iff.1 HAT.out).1
      have HLT := Lib.hid hlt
      have hdr : (r.extract (i + 1) r.size).data.toList = r.data.toList.drop (i + 1) := by
        rw [ByteArray.data_extract, Array.toList_extract]
        simp
        exact List.take_of_length_le (by rw [List.length_drop, ← Lib.size_eq]; exact Nat.le_refl _)
      have HDR := Lib.hid hdr
      clear hx8 hlt hdr
      obtain ⟨fn, tmps, assign, body, hy, hR⟩ := HY.out k (r.extract 0 i) _ HJK.out HAT.out
      gi_wp2
      refine hR.mono ?_
      rintro e W3 (⟨rfl, hJ3, hk3⟩ | ⟨rfl, hJx3⟩)
      · have b1 : Boxed W3 Bp 9 (.string ⟨#[10]⟩) := hk3.1.trans HBP.out
        have b2 : Boxed W3 Bs 9 (.string r) := hk3.2.1.trans HBS.out
        have b3 : Boxed W3 Bv 3 (.int .i64 0) := hk3.2.2.trans HBV.out
        have p1 := b1.cell
        have p2 := b2.cell
        have p3 := b2.frozen
        have B1 := Lib.hid b1
        have B2 := Lib.hid b2
        have B3 := Lib.hid b3
        have HJ3 := Lib.hid hJ3
        have RL := Lib.hid (restLen_of q2)
        clear b1 b2 b3 hJ3 hk3 q1 q2 q3 HBS HBP HBV
        gi_wp2
        go_roundw
        case rel => exact ⟨k + 1, done ++ [r.data.toList.take i], _, by simp [hk], by rw [HDR.out, HSP.out, HSA.out, List.append_assoc]; rfl, by simp [ByteArray.size_extract]; omega, B2.out.set _, B1.out.other h1 _, B3.out.other h2 _, HJ.out _ _ _ HJ3.out⟩
        case measure => rw [RL.out, restLen_of (B2.out.set _).cell]; simp [ByteArray.size_extract]; omega
      · gi_wp2
        refine bodyPost_ret (results_none rfl _ _ _) rfl ?_
        exact ⟨⟨_, rfl⟩, .inr ⟨k + 1, HLT.out, hJx3⟩⟩
theorem splitSeq_any (s : ByteArray) (w : World) :
    Calls Tryd.prog 68 #[.string s, .string ⟨#[10]⟩, .int .i64 0] w fun e w' => e = .returned (.func (.func 73) #[] #[.pointer (some ⟨w.heap.size + 1, 0, none⟩), .pointer (some ⟨w.heap.size, 0, none⟩), .pointer (some ⟨w.heap.size + 2, 0, none⟩)]) ∧
      w' = ((w.alloc (.cells #[.string s] 9)).alloc (.cells #[.string ⟨#[10]⟩] 9)).alloc (.cells #[.int .i64 0] 3) := by
  go_enter Tryd.func68, Tryd.ntmps68
  go_wp2_with fail
  go_ret
  exact ⟨by simp, rfl⟩
theorem splitSeq (s : ByteArray) (w : World) :
    Calls Tryd.prog 54 #[.string s, .string ⟨#[10]⟩] w fun e w' => e = .returned (.func (.func 73) #[] #[.pointer (some ⟨w.heap.size + 1, 0, none⟩), .pointer (some ⟨w.heap.size, 0, none⟩), .pointer (some ⟨w.heap.size + 2, 0, none⟩)]) ∧
      w' = ((w.alloc (.cells #[.string s] 9)).alloc (.cells #[.string ⟨#[10]⟩] 9)).alloc (.cells #[.int .i64 0] 3) := by
  have HS := Lib.hid (fun W => splitSeq_any s W)
  go_enter Tryd.func54, Tryd.ntmps54
  go_wp2_with fail
  refine (HS.out _).mono ?_
  rintro e w1 ⟨rfl, rfl⟩
  go_wp2_with fail
  go_ret
  exact ⟨rfl, rfl⟩
end Go.Proofs.YtjhmehmmpfnnkaaDoor

namespace Go.Proofs.YtjhmehmmpfnnkaaDoor
open Go.RowKit Utf
set_option maxRecDepth 100000
set_option linter.unusedSimpArgs false
set_option linter.unusedVariables false

/-- How a round over a line ends. -/
def linePost (B Bp Bs Bv : Nat) (I Ix : Nat → World → Prop) (k : Nat) (W : World) : Exit → Act → World → Prop
  | .normal, _, W' => KeepsFrom B W W' ∧ Kept3 Bp Bs Bv W W' ∧ I (k + 1) W'
  | .ret, _, W' => KeepsFrom B W W' ∧ Ix (k + 1) W'
  | _, _, _ => False
theorem putObj_kept3 {Bp Bs Bv l : Nat} {W : World} {o : Obj} (h1 : Bp < l) (h2 : Bs < l) (h3 : Bv < l) : Kept3 Bp Bs Bv W (W.putObj l o) :=
  ⟨World.putObj_heap_other (by omega), World.putObj_heap_other (by omega), World.putObj_heap_other (by omega)⟩
theorem Kept3.trans {Bp Bs Bv : Nat} {A B C : World} (h : Kept3 Bp Bs Bv A B) (k : Kept3 Bp Bs Bv B C) : Kept3 Bp Bs Bv A C := ⟨k.1.trans h.1, k.2.1.trans h.2.1, k.2.2.trans h.2.2⟩
theorem setCell_other {b j : Nat} {W : World} {o : Obj} {v : Value} (h : W.heap[j]? = some o) (hb : b < j) : (W.setCell ⟨b, 0, none⟩ v).heap[j]? = some o := (Below.heap_setCell W _ v j (by show j ≠ b; omega)).trans h

theorem range_lines {n : Nat} {p : Tmp} {g : Operand} {assign body : Code} {Q : Exit → Act → World → Prop} {a : Act} {w : World} (hn : 2 ≤ n) (Bp Bs Bv : Nat) (text : ByteArray) (hm : text.size ≤ 1000000) (h1 : Bp ≠ Bs) (h2 : Bv ≠ Bs)
    (hg : a.eval g = .func (.func 73) #[] #[.pointer (some ⟨Bp, 0, none⟩), .pointer (some ⟨Bs, 0, none⟩), .pointer (some ⟨Bv, 0, none⟩)])
    (bp : Boxed w Bp 9 (.string ⟨#[10]⟩)) (bs : Boxed w Bs 9 (.string text)) (bv : Boxed w Bv 3 (.int .i64 0))
    (I Ix : Nat → World → Prop) (hI : OwnFrom w.heap.size I) (hIx : OwnFrom w.heap.size Ix) (hT : ∀ k A v, I k A → I k (A.setCell ⟨Bs, 0, none⟩ v)) (h0 : I 0 w) (a₁ : ByteArray → Act)
    (hassign : ∀ (l : Nat) (x : ByteArray) (W : World) (K : Act → World → Prop), K (a₁ x) W → assign.wpIn (Fence.wide.inRound l) (n - 1 - 1) Tryd.prog (Exit.then K (fun _ _ _ => False)) { tmps := a.tmps.setIfInBounds p (.string x), defers := [] } W)
    (hbody : ∀ (l k : Nat) (x : ByteArray) (W : World), I k W → (linesB text)[k]? = some x → body.wpIn (Fence.wide.inRound l) (n - 1 - 1) Tryd.prog (linePost w.heap.size Bp Bs Bv I Ix k W) (a₁ x) W)
    (hdone : ∀ (D : Nat) (W : World), w.heap.size ≤ D → I (linesB text).length W → W.heap[D]? = some (.deferred (some [])) → Q .normal { a with defers := { target := .collected D, args := #[] } :: a.defers } W)
    (hstop : ∀ (D k : Nat) (W : World), w.heap.size ≤ D → k ≤ (linesB text).length → Ix k W → W.heap[D]? = some (.deferred (some [])) → Code.ret.wpIn Fence.wide n Tryd.prog Q { a with defers := { target := .collected D, args := #[] } :: a.defers } W) :
    (Code.rangeFunc g #[p] assign body).wpIn Fence.wide n Tryd.prog Q a w := by
  have lp := bp.lt
  have ls := bs.lt
  have lv := bv.lt
  refine wpIn_rangeFunc fun fn hfn => ?_
  -- the loop's record, by its state
  let D := w.heap.size
  let rc : LoopState → Option Code → Obj := fun st pe => .loop { state := st, pending := pe, fn, tmps := a.tmps, params := #[p], assign, body, defers := D }
  let W1 := (w.alloc (.deferred (some []))).alloc (rc .ready none)
  have hW1 : W1 = (w.alloc (.deferred (some []))).alloc (rc .ready none) := rfl
  have sD : W1.heap[D]? = some (.deferred (some [])) := (Below.heap_alloc _ _ _ (by simp [D])).trans (World.alloc_heap_new w _)
  have sL : W1.heap[D + 1]? = some (rc .ready none) := by
    have := World.alloc_heap_new (w.alloc (.deferred (some []))) (rc .ready none)
    rwa [World.size_alloc] at this
  refine ⟨D + 1, [{ target := .collected D, args := #[] }], W1, { target := .fn (.func 73) #[.pointer (some ⟨Bp, 0, none⟩), .pointer (some ⟨Bs, 0, none⟩), .pointer (some ⟨Bv, 0, none⟩)], args := #[.func (.yield (D + 1)) #[] #[]] }, W1, 73,
    #[.func (.yield (D + 1)) #[] #[], .pointer (some ⟨Bp, 0, none⟩), .pointer (some ⟨Bs, 0, none⟩), .pointer (some ⟨Bv, 0, none⟩)], W1, run_enterLoop_outer _ _ _ _ _, ?_, fun _ _ => trivial, ?_, fun _ => by omega, ?_⟩
  · simp only [resolve, hg]
    simp [go_sem]
  · simp [invoke, go_sem, enters_of Tryd.func73 (by kernel_rfl) rfl]
  -- the iterator, with the record and the block beside what the caller says
  refine (splitSeq1_in (n - 1) (by omega) (D + 1) Bp Bs Bv text hm h1 h2 (fun k W => I k W ∧ W.heap[D + 1]? = some (rc .ready none) ∧ W.heap[D]? = some (.deferred (some [])))
    (fun k W => Ix k W ∧ W.heap[D + 1]? = some (rc .done (some .ret)) ∧ W.heap[D]? = some (.deferred (some [])))
    (fun k A v ⟨x1, x2, x3⟩ => ⟨hT k A v x1, setCell_other x2 (by simp [D]; omega), setCell_other x3 (by simp [D]; omega)⟩) ?_ W1 ((bp.alloc _).alloc _) ((bs.alloc _).alloc _) ((bv.alloc _).alloc _) ⟨hI.alloc _ (hI.alloc _ h0), sL, sD⟩).mono ?_
  · rintro k x W ⟨hi, hl, hd⟩ hx
    have hlt : D + 1 < W.heap.size := (Array.getElem?_eq_some_iff.1 hl).1
    have hy : (Instr.yield (D + 1) #[.string x]).run Tryd.prog W = .ok (.round (D + 1) fn (a.tmps.setIfInBounds p (.string x)) assign body) W := by
      have h := run_yield (P := Tryd.prog) (args := #[.string x]) hl rfl
      simpa using h
    refine ⟨fn, _, assign, body, hy, roundIn_of_wpIn hfn (hassign (D + 1) x W _ ?_)⟩
    refine ⟨_, run_beginRound hl rfl, ?_⟩
    have hl2 : (W.putObj (D + 1) (rc .busy none)).heap[D + 1]? = some (rc .busy none) := World.putObj_heap_same hlt
    have hd2 : (W.putObj (D + 1) (rc .busy none)).heap[D]? = some (.deferred (some [])) := (World.putObj_heap_other (by omega)).trans hd
    have hk2 : Kept3 Bp Bs Bv W (W.putObj (D + 1) (rc .busy none)) := putObj_kept3 (by simp [D]; omega) (by simp [D]; omega) (by simp [D]; omega)
    refine wpIn_mono (hbody _ k x _ (hI.putObj _ hi (by simp [D]) hl rfl) hx) ?_
    rintro e a3 W3 hp
    cases e with
    | normal =>
      obtain ⟨q1, q2, q3⟩ := hp
      have hl3 := q1.same _ _ (by simp [D]) hl2 rfl
      have hd3 := q1.same _ _ (Nat.le_refl _) hd2 rfl
      exact ⟨_, _, run_endRound (P := Tryd.prog) none hl3, .inl ⟨rfl, ⟨hI.putObj _ q3 (by simp [D]) hl3 rfl, World.putObj_heap_same (Array.getElem?_eq_some_iff.1 hl3).1, (World.putObj_heap_other (by omega)).trans hd3⟩, (hk2.trans q2).trans (putObj_kept3 (by simp [D]; omega) (by simp [D]; omega) (by simp [D]; omega))⟩⟩
    | ret =>
      obtain ⟨q1, q3⟩ := hp
      have hl3 := q1.same _ _ (by simp [D]) hl2 rfl
      have hd3 := q1.same _ _ (Nat.le_refl _) hd2 rfl
      exact ⟨_, _, run_endRound (P := Tryd.prog) (some .ret) hl3, .inr ⟨rfl, hIx.putObj _ q3 (by simp [D]) hl3 rfl, World.putObj_heap_same (Array.getElem?_eq_some_iff.1 hl3).1, (World.putObj_heap_other (by omega)).trans hd3⟩⟩
    | exit _ => exact hp.elim
    | goto _ => exact hp.elim
    | panic _ => exact hp.elim
    | outgrown => exact hp.elim
  · rintro e W2 ⟨⟨v, rfl⟩, (⟨hi, hl, hd⟩ | ⟨k, hk, hi, hl, hd⟩)⟩
    · exact ⟨none, _, run_endLoop (P := Tryd.prog) hl (by simp), hdone D _ (Nat.le_refl _) (hI.putObj _ hi (by simp [D]) hl rfl) ((World.putObj_heap_other (by omega)).trans hd)⟩
    · exact ⟨some .ret, _, run_endLoop (P := Tryd.prog) hl (by simp), hstop D k _ (Nat.le_refl _) hk (hIx.putObj _ hi (by simp [D]) hl rfl) ((World.putObj_heap_other (by omega)).trans hd)⟩
end Go.Proofs.YtjhmehmmpfnnkaaDoor

namespace Go.Proofs.YtjhmehmmpfnnkaaDoor
open Go.RowKit Go.Extern.Stop Go.Stop Go.Extern Go.ChangeShapes
set_option maxRecDepth 100000
set_option linter.unusedSimpArgs false
set_option linter.unusedVariables false

/-- The variables' blocks, in the order of the numbers of errors. -/
def errG (i : Nat) : Nat := [2, 3, 4, 1, 5, 0, 6, 7, 8, 9, 10, 11, 12, 13, 14, 15, 16, 17, 18].getD i 0

/-- Error number i + 1, a pointer to an errorString. -/
def errV (ea : Nat → Addr) (i : Nat) : Value := .iface 163 (.pointer (some (ea i)))

/-- What the listed variables give: each holds a pointer of its own. -/
structure ErrsAt (W : World) (ea : Nat → Addr) : Prop where
  cell : ∀ i, i < 19 → W.cell? ⟨errG i, 0, none⟩ = some (errV ea i)
  block : ∀ i, i < 19 → ∃ c t, W.heap[(ea i).block]? = some (.cells c t (0, 0))
  apart : ∀ i j, i < 19 → j < 19 → i ≠ j → ea i ≠ ea j

theorem ErrsAt.below {W W' : World} {ea : Nat → Addr} (h : ErrsAt W ea) (hb : Below W.heap.size W W') : ErrsAt W' ea :=
  ⟨fun i hi => (hb.cell (World.block_lt_of_cell? W _ (h.cell i hi))).trans (h.cell i hi),
   fun i hi => by obtain ⟨c, t, hc⟩ := h.block i hi; exact ⟨c, t, (hb.block _ (Array.getElem?_eq_some_iff.1 hc).1).trans hc⟩, h.apart⟩

/-! ### errors.Is -/
theorem Tryd.isTypeOf (v : Value) (w : World) : (Extern.ReflectliteType.typeOf #[.iface 163 v]).run Tryd.prog w = .ok (.iface 135 (.agg #[.pointer (some ⟨22, 163, none⟩)])) w := by kernel_rfl
def cmpM : Array Value → Sem Value := Extern.ReflectliteType.method fun t => do Extern.Rtype.noPackHeld "Comparable" t; pure (.bool (← typeInfo t).comparable)
theorem Tryd.isComparable (w : World) : (cmpM #[.agg #[.pointer (some ⟨22, 163, none⟩)]]).run Tryd.prog w = .ok (.bool true) w := by kernel_rfl
theorem Tryd.isMethodComparable (v : Value) (w : World) : (Go.method 296 135 v "Comparable").run Tryd.prog w = .ok (107, v) w := by kernel_rfl
theorem Tryd.isComp : (Tryd.prog.info? 163).map (·.comparable) = some true := by kernel_rfl
theorem Tryd.isSize : (Tryd.prog.info? 185).map (·.size) = some 1 := by kernel_rfl
theorem Tryd.noIsE (v : Value) (xT : TypeId) (w : World) : (Instr.typeAssert (.iface 163 v) xT 137 true).run Tryd.prog w = .ok (.tuple #[.nilIface, .bool false]) w := run_typeAssert_lacksB Tryd.underlying137 (by kernel_rfl) (by kernel_rfl) v xT w
theorem Tryd.noUnwrapE (v : Value) (xT : TypeId) (w : World) : (Instr.typeAssert (.iface 163 v) xT 140 true).run Tryd.prog w = .ok (.tuple #[.nilIface, .bool false]) w := run_typeAssert_lacksB Tryd.underlying140 (by kernel_rfl) (by kernel_rfl) v xT w
theorem Tryd.noUnwrapsE (v : Value) (xT : TypeId) (w : World) : (Instr.typeAssert (.iface 163 v) xT 142 true).run Tryd.prog w = .ok (.tuple #[.nilIface, .bool false]) w := run_typeAssert_lacksB Tryd.underlying142 (by kernel_rfl) (by kernel_rfl) v xT w

set_option maxHeartbeats 1000000 in
/-- errors.Is(x, x). -/
theorem is_same (a : Addr) (w : World) :
    Calls Tryd.prog 33 #[.iface 163 (.pointer (some a)), .iface 163 (.pointer (some a))] w fun e w' => e = .returned (.bool true) ∧ w' = w := by
  obtain ⟨i, hi, hcmp⟩ := Option.map_eq_some_iff.1 Tryd.isComp
  obtain ⟨j, hj, hjs⟩ := Option.map_eq_some_iff.1 Tryd.isSize
  have h8 := @run_callFunc_extern Tryd.prog 56 _ Extern.ReflectliteType.typeOf Tryd.func56 (by kernel_rfl) (by kernel_rfl) (by kernel_rfl) (by kernel_rfl)
  have h32 := @run_callFunc_extern Tryd.prog 107 _ cmpM Tryd.func107 (by kernel_rfl) (by kernel_rfl) (by kernel_rfl) (by kernel_rfl)
  have tT := Tryd.isTypeOf
  have cT := Tryd.isComparable
  have mR := Tryd.isMethodComparable
  have heq := run_eql_iface_ptr_same (P := Tryd.prog) w a Tryd.underlying26 Tryd.underlying163 hi hcmp hj
  go_enter Tryd.func33, Tryd.ntmps33
  go_wp2
  refine wp_loop_rounds 1 ?_
  rw [rounds_succ]
  go_wp2
  go_ret
  exact ⟨rfl, rfl⟩

set_option maxHeartbeats 1000000 in
/-- errors.Is(nil, x). -/
theorem is_nil (b : Addr) (w : World) :
    Calls Tryd.prog 33 #[.nilIface, .iface 163 (.pointer (some b))] w fun e w' => e = .returned (.bool false) ∧ w' = w := by
  have hn := run_eql_iface_nil_left (P := Tryd.prog) w 163 (.pointer (some b)) Tryd.underlying26
  go_enter Tryd.func33, Tryd.ntmps33
  go_wp2
  go_ret
  exact ⟨rfl, rfl⟩

set_option maxHeartbeats 1000000 in
/-- errors.Is(x, y), two different ones. -/
theorem is_other (a b : Addr) (ca cb : Array Value) (ta tb : TypeId) (w : World) (hne : a ≠ b) (ha : w.heap[a.block]? = some (.cells ca ta (0, 0))) (hb : w.heap[b.block]? = some (.cells cb tb (0, 0))) :
    Calls Tryd.prog 33 #[.iface 163 (.pointer (some a)), .iface 163 (.pointer (some b))] w fun e w' => e = .returned (.bool false) ∧ w' = w := by
  obtain ⟨i, hi, hcmp⟩ := Option.map_eq_some_iff.1 Tryd.isComp
  obtain ⟨j, hj, hjs⟩ := Option.map_eq_some_iff.1 Tryd.isSize
  have h8 := @run_callFunc_extern Tryd.prog 56 _ Extern.ReflectliteType.typeOf Tryd.func56 (by kernel_rfl) (by kernel_rfl) (by kernel_rfl) (by kernel_rfl)
  have h32 := @run_callFunc_extern Tryd.prog 107 _ cmpM Tryd.func107 (by kernel_rfl) (by kernel_rfl) (by kernel_rfl) (by kernel_rfl)
  have tT := Tryd.isTypeOf
  have cT := Tryd.isComparable
  have mR := Tryd.isMethodComparable
  have nE := Tryd.noIsE
  have uE := Tryd.noUnwrapE
  have vE := Tryd.noUnwrapsE
  have heq := run_eql_iface_ptr_other (P := Tryd.prog) w Tryd.underlying26 Tryd.underlying163 hi hcmp hj (by rw [hjs]; decide) hne ha hb
  go_enter Tryd.func33, Tryd.ntmps33
  go_wp2
  refine wp_loop_rounds 1 ?_
  rw [rounds_succ]
  go_wp2
  go_ret
  exact ⟨rfl, rfl⟩
end Go.Proofs.YtjhmehmmpfnnkaaDoor

namespace Go.Proofs.YtjhmehmmpfnnkaaDoor
set_option linter.unusedSimpArgs false
set_option linter.unusedVariables false

/-- Where the reader of a line stands: between words, in a bare word, in quotes, behind the mark, behind the quotes. -/
inductive WM | gap | bare | quo | esc | shut
deriving DecidableEq

def WM.step : WM → Nat → Option WM
  | .gap, x => some (if x = 32 then .gap else if x = 34 then .quo else .bare)
  | .bare, x => if x = 32 then some .gap else if x = 34 then none else some .bare
  | .quo, x => some (if x = 92 then .esc else if x = 34 then .shut else .quo)
  | .esc, _ => some .quo
  | .shut, x => if x = 32 then some .gap else none

structure WS where
  out : List (List Nat)
  cur : List Nat
  m : WM

def WS.step (s : WS) (x : Nat) : Option WS :=
  match s.m, s.m.step x with
  | _, none => none
  | .gap, some .gap => some s
  | _, some .gap => some ⟨s.out ++ [s.cur], [], .gap⟩
  | _, some n => some ⟨s.out, s.cur ++ [x], n⟩

def wsRun : WS → List Nat → Option WS
  | s, [] => some s
  | s, x :: l => (s.step x).bind fun t => wsRun t l

def WS.fin (s : WS) : Option (List (List Nat)) :=
  match s.m with
  | .gap => some s.out
  | .bare | .shut => some (s.out ++ [s.cur])
  | .quo | .esc => none

def ws0 : WS := ⟨[], [], .gap⟩
def wordsL (rs : List Nat) : Option (List (List Nat)) := (wsRun ws0 rs).bind WS.fin

theorem wsRun_append (s : WS) : ∀ (l r : List Nat), wsRun s (l ++ r) = (wsRun s l).bind fun t => wsRun t r := by
  intro l
  induction l generalizing s with
  | nil => intro r; rfl
  | cons x l ih =>
    intro r
    show (s.step x).bind (fun t => wsRun t (l ++ r)) = ((s.step x).bind fun t => wsRun t l).bind _
    cases s.step x with
    | none => rfl
    | some t => exact ih t r

theorem wsRun_take {rs : List Nat} {k : Nat} (hk : k < rs.length) {s : WS} (h : wsRun ws0 (rs.take k) = some s) :
    wsRun ws0 (rs.take (k + 1)) = s.step rs[k] := by
  rw [List.take_succ_eq_append_getElem hk, wsRun_append, h]
  show (s.step rs[k]).bind (fun t => some t) = _
  cases s.step rs[k] <;> rfl

theorem wordsL_stop {rs : List Nat} {k : Nat} (hk : k < rs.length) {s : WS} (h : wsRun ws0 (rs.take k) = some s) (hs : s.step rs[k] = none) : wordsL rs = none := by
  unfold wordsL
  have e : rs = rs.take (k + 1) ++ rs.drop (k + 1) := (List.take_append_drop _ _).symm
  have h2 := wsRun_take hk h
  rw [hs] at h2
  rw [e, wsRun_append, h2]
  rfl

theorem wordsL_end {rs : List Nat} {s : WS} (h : wsRun ws0 rs = some s) : wordsL rs = s.fin := by
  unfold wordsL
  rw [h]
  rfl

/-! ### A text in quotes -/
def badQ (c : Nat) : Bool := decide (c < 32) || decide (c = 127)
def quo1 (c : Nat) : List Nat := if c = 34 ∨ c = 92 then [92, c] else [c]
def quoteL (rs : List Nat) : Option (List Nat) := if rs.any badQ then none else some (34 :: (rs.flatMap quo1 ++ [34]))

/-- What stands between the quotes, without the marks. -/
def unmark : List Nat → List Nat
  | [] => []
  | x :: l => if x = 92 then match l with
    | [] => []
    | y :: r => y :: unmark r
    else x :: unmark l

def unq : List Nat → Option (List Nat)
  | [] => some []
  | x :: l =>
    if x = 92 then match l with
      | [] => none
      | y :: r => if y = 34 ∨ y = 92 then (unq r).map (y :: ·) else none
    else if x = 34 ∨ badQ x = true then none else (unq l).map (x :: ·)

theorem unq_quote (rs : List Nat) (h : rs.any badQ = false) : unq (rs.flatMap quo1) = some rs := by
  induction rs with
  | nil => rfl
  | cons c l ih =>
    rw [List.any_cons, Bool.or_eq_false_iff] at h
    rw [List.flatMap_cons]
    unfold quo1
    by_cases hc : c = 34 ∨ c = 92
    · rw [if_pos hc]
      show unq (92 :: c :: (l.flatMap quo1)) = _
      unfold unq
      rw [if_pos rfl]
      show (if c = 34 ∨ c = 92 then _ else _) = _
      rw [if_pos hc, ih h.2]
      rfl
    · rw [if_neg hc]
      show unq (c :: (l.flatMap quo1)) = _
      unfold unq
      rw [if_neg (fun h => hc (Or.inr h)), if_neg (fun h1 => h1.elim (fun h1 => hc (Or.inl h1)) (fun h1 => by rw [h.1] at h1; cases h1)), ih h.2]
      rfl

theorem quote_unq : ∀ (n : Nat) (l t : List Nat), l.length ≤ n → unq l = some t → t.any badQ = false ∧ t.flatMap quo1 = l ∧ unmark l = t
  | _, [], t, _, h => by
    unfold unq at h
    obtain rfl := Option.some.inj h
    exact ⟨rfl, rfl, rfl⟩
  | 0, x :: l, t, hn, h => by simp at hn
  | n + 1, x :: l, t, hn, h => by
    unfold unq at h
    by_cases hx : x = 92
    · subst hx
      rw [if_pos rfl] at h
      cases l with
      | nil => cases h
      | cons y r =>
        simp only at h
        by_cases hy : y = 34 ∨ y = 92
        · rw [if_pos hy, Option.map_eq_some_iff] at h
          obtain ⟨t', ht', rfl⟩ := h
          obtain ⟨h1, h2, h3⟩ := quote_unq n r t' (by simp at hn; omega) ht'
          refine ⟨?_, ?_, ?_⟩
          · rw [List.any_cons, h1, Bool.or_false]
            rcases hy with rfl | rfl <;> rfl
          · rw [List.flatMap_cons, h2, quo1, if_pos hy]
            rfl
          · unfold unmark
            rw [if_pos rfl]
            simp only [h3]
        · rw [if_neg hy] at h
          cases h
    · rw [if_neg hx] at h
      by_cases hb : x = 34 ∨ badQ x = true
      · rw [if_pos hb] at h
        cases h
      · rw [if_neg hb, Option.map_eq_some_iff] at h
        obtain ⟨t', ht', rfl⟩ := h
        obtain ⟨h1, h2, h3⟩ := quote_unq n l t' (by simp at hn; omega) ht'
        have hb1 : ¬ x = 34 := fun h => hb (Or.inl h)
        have hb2 : badQ x = false := by
          cases hq : badQ x with
          | false => rfl
          | true => exact absurd (Or.inr hq) hb
        refine ⟨?_, ?_, ?_⟩
        · rw [List.any_cons, h1, hb2]; rfl
        · rw [List.flatMap_cons, h2, quo1, if_neg (fun h => h.elim hb1 hx)]
          rfl
        · unfold unmark
          rw [if_neg hx, h3]

def unquoteL (rs : List Nat) : Option (List Nat) :=
  if rs.length < 2 ∨ rs.head? ≠ some 34 ∨ rs.getLast? ≠ some 34 then none else unq (rs.tail.dropLast)

theorem split2 {rs : List Nat} (h : 2 ≤ rs.length) (h1 : rs.head? = some 34) (h2 : rs.getLast? = some 34) : rs = 34 :: (rs.tail.dropLast ++ [34]) := by
  cases rs with
  | nil => simp at h
  | cons x l =>
    simp only [List.head?_cons, Option.some.injEq] at h1
    subst h1
    cases l with
    | nil => simp at h
    | cons y r =>
      rw [List.getLast?_cons_cons] at h2
      have hne : (y :: r) ≠ [] := by simp
      rw [List.getLast?_eq_some_getLast hne, Option.some.injEq] at h2
      have := List.dropLast_concat_getLast hne
      rw [h2] at this
      rw [List.tail_cons, this]

/-- Unquote is Quote's other way: as the reference says it. -/
theorem unquoteL_iff (rs : List Nat) (t : List Nat) : unquoteL rs = some t ↔ 2 ≤ rs.length ∧ quoteL t = some rs := by
  unfold unquoteL
  constructor
  · intro h
    by_cases hc : rs.length < 2 ∨ rs.head? ≠ some 34 ∨ rs.getLast? ≠ some 34
    · rw [if_pos hc] at h; cases h
    · rw [if_neg hc] at h
      have h2 : 2 ≤ rs.length := Nat.le_of_not_lt fun h => hc (Or.inl h)
      have hh : rs.head? = some 34 := Classical.byContradiction fun h => hc (Or.inr (Or.inl h))
      have hg : rs.getLast? = some 34 := Classical.byContradiction fun h => hc (Or.inr (Or.inr h))
      obtain ⟨a1, a2, a3⟩ := quote_unq _ _ _ (Nat.le_refl _) h
      refine ⟨h2, ?_⟩
      unfold quoteL
      rw [if_neg (by rw [a1]; decide), a2]
      rw [← split2 h2 hh hg]
  · rintro ⟨h2, hq⟩
    unfold quoteL at hq
    by_cases hb : t.any badQ = true
    · rw [if_pos hb] at hq; cases hq
    · rw [if_neg hb] at hq
      obtain rfl := Option.some.inj hq
      have hb' : t.any badQ = false := by simpa using hb
      rw [if_neg]
      · rw [List.tail_cons, List.dropLast_concat]
        exact unq_quote t hb'
      · rintro (h | h | h)
        · simp at h; omega
        · exact h rfl
        · apply h
          rw [← List.cons_append, List.getLast?_concat]

theorem unquote_quote {rs q : List Nat} (h : quoteL rs = some q) : unquoteL q = some rs := by
  rw [unquoteL_iff]
  refine ⟨?_, h⟩
  unfold quoteL at h
  split at h
  · cases h
  · obtain rfl := Option.some.inj h
    simp

/-- The reference's way: without the marks, quoted again, the same? -/
theorem unquoteL_ref (rs : List Nat) (h : 2 ≤ rs.length) :
    unquoteL rs = if quoteL (unmark rs.tail.dropLast) = some rs then some (unmark rs.tail.dropLast) else none := by
  by_cases hq : quoteL (unmark rs.tail.dropLast) = some rs
  · rw [if_pos hq, unquoteL_iff]
    exact ⟨h, hq⟩
  · rw [if_neg hq]
    cases hu : unquoteL rs with
    | none => rfl
    | some t =>
      exfalso
      have h2 := (unquoteL_iff rs t).1 hu
      apply hq
      have : unmark rs.tail.dropLast = t := by
        unfold unquoteL at hu
        split at hu
        · cases hu
        · exact (quote_unq _ _ _ (Nat.le_refl _) hu).2.2
      rw [this]
      exact h2.2
/-! ### Words that stand by themselves -/
def IsWord (w : List Nat) : Prop := ∃ m, (m = .bare ∨ m = .shut) ∧ ∀ out, wsRun ⟨out, [], .gap⟩ w = some ⟨out, w, m⟩

theorem run_quo (rs : List Nat) : ∀ (out : List (List Nat)) (cur : List Nat), wsRun ⟨out, cur, .quo⟩ (rs.flatMap quo1) = some ⟨out, cur ++ rs.flatMap quo1, .quo⟩ := by
  induction rs with
  | nil => intro out cur; simp [wsRun]
  | cons c l ih =>
    intro out cur
    rw [List.flatMap_cons, wsRun_append]
    have : wsRun ⟨out, cur, .quo⟩ (quo1 c) = some ⟨out, cur ++ quo1 c, .quo⟩ := by
      unfold quo1
      by_cases hc : c = 34 ∨ c = 92
      · rw [if_pos hc]
        simp [wsRun, WS.step, WM.step]
      · rw [if_neg hc]
        have h1 : ¬ c = 34 := fun h => hc (Or.inl h)
        have h2 : ¬ c = 92 := fun h => hc (Or.inr h)
        simp [wsRun, WS.step, WM.step, h1, h2]
    rw [this]
    show wsRun _ _ = _
    rw [ih, List.append_assoc]

theorem word_quote {rs q : List Nat} (h : quoteL rs = some q) : IsWord q := by
  unfold quoteL at h
  split at h
  · cases h
  · obtain rfl := Option.some.inj h
    refine ⟨.shut, Or.inr rfl, fun out => ?_⟩
    have e : wsRun ⟨out, [], .gap⟩ (34 :: (rs.flatMap quo1 ++ [34])) = wsRun ⟨out, [34], .quo⟩ (rs.flatMap quo1 ++ [34]) := by
      simp [wsRun, WS.step, WM.step]
    rw [e, wsRun_append, run_quo]
    simp [wsRun, WS.step, WM.step]

theorem run_bare : ∀ (w : List Nat) (out : List (List Nat)) (cur : List Nat), (∀ c ∈ w, c ≠ 32 ∧ c ≠ 34) → wsRun ⟨out, cur, .bare⟩ w = some ⟨out, cur ++ w, .bare⟩
  | [], out, cur, _ => by simp [wsRun]
  | c :: l, out, cur, h => by
    obtain ⟨h1, h2⟩ := h c (List.mem_cons_self ..)
    have := run_bare l out (cur ++ [c]) (fun x hx => h x (List.mem_cons_of_mem _ hx))
    simp only [wsRun, WS.step, WM.step, h1, h2, if_false, Option.bind_some]
    rw [this, List.append_assoc]
    rfl

theorem word_bare {w : List Nat} (hne : w ≠ []) (h : ∀ c ∈ w, c ≠ 32 ∧ c ≠ 34) : IsWord w := by
  refine ⟨.bare, Or.inl rfl, fun out => ?_⟩
  cases w with
  | nil => exact absurd rfl hne
  | cons c l =>
    obtain ⟨h1, h2⟩ := h c (List.mem_cons_self ..)
    have := run_bare l out [c] (fun x hx => h x (List.mem_cons_of_mem _ hx))
    simp only [wsRun, WS.step, WM.step, h1, h2, if_false, Option.bind_some, List.nil_append]
    rw [this]
    rfl

theorem run_blanks (out : List (List Nat)) : ∀ n, wsRun ⟨out, [], .gap⟩ (List.replicate n 32) = some ⟨out, [], .gap⟩
  | 0 => rfl
  | n + 1 => by
    rw [List.replicate_succ]
    show (WS.step _ 32).bind _ = _
    simp only [WS.step, WM.step, if_true, Option.bind_some]
    exact run_blanks out n

/-- Blanks (one at least) behind a word, or in a gap: the gap. -/
theorem run_word_blank {w : List Nat} (hw : IsWord w) (out : List (List Nat)) : wsRun ⟨out, [], .gap⟩ (w ++ [32]) = some ⟨out ++ [w], [], .gap⟩ := by
  obtain ⟨m, hm, h⟩ := hw
  rw [wsRun_append, h]
  rcases hm with rfl | rfl <;> simp [wsRun, WS.step, WM.step]

theorem words_one {w : List Nat} (hw : IsWord w) : wordsL w = some [w] := by
  obtain ⟨m, hm, h⟩ := hw
  unfold wordsL
  rw [show wsRun ws0 w = _ from h []]
  rcases hm with rfl | rfl <;> rfl
end Go.Proofs.YtjhmehmmpfnnkaaDoor

namespace Go.Proofs.YtjhmehmmpfnnkaaDoor
set_option linter.unusedSimpArgs false
set_option linter.unusedVariables false

def isDig (c : Nat) : Bool := decide (48 ≤ c) && decide (c ≤ 57)
def valOf (ds : List Nat) : Nat := ds.foldl (fun n c => 10 * n + (c - 48)) 0
def numN (minus : Bool) (r : List Nat) : Option Int :=
  if r = [] ∨ 9 < r.length ∨ r.any (fun c => !isDig c) = true ∨ (r.head? = some 48 ∧ (1 < r.length ∨ minus = true)) then none
  else some (if minus then -(valOf r : Int) else valOf r)
def numL (rs : List Nat) : Option Int := if rs.head? = some 45 then numN true rs.tail else numN false rs

def digs (n : Nat) : List Nat := if h : n < 10 then [48 + n] else digs (n / 10) ++ [48 + n % 10]
termination_by n
decreasing_by omega
def decL (n : Int) : Option (List Nat) := if 999999999 < n.natAbs then none else some ((if n < 0 then [45] else []) ++ digs n.natAbs)

theorem valOf_concat (l : List Nat) (c : Nat) : valOf (l ++ [c]) = 10 * valOf l + (c - 48) := by
  unfold valOf
  rw [List.foldl_append]
  rfl

theorem digs_ne (n : Nat) : digs n ≠ [] := by
  unfold digs; split <;> simp
theorem digs_val (n : Nat) : valOf (digs n) = n := by
  induction n using Nat.strongRecOn with
  | _ n ih =>
    unfold digs
    split
    · simp [valOf]
    · rw [valOf_concat, ih (n / 10) (by omega)]
      omega
theorem digs_all (n : Nat) : ∀ c ∈ digs n, 48 ≤ c ∧ c ≤ 57 := by
  induction n using Nat.strongRecOn with
  | _ n ih =>
    unfold digs
    split
    · intro c hc
      simp only [List.mem_singleton] at hc
      omega
    · intro c hc
      rw [List.mem_append] at hc
      rcases hc with hc | hc
      · exact ih (n / 10) (by omega) c hc
      · simp only [List.mem_singleton] at hc
        omega
theorem digs_len (n : Nat) : ∀ k, n < 10 ^ (k + 1) → (digs n).length ≤ k + 1 := by
  induction n using Nat.strongRecOn with
  | _ n ih =>
    intro k hk
    unfold digs
    split
    · simp
    · rename_i h10
      rw [List.length_append]
      cases k with
      | zero => simp at hk; omega
      | succ k =>
        have := ih (n / 10) (by omega) k (by rw [Nat.pow_succ] at hk; omega)
        simp only [List.length_singleton]
        omega
theorem digs_head (n : Nat) (hn : 0 < n) : (digs n).head? ≠ some 48 := by
  induction n using Nat.strongRecOn with
  | _ n ih =>
    unfold digs
    split
    · simp; omega
    · rename_i h10
      have := ih (n / 10) (by omega) (by omega)
      have hne := digs_ne (n / 10)
      cases hd : digs (n / 10) with
      | nil => exact absurd hd hne
      | cons a l =>
        rw [hd] at this
        simpa using this
end Go.Proofs.YtjhmehmmpfnnkaaDoor
