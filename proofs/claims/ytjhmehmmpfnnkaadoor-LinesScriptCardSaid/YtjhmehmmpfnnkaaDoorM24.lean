/-
  An op of a world, of whatever texts, as its cells; the law's own op as of the document.
  The contract of tidewaternum.SameInts.
  How the telling of an op stands.
-/
import Derived.Test.YtjhmehmmpfnnkaaDoorM19
import Derived.Test.YtjhmehmmpfnnkaaDoorM16
import Derived.Test.YtjhmehmmpfnnkaaDoorM02
import Derived.Test.YtjhmehmmpfnnkaaDoorM23
import Derived.Test.YtjhmehmmpfnnkaaDoorM03
import Derived.Test.YtjhmehmmpfnnkaaDoorM10
namespace Go.Proofs.YtjhmehmmpfnnkaaDoor
open Go.RowKit Utf
set_option maxRecDepth 100000
set_option linter.unusedSimpArgs false
set_option linter.unusedVariables false

/-- What an op holds beside its fields. -/
structure XC where
  x9 : Int
  x10 : Int
  ao : Option Addr
  no : Nat
  co : Nat
  x13 : Int
  x14 : Int
  x15 : Int
  ad : Option Addr
  nd : Nat
  cd : Nat
def XC.zero : XC := ⟨0, 0, none, 0, 0, 0, 0, 0, none, 0, 0⟩
/-- The document's op. -/
def qC (p : BP) (vo vg : Value) (x : XC) : Array Value :=
  #[.int .i64 p.kind, .int .i64 p.who, .int .i64 p.n, .int .i64 p.fresh, vo, .int .i64 p.ekind, .int .i64 p.shard, .int .i64 p.other, .int .i64 p.server, .int .i64 x.x9, .int .i64 x.x10, .slice x.ao x.no x.co, .string p.ekey,
    .int .i64 x.x13, .int .i64 x.x14, .int .i64 x.x15, .slice x.ad x.nd x.cd, .string p.key, .string p.lo, .string p.hi, vg]
/-- The world's op. -/
def oC (p : BP) (vo vg : Value) (x : XC) (x21 x22 x23 : Int) : Array Value :=
  #[.int .i64 p.kind, .int .i64 p.who, .int .i64 p.n, .int .i64 p.fresh, vo, .int .i64 p.ekind, .int .i64 p.shard, .int .i64 p.other, .int .i64 p.server, .int .i64 x.x9, .int .i64 x.x10, .slice x.ao x.no x.co, .string p.ekey,
    .int .i64 x.x13, .int .i64 x.x14, .int .i64 x.x15, .slice x.ad x.nd x.cd, .string p.key, .string p.lo, .string p.hi, vg, .int .u64 x21, .int .i64 x22, .int .i64 x23]
theorem wCells_oC (p : PW) (vo vg : Value) : wCells p vo vg = oC p.b vo vg XC.zero 0 0 0 := rfl
theorem rCells_qC (p : PW) (vo vg : Value) : rCells p vo vg = qC p.b vo vg XC.zero := rfl
theorem oC_getN (p : BP) (vo vg : Value) (x : XC) (a b c : Int) (f : Fld) (hf : isNum f = true) : (oC p vo vg x a b c)[offF f]? = some (.int .i64 (p.getN f)) := by
  cases f <;> first | rfl | cases hf
theorem oC_getS (p : BP) (vo vg : Value) (x : XC) (a b c : Int) (f : Fld) (hf : isNum f = false) : (oC p vo vg x a b c)[offF f]? = some (.string (p.getS f)) := by
  cases f <;> first | rfl | cases hf
theorem qC_getN (p : BP) (vo vg : Value) (x : XC) (f : Fld) (hf : isNum f = true) : (qC p vo vg x)[offF f]? = some (.int .i64 (p.getN f)) := by
  cases f <;> first | rfl | cases hf
theorem qC_getS (p : BP) (vo vg : Value) (x : XC) (f : Fld) (hf : isNum f = false) : (qC p vo vg x)[offF f]? = some (.string (p.getS f)) := by
  cases f <;> first | rfl | cases hf
theorem oC_size (p : BP) (vo vg : Value) (x : XC) (a b c : Int) : (oC p vo vg x a b c).size = 24 := rfl
theorem qC_size (p : BP) (vo vg : Value) (x : XC) : (qC p vo vg x).size = 21 := rfl

theorem results_cell1 {P : Program} {fn : Func} {p : Tmp} {ty : TypeId} (h : fn.results = #[.cell p ty]) (tmps : Array Value) (w : World) (g : Nat) (t : TypeId) (cs : Array Value) (fr : Nat × Nat) (d : TypeDesc)
    (hp : tmps.getD p undef = .pointer (some ⟨g, 0, none⟩)) (hg : w.heap[g]? = some (.cells cs t fr))
    (hu : P.underlying ty = some d) (hd : (match d with | .struct _ | .array _ _ => true | _ => false) = true) (hi : (P.info? ty).map (·.size) = some cs.size) :
    (results fn tmps).run P w = .ok (.agg cs) w := by
  have hp' : tmps[p]?.getD undef = .pointer (some ⟨g, 0, none⟩) := by simpa using hp
  simp [results, h, hp', asAddr, run_loadVar_row w g t ty cs fr d hg hu hd hi]
theorem Tryd.sizeEN : (Tryd.prog.info? 43).map (·.size) = some 12 := by kernel_rfl

set_option maxHeartbeats 4000000 in
theorem of_any (p : BP) (ao ag : Option Addr) (no ng co cg : Nat) (x : XC) (x21 x22 x23 : Int) (w : World) :
    Calls Tryd.prog 20 #[.agg (oC p (.slice ao no co) (.slice ag ng cg) x x21 x22 x23)] w fun e w' => e = .returned (.agg (qC p (.slice ao no co) (.slice ag ng cg) x)) ∧ Below w.heap.size w w' := by
  have hB : Blk ((w.alloc (.cells (oC p (.slice ao no co) (.slice ag ng cg) x x21 x22 x23) 48)).alloc (.cells rZero 52)) w.heap.size 48 (oC p (.slice ao no co) (.slice ag ng cg) x x21 x22 x23) := (Blk.new w _ _).alloc _
  have hZ : Blk ((w.alloc (.cells (oC p (.slice ao no co) (.slice ag ng cg) x x21 x22 x23) 48)).alloc (.cells rZero 52)) (w.heap.size + 1) 52 rZero := by
    have := Blk.new (w.alloc (.cells (oC p (.slice ao no co) (.slice ag ng cg) x x21 x22 x23) 48)) 52 rZero
    rw [World.size_alloc] at this
    exact this
  have hBL : Below w.heap.size w ((w.alloc (.cells (oC p (.slice ao no co) (.slice ag ng cg) x x21 x22 x23) 48)).alloc (.cells rZero 52)) := ((Below.refl _ w).alloc (Nat.le_refl _) _).alloc (by simp) _
  have hSZ : (qC p (.slice ao no co) (.slice ag ng cg) x).size = rZero.size := (qC_size ..).trans rZero_size.symm
  have hSI : (Tryd.prog.info? 52).map (·.size) = some (qC p (.slice ao no co) (.slice ag ng cg) x).size := by rw [qC_size]; exact Tryd.sizeR
  have h1 : (qC p (.slice ao no co) (.slice ag ng cg) x).all (·.oneCell') = true := by simp [qC, Value.oneCell']
  have HE := Lib.hid (show World.rangeAt ((w.alloc (.cells (oC p (.slice ao no co) (.slice ag ng cg) x x21 x22 x23) 48)).alloc (.cells rZero 52)) w.heap.size 5 [.int .i64 p.ekind, .int .i64 p.shard, .int .i64 p.other, .int .i64 p.server, .int .i64 x.x9, .int .i64 x.x10, .slice x.ao x.no x.co, .string p.ekey, .int .i64 x.x13, .int .i64 x.x14, .int .i64 x.x15, .slice x.ad x.nd x.cd] from fun j v hj => by
    rw [hB.cell]
    rcases j with _ | _ | _ | _ | _ | _ | _ | _ | _ | _ | _ | _ | j <;> first | exact hj | (simp at hj))
  have HZ := Lib.hid hZ
  have HBL := Lib.hid hBL
  have HSZ := Lib.hid hSZ
  have HSI := Lib.hid hSI
  have H1 := Lib.hid h1
  clear hB hZ hBL hSZ hSI h1
  unfold rZero oC at HE HZ HBL
  unfold oC
  go_enter Tryd.func20, Tryd.ntmps20
  go_wp2_with (first | (refine wpList_load_mid rfl 43 (.tmp 13) rfl w.heap.size 5 rfl _ _ HE.out Tryd.underlying43 rfl Tryd.sizeEN ?_) | (refine wpList_store_blk rfl 52 (.tmp 2) (.tmp 21) rfl (w.heap.size + 1) (qC p (.slice ao no co) (.slice ag ng cg) x) rfl rfl 52 _ HZ.out HSZ.out HSI.out H1.out ?_))
  refine Lib.hid ?_
  intro w2 hz2 ho2
  have HZ2 := Lib.hid hz2
  have HB2 := Lib.hid (show Below w.heap.size w w2 from HBL.out.trans (ho2.to_below (by simp; omega) (fun k hk h => by subst h; omega)))
  clear hz2 ho2 HZ HE HBL
  go_wp2_with fail
  refine bodyPost_ret (results_cell1 rfl _ _ (w.heap.size + 1) 52 (qC p (.slice ao no co) (.slice ag ng cg) x) (0, 0) _ rfl HZ2.out Tryd.underlying52 rfl HSI.out) rfl ?_
  exact ⟨rfl, HB2.out⟩
end Go.Proofs.YtjhmehmmpfnnkaaDoor

namespace Go.Proofs.YtjhmehmmpfnnkaaDoor
open Go.RowKit Utf
set_option maxRecDepth 100000
set_option linter.unusedSimpArgs false
set_option linter.unusedVariables false

theorem drewN_drewN (w : World) (m n : Nat) : (w.drewN m).drewN n = w.drewN (m + n) := by simp [World.drewN, Nat.add_assoc]
def zRow (l : List Int) : List Value := l.map (Value.int .i64)
theorem zRow_len (l : List Int) : (zRow l).length = l.length := by simp [zRow]
theorem zRow_at (l : List Int) (k : Nat) (h : k < (zRow l).length) : (zRow l)[k] = .int .i64 (l[k]'(by rw [← zRow_len]; exact h)) := by simp [zRow]

set_option maxHeartbeats 1000000 in
theorem sameInts_any (a b : List Int) (aa ab : Option Addr) (ca cb : Nat) (w : World) (hla : a.length ≤ 1000000) (hlb : b.length ≤ 1000000)
    (hra : RowAt w aa (zRow a)) (hrb : RowAt w ab (zRow b)) :
    Calls Tryd.prog 46 #[.slice aa a.length ca, .slice ab b.length cb] w fun e w' => e = .returned (.bool (decide (a = b))) ∧ ∃ n, w' = w.drewN n := by
  have HA := Lib.hid hra
  have HB := Lib.hid hrb
  clear hra hrb
  by_cases hl : a.length = b.length
  · have hl' : ((a.length : Int) != (b.length : Int)) = false := by simp [hl]
    have HL := Lib.hid hl
    clear hl
    go_enter Tryd.func46, Tryd.ntmps46
    go_wp2_with fail
    go_loopw [13] (fun i w5 => ∃ k n : Nat, k ≤ a.length ∧ i = .int .i64 k ∧ w5 = w.drewN n ∧ Hid (a.take k = b.take k)) (fun i _ => a.length - (intOf i).toNat)
    case atStart => exact ⟨0, 0, Nat.zero_le _, rfl, rfl, rfl⟩
    case round =>
      obtain ⟨k, n, hka, rfl, rfl, HC⟩ := hrel
      by_cases hlt : k < a.length
      · have hltb : k < b.length := by have := HL.out; omega
        obtain ⟨ba, oa, rfl, hca⟩ := HA.out k (by rw [zRow_len]; exact hlt)
        rw [zRow_at] at hca
        obtain ⟨bb, ob, rfl, hcb⟩ := HB.out k (by rw [zRow_len]; exact hltb)
        rw [zRow_at] at hcb
        have HK := Lib.hid (fun h : a[k] = b[k] => show a.take (k + 1) = b.take (k + 1) by rw [List.take_succ_eq_append_getElem hlt, List.take_succ_eq_append_getElem hltb, HC.out, h])
        have HT := Lib.hid (fun (h : a[k] ≠ b[k]) (h2 : a = b) => h (by simp only [h2]))
        generalize a[k] = x at *
        generalize b[k] = y at *
        by_cases hz : x = y
        · have hz' : (!(x == y)) = false := by simp [hz]
          have hz2 : (x == y) = true := by simp [hz]
          have HZ := Lib.hid (HK.out hz)
          clear hz
          go_wp2_with fail
          go_quiet (fail)
          go_wp2_with fail
          go_roundw
          case rel => exact ⟨k + 1, _, by omega, by go_num, rfl, HZ.out⟩
          case measure => simp [intOf]; omega
        · have hz' : (!(x == y)) = true := by simp [hz]
          have hz2 : (x == y) = false := by simp [hz]
          have HZ := Lib.hid (HT.out hz)
          clear hz
          go_wp2_with fail
          go_quiet (fail)
          go_wp2_with fail
          go_ret
          refine ⟨?_, _, by first | rfl | exact (drewN_drewN _ _ _)⟩
          rw [decide_eq_false HZ.out]
          rfl
      · obtain rfl : k = a.length := by omega
        go_wp2_with fail
        go_ret
        refine ⟨?_, _, rfl⟩
        have h1 := HC.out
        rw [List.take_length, HL.out, List.take_length] at h1
        rw [decide_eq_true h1]
        rfl
  · have hl' : ((a.length : Int) != (b.length : Int)) = true := by simp; omega
    have HL := Lib.hid (show ¬ a = b from fun h => hl (by rw [h]))
    clear hl
    go_enter Tryd.func46, Tryd.ntmps46
    go_wp2_with fail
    go_ret
    refine ⟨?_, 0, rfl⟩
    rw [decide_eq_false HL.out]
    rfl
end Go.Proofs.YtjhmehmmpfnnkaaDoor

namespace Go.Proofs.YtjhmehmmpfnnkaaDoor
open Go.RowKit Utf
set_option maxRecDepth 100000
set_option linter.unusedSimpArgs false
set_option linter.unusedVariables false

structure TxSt (w : World) (ea : Nat → Addr) (B b ob tb : Nat) (ocs : Array Value) (wr : World) (row : List (Option (List Nat))) : Prop where
  only : Only (fun _ => False) w wr
  oo : Blk wr ob 48 ocs
  tab : Blk wr tb 79 shapeCells
  err : LErr wr ea
  tel : ∃ v xs n, TAt wr ea b B v xs n ∧ TSt row xs n
  base : w.heap.size ≤ B
  hb : B ≤ b
  hob : ob < B
  htb : tb < B
  top : gTop ≤ B

section
variable {w : World} {ea : Nat → Addr} {B b ob tb : Nat} {ocs : Array Value} {wr w' : World} {row more : List (Option (List Nat))}
theorem TxSt.blt (h : TxSt w ea B b ob tb ocs wr row) : b < wr.heap.size := by obtain ⟨v, xs, n, h1, -⟩ := h.tel; exact h1.1.lt
theorem TxSt.told (h : TxSt w ea B b ob tb ocs wr row) (ho : Only (StrB b B wr) wr w') (ht : ∃ v xs n, TAt w' ea b B v xs n ∧ TSt (row ++ more) xs n) : TxSt w ea B b ob tb ocs w' (row ++ more) := by
  have h1 := h.hob
  have h2 := h.htb
  have h3 := h.base
  have h4 := h.hb
  have h5 := h.top
  exact ⟨h.only.step ho (fun k hk => .inr (by have := hk.ge h4; omega)), h.oo.strB ho (by decide) (by omega), h.tab.strB ho (by decide) (by omega), h.err.strB ho h4 h5, ht, h3, h4, h1, h2, h5⟩
theorem TxSt.alloc (h : TxSt w ea B b ob tb ocs wr row) (o : Obj) : TxSt w ea B b ob tb ocs (wr.alloc o) row := by
  obtain ⟨v, xs, n, h1, h2⟩ := h.tel
  exact ⟨h.only.alloc _, h.oo.alloc _, h.tab.alloc _, h.err.only (S := fun _ => False) ((Only.refl _ wr).alloc _) (fun _ h => h.elim), ⟨v, xs, n, ⟨h1.1.alloc _, h1.2.alloc _⟩, h2⟩, h.base, h.hb, h.hob, h.htb, h.top⟩
theorem TxSt.iterAt (h : TxSt w ea B b ob tb ocs wr row) {it : Nat} {s : ByteArray} {p : Nat} (hit : wr.heap[it]? = some (.stringIter s p)) (hlt : b < it) (p' : Nat) : TxSt w ea B b ob tb ocs (wr.iterAt it s p') row := by
  have h1 := h.hob
  have h2 := h.htb
  have h3 := h.base
  have h4 := h.hb
  have h5 := h.top
  have ho : Only (fun k => k = it) wr (wr.iterAt it s p') := Only.iterAt hit p'
  obtain ⟨v, xs, n, t1, t2⟩ := h.tel
  refine ⟨h.only.step ho (fun k hk => .inr (by omega)), h.oo.only ho (by omega), h.tab.only ho (by omega), h.err.only ho (fun k hk => by omega), ⟨v, xs, n, t1.only ho (by omega) ?_, t2⟩, h3, h4, h1, h2, h5⟩
  intro g hg hgi
  subst hgi
  rcases t1.2.2 with ⟨rfl, _⟩ | ⟨g', cap, cur, rfl, _, hgc, _⟩
  · cases hg
  · cases hg
    rw [hit] at hgc
    cases hgc
theorem TxSt.iter (h : TxSt w ea B b ob tb ocs wr row) (ho : Only (StrB b B wr) wr w') {it : Nat} {s : ByteArray} {p : Nat} (hit : wr.heap[it]? = some (.stringIter s p)) (hlt : b < it) : w'.heap[it]? = some (.stringIter s p) :=
  (ho.block it (Array.getElem?_eq_some_iff.1 hit).1 (fun hs => by
    rcases hs with rfl | ⟨_, cs, fr, hc⟩
    · omega
    · rw [hit] at hc; cases hc)).trans hit
end

/-- What may be told: no text too long, no number out of range. -/
structure BP.ok (p : BP) : Prop where
  num : ∀ f, isNum f = true → -9223372036854775808 ≤ p.getN f ∧ p.getN f ≤ 9223372036854775807
  str : ∀ f, isNum f = false → (p.getS f).size ≤ 1000000
/-- One field is told: whatever field it is. -/
theorem tell_fld {w : World} {ea : Nat → Addr} {B b ob tb : Nat} {wr : World} {row : List (Option (List Nat))} {p : BP} {vo vg : Value} {x : XC} {c1 c2 c3 : Int} (f : Fld) (h : TxSt w ea B b ob tb (oC p vo vg x c1 c2 c3) wr row) (hp : p.ok) (hl : row.length ≤ 1000000) :
    Calls Tryd.prog 48 #[.pointer (some ⟨b, 0, none⟩), ptrF ob f] wr fun e w' => e = .returned (.tuple #[]) ∧ Only (StrB b B wr) wr w' ∧ TxSt w ea B b ob tb (oC p vo vg x c1 c2 c3) w' (row ++ [tellFld p f]) := by
  obtain ⟨v, xs, n, h1, h2⟩ := h.tel
  cases hf : isNum f with
  | true =>
    have hq : ptrF ob f = .iface 95 (.pointer (some ⟨ob, offF f, none⟩)) := by unfold ptrF; rw [hf]; rfl
    have hq2 : tellFld p f = decL (p.getN f) := by unfold tellFld; rw [if_pos hf]
    rw [hq, hq2]
    refine (tell_num b B ob (offF f) ea v xs n row (p.getN f) wr h1 h2 hl (Nat.le_trans h.top h.hb) h.top ((h.oo.cell _).trans (oC_getN p vo vg x c1 c2 c3 f hf)) (hp.num f hf).1 (hp.num f hf).2 h.err (by have := h.blt; have := h.hb; omega)).mono ?_
    rintro e w' ⟨rfl, ho, v', xs', n', ht, hs⟩
    exact ⟨rfl, ho, h.told ho ⟨v', xs', n', ht, hs⟩⟩
  | false =>
    have hq : ptrF ob f = .iface 100 (.pointer (some ⟨ob, offF f, none⟩)) := by unfold ptrF; rw [hf]; rfl
    have hq2 : tellFld p f = tellS (p.getS f) := by unfold tellFld; rw [if_neg (by rw [hf]; decide)]
    rw [hq, hq2]
    refine (tell_str b B ob (offF f) ea v xs n row (p.getS f) wr h1 h2 hl (Nat.le_trans h.top h.hb) h.top ((h.oo.cell _).trans (oC_getS p vo vg x c1 c2 c3 f hf)) (hp.str f hf) h.err (by have := h.blt; have := h.hb; omega)).mono ?_
    rintro e w' ⟨rfl, ho, v', xs', n', ht, hs⟩
    exact ⟨rfl, ho, h.told ho ⟨v', xs', n', ht, hs⟩⟩
theorem joinTail_enc : ∀ r : List (List Nat), Lib.joinTail [32] ((fieldTexts r).map (·.data.toList)) = encAll (r.flatMap fun x => 32 :: x)
  | [] => rfl
  | b :: r => by
    have ih := joinTail_enc r
    unfold Lib.joinTail at ih ⊢
    rw [List.flatMap_cons, List.cons_append, encAll_cons, encAll_append, ← ih, show enc 32 = [32] from by decide +kernel]
    simp [fieldTexts, mkS_data]
theorem join_enc : ∀ ws : List (List Nat), Lib.join ((fieldTexts ws).map (·.data.toList)) [32] = encAll (joinW ws) := by
  intro ws
  cases ws with
  | nil => rfl
  | cons a r =>
    have : (fieldTexts (a :: r)).map (·.data.toList) = encAll a :: (fieldTexts r).map (·.data.toList) := by simp [fieldTexts, mkS_data]
    rw [this, Lib.join_cons, joinTail_enc]
    unfold joinW
    rw [encAll_append]
end Go.Proofs.YtjhmehmmpfnnkaaDoor
