/-
  balance.Next.
  balance.Plan.
  The reference's map in memory; tidewaterref20.New, Find; tidewaternum.In.
-/
import Derived.Test.YthjmfcdhpdiehaaGreatDoorM17
import Derived.Test.YthjmfcdhpdiehaaGreatDoorM18
import Derived.Test.YthjmfcdhpdiehaaGreatDoorM15
import Derived.Test.YthjmfcdhpdiehaaGreatDoorM13
import Derived.Test.YthjmfcdhpdiehaaGreatDoorM08
namespace Go.Proofs.YthjmfcdhpdiehaaGreatDoor
open Go.RowKit Utf
set_option maxRecDepth 100000
set_option linter.unusedSimpArgs false
set_option linter.unusedVariables false

theorem srvStep_bound {s : Nat} {acc : List Int} {x : Sh × List LD} {M : Int} (hx : 0 ≤ sumN x.2 ∧ sumN x.2 ≤ 1000000000) (h : ∀ k, 0 ≤ acc.getD k 0 ∧ acc.getD k 0 ≤ M) : ∀ k, 0 ≤ (srvStep s acc x).getD k 0 ∧ (srvStep s acc x).getD k 0 ≤ M + 1000000000 := by
  intro k
  unfold srvStep
  by_cases hs : x.1.server ≤ (s : Int)
  · rw [if_pos hs]
    unfold addAt
    rw [List.getD_eq_getElem?_getD, List.getElem?_set]
    by_cases hij : (x.1.server - 1).toNat = k
    · rw [if_pos hij]
      have := h (x.1.server - 1).toNat
      by_cases hl : (x.1.server - 1).toNat < acc.length
      · rw [if_pos hl]
        simp only [Option.getD_some]
        omega
      · rw [if_neg hl]
        simp only [Option.getD_none]
        omega
    · rw [if_neg hij, ← List.getD_eq_getElem?_getD]
      have := h k
      omega
  · rw [if_neg hs]
    have := h k
    omega
theorem srvFold_bound {s : Nat} : ∀ (p : List (Sh × List LD)) (acc : List Int) (M : Int), (∀ x ∈ p, 0 ≤ sumN x.2 ∧ sumN x.2 ≤ 1000000000) → (∀ k, 0 ≤ acc.getD k 0 ∧ acc.getD k 0 ≤ M) → ∀ k, 0 ≤ (p.foldl (srvStep s) acc).getD k 0 ∧ (p.foldl (srvStep s) acc).getD k 0 ≤ M + 1000000000 * p.length
  | [], acc, M, hx, h => fun k => by have := h k; simpa using this
  | x :: r, acc, M, hx, h => fun k => by
    have := srvFold_bound (s := s) r (srvStep s acc x) (M + 1000000000) (fun y hy => hx y (List.mem_cons_of_mem _ hy)) (srvStep_bound (hx x List.mem_cons_self) h) k
    rw [List.foldl_cons, List.length_cons]
    omega
theorem srvP_bound {s : Nat} {p : List (Sh × List LD)} (hx : ∀ x ∈ p, 0 ≤ sumN x.2 ∧ sumN x.2 ≤ 1000000000) (hl : p.length ≤ 10000) (k : Nat) : 0 ≤ (srvP s p).getD k 0 ∧ (srvP s p).getD k 0 ≤ 1000000000000000 := by
  have := srvFold_bound (s := s) p (List.replicate s 0) 0 hx (fun k => by
    rw [List.getD_eq_getElem?_getD, List.getElem?_replicate]
    split <;> simp) k
  unfold srvP
  omega
theorem srvFold_len {s : Nat} : ∀ (p : List (Sh × List LD)) (acc : List Int), (p.foldl (srvStep s) acc).length = acc.length
  | [], acc => rfl
  | x :: r, acc => by rw [List.foldl_cons, srvFold_len r, srvStep_len]
theorem srvP_len (s : Nat) (p : List (Sh × List LD)) : (srvP s p).length = s := by
  unfold srvP
  rw [srvFold_len, List.length_replicate]
theorem KeysAt.below {w w' : World} {x : LO} (h : KeysAt w x) (hb : Below w.heap.size w w') : KeysAt w' x := by
  obtain ⟨⟨ao, c, h1, h2⟩, h3, h4⟩ := h
  exact ⟨⟨ao, c, h1, h2.below hb⟩, h3, h4⟩
theorem loads_keys {w : World} {B : Nat} {m : PM} {l : List LD} {xs : List LO} (hp : xs.map LO.plain = loadsP m.live l) (hn : l.length ≤ 1000) (hno : NumOk l) (hk : ∀ x ∈ xs, OwnE w B 77 2 x.kv x.keys.length (ldRow x.keys)) : ∀ x ∈ xs, KeysAt w x := by
  intro x hx
  have : x.plain ∈ loadsP m.live l := by rw [← hp]; exact List.mem_map_of_mem hx
  obtain ⟨s, hs, e⟩ := List.mem_map.1 this
  unfold LO.plain at e
  simp only [Prod.mk.injEq] at e
  refine ⟨ownE_row (hk x hx), ?_, ?_⟩
  · rw [← e.2]
    exact fun y hy => hno y (List.mem_filter.1 hy).1
  · rw [← e.2]
    exact Nat.le_trans (keysP_len s l) hn
theorem next_1 {m : PM} {l : List LD} {s : Nat} {most : Int} {e : EN} (h : straysP (loadsP m.live l) s ((endsL (srvP s (loadsP m.live l))).1 : Nat) = some e) : nextP m l s most = some e := by
  unfold nextP
  rw [h]
theorem next_2 {m : PM} {l : List LD} {s : Nat} {most : Int} {e : EN} (h : straysP (loadsP m.live l) s ((endsL (srvP s (loadsP m.live l))).1 : Nat) = none) (h2 : cutsP m.evs (loadsP m.live l) most ((endsL (srvP s (loadsP m.live l))).1 : Nat) = some e) : nextP m l s most = some e := by
  unfold nextP
  rw [h, h2]
theorem next_3 {m : PM} {l : List LD} {s : Nat} {most : Int} {e : EN} (h : straysP (loadsP m.live l) s ((endsL (srvP s (loadsP m.live l))).1 : Nat) = none) (h2 : cutsP m.evs (loadsP m.live l) most ((endsL (srvP s (loadsP m.live l))).1 : Nat) = none) (h3 : evensP (loadsP m.live l) (srvP s (loadsP m.live l)) (endsL (srvP s (loadsP m.live l))).1 (endsL (srvP s (loadsP m.live l))).2 = some e) : nextP m l s most = some e := by
  unfold nextP
  rw [h, h2, h3]
theorem next_4 {m : PM} {l : List LD} {s : Nat} {most : Int} (h : straysP (loadsP m.live l) s ((endsL (srvP s (loadsP m.live l))).1 : Nat) = none) (h2 : cutsP m.evs (loadsP m.live l) most ((endsL (srvP s (loadsP m.live l))).1 : Nat) = none) (h3 : evensP (loadsP m.live l) (srvP s (loadsP m.live l)) (endsL (srvP s (loadsP m.live l))).1 (endsL (srvP s (loadsP m.live l))).2 = none) : nextP m l s most = joinsP (loadsP m.live l) most := by
  unfold nextP
  rw [h, h2, h3]
theorem results_cell_tt {P : Program} {fn : Func} {p q r : Tmp} {ty : TypeId} (h : fn.results = #[.cell p ty, .tmp q, .tmp r]) (tmps : Array Value) (w : World) (g : Nat) (t : TypeId) (cs : Array Value) (fr : Nat × Nat) (d : TypeDesc)
    (hp : tmps.getD p undef = .pointer (some ⟨g, 0, none⟩)) (hg : w.heap[g]? = some (.cells cs t fr))
    (hu : P.underlying ty = some d) (hd : (match d with | .struct _ | .array _ _ => true | _ => false) = true) (hi : (P.info? ty).map (·.size) = some cs.size) :
    (results fn tmps).run P w = .ok (.tuple #[.agg cs, tmps.getD q undef, tmps.getD r undef]) w := by
  have hp' : tmps[p]?.getD undef = .pointer (some ⟨g, 0, none⟩) := by simpa using hp
  simp [results, h, hp', asAddr, run_loadVar_row w g t ty cs fr d hg hu hd hi]
theorem EN.cells_one (e : EN) : e.cells.toArray.all (·.oneCell') = true := by
  obtain ⟨kind, shard, other, server, client, seq, eao, no, co, key, upto, part, parts, ad, nd, cd⟩ := e
  kernel_rfl
/-- What Next answers. -/
def NextR (ea : Nat → Addr) (c : Nat) (o : Option EN) (e : Ending) : Prop := if c = 0 then e = .returned (.tuple #[.agg (o.getD EN.zero).cells.toArray, .bool o.isSome, .nilIface]) else e = .returned (.tuple #[.agg EN.zero.cells.toArray, .bool false, errOf ea c])
/-- How the walk stands. -/
structure NX (w : World) (b B g g2 : Nat) (m : PM) (xs : List LO) (bs : List Int) (W : World) : Prop where
  bel : Below w.heap.size w W
  mp : MapAt W B b m
  row : RowAt W (some ⟨g, 0, none⟩) (loRow xs)
  zr : RowAt W (some ⟨g2, 0, none⟩) (zRow bs)
  ks : ∀ x ∈ xs, KeysAt W x
  box : Blk W w.heap.size 44 zeroEn
theorem NX.next {w W W' : World} {b B g g2 : Nat} {m : PM} {xs : List LO} {bs : List Int} (h : NX w b B g g2 m xs bs W) (hb : Below W.heap.size W W') : NX w b B g g2 m xs bs W' :=
  ⟨h.bel.trans (hb.mono h.bel.size), h.mp.below hb, h.row.below hb, h.zr.below hb, fun x hx => (h.ks x hx).below hb, h.box.below hb h.box.lt⟩

set_option maxHeartbeats 4000000 in
theorem next_any (ea : Nat → Addr) (b B : Nat) (m : PM) (l : List LD) (lo : Option Addr) (lc : Nat) (s most : Int) (w : World) (hm : MapAt w B b m) (hn : l.length ≤ 1000) (hr : RowAt w lo (ldRow l)) (he : BErr w ea) (hk : LdOk l) (hsv : SrvOk m)
    (hev : ∀ x ∈ m.evs, x.2.kind = 3 → 1 ≤ x.2.other ∧ x.2.other ≤ 12) :
    Calls Tryz.prog 13 #[.pointer (some ⟨b, 0, none⟩), .slice lo l.length lc, .int .i64 s, .int .i64 most] w fun e w' => NextR ea (checkN l s most) (nextP m l s.toNat most) e ∧ Below w.heap.size w w' := by
  have hq : ∀ (a : Addr) (w : World), (Op.equal 34 (.iface 184 (.pointer (some a))) .nilIface).run Tryz.prog w = .ok false w := fun a w => by kernel_rfl
  have B0 := Lib.hid (below_alloc w (.cells zeroEn 44))
  have HZ0 := Lib.hid (Blk.new w 44 zeroEn)
  have HC := Lib.hid (check_any ea l lo lc s most _ hn (hr.below B0.out) (he.below B0.out) hk)
  unfold zeroEn at B0 HZ0 HC
  rcases checkN_cases l s most with h | h | ⟨h, hrb, hs1, hs4, -⟩
  · rw [h] at HC
    have HC2 : Hid (Calls Tryz.prog 36 #[.slice lo l.length lc, .int .i64 s, .int .i64 most] (w.alloc (.cells #[.int .i64 0, .int .i64 0, .int .i64 0, .int .i64 0, .int .i64 0, .int .i64 0, .slice none 0 0, .string ⟨#[]⟩, .int .i64 0, .int .i64 0, .int .i64 0, .slice none 0 0] 44)) fun e w' => e = .returned (.iface 184 (.pointer (some (ea 3)))) ∧ Below (w.alloc (.cells #[.int .i64 0, .int .i64 0, .int .i64 0, .int .i64 0, .int .i64 0, .int .i64 0, .slice none 0 0, .string ⟨#[]⟩, .int .i64 0, .int .i64 0, .int .i64 0, .slice none 0 0] 44)).heap.size (w.alloc (.cells #[.int .i64 0, .int .i64 0, .int .i64 0, .int .i64 0, .int .i64 0, .int .i64 0, .slice none 0 0, .string ⟨#[]⟩, .int .i64 0, .int .i64 0, .int .i64 0, .slice none 0 0] 44)) w') := HC
    have HH := Lib.hid h
    clear hm hr he hk hsv hev h HC
    go_enter Tryz.func13, Tryz.ntmps13
    go_wp2_with fail
    refine HC2.out.mono ?_
    rintro e w1 ⟨rfl, hb1⟩
    have HZ1 := Lib.hid (HZ0.out.below hb1 HZ0.out.lt)
    have B1 := Lib.hid (B0.out.trans (hb1.mono B0.out.size))
    clear hb1 HC2
    go_wp2_with (refine wpList_store_blk rfl 44 (.tmp 8) (.tmp 30) rfl w.heap.size #[.int .i64 0, .int .i64 0, .int .i64 0, .int .i64 0, .int .i64 0, .int .i64 0, .slice none 0 0, .string ⟨#[]⟩, .int .i64 0, .int .i64 0, .int .i64 0, .slice none 0 0] rfl rfl 44 _ HZ1.out rfl (by kernel_rfl) (by kernel_rfl) ?_)
    refine Lib.hid ?_
    intro w2 hz ho
    have HZ2 := Lib.hid hz
    have B2 := Lib.hid (B1.out.trans (ho.to_below B1.out.size (fun k hk e => by omega)))
    clear hz ho
    go_wp2_with fail
    refine bodyPost_ret (results_cell_tt rfl _ _ w.heap.size 44 _ (0, 0) _ rfl HZ2.out Tryz.underlying44 rfl (by kernel_rfl)) rfl ?_
    refine ⟨?_, B2.out⟩
    unfold NextR
    rw [HH.out, if_neg (by decide)]
    rfl
  · rw [h] at HC
    have HC2 : Hid (Calls Tryz.prog 36 #[.slice lo l.length lc, .int .i64 s, .int .i64 most] (w.alloc (.cells #[.int .i64 0, .int .i64 0, .int .i64 0, .int .i64 0, .int .i64 0, .int .i64 0, .slice none 0 0, .string ⟨#[]⟩, .int .i64 0, .int .i64 0, .int .i64 0, .slice none 0 0] 44)) fun e w' => e = .returned (.iface 184 (.pointer (some (ea 0)))) ∧ Below (w.alloc (.cells #[.int .i64 0, .int .i64 0, .int .i64 0, .int .i64 0, .int .i64 0, .int .i64 0, .slice none 0 0, .string ⟨#[]⟩, .int .i64 0, .int .i64 0, .int .i64 0, .slice none 0 0] 44)).heap.size (w.alloc (.cells #[.int .i64 0, .int .i64 0, .int .i64 0, .int .i64 0, .int .i64 0, .int .i64 0, .slice none 0 0, .string ⟨#[]⟩, .int .i64 0, .int .i64 0, .int .i64 0, .slice none 0 0] 44)) w') := HC
    have HH := Lib.hid h
    clear hm hr he hk hsv hev h HC
    go_enter Tryz.func13, Tryz.ntmps13
    go_wp2_with fail
    refine HC2.out.mono ?_
    rintro e w1 ⟨rfl, hb1⟩
    have HZ1 := Lib.hid (HZ0.out.below hb1 HZ0.out.lt)
    have B1 := Lib.hid (B0.out.trans (hb1.mono B0.out.size))
    clear hb1 HC2
    go_wp2_with (refine wpList_store_blk rfl 44 (.tmp 8) (.tmp 30) rfl w.heap.size #[.int .i64 0, .int .i64 0, .int .i64 0, .int .i64 0, .int .i64 0, .int .i64 0, .slice none 0 0, .string ⟨#[]⟩, .int .i64 0, .int .i64 0, .int .i64 0, .slice none 0 0] rfl rfl 44 _ HZ1.out rfl (by kernel_rfl) (by kernel_rfl) ?_)
    refine Lib.hid ?_
    intro w2 hz ho
    have HZ2 := Lib.hid hz
    have B2 := Lib.hid (B1.out.trans (ho.to_below B1.out.size (fun k hk e => by omega)))
    clear hz ho
    go_wp2_with fail
    refine bodyPost_ret (results_cell_tt rfl _ _ w.heap.size 44 _ (0, 0) _ rfl HZ2.out Tryz.underlying44 rfl (by kernel_rfl)) rfl ?_
    refine ⟨?_, B2.out⟩
    unfold NextR
    rw [HH.out, if_neg (by decide)]
    rfl
  · rw [h] at HC
    have HC2 : Hid (Calls Tryz.prog 36 #[.slice lo l.length lc, .int .i64 s, .int .i64 most] (w.alloc (.cells #[.int .i64 0, .int .i64 0, .int .i64 0, .int .i64 0, .int .i64 0, .int .i64 0, .slice none 0 0, .string ⟨#[]⟩, .int .i64 0, .int .i64 0, .int .i64 0, .slice none 0 0] 44)) fun e w' => e = .returned .nilIface ∧ Below (w.alloc (.cells #[.int .i64 0, .int .i64 0, .int .i64 0, .int .i64 0, .int .i64 0, .int .i64 0, .slice none 0 0, .string ⟨#[]⟩, .int .i64 0, .int .i64 0, .int .i64 0, .slice none 0 0] 44)).heap.size (w.alloc (.cells #[.int .i64 0, .int .i64 0, .int .i64 0, .int .i64 0, .int .i64 0, .int .i64 0, .slice none 0 0, .string ⟨#[]⟩, .int .i64 0, .int .i64 0, .int .i64 0, .slice none 0 0] 44)) w') := HC
    have HH := Lib.hid h
    have hno := rightB_num hrb
    have HML := Lib.hid (show 1 ≤ m.live.length ∧ m.live.length ≤ 10000 from by obtain ⟨vl, ve, h⟩ := hm; exact ⟨h.l1, h.len.1⟩)
    have HLD := Lib.hid (fun W hb => loads_any ea b B m l lo lc W (hm.below hb) hn (hr.below hb) (he.below hb) hk hno)
    have HLF := Lib.hid (fun xs hp => loads_facts (xs := xs) hp HML.out.2 hn hno hsv)
    have HLK := Lib.hid (fun W D xs hp h => loads_keys (m := m) (w := W) (B := D) (xs := xs) hp hn hno h)
    have HN1 := Lib.hid (fun e h => next_1 (m := m) (l := l) (s := s.toNat) (most := most) (e := e) h)
    have HN2 := Lib.hid (fun e h h2 => next_2 (m := m) (l := l) (s := s.toNat) (most := most) (e := e) h h2)
    have HN3 := Lib.hid (fun e h h2 h3 => next_3 (m := m) (l := l) (s := s.toNat) (most := most) (e := e) h h2 h3)
    have HN4 := Lib.hid (fun h h2 h3 => next_4 (m := m) (l := l) (s := s.toNat) (most := most) h h2 h3)
    have HM := Lib.hid hm
    have HEV := Lib.hid hev
    clear hm hr he hk h HC hrb hno hsv hev
    obtain ⟨n, rfl⟩ : ∃ n : Nat, s = (n : Int) := ⟨s.toNat, by omega⟩
    rw [Int.toNat_natCast] at *
    go_enter Tryz.func13, Tryz.ntmps13
    go_wp2_with fail
    refine HC2.out.mono ?_
    rintro e w1 ⟨rfl, hb1⟩
    have HZ1 := Lib.hid (HZ0.out.below hb1 HZ0.out.lt)
    have B1 := Lib.hid (B0.out.trans (hb1.mono B0.out.size))
    clear hb1 HC2 B0 HZ0
    go_wp2_with fail
    refine (HLD.out _ B1.out).mono ?_
    rintro e w2 ⟨v, xs, rfl, hp, ho, hks, hb2⟩
    obtain ⟨f1, f2, f3⟩ := HLF.out xs hp
    have hx1 : 1 ≤ xs.length := by
      have h1 : (xs.map LO.plain).length = (loadsP m.live l).length := by rw [hp]
      unfold loadsP at h1
      simp only [List.length_map] at h1
      have := HML.out.1
      omega
    have hown := ho
    have HS := Lib.hid (sums_any w1.heap.size xs n v w2 (by omega) f1 ho (fun x hx => (hks x hx).one) f2 f3 hb2.size)
    have HKS := Lib.hid (HLK.out w2 _ xs hp hks)
    have hone : ∀ x ∈ xs, x.kv.oneCell' = true := fun x hx => (hks x hx).one
    rcases hown with ⟨-, h0, -⟩ | hown
    · omega
    obtain ⟨g, cap, rfl, -, -, -, hrow⟩ := own_some hown hx1
    have B2 := Lib.hid (B1.out.trans (hb2.mono B1.out.size))
    have HROW := Lib.hid hrow
    have HZ2 := Lib.hid (HZ1.out.below hb2 HZ1.out.lt)
    have HP := Lib.hid hp
    have HF3 := Lib.hid f3
    have HONE := Lib.hid hone
    clear ho hks hb2 f2 f3 HLD HLF HLK hown hrow hp hone
    go_wp2_with fail
    refine HS.out.mono ?_
    rintro e w3 ⟨⟨v3, rfl, h3⟩, hb3⟩
    obtain ⟨g2, cap2, rfl, -, -, -, hzr⟩ := own_some h3 (by omega)
    have HBL := Lib.hid (srvP_len n (xs.map LO.plain))
    have HBD := Lib.hid (srvP_bound (s := n) (p := xs.map LO.plain) (fun x hx => by
      obtain ⟨y, hy, rfl⟩ := List.mem_map.1 hx
      exact HF3.out y hy) (by simpa using f1))
    rw [← HP.out] at HN1 HN2 HN3 HN4
    generalize srvP n (xs.map LO.plain) = bs at *
    have S3 := Lib.hid (show NX w b B g g2 m xs bs w3 from ⟨B2.out.trans (hb3.mono B2.out.size), HM.out.below (B2.out.trans (hb3.mono B2.out.size)), HROW.out.below hb3, hzr, fun x hx => (HKS.out x hx).below hb3, HZ2.out.below hb3 HZ2.out.lt⟩)
    clear h3 hb3 HS hzr HZ1 HZ2 B1 B2 HROW HKS
    obtain ⟨i, j, -, hi, -, hj, heq⟩ := endsL_of (l := bs) (by rw [HBL.out]; omega)
    have HED := Lib.hid (fun W h => ends_any bs g2 0 cap2 W (by rw [HBL.out]; omega) (by rw [HBL.out]; omega) h)
    have HEVN := Lib.hid (fun W h1 h2 => evens_any xs g 0 cap bs g2 0 cap2 i j W f1 h1 HONE.out h2 hi hj (by rw [HBL.out]; omega) HBD.out)
    rw [HBL.out] at HED HEVN
    rw [heq] at HED HN1 HN2 HN3 HN4
    dsimp only at HED HN1 HN2 HN3 HN4
    have HEVL := Lib.hid (show ∀ a b c, evensP (xs.map LO.plain) bs a b = c → evensP (xs.map LO.plain) bs a b = c from fun _ _ _ h => h)
    clear HEVL heq hi hj
    have HCI : Hid (((i + 1 : Nat) : Int) = (i : Int) + 1 ∧ ((j + 1 : Nat) : Int) = (j : Int) + 1) := Lib.hid ⟨by omega, by omega⟩
    rw [HCI.out.1] at HN1 HN2 HN3 HN4
    go_wp2_with fail
    refine (HED.out _ S3.out.zr).mono ?_
    rintro e w4 ⟨rfl, hb4⟩
    have S4 := Lib.hid (S3.out.next hb4)
    clear hb4 S3 HED
    go_wp2_with fail
    refine (strays_any xs g 0 cap (n : Int) ((i : Int) + 1) _ f1 S4.out.row).mono ?_
    rintro e w5 ⟨he, hb5⟩
    unfold EntR at he
    have HZ5 := Lib.hid (Blk.new w5 44 zeroEn)
    unfold zeroEn at HZ5
    have S5 := Lib.hid (S4.out.next hb5)
    clear hb5 S4
    cases hs : straysP (xs.map LO.plain) n ((i : Int) + 1) with
    | some en =>
      have HE1 := Lib.hid hs
      rw [hs] at he
      dsimp only [Option.getD, Option.isSome] at he
      subst he
      have HRS := Lib.hid (HN1.out en HE1.out)
      clear hs
      go_wp2_with (refine wpList_store_blk rfl 44 (.tmp 16) (.tmp 48) rfl w5.heap.size en.cells.toArray rfl rfl 44 _ HZ5.out rfl (by kernel_rfl) (EN.cells_one _) ?_)
      refine Lib.hid ?_
      intro w6 hz ho
      have HY6 := Lib.hid hz
      have S6 := Lib.hid (S5.out.next ((below_alloc w5 _).trans (ho.to_below (B := w5.heap.size) (by simp) (fun q hq e => by omega))))
      clear hz ho S5 HZ5
      go_wp2_with (first | (refine wpList_load_hid rfl 44 (.tmp 16) rfl w5.heap.size rfl 44 en.cells.toArray HY6.out _ Tryz.underlying44 rfl (by kernel_rfl) ?_) | (refine wpList_store_blk rfl 44 (.tmp 8) (.tmp 51) rfl w.heap.size en.cells.toArray rfl rfl 44 _ S6.out.box rfl (by kernel_rfl) (EN.cells_one _) ?_))
      refine Lib.hid ?_
      go_wp2_with (refine wpList_store_blk rfl 44 (.tmp 8) (.tmp 51) rfl w.heap.size en.cells.toArray rfl rfl 44 _ S6.out.box rfl (by kernel_rfl) (EN.cells_one _) ?_)
      refine Lib.hid ?_
      intro w7 hz ho
      have HZE := Lib.hid hz
      have BE := Lib.hid (S6.out.bel.trans (ho.to_below S6.out.bel.size (fun k hk e => by omega)))
      clear hz ho
      go_wp2_with fail
      refine bodyPost_ret (results_cell_tt rfl _ _ w.heap.size 44 _ (0, 0) _ rfl HZE.out Tryz.underlying44 rfl (by kernel_rfl)) rfl ?_
      refine ⟨?_, BE.out⟩
      unfold NextR
      rw [HH.out, if_pos rfl, HRS.out]
      rfl
    | none =>
    have HE1 := Lib.hid hs
    rw [hs] at he
    dsimp only [Option.getD, Option.isSome] at he
    subst he
    clear hs
    go_wp2_with (refine wpList_store_blk rfl 44 (.tmp 16) (.tmp 48) rfl w5.heap.size EN.zero.cells.toArray rfl rfl 44 _ HZ5.out rfl (by kernel_rfl) (EN.cells_one _) ?_)
    refine Lib.hid ?_
    intro w6 hz ho
    have HY6 := Lib.hid hz
    have S6 := Lib.hid (S5.out.next ((below_alloc w5 _).trans (ho.to_below (B := w5.heap.size) (by simp) (fun q hq e => by omega))))
    clear hz ho S5 HZ5
    go_wp2_with fail
    refine (cuts_any b B m xs g 0 cap most ((i : Int) + 1) _ S6.out.mp HEV.out f1 S6.out.row S6.out.ks).mono ?_
    rintro e w7 ⟨he, hb7⟩
    unfold EntR at he
    have HZ7 := Lib.hid (Blk.new w7 44 zeroEn)
    unfold zeroEn at HZ7
    have S7 := Lib.hid (S6.out.next hb7)
    clear hb7 S6
    cases hs : cutsP m.evs (xs.map LO.plain) most ((i : Int) + 1) with
    | some en =>
      have HE2 := Lib.hid hs
      rw [hs] at he
      dsimp only [Option.getD, Option.isSome] at he
      subst he
      have HRS := Lib.hid (HN2.out en HE1.out HE2.out)
      clear hs
      go_wp2_with (refine wpList_store_blk rfl 44 (.tmp 18) (.tmp 58) rfl w7.heap.size en.cells.toArray rfl rfl 44 _ HZ7.out rfl (by kernel_rfl) (EN.cells_one _) ?_)
      refine Lib.hid ?_
      intro w8 hz ho
      have HY8 := Lib.hid hz
      have S8 := Lib.hid (S7.out.next ((below_alloc w7 _).trans (ho.to_below (B := w7.heap.size) (by simp) (fun q hq e => by omega))))
      clear hz ho S7 HZ7
      go_wp2_with (first | (refine wpList_load_hid rfl 44 (.tmp 18) rfl w7.heap.size rfl 44 en.cells.toArray HY8.out _ Tryz.underlying44 rfl (by kernel_rfl) ?_) | (refine wpList_store_blk rfl 44 (.tmp 8) (.tmp 61) rfl w.heap.size en.cells.toArray rfl rfl 44 _ S8.out.box rfl (by kernel_rfl) (EN.cells_one _) ?_))
      refine Lib.hid ?_
      go_wp2_with (refine wpList_store_blk rfl 44 (.tmp 8) (.tmp 61) rfl w.heap.size en.cells.toArray rfl rfl 44 _ S8.out.box rfl (by kernel_rfl) (EN.cells_one _) ?_)
      refine Lib.hid ?_
      intro w9 hz ho
      have HZE := Lib.hid hz
      have BE := Lib.hid (S8.out.bel.trans (ho.to_below S8.out.bel.size (fun k hk e => by omega)))
      clear hz ho
      go_wp2_with fail
      refine bodyPost_ret (results_cell_tt rfl _ _ w.heap.size 44 _ (0, 0) _ rfl HZE.out Tryz.underlying44 rfl (by kernel_rfl)) rfl ?_
      refine ⟨?_, BE.out⟩
      unfold NextR
      rw [HH.out, if_pos rfl, HRS.out]
      rfl
    | none =>
    have HE2 := Lib.hid hs
    rw [hs] at he
    dsimp only [Option.getD, Option.isSome] at he
    subst he
    clear hs
    go_wp2_with (refine wpList_store_blk rfl 44 (.tmp 18) (.tmp 58) rfl w7.heap.size EN.zero.cells.toArray rfl rfl 44 _ HZ7.out rfl (by kernel_rfl) (EN.cells_one _) ?_)
    refine Lib.hid ?_
    intro w8 hz ho
    have HY8 := Lib.hid hz
    have S8 := Lib.hid (S7.out.next ((below_alloc w7 _).trans (ho.to_below (B := w7.heap.size) (by simp) (fun q hq e => by omega))))
    clear hz ho S7 HZ7
    go_wp2_with fail
    refine (HEVN.out _ S8.out.row S8.out.zr).mono ?_
    rintro e w9 ⟨he, hb9⟩
    unfold EntR at he
    have HZ9 := Lib.hid (Blk.new w9 44 zeroEn)
    unfold zeroEn at HZ9
    have S9 := Lib.hid (S8.out.next hb9)
    clear hb9 S8
    cases hs : evensP (xs.map LO.plain) bs (i + 1) (j + 1) with
    | some en =>
      have HE3 := Lib.hid hs
      rw [hs] at he
      dsimp only [Option.getD, Option.isSome] at he
      subst he
      have HRS := Lib.hid (HN3.out en HE1.out HE2.out HE3.out)
      clear hs
      go_wp2_with (refine wpList_store_blk rfl 44 (.tmp 20) (.tmp 68) rfl w9.heap.size en.cells.toArray rfl rfl 44 _ HZ9.out rfl (by kernel_rfl) (EN.cells_one _) ?_)
      refine Lib.hid ?_
      intro w10 hz ho
      have HY10 := Lib.hid hz
      have S10 := Lib.hid (S9.out.next ((below_alloc w9 _).trans (ho.to_below (B := w9.heap.size) (by simp) (fun q hq e => by omega))))
      clear hz ho S9 HZ9
      go_wp2_with (first | (refine wpList_load_hid rfl 44 (.tmp 20) rfl w9.heap.size rfl 44 en.cells.toArray HY10.out _ Tryz.underlying44 rfl (by kernel_rfl) ?_) | (refine wpList_store_blk rfl 44 (.tmp 8) (.tmp 71) rfl w.heap.size en.cells.toArray rfl rfl 44 _ S10.out.box rfl (by kernel_rfl) (EN.cells_one _) ?_))
      refine Lib.hid ?_
      go_wp2_with (refine wpList_store_blk rfl 44 (.tmp 8) (.tmp 71) rfl w.heap.size en.cells.toArray rfl rfl 44 _ S10.out.box rfl (by kernel_rfl) (EN.cells_one _) ?_)
      refine Lib.hid ?_
      intro w11 hz ho
      have HZE := Lib.hid hz
      have BE := Lib.hid (S10.out.bel.trans (ho.to_below S10.out.bel.size (fun k hk e => by omega)))
      clear hz ho
      go_wp2_with fail
      refine bodyPost_ret (results_cell_tt rfl _ _ w.heap.size 44 _ (0, 0) _ rfl HZE.out Tryz.underlying44 rfl (by kernel_rfl)) rfl ?_
      refine ⟨?_, BE.out⟩
      unfold NextR
      rw [HH.out, if_pos rfl, HRS.out]
      rfl
    | none =>
    have HE3 := Lib.hid hs
    rw [hs] at he
    dsimp only [Option.getD, Option.isSome] at he
    subst he
    clear hs
    go_wp2_with (refine wpList_store_blk rfl 44 (.tmp 20) (.tmp 68) rfl w9.heap.size EN.zero.cells.toArray rfl rfl 44 _ HZ9.out rfl (by kernel_rfl) (EN.cells_one _) ?_)
    refine Lib.hid ?_
    intro w10 hz ho
    have HY10 := Lib.hid hz
    have S10 := Lib.hid (S9.out.next ((below_alloc w9 _).trans (ho.to_below (B := w9.heap.size) (by simp) (fun q hq e => by omega))))
    clear hz ho S9 HZ9
    go_wp2_with fail
    refine (joins_any xs g 0 cap most _ f1 S10.out.row HF3.out).mono ?_
    rintro e w11 ⟨he, hb11⟩
    unfold EntR at he
    have HZ11 := Lib.hid (Blk.new w11 44 zeroEn)
    unfold zeroEn at HZ11
    have S11 := Lib.hid (S10.out.next hb11)
    clear hb11 S10
    subst he
    have HRS := Lib.hid (HN4.out HE1.out HE2.out HE3.out)
    clear HN1 HN2 HN3 HN4
    have hs := HRS
    generalize joinsP (xs.map LO.plain) most = oo at *
    clear hs
    go_wp2_with (refine wpList_store_blk rfl 44 (.tmp 22) (.tmp 76) rfl w11.heap.size (oo.getD EN.zero).cells.toArray rfl rfl 44 _ HZ11.out rfl (by kernel_rfl) (EN.cells_one _) ?_)
    refine Lib.hid ?_
    intro w12 hz ho
    have HY12 := Lib.hid hz
    have S12 := Lib.hid (S11.out.next ((below_alloc w11 _).trans (ho.to_below (B := w11.heap.size) (by simp) (fun q hq e => by omega))))
    clear hz ho S11 HZ11
    go_wp2_with (first | (refine wpList_load_hid rfl 44 (.tmp 22) rfl w11.heap.size rfl 44 (oo.getD EN.zero).cells.toArray HY12.out _ Tryz.underlying44 rfl (by kernel_rfl) ?_) | (refine wpList_store_blk rfl 44 (.tmp 8) (.tmp 78) rfl w.heap.size (oo.getD EN.zero).cells.toArray rfl rfl 44 _ S12.out.box rfl (by kernel_rfl) (EN.cells_one _) ?_))
    refine Lib.hid ?_
    go_wp2_with (refine wpList_store_blk rfl 44 (.tmp 8) (.tmp 78) rfl w.heap.size (oo.getD EN.zero).cells.toArray rfl rfl 44 _ S12.out.box rfl (by kernel_rfl) (EN.cells_one _) ?_)
    refine Lib.hid ?_
    intro w13 hz ho
    have HZE := Lib.hid hz
    have BE := Lib.hid (S12.out.bel.trans (ho.to_below S12.out.bel.size (fun k hk e => by omega)))
    clear hz ho
    go_wp2_with fail
    refine bodyPost_ret (results_cell_tt rfl _ _ w.heap.size 44 _ (0, 0) _ rfl HZE.out Tryz.underlying44 rfl (by kernel_rfl)) rfl ?_
    refine ⟨?_, BE.out⟩
    unfold NextR
    rw [HH.out, if_pos rfl, HRS.out]
    rfl
end Go.Proofs.YthjmfcdhpdiehaaGreatDoor

namespace Go.Proofs.YthjmfcdhpdiehaaGreatDoor
open Go.RowKit Utf
set_option maxRecDepth 100000
set_option linter.unusedSimpArgs false
set_option linter.unusedVariables false

/-- An entry that was planned has no lists, and no long key. -/
def EN.plain (e : EN) : Prop := e.ao = none ∧ e.no = 0 ∧ e.nd = 0 ∧ e.key.size ≤ 1000000
def enRow (l : List EN) : List Value := l.flatMap EN.cells
theorem OwnE.chg {T : TypeId → Prop} {B B' : Nat} {w w' : World} {e : TypeId} {sz : Nat} {v : Value} {n : Nat} {xs : List Value} (h : OwnE w B' e sz v n xs) (hc : Chg T B w w') (hs : ¬ T e) : OwnE w' B' e sz v n xs := by
  rcases h with h | h
  · exact .inl h
  · exact .inr (own_chg h hc hs)
theorem ownE_ty {w : World} {B sz : Nat} {e : TypeId} {v : Value} {n : Nat} {xs : List Value} (h : OwnE w B e sz v n xs) {k : Nat} (hk : ownB v = some k) : TyS (fun t => t = e) B w k := by
  rcases h with ⟨h | ⟨g, h⟩, -⟩ | h
  · rw [h] at hk; cases hk
  · rw [h] at hk; simp [ownB] at hk
  · have hk2 := ownB_own hk
    rcases h.2 with ⟨rfl, -⟩ | ⟨g, cap, cur, rfl, hB, hg, -⟩
    · cases hk2
    · obtain rfl : g = k := by simpa [Value.ownBlock] using hk2
      obtain ⟨cur', hc⟩ := own_kind h
      exact ⟨hB, _, _, _, hc, rfl⟩
/-- How the loop stands. -/
structure PL (w : World) (b2 : Nat) (mk : PM) (out : List EN) (v : Value) (W : World) : Prop where
  bel : Below w.heap.size w W
  mp : MapAt W w.heap.size b2 mk
  out : OwnE W w.heap.size 44 12 v out.length (enRow out)
theorem PL.next {w W W' : World} {b2 : Nat} {mk : PM} {out : List EN} {v : Value} (h : PL w b2 mk out v W) (hb : Below W.heap.size W W') : PL w b2 mk out v W' :=
  ⟨h.bel.trans (hb.mono h.bel.size), h.mp.below hb, h.out.below hb⟩
theorem PL.chg {w W W' : World} {b2 : Nat} {mk mk' : PM} {out : List EN} {v : Value} (h : PL w b2 mk out v W) (hm : MapAt W' w.heap.size b2 mk') (hc : Chg PT w.heap.size W W') : PL w b2 mk' out v W' :=
  ⟨h.bel.trans (hc.below h.bel.size), hm, h.out.chg hc (by unfold PT; decide)⟩
end Go.Proofs.YthjmfcdhpdiehaaGreatDoor

namespace Go.Proofs.YthjmfcdhpdiehaaGreatDoor
open Go.RowKit Utf
set_option maxRecDepth 100000
set_option linter.unusedSimpArgs false
set_option linter.unusedVariables false

/-- The reference's map: shards that live, in any order; the numbers used; the events. -/
structure RM where
  live : List Sh
  used : List Int
  evs : List Ev
structure RMV (w : World) (B b : Nat) (m : RM) (vl vu ve : Value) : Prop where
  blk : Blk w b 117 #[vl, vu, ve]
  ge : B ≤ b
  live : w.ownsRow B 75 5 vl m.live.length (shRow m.live)
  used : w.ownsRow B 3 1 vu m.used.length (zRow m.used)
  ev : OwnE w B 124 13 ve m.evs.length (evRow m.evs)
  l1 : 1 ≤ m.live.length ∧ 1 ≤ m.used.length
  len : m.live.length ≤ 10000 ∧ m.used.length ≤ 10000 ∧ m.evs.length ≤ 10000
  ok : ∀ s ∈ m.live, s.ok
def RMAt (w : World) (B b : Nat) (m : RM) : Prop := ∃ vl vu ve, RMV w B b m vl vu ve
/-- What kinds of block the reference's map is made of. -/
def RT (t : TypeId) : Prop := t = 117 ∨ t = 75 ∨ t = 124 ∨ t = 3
section
variable {w w' : World} {B B' b : Nat} {m : RM} {vl vu ve : Value}
theorem RMV.below (h : RMV w B b m vl vu ve) (hb : Below w.heap.size w w') : RMV w' B b m vl vu ve :=
  ⟨h.blk.below hb h.blk.lt, h.ge, own_below h.live hb, own_below h.used hb, h.ev.below hb, h.l1, h.len, h.ok⟩
theorem RMV.base (h : RMV w B b m vl vu ve) (hb : B' ≤ B) : RMV w B' b m vl vu ve :=
  ⟨h.blk, Nat.le_trans hb h.ge, own_base h.live hb, own_base h.used hb, h.ev.base hb, h.l1, h.len, h.ok⟩
theorem RMV.chg {T : TypeId → Prop} {D : Nat} (h : RMV w B b m vl vu ve) (hc : Chg T D w w') (h1 : ¬ T 117) (h2 : ¬ T 75) (h3 : ¬ T 124) (h4 : ¬ T 3) : RMV w' B b m vl vu ve :=
  ⟨h.blk.chg hc (.inr h1), h.ge, own_chg h.live hc h2, own_chg h.used hc h4, h.ev.chg hc h3, h.l1, h.len, h.ok⟩
theorem RMAt.below (h : RMAt w B b m) (hb : Below w.heap.size w w') : RMAt w' B b m := by
  obtain ⟨vl, vu, ve, h⟩ := h
  exact ⟨vl, vu, ve, h.below hb⟩
theorem RMAt.base (h : RMAt w B b m) (hb : B' ≤ B) : RMAt w B' b m := by
  obtain ⟨vl, vu, ve, h⟩ := h
  exact ⟨vl, vu, ve, h.base hb⟩
theorem RMAt.chg {T : TypeId → Prop} {D : Nat} (h : RMAt w B b m) (hc : Chg T D w w') (h1 : ¬ T 117) (h2 : ¬ T 75) (h3 : ¬ T 124) (h4 : ¬ T 3) : RMAt w' B b m := by
  obtain ⟨vl, vu, ve, h⟩ := h
  exact ⟨vl, vu, ve, h.chg hc h1 h2 h3 h4⟩
end

/-- How Find's loop stands. -/
structure RF (w : World) (g : Nat) (l : List Sh) (W : World) : Prop where
  bel : Below w.heap.size w W
  row : RowAt W (some ⟨g, 0, none⟩) (shRow l)
theorem RF.next {w W W' : World} {g : Nat} {l : List Sh} (h : RF w g l W) (hb : Below W.heap.size W W') : RF w g l W' :=
  ⟨h.bel.trans (hb.mono h.bel.size), h.row.below hb⟩

set_option maxHeartbeats 2000000 in
theorem rfind_any (b B : Nat) (m : RM) (id : Int) (w : World) (hm : RMAt w B b m) :
    Calls Tryz.prog 59 #[.pointer (some ⟨b, 0, none⟩), .int .i64 id] w fun e w' => e = .returned (.int .i64 (idxI (findN id m.live))) ∧ Below w.heap.size w w' := by
  obtain ⟨vl, vu, ve, hm⟩ := hm
  obtain ⟨g, cap, rfl, -, -, -, hr⟩ := own_some hm.live hm.l1.1
  have hln := hm.len.1
  have c0 : w.cell? ⟨b, 0, none⟩ = some (.slice (some ⟨g, 0, none⟩) m.live.length cap) := hm.blk.cell 0
  have S0 := Lib.hid (show RF w g m.live w from ⟨Below.refl _ _, hr⟩)
  have HN := Lib.hid (fun h => find_none (id := id) (l := m.live) h)
  have HS := Lib.hid (fun k h1 h2 h3 => find_some (id := id) (l := m.live) (k := k) h1 h2 h3)
  clear hm hr
  generalize m.live = l at *
  go_enter Tryz.func59, Tryz.ntmps59
  go_wp2_with fail
  go_loopw [12] (fun i wr => ∃ k : Nat, k ≤ l.length ∧ i = .int .i64 k ∧ Hid (RF w g l wr) ∧ Hid (∀ j (hj : j < l.length), j < k → ¬ l[j].id = id)) (fun i _ => l.length - (intOf i).toNat)
  case atStart => exact ⟨0, Nat.zero_le _, rfl, S0, Lib.hid (fun j _ hj => by omega)⟩
  case round =>
    obtain ⟨k, hk, rfl, HB, HP⟩ := hrel
    by_cases hlt : k < l.length
    · have HRG := Lib.hid (show wr.rangeAt g (k * 5) (l[k]).cells from fun j v hj => by
        have hj5 : j < 5 := by have := (List.getElem?_eq_some_iff.1 hj).1; rw [Sh.cells_len] at this; exact this
        rw [row_sh HB.out.row hlt j hj5, shAt_eq hlt]; exact hj)
      have HSI := Lib.hid (show (Tryz.prog.info? 75).map (·.size) = some (l[k]).cells.length by rw [Sh.cells_len]; kernel_rfl)
      have HZ1 := Lib.hid (Blk.new wr 75 #[.int .i64 0, .int .i64 0, .int .i64 0, .string ⟨#[]⟩, .string ⟨#[]⟩])
      have HSK := Lib.hid (fun h => HS.out k hlt h (fun j hj => HP.out j (by omega) hj))
      have HPK := Lib.hid (fun (h : ¬ l[k].id = id) j (hj : j < l.length) (hjk : j < k + 1) => show ¬ l[j].id = id from by
        by_cases hjj : j < k
        · exact HP.out j hj hjj
        · have : j = k := by omega
          subst this
          exact h)
      generalize l[k] = x at *
      obtain ⟨sid, server, since, lo, hi⟩ := x
      unfold Sh.cells at HRG HSI
      dsimp only at HRG HSI HSK HPK
      go_wp2_with (first | (refine wpList_load_mid rfl 75 (.tmp 15) rfl g (k * 5) rfl _ _ HRG.out Tryz.underlying75 rfl HSI.out ?_) | (refine wpList_store_blk rfl 75 (.tmp 6) (.tmp 16) rfl wr.heap.size #[.int .i64 sid, .int .i64 server, .int .i64 since, .string lo, .string hi] rfl rfl 75 _ HZ1.out rfl (by kernel_rfl) (by kernel_rfl) ?_))
      refine Lib.hid ?_
      intro w2 hz ho
      have S2 := Lib.hid (HB.out.next ((below_alloc wr _).trans (ho.to_below (B := wr.heap.size) (by simp) (fun q hq e => by omega))))
      have d0 : w2.cell? ⟨wr.heap.size, 0, none⟩ = some (.int .i64 sid) := hz.cell 0
      clear hz ho HZ1 HRG
      by_cases hx : sid = id
      · have HRS := Lib.hid (HSK.out hx)
        have hq : (sid == id) = true := by simp [hx]
        clear hx HPK HSK
        go_wp2_with fail
        go_ret
        exact ⟨by rw [HRS.out]; rfl, S2.out.bel⟩
      · have HRS := Lib.hid (HPK.out hx)
        have hq : (sid == id) = false := by simp [hx]
        clear hx HPK HSK
        go_wp2_with fail
        go_roundw
        case rel => exact ⟨k + 1, by omega, by go_num, S2, HRS⟩
        case measure => simp [intOf]; omega
    · obtain rfl : k = l.length := by omega
      have HR := Lib.hid (HN.out (fun j hj => HP.out j hj hj))
      go_wp2_with fail
      go_ret
      exact ⟨by rw [HR.out]; rfl, HB.out.bel⟩

/-- Is a number in a list? -/
def inL (l : List Int) (n : Int) : Bool := l.any (fun x => decide (x = n))
theorem inL_yes {l : List Int} {n : Int} {k : Nat} (hk : k < l.length) (h : l.getD k 0 = n) : inL l n = true := by
  unfold inL
  rw [List.any_eq_true]
  refine ⟨l[k], List.getElem_mem hk, ?_⟩
  rw [List.getD_eq_getElem?_getD, List.getElem?_eq_getElem hk] at h
  simpa using h
theorem inL_no {l : List Int} {n : Int} (h : ∀ j, j < l.length → ¬ l.getD j 0 = n) : inL l n = false := by
  unfold inL
  rw [List.any_eq_false]
  intro x hx
  obtain ⟨j, hj, rfl⟩ := List.getElem_of_mem hx
  have := h j hj
  rw [List.getD_eq_getElem?_getD, List.getElem?_eq_getElem hj] at this
  simpa using this
set_option maxHeartbeats 1000000 in
theorem in_any (l : List Int) (n : Int) (b o c : Nat) (w : World) (hn : l.length ≤ 1000000) (hr : RowAt w (some ⟨b, o, none⟩) (zRow l)) :
    Calls Tryz.prog 86 #[.slice (some ⟨b, o, none⟩) l.length c, .int .i64 n] w fun e w' => e = .returned (.bool (inL l n)) ∧ Below w.heap.size w w' := by
  have HR := Lib.hid hr
  have HY := Lib.hid (fun k h1 h2 => inL_yes (l := l) (n := n) (k := k) h1 h2)
  have HN := Lib.hid (fun h => inL_no (l := l) (n := n) h)
  clear hr
  go_enter Tryz.func86, Tryz.ntmps86
  go_wp2_with fail
  go_loopw [9] (fun i wr => ∃ k : Nat, k ≤ l.length ∧ i = .int .i64 k ∧ wr = w ∧ Hid (∀ j, j < k → ¬ l.getD j 0 = n)) (fun i _ => l.length - (intOf i).toNat)
  case atStart => exact ⟨0, Nat.zero_le _, rfl, rfl, Lib.hid (fun j hj => by omega)⟩
  case round =>
    obtain ⟨k, hk, rfl, rfl, HP⟩ := hrel
    by_cases hlt : k < l.length
    · have c0 := zRow_cell HR.out hlt
      have HYK := Lib.hid (HY.out k hlt)
      have HPK := Lib.hid (fun (h : ¬ l.getD k 0 = n) j (hjk : j < k + 1) => show ¬ l.getD j 0 = n from by
        by_cases hjj : j < k
        · exact HP.out j hjj
        · have : j = k := by omega
          subst this
          exact h)
      generalize l.getD k 0 = x at *
      by_cases hx : x = n
      · have HRS := Lib.hid (HYK.out hx)
        have hq : (x == n) = true := by simp [hx]
        clear hx HPK HYK
        go_wp2_with fail
        go_ret
        exact ⟨by rw [HRS.out]; rfl, Below.refl _ _⟩
      · have HRS := Lib.hid (HPK.out hx)
        have hq : (x == n) = false := by simp [hx]
        clear hx HPK HYK
        go_wp2_with fail
        go_roundw
        case rel => exact ⟨k + 1, by omega, by go_num, trivial, HRS⟩
        case measure => simp [intOf]; omega
    · obtain rfl : k = l.length := by omega
      have HRS := Lib.hid (HN.out (fun j hj => HP.out j hj))
      go_wp2_with fail
      go_ret
      exact ⟨by rw [HRS.out]; rfl, Below.refl _ _⟩
end Go.Proofs.YthjmfcdhpdiehaaGreatDoor
