/-
  balance.Next.
  balance.Plan.
  The reference's map in memory; tidewaterref20.New, Find; tidewaternum.In.
-/
import Derived.Test.YthjmfcdhpdiehaaGreatDoorM17
import Derived.Test.YthjmfcdhpdiehaaGreatDoorM18
import Derived.Test.YthjmfcdhpdiehaaGreatDoorM15
import Derived.Test.YthjmfcdhpdiehaaGreatDoorM13
import Derived.Test.YthjmfcdhpdiehaaGreatDoorM08
namespace Go.Proofs.YthjmfcdhpdiehaaGreatDoor
open Go.RowKit Utf
set_option maxRecDepth 100000
set_option linter.unusedSimpArgs false
set_option linter.unusedVariables false

theorem srvStep_bound {s : Nat} {acc : List Int} {x : Sh × List LD} {M : Int} (hx : 0 ≤ sumN x.2 ∧ sumN x.2 ≤ 1000000000) (h : ∀ k, 0 ≤ acc.getD k 0 ∧ acc.getD k 0 ≤ M) : ∀ k, 0 ≤ (srvStep s acc x).getD k 0 ∧ (srvStep s acc x).getD k 0 ≤ M + 1000000000 := by
  intro k
  unfold srvStep
  by_cases hs : x.1.server ≤ (s : Int)
  · rw [if_pos hs]
    unfold addAt
    rw [List.getD_eq_getElem?_getD, List.getElem?_set]
    by_cases hij : (x.1.server - 1).toNat = k
    · rw [if_pos hij]
      have := h (x.1.server - 1).toNat
      by_cases hl : (x.1.server - 1).toNat < acc.length
      · rw [if_pos hl]
        simp only [Option.getD_some]
        omega
      · rw [if_neg hl]
        simp only [Option.getD_none]
        omega
    · rw [if_neg hij, ← List.getD_eq_getElem?_getD]
      have := h k
      omega
  · rw [if_neg hs]
    have := h k
    omega
theorem srvFold_bound {s : Nat} : ∀ (p : List (Sh × List LD)) (acc : List Int) (M : Int), (∀ x ∈ p, 0 ≤ sumN x.2 ∧ sumN x.2 ≤ 1000000000) → (∀ k, 0 ≤ acc.getD k 0 ∧ acc.getD k 0 ≤ M) → ∀ k, 0 ≤ (p.foldl (srvStep s) acc).getD k 0 ∧ (p.foldl (srvStep s) acc).getD k 0 ≤ M + 1000000000 * p.length
  | [], acc, M, hx, h => fun k => by have := h k; simpa using this
  | x :: r, acc, M, hx, h => fun k => by
    have := srvFold_bound (s := s) r (srvStep s acc x) (M + 1000000000) (fun y hy => hx y (List.mem_cons_of_mem _ hy)) (srvStep_bound (hx x List.mem_cons_self) h) k
    rw [List.foldl_cons, List.length_cons]
    omega
theorem srvP_bound {s : Nat} {p : List (Sh × List LD)} (hx : ∀ x ∈ p, 0 ≤ sumN x.2 ∧ sumN x.2 ≤ 1000000000) (hl : p.length ≤ 10000) (k : Nat) : 0 ≤ (srvP s p).getD k 0 ∧ (srvP s p).getD k 0 ≤ 1000000000000000 := by
  have := srvFold_bound (s := s) p (List.replicate s 0) 0 hx (fun k => by
    rw [List.getD_eq_getElem?_getD, List.getElem?_replicate]
    split <;> simp) k
  unfold srvP
  omega
theorem srvFold_len {s : Nat} : ∀ (p : List (Sh × List LD)) (acc : List Int), (p.foldl (srvStep s) acc).length = acc.length
  | [], acc => rfl
  | x :: r, acc => by rw [List.foldl_cons, srvFold_len r, srvStep_len]
theorem srvP_len (s : Nat) (p : List (Sh × List LD)) : (srvP s p).length = s := by
  unfold srvP
  rw [srvFold_len, List.length_replicate]
theorem KeysAt.below {w w' : World} {x : LO} (h : KeysAt w x) (hb : Below w.heap.size w w') : KeysAt w' x := by
  obtain ⟨⟨ao, c, h1, h2⟩, h3, h4⟩ := h
  exact ⟨⟨ao, c, h1, h2.below hb⟩, h3, h4⟩
theorem loads_keys {w : World} {B : Nat} {m : PM} {l : List LD} {xs : List LO} (hp : xs.map LO.plain = loadsP m.live l) (hn : l.length ≤ 1000) (hno : NumOk l) (hk : ∀ x ∈ xs, OwnE w B 77 2 x.kv x.keys.length (ldRow x.keys)) : ∀ x ∈ xs, KeysAt w x := by
  intro x hx
  have : x.plain ∈ loadsP m.live l := by rw [← hp]; exact List.mem_map_of_mem hx
  obtain ⟨s, hs, e⟩ := List.mem_map.1 this
  unfold LO.plain at e
  simp only [Prod.mk.injEq] at e
  refine ⟨ownE_row (hk x hx), ?_, ?_⟩
  · rw [← e.2]
    exact fun y hy => hno y (List.mem_filter.1 hy).1
  · rw [← e.2]
    exact Nat.le_trans (keysP_len s l) hn
theorem next_1 {m : PM} {l : List LD} {s : Nat} {most : Int} {e : EN} (h : straysP (loadsP m.live l) s ((endsL (srvP s (loadsP m.live l))).1 : Nat) = some e) : nextP m l s most = some e := by
  unfold nextP
  rw [h]
theorem next_2 {m : PM} {l : List LD} {s : Nat} {most : Int} {e : EN} (h : straysP (loadsP m.live l) s ((endsL (srvP s (loadsP m.live l))).1 : Nat) = none) (h2 : cutsP m.evs (loadsP m.live l) most ((endsL (srvP s (loadsP m.live l))).1 : Nat) = some e) : nextP m l s most = some e := by
  unfold nextP
  rw [h, h2]
theorem next_3 {m : PM} {l : List LD} {s : Nat} {most : Int} {e : EN} (h : straysP (loadsP m.live l) s ((endsL (srvP s (loadsP m.live l))).1 : Nat) = none) (h2 : cutsP m.evs (loadsP m.live l) most ((endsL (srvP s (loadsP m.live l))).1 : Nat) = none) (h3 : evensP (loadsP m.live l) (srvP s (loadsP m.live l)) (endsL (srvP s (loadsP m.live l))).1 (endsL (srvP s (loadsP m.live l))).2 = some e) : nextP m l s most = some e := by
  unfold nextP
  rw [h, h2, h3]
theorem next_4 {m : PM} {l : List LD} {s : Nat} {most : Int} (h : straysP (loadsP m.live l) s ((endsL (srvP s (loadsP m.live l))).1 : Nat) = none) (h2 : cutsP m.evs (loadsP m.live l) most ((endsL (srvP s (loadsP m.live l))).1 : Nat) = none) (h3 : evensP (loadsP m.live l) (srvP s (loadsP m.live l)) (endsL (srvP s (loadsP m.live l))).1 (endsL (srvP s (loadsP m.live l))).2 = none) : nextP m l s most = joinsP (loadsP m.live l) most := by
  unfold nextP
  rw [h, h2, h3]
theorem results_cell_tt {P : Program} {fn : Func} {p q r : Tmp} {ty : TypeId} (h : fn.results = #[.cell p ty, .tmp q, .tmp r]) (tmps : Array Value) (w : World) (g : Nat) (t : TypeId) (cs : Array Value) (fr : Nat × Nat) (d : TypeDesc)
    (hp : tmps.getD p undef = .pointer (some ⟨g, 0, none⟩)) (hg : w.heap[g]? = some (.cells cs t fr))
    (hu : P.underlying ty = some d) (hd : (match d with | .struct _ | .array _ _ => true | _ => false) = true) (hi : (P.info? ty).map (·.size) = some cs.size) :
    (results fn tmps).run P w = .ok (.tuple #[.agg cs, tmps.getD q undef, tmps.getD r undef]) w := by
  have hp' : tmps[p]?.getD undef = .pointer (some ⟨g, 0, none⟩) := by simpa using hp
  simp [results, h, hp', asAddr, run_loadVar_row w g t ty cs fr d hg hu hd hi]
theorem EN.cells_one (e : EN) : e.cells.toArray.all (·.oneCell') = true := by
  obtain ⟨kind, shard, other, server, client, seq, eao, no, co, key, upto, part, parts, ad, nd, cd⟩ := e
  kernel_rfl
/-- What Next answers. -/
def NextR (ea : Nat → Addr) (c : Nat) (o : Option EN) (e : Ending) : Prop := if c = 0 then e = .returned (.tuple #[.agg (o.getD EN.zero).cells.toArray, .bool o.isSome, .nilIface]) else e = .returned (.tuple #[.agg EN.zero.cells.toArray, .bool false, errOf ea c])
/-- How the walk stands. -/
structure NX (w : World) (b B g g2 : Nat) (m : PM) (xs : List LO) (bs : List Int) (W : World) : Prop where
  bel : Below w.heap.size w W
  mp : MapAt W B b m
  row : RowAt W (some ⟨g, 0, none⟩) (loRow xs)
  zr : RowAt W (some ⟨g2, 0, none⟩) (zRow bs)
  ks : ∀ x ∈ xs, KeysAt W x
  box : Blk W w.heap.size 44 zeroEn
theorem NX.next {w W W' : World} {b B g g2 : Nat} {m : PM} {xs : List LO} {bs : List Int} (h : NX w b B g g2 m xs bs W) (hb : Below W.heap.size W W') : NX w b B g g2 m xs bs W' :=
  ⟨h.bel.trans (hb.mono h.bel.size), h.mp.below hb, h.row.below hb, h.zr.below hb, fun x hx => (h.ks x hx).below hb, h.box.below hb h.box.lt⟩

set_option maxHeartbeats 4000000 in
theorem next_any (ea : Nat → Addr) (b B : Nat) (m : PM) (l : List LD) (lo : Option Addr) (lc : Nat) (s most : Int) (w : World) (hm : MapAt w B b m) (hn : l.length ≤ 1000) (hr : RowAt w lo (ldRow l)) (he : BErr w ea) (hk : LdOk l) (hsv : SrvOk m)
    (hev : ∀ x ∈ m.evs, x.2.kind = 3 → 1 ≤ x.2.other ∧ x.2.other ≤ 12) :
    Calls Tryz.prog 13 #[.pointer (some ⟨b, 0, none⟩), .slice lo l.length lc, .int .i64 s, .int .i64 most] w fun e w' => NextR ea (checkN l s most) (nextP m l s.toNat most) e ∧ Below w.heap.size w w' := by
  have hq : ∀ (a : Addr) (w : World), (Op.equal 34 (.iface 184 (.pointer (some a))) .nilIface).run Tryz.prog w = .ok false w := fun a w => by kernel_rfl
  have B0 := Lib.hid (below_alloc w (.cells zeroEn 44))
  have HZ0 := Lib.hid (Blk.new w 44 zeroEn)
  have HC := Lib.hid (check_any ea l lo lc s most _ hn (hr.below B0.out) (he.below B0.out) hk)
  unfold zeroEn at B0 HZ0 HC
  rcases checkN_cases l s most with h | h | ⟨h, hrb, hs1, hs4, -⟩
  · rw [h] at HC
    have HC2 : Hid (Calls Tryz.prog 36 #[.slice lo l.length lc, .int .i64 s, .int .i64 most] (w.alloc (.cells #[.int .i64 0, .int .i64 0, .int .i64 0, .int .i64 0, .int .i64 0, .int .i64 0, .slice none 0 0, .string ⟨#[]⟩, .int .i64 0, .int .i64 0, .int .i64 0, .slice none 0 0] 44)) fun e w' => e = .returned (.iface 184 (.pointer (some (ea 3)))) ∧ Below (w.alloc (.cells #[.int .i64 0, .int .i64 0, .int .i64 0, .int .i64 0, .int .i64 0, .int .i64 0, .slice none 0 0, .string ⟨#[]⟩, .int .i64 0, .int .i64 0, .int .i64 0, .slice none 0 0] 44)).heap.size (w.alloc (.cells #[.int .i64 0, .int .i64 0, .int .i64 0, .int .i64 0, .int .i64 0, .int .i64 0, .slice none 0 0, .string ⟨#[]⟩, .int .i64 0, .int .i64 0, .int .i64 0, .slice none 0 0] 44)) w') := HC
    have HH := Lib.hid h
    clear hm hr he hk hsv hev h HC
    go_enter Tryz.func13, Tryz.ntmps13
    go_wp2_with fail
    refine HC2.out.mono ?_
    rintro e w1 ⟨rfl, hb1⟩
    have HZ1 := Lib.hid (HZ0.out.below hb1 HZ0.out.lt)
    have B1 := Lib.hid (B0.out.trans (hb1.mono B0.out.size))
    clear hb1 HC2
    go_wp2_with (refine wpList_store_blk rfl 44 (.tmp 8) (.tmp 30) rfl w.heap.size #[.int .i64 0, .int .i64 0, .int .i64 0, .int .i64 0, .int .i64 0, .int .i64 0, .slice none 0 0, .string ⟨#[]⟩, .int .i64 0, .int .i64 0, .int .i64 0, .slice none 0 0] rfl rfl 44 _ HZ1.out rfl (by kernel_rfl) (by kernel_rfl) ?_)
    refine Lib.hid ?_
    intro w2 hz ho
    have HZ2 := Lib.hid hz
    have B2 := Lib.hid (B1.out.trans (ho.to_below B1.out.size (fun k hk e => by omega)))
    clear hz ho
    go_wp2_with fail
    refine bodyPost_ret (results_cell_tt rfl _ _ w.heap.size 44 _ (0, 0) _ rfl HZ2.out Tryz.underlying44 rfl (by kernel_rfl)) rfl ?_
    refine ⟨?_, B2.out⟩
    unfold NextR
    rw [HH.out, if_neg (by decide)]
    rfl
  · rw [h] at HC
    have HC2 : Hid (Calls Tryz.prog 36 #[.slice lo l.length lc, .int .i64 s, .int .i64 most] (w.alloc (.cells #[.int .i64 0, .int .i64 0, .int .i64 0, .int .i64 0, .int .i64 0, .int .i64 0, .slice none 0 0, .string ⟨#[]⟩, .int .i64 0, .int .i64 0, .int .i64 0, .slice none 0 0] 44)) fun e w' => e = .returned (.iface 184 (.pointer (some (ea 0)))) ∧ Below (w.alloc (.cells #[.int .i64 0, .int .i64 0, .int .i64 0, .int .i64 0, .int .i64 0, .int .i64 0, .slice none 0 0, .string ⟨#[]⟩, .int .i64 0, .int .i64 0, .int .i64 0, .slice none 0 0] 44)).heap.size (w.alloc (.cells #[.int .i64 0, .int .i64 0, .int .i64 0, .int .i64 0, .int .i64 0, .int .i64 0, .slice none 0 0, .string ⟨#[]⟩, .int .i64 0, .int .i64 0, .int .i64 0, .slice none 0 0] 44)) w') := HC
    have HH := Lib.hid h
    clear hm hr he hk hsv hev h HC
    go_enter Tryz.func13, Tryz.ntmps13
    go_wp2_with fail
    refine HC2.out.mono ?_
    rintro e w1 ⟨rfl, hb1⟩
    have HZ1 := Lib.hid (HZ0.out.below hb1 HZ0.out.lt)
    have B1 := Lib.hid (B0.out.trans (hb1.mono B0.out.size))
    clear hb1 HC2
    go_wp2_with (refine wpList_store_blk rfl 44 (.tmp 8) (.tmp 30) rfl w.heap.size #[.int .i64 0, .int .i64 0, .int .i64 0, .int .i64 0, .int .i64 0, .int .i64 0, .slice none 0 0, .string ⟨#[]⟩, .int .i64 0, .int .i64 0, .int .i64 0, .slice none 0 0] rfl rfl 44 _ HZ1.out rfl (by kernel_rfl) (by kernel_rfl) ?_)
    refine Lib.hid ?_
    intro w2 hz ho
    have HZ2 := Lib.hid hz
    have B2 := Lib.hid (B1.out.trans (ho.to_below B1.out.size (fun k hk e => by omega)))
    clear hz ho
    go_wp2_with fail
    refine bodyPost_ret (results_cell_tt rfl _ _ w.heap.size 44 _ (0, 0) _ rfl HZ2.out Tryz.underlying44 rfl (by kernel_rfl)) rfl ?_
    refine ⟨?_, B2.out⟩
    unfold NextR
    rw [HH.out, if_neg (by decide)]
    rfl
  · rw [h] at HC
    have HC2 : Hid (Calls Tryz.prog 36 #[.slice lo l.length lc, .int .i64 s, .int .i64 most] (w.alloc (.cells #[.int .i64 0, .int .i64 0, .int .i64 0, .int .i64 0, .int .i64 0, .int .i64 0, .slice none 0 0, .string ⟨#[]⟩, .int .i64 0, .int .i64 0, .int .i64 0, .slice none 0 0] 44)) fun e w' => e = .returned .nilIface ∧ Below (w.alloc (.cells #[.int .i64 0, .int .i64 0, .int .i64 0, .int .i64 0, .int .i64 0, .int .i64 0, .slice none 0 0, .string ⟨#[]⟩, .int .i64 0, .int .i64 0, .int .i64 0, .slice none 0 0] 44)).heap.size (w.alloc (.cells #[.int .i64 0, .int .i64 0, .int .i64 0, .int .i64 0, .int .i64 0, .int .i64 0, .slice none 0 0, .string ⟨#[]⟩, .int .i64 0, .int .i64 0, .int .i64 0, .slice none 0 0] 44)) w') := HC
    have HH := Lib.hid h
    have hno := rightB_num hrb
    have HML := Lib.hid (show 1 ≤ m.live.length ∧ m.live.length ≤ 10000 from by obtain ⟨vl, ve, h⟩ := hm; exact ⟨h.l1, h.len.1⟩)
    have HLD := Lib.hid (fun W hb => loads_any ea b B m l lo lc W (hm.below hb) hn (hr.below hb) (he.below hb) hk hno)
    have HLF := Lib.hid (fun xs hp => loads_facts (xs := xs) hp HML.out.2 hn hno hsv)
    have HLK := Lib.hid (fun W D xs hp h => loads_keys (m := m) (w := W) (B := D) (xs := xs) hp hn hno h)
    have HN1 := Lib.hid (fun e h => next_1 (m := m) (l := l) (s := s.toNat) (most := most) (e := e) h)
    have HN2 := Lib.hid (fun e h h2 => next_2 (m := m) (l := l) (s := s.toNat) (most := most) (e := e) h h2)
    have HN3 := Lib.hid (fun e h h2 h3 => next_3 (m := m) (l := l) (s := s.toNat) (most := most) (e := e) h h2 h3)
    have HN4 := Lib.hid (fun h h2 h3 => next_4 (m := m) (l := l) (s := s.toNat) (most := most) h h2 h3)
    have HM := Lib.hid hm
    have HEV := Lib.hid hev
    clear hm hr he hk h HC hrb hno hsv hev
    obtain ⟨n, rfl⟩ : ∃ n : Nat, s = (n : Int) := ⟨s.toNat, by omega⟩
    rw [Int.toNat_natCast] at *
    go_enter Tryz.func13, Tryz.ntmps13
    go_wp2_with fail
    refine HC2.out.mono ?_
    rintro e w1 ⟨rfl, hb1⟩
    have HZ1 := Lib.hid (HZ0.out.below hb1 HZ0.out.lt)
    have B1 := Lib.hid (B0.out.trans (hb1.mono B0.out.size))
    clear hb1 HC2 B0 HZ0
    go_wp2_with fail
    refine (HLD.out _ B1.out).mono ?_
    rintro e w2 ⟨v, xs, rfl, hp, ho, hks, hb2⟩
    obtain ⟨f1, f2, f3⟩ := HLF.out xs hp
    have hx1 : 1 ≤ xs.length := by
      have h1 : (xs.map LO.plain).length = (loadsP m.live l).length := by rw [hp]
      unfold loadsP at h1
      simp only [List.length_map] at h1
      have := HML.out.1
      omega
    have hown := ho
    have HS := Lib.hid (sums_any w1.heap.size xs n v w2 (by omega) f1 ho (fun x hx => (hks x hx).one) f2 f3 hb2.size)
    have HKS := Lib.hid (HLK.out w2 _ xs hp hks)
    have hone : ∀ x ∈ xs, x.kv.oneCell' = true := fun x hx => (hks x hx).one
    rcases hown with ⟨-, h0, -⟩ | hown
    · omega
    obtain ⟨g, cap, rfl, -, -, -, hrow⟩ := own_some hown hx1
    have B2 := Lib.hid (B1.out.trans (hb2.mono B1.out.size))
    have HROW := Lib.hid hrow
    have HZ2 := Lib.hid (HZ1.out.below hb2 HZ1.out.lt)
    have HP := Lib.hid hp
    have HF3 := Lib.hid f3
    have HONE := Lib.hid hone
    clear ho hks hb2 f2 f3 HLD HLF HLK hown hrow hp hone
    go_wp2_with fail
    refine HS.out.mono ?_
    rintro e w3 ⟨⟨v3, rfl, h3⟩, hb3⟩
    obtain ⟨g2, cap2, rfl, -, -, -, hzr⟩ := own_some h3 (by omega)
    have HBL := Lib.hid (srvP_len n (xs.map LO.plain))
    have HBD := Lib.hid (srvP_bound (s := n) (p := xs.map LO.plain) (fun x hx => by
      obtain ⟨y, hy, rfl⟩ := List.mem_map.1 hx
      exact HF3.out y hy) (by simpa using f1))
    rw [← HP.out] at HN1 HN2 HN3 HN4
    generalize srvP n (xs.map LO.plain) = bs at *
    have S3 := Lib.hid (show NX w b B g g2 m xs bs w3 from ⟨B2.out.trans (hb3.mono B2.out.size), HM.out.below (B2.out.trans (hb3.mono B2.out.size)), HROW.out.below hb3, hzr, fun x hx => (HKS.out x hx).below hb3, HZ2.out.below hb3 HZ2.out.lt⟩)
    clear h3 hb3 HS hzr HZ1 HZ2 B1 B2 HROW HKS
    obtain ⟨i, j, -, hi, -, hj, heq⟩ := endsL_of (l := bs) (by rw [HBL.out]; omega)
    have HED := Lib.hid (fun W h => ends_any bs g2 0 cap2 W (by rw [HBL.out]; omega) (by rw [HBL.out]; omega) h)
    have HEVN := Lib.hid (fun W h1 h2 => evens_any xs g 0 cap bs g2 0 cap2 i j W f1 h1 HONE.out h2 hi hj (by rw [HBL.out]; omega) HBD.out)
    rw [HBL.out] at HED HEVN
    rw [heq] at HED HN1 HN2 HN3 HN4
    dsimp only at HED HN1 HN2 HN3 HN4
    have HEVL := Lib.hid (show ∀ a b c, evensP (xs.map LO.plain) bs a b = c → evensP (xs.map LO.plain) bs a b = c from fun _ _ _ h => h)
    clear HEVL heq hi hj
    have HCI : Hid (((i + 1 : Nat) : Int) = (i : Int) + 1 ∧ ((j + 1 : Nat) : Int) = (j : Int) + 1) := Lib.hid ⟨by omega, by omega⟩
    rw [HCI.out.1] at HN1 HN2 HN3 HN4
    go_wp2_with fail
    refine (HED.out _ S3.out.zr).mono ?_
    rintro e w4 ⟨rfl, hb4⟩
    have S4 := Lib.hid (S3.out.next hb4)
    clear hb4 S3 HED
    go_wp2_with fail
    refine (strays_any xs g 0 cap (n : Int) ((i : Int) + 1) _ f1 S4.out.row).mono ?_
    rintro e w5 ⟨he, hb5⟩
    unfold EntR at he
    have HZ5 := Lib.hid (Blk.new w5 44 zeroEn)
    unfold zeroEn at HZ5
    have S5 := Lib.hid (S4.out.next hb5)
    clear hb5 S4
    cases hs : straysP (xs.map LO.plain) n ((i : Int) + 1) with
    | some en =>
      have HE1 := Lib.hid hs
      rw [hs] at he
      dsimp only [Option.getD, Option.isSome] at he
      subst he
      have HRS := Lib.hid (HN1.out en HE1.out)
      clear hs
      go_wp2_with (refine wpList_store_blk rfl 44 (.tmp 16) (.tmp 48) rfl w5.heap.size en.cells.toArray rfl rfl 44 _ HZ5.out rfl (by kernel_rfl) (EN.cells_one _) ?_)
      refine Lib.hid ?_
      intro w6 hz ho
      have HY6 := Lib.hid hz
      have S6 := Lib.hid (S5.out.next ((below_alloc w5 _).trans (ho.to_below (B := w5.heap.size) (by simp) (fun q hq e => by omega))))
      clear hz ho S5 HZ5
      go_wp2_with (first | (refine wpList_load_hid rfl 44 (.tmp 16) rfl w5.heap.size rfl 44 en.cells.toArray HY6.out _ Tryz.underlying44 rfl (by kernel_rfl) ?_) | (refine wpList_store_blk rfl 44 (.tmp 8) (.tmp 51) rfl w.heap.size en.cells.toArray rfl rfl 44 _ S6.out.box rfl (by kernel_rfl) (EN.cells_one _) ?_))
      refine Lib.hid ?_
      go_wp2_with (refine wpList_store_blk rfl 44 (.tmp 8) (.tmp 51) rfl w.heap.size en.cells.toArray rfl rfl 44 _ S6.out.box rfl (by kernel_rfl) (EN.cells_one _) ?_)
      refine Lib.hid ?_
      intro w7 hz ho
      have HZE := Lib.hid hz
      have BE := Lib.hid (S6.out.bel.trans (ho.to_below S6.out.bel.size (fun k hk e => by omega)))
      clear hz ho
      go_wp2_with fail
      refine bodyPost_ret (results_cell_tt rfl _ _ w.heap.size 44 _ (0, 0) _ rfl HZE.out Tryz.underlying44 rfl (by kernel_rfl)) rfl ?_
      refine ⟨?_, BE.out⟩
      unfold NextR
      rw [HH.out, if_pos rfl, HRS.out]
      rfl
    | none =>
    have HE1 := Lib.hid hs
    rw [hs] at he
    dsimp only [Option.getD, Option.isSome] at he
    subst he
    clear hs
    go_wp2_with (refine wpList_store_blk rfl 44 (.tmp 16) (.tmp 48) rfl w5.heap.size EN.zero.cells.toArray rfl rfl 44 _ HZ5.out rfl (by kernel_rfl) (EN.cells_one _) ?_)
    refine Lib.hid ?_
    intro w6 hz ho
    have HY6 := Lib.hid hz
    have S6 := Lib.hid (S5.out.next ((below_alloc w5 _).trans (ho.to_below (B := w5.heap.size) (by simp) (fun q hq e => by omega))))
    clear hz ho S5 HZ5
    go_wp2_with fail
    refine (cuts_any b B m xs g 0 cap most ((i : Int) + 1) _ S6.out.mp HEV.out f1 S6.out.row S6.out.ks).mono ?_
    rintro e w7 ⟨he, hb7⟩
    unfold EntR at he
    have HZ7 := Lib.hid (Blk.new w7 44 zeroEn)
    unfold zeroEn at HZ7
    have S7 := Lib.hid (S6.out.next hb7)
    clear hb7 S6
    cases hs : cutsP m.evs (xs.map LO.plain) most ((i : Int) + 1) with
    | some en =>
      have HE2 := Lib.hid hs
      rw [hs] at he
      dsimp only [Option.getD, Option.isSome] at he
      subst he
      have HRS := Lib.hid (HN2.out en HE1.out HE2.out)
      clear hs
      go_wp2_with (refine wpList_store_blk rfl 44 (.tmp 18) (.tmp 58) rfl w7.heap.size en.cells.toArray rfl rfl 44 _ HZ7.out rfl (by kernel_rfl) (EN.cells_one _) ?_)
      refine Lib.hid ?_
      intro w8 hz ho
      have HY8 := Lib.hid hz
      have S8 := Lib.hid (S7.out.next ((below_alloc w7 _).trans (ho.to_below (B := w7.heap.size) (by simp) (fun q hq e => by omega))))
      clear hz ho S7 HZ7
      go_wp2_with (first | (refine wpList_load_hid rfl 44 (.tmp 18) rfl w7.heap.size rfl 44 en.cells.toArray HY8.out _ Tryz.underlying44 rfl (by kernel_rfl) ?_) | (refine wpList_store_blk rfl 44 (.tmp 8) (.tmp 61) rfl w.heap.size en.cells.toArray rfl rfl 44 _ S8.out.box rfl (by kernel_rfl) (EN.cells_one _) ?_))
      refine Lib.hid ?_
      go_wp2_with (refine wpList_store_blk rfl 44 (.tmp 8) (.tmp 61) rfl w.heap.size en.cells.toArray rfl rfl 44 _ S8.out.box rfl (by kernel_rfl) (EN.cells_one _) ?_)
      refine Lib.hid ?_
      intro w9 hz ho
      have HZE := Lib.hid hz
      have BE := Lib.hid (S8.out.bel.trans (ho.to_below S8.out.bel.size (fun k hk e => by omega)))
      clear hz ho
      go_wp2_with fail
      refine bodyPost_ret (results_cell_tt rfl _ _ w.heap.size 44 _ (0, 0) _ rfl HZE.out Tryz.underlying44 rfl (by kernel_rfl)) rfl ?_
      refine ⟨?_, BE.out⟩
      unfold NextR
      rw [HH.out, if_pos rfl, HRS.out]
      rfl
    | none =>
    have HE2 := Lib.hid hs
    rw [hs] at he
    dsimp only [Option.getD, Option.isSome] at he
    subst he
    clear hs
    go_wp2_with (refine wpList_store_blk rfl 44 (.tmp 18) (.tmp 58) rfl w7.heap.size EN.zero.cells.toArray rfl rfl 44 _ HZ7.out rfl (by kernel_rfl) (EN.cells_one _) ?_)
    refine Lib.hid ?_
    intro w8 hz ho
    have HY8 := Lib.hid hz
    have S8 := Lib.hid (S7.out.next ((below_alloc w7 _).trans (ho.to_below (B := w7.heap.size) (by simp) (fun q hq e => by omega))))
    clear hz ho S7 HZ7
    go_wp2_with fail
    refine (HEVN.out _ S8.out.row S8.out.zr).mono ?_
    rintro e w9 ⟨he, hb9⟩
    unfold EntR at he
    have HZ9 := Lib.hid (Blk.new w9 44 zeroEn)
    unfold zeroEn at HZ9
    have S9 := Lib.hid (S8.out.next hb9)
    clear hb9 S8
    cases hs : evensP (xs.map LO.plain) bs (i + 1) (j + 1) with
    | some en =>
      have HE3 := Lib.hid hs
      rw [hs] at he
      dsimp only [Option.getD, Option.isSome] at he
      subst he
      have HRS := Lib.hid (HN3.out en HE1.out HE2.out HE3.out)
      clear hs
      go_wp2_with (refine wpList_store_blk rfl 44 (.tmp 20) (.tmp 68) rfl w9.heap.size en.cells.toArray rfl rfl 44 _ HZ9.out rfl (by kernel_rfl) (EN.cells_one _) ?_)
      refine Lib.hid ?_
      intro w10 hz ho
      have HY10 := Lib.hid hz
      have S10 := Lib.hid (S9.out.next ((below_alloc w9 _).trans (ho.to_below (B := w9.heap.size) (by simp) (fun q hq e => by omega))))
      clear hz ho S9 HZ9
      go_wp2_with (first | (refine wpList_load_hid rfl 44 (.tmp 20) rfl w9.heap.size rfl 44 en.cells.toArray HY10.out _ Tryz.underlying44 rfl (by kernel_rfl) ?_) | (refine wpList_store_blk rfl 44 (.tmp 8) (.tmp 71) rfl w.heap.size en.cells.toArray rfl rfl 44 _ S10.out.box rfl (by kernel_rfl) (EN.cells_one _) ?_))
      refine Lib.hid ?_
      go_wp2_with (refine wpList_store_blk rfl 44 (.tmp 8) (.tmp 71) rfl w.heap.size en.cells.toArray rfl rfl 44 _ S10.out.box rfl (by kernel_rfl) (EN.cells_one _) ?_)
      refine Lib.hid ?_
      intro w11 hz ho
      have HZE := Lib.hid hz
      have BE := Lib.hid (S10.out.bel.trans (ho.to_below S10.out.bel.size (fun k hk e => by omega)))
      clear hz ho
      go_wp2_with fail
      refine bodyPost_ret (results_cell_tt rfl _ _ w.heap.size 44 _ (0, 0) _ rfl HZE.out Tryz.underlying44 rfl (by kernel_rfl)) rfl ?_
      refine ⟨?_, BE.out⟩
      unfold NextR
      rw [HH.out, if_pos rfl, HRS.out]
      rfl
    | none =>
    have HE3 := Lib.hid hs
    rw [hs] at he
    dsimp only [Option.getD, Option.isSome] at he
    subst he
    clear hs
    go_wp2_with (refine wpList_store_blk rfl 44 (.tmp 20) (.tmp 68) rfl w9.heap.size EN.zero.cells.toArray rfl rfl 44 _ HZ9.out rfl (by kernel_rfl) (EN.cells_one _) ?_)
    refine Lib.hid ?_
    intro w10 hz ho
    have HY10 := Lib.hid hz
    have S10 := Lib.hid (S9.out.next ((below_alloc w9 _).trans (ho.to_below (B := w9.heap.size) (by simp) (fun q hq e => by omega))))
    clear hz ho S9 HZ9
    go_wp2_with fail
    refine (joins_any xs g 0 cap most _ f1 S10.out.row HF3.out).mono ?_
    rintro e w11 ⟨he, hb11⟩
    unfold EntR at he
    have HZ11 := Lib.hid (Blk.new w11 44 zeroEn)
    unfold zeroEn at HZ11
    have S11 := Lib.hid (S10.out.next hb11)
    clear hb11 S10
    subst he
    have HRS := Lib.hid (HN4.out HE1.out HE2.out HE3.out)
    clear HN1 HN2 HN3 HN4
    have hs := HRS
    generalize joinsP (xs.map LO.plain) most = oo at *
    clear hs
    go_wp2_with (refine wpList_store_blk rfl 44 (.tmp 22) (.tmp 76) rfl w11.heap.size (oo.getD EN.zero).cells.toArray rfl rfl 44 _ HZ11.out rfl (by kernel_rfl) (EN.cells_one _) ?_)
    refine Lib.hid ?_
    intro w12 hz ho
    have HY12 := Lib.hid hz
    have S12 := Lib.hid (S11.out.next ((below_alloc w11 _).trans (ho.to_below (B := w11.heap.size) (by simp) (fun q hq e => by omega))))
    clear hz ho S11 HZ11
    go_wp2_with (first | (refine wpList_load_hid rfl 44 (.tmp 22) rfl w11.heap.size rfl 44 (oo.getD EN.zero).cells.toArray HY12.out _ Tryz.underlying44 rfl (by kernel_rfl) ?_) | (refine wpList_store_blk rfl 44 (.tmp 8) (.tmp 78) rfl w.heap.size (oo.getD EN.zero).cells.toArray rfl rfl 44 _ S12.out.box rfl (by kernel_rfl) (EN.cells_one _) ?_))
    refine Lib.hid ?_
    go_wp2_with (refine wpList_store_blk rfl 44 (.tmp 8) (.tmp 78) rfl w.heap.size (oo.getD EN.zero).cells.toArray rfl rfl 44 _ S12.out.box rfl (by kernel_rfl) (EN.cells_one _) ?_)
    refine Lib.hid ?_
    intro w13 hz ho
    have HZE := Lib.hid hz
    have BE := Lib.hid (S12.out.bel.trans (ho.to_below S12.out.bel.size (fun k hk e => by omega)))
    clear hz ho
    go_wp2_with fail
    refine bodyPost_ret (results_cell_tt rfl _ _ w.heap.size 44 _ (0, 0) _ rfl HZE.out Tryz.underlying44 rfl (by kernel_rfl)) rfl ?_
    refine ⟨?_, BE.out⟩
    unfold NextR
    rw [HH.out, if_pos rfl, HRS.out]
    rfl
end Go.Proofs.YthjmfcdhpdiehaaGreatDoor

namespace Go.Proofs.YthjmfcdhpdiehaaGreatDoor
open Go.RowKit Utf
set_option maxRecDepth 100000
set_option linter.unusedSimpArgs false
set_option linter.unusedVariables false

/-- An entry that was planned has no lists, and no long key. -/
def EN.plain (e : EN) : Prop := e.ao = none ∧ e.no = 0 ∧ e.nd = 0 ∧ e.key.size ≤ 1000000
theorem ldAt_size {ks : List LD} (h : LdOk ks) (i : Nat) : (ldAt ks i).key.size ≤ 1000000 := by
  unfold ldAt
  rw [List.getD_eq_getElem?_getD]
  cases hi : ks[i]? with
  | none => exact Nat.zero_le _
  | some x => exact h x (List.mem_of_getElem? hi)
theorem plAt_keys {live : List Sh} {l : List LD} (h : LdOk l) (i : Nat) : LdOk (plAt (loadsP live l) i).2 := by
  unfold plAt
  rw [List.getD_eq_getElem?_getD]
  cases hi : (loadsP live l)[i]? with
  | none => exact fun x hx => by cases hx
  | some x =>
    obtain ⟨s, hs, rfl⟩ := List.mem_map.1 (List.mem_of_getElem? hi)
    exact fun y hy => h y (List.mem_filter.1 hy).1
theorem move_plain (a b : Int) : (moveE a b).plain := ⟨rfl, rfl, rfl, Nat.zero_le _⟩
theorem next_plain {m : PM} {l : List LD} {s : Nat} {most : Int} {e : EN} (hk : LdOk l) (h : nextP m l s most = some e) : e.plain := by
  unfold nextP at h
  cases h1 : straysP (loadsP m.live l) s ((endsL (srvP s (loadsP m.live l))).1 : Nat) with
  | some e1 =>
    rw [h1] at h
    cases h
    unfold straysP at h1
    obtain ⟨i, -, rfl⟩ := Option.map_eq_some_iff.1 h1
    exact move_plain _ _
  | none =>
    rw [h1] at h
    dsimp only at h
    cases h2 : cutsP m.evs (loadsP m.live l) most ((endsL (srvP s (loadsP m.live l))).1 : Nat) with
    | some e2 =>
      rw [h2] at h
      cases h
      unfold cutsP at h2
      cases hb : bestN (fun _ => true) (loadsP m.live l) with
      | none => rw [hb] at h2; cases h2
      | some i =>
        rw [hb] at h2
        dsimp only at h2
        split at h2
        · cases h2
        · split at h2
          · cases h2
          · split at h2
            · cases h2
            · cases h2
              exact ⟨rfl, rfl, rfl, ldAt_size (plAt_keys hk i) _⟩
    | none =>
      rw [h2] at h
      dsimp only at h
      cases h3 : evensP (loadsP m.live l) (srvP s (loadsP m.live l)) (endsL (srvP s (loadsP m.live l))).1 (endsL (srvP s (loadsP m.live l))).2 with
      | some e3 =>
        rw [h3] at h
        cases h
        unfold evensP at h3
        obtain ⟨i, -, rfl⟩ := Option.map_eq_some_iff.1 h3
        exact move_plain _ _
      | none =>
        rw [h3] at h
        dsimp only at h
        unfold joinsP at h
        obtain ⟨i, -, rfl⟩ := Option.map_eq_some_iff.1 h
        exact ⟨rfl, rfl, rfl, Nat.zero_le _⟩
def enRow (l : List EN) : List Value := l.flatMap EN.cells
theorem enRow_app (l : List EN) (e : EN) : enRow (l ++ [e]) = enRow l ++ e.cells := by simp [enRow]
theorem Tryz.infoEn : (Tryz.prog.info? 44).map (fun i => (i.zero, i.size, i.bytes)) = some (some (.agg #[.int .i64 0, .int .i64 0, .int .i64 0, .int .i64 0, .int .i64 0, .int .i64 0, .slice none 0 0, .string ⟨#[]⟩, .int .i64 0, .int .i64 0, .int .i64 0, .slice none 0 0]), 12, 136) := by kernel_rfl
theorem OwnE.chg {T : TypeId → Prop} {B B' : Nat} {w w' : World} {e : TypeId} {sz : Nat} {v : Value} {n : Nat} {xs : List Value} (h : OwnE w B' e sz v n xs) (hc : Chg T B w w') (hs : ¬ T e) : OwnE w' B' e sz v n xs := by
  rcases h with h | h
  · exact .inl h
  · exact .inr (own_chg h hc hs)
theorem ownE_ty {w : World} {B sz : Nat} {e : TypeId} {v : Value} {n : Nat} {xs : List Value} (h : OwnE w B e sz v n xs) {k : Nat} (hk : ownB v = some k) : TyS (fun t => t = e) B w k := by
  rcases h with ⟨h | ⟨g, h⟩, -⟩ | h
  · rw [h] at hk; cases hk
  · rw [h] at hk; simp [ownB] at hk
  · have hk2 := ownB_own hk
    rcases h.2 with ⟨rfl, -⟩ | ⟨g, cap, cur, rfl, hB, hg, -⟩
    · cases hk2
    · obtain rfl : g = k := by simpa [Value.ownBlock] using hk2
      obtain ⟨cur', hc⟩ := own_kind h
      exact ⟨hB, _, _, _, hc, rfl⟩
/-- What Plan answers. -/
def PlanR (ea : Nat → Addr) (B c : Nat) (o : List EN × PM) (e : Ending) (w' : World) : Prop :=
  if c = 0 then ∃ v b', e = .returned (.tuple #[v, .pointer (some ⟨b', 0, none⟩), .nilIface]) ∧ OwnE w' B 44 12 v o.1.length (enRow o.1) ∧ MapAt w' B b' o.2
  else e = .returned (.tuple #[.slice none 0 0, .pointer none, errOf ea c])
theorem planS_none {l : List LD} {s : Nat} {most : Int} {k : Nat} {m : PM} {out : List EN} (h : nextP m l s most = none) : planS l s most k m out = (out, m) := by
  cases k with
  | zero => rfl
  | succ k =>
    unfold planS
    rw [h]
theorem planS_some {l : List LD} {s : Nat} {most : Int} {k : Nat} {m : PM} {out : List EN} {e : EN} (h : nextP m l s most = some e) (hk : out.length < k) : planS l s most (k - out.length) m out = planS l s most (k - (out ++ [e]).length) (applyP m e (out.length : Nat)).2 (out ++ [e]) := by
  have : k - out.length = (k - (out ++ [e]).length) + 1 := by simp; omega
  rw [this]
  conv => lhs; unfold planS
  rw [h]
/-- How the loop stands. -/
structure PL (w : World) (b2 : Nat) (mk : PM) (out : List EN) (v : Value) (W : World) : Prop where
  bel : Below w.heap.size w W
  mp : MapAt W w.heap.size b2 mk
  out : OwnE W w.heap.size 44 12 v out.length (enRow out)
theorem PL.next {w W W' : World} {b2 : Nat} {mk : PM} {out : List EN} {v : Value} (h : PL w b2 mk out v W) (hb : Below W.heap.size W W') : PL w b2 mk out v W' :=
  ⟨h.bel.trans (hb.mono h.bel.size), h.mp.below hb, h.out.below hb⟩
theorem PL.chg {w W W' : World} {b2 : Nat} {mk mk' : PM} {out : List EN} {v : Value} (h : PL w b2 mk out v W) (hm : MapAt W' w.heap.size b2 mk') (hc : Chg PT w.heap.size W W') : PL w b2 mk' out v W' :=
  ⟨h.bel.trans (hc.below h.bel.size), hm, h.out.chg hc (by unfold PT; decide)⟩
def lenV : Value → Nat
  | .slice _ n _ => n
  | _ => 0

set_option maxHeartbeats 4000000 in
theorem plan_any (ea : Nat → Addr) (b B : Nat) (m : PM) (l : List LD) (lo : Option Addr) (lc : Nat) (s most : Int) (w : World) (hm : MapAt w B b m) (hn : l.length ≤ 1000) (hr : RowAt w lo (ldRow l)) (he : BErr w ea) (hea : ∀ n, (ea n).block < w.heap.size) (hk : LdOk l) (hok : PMok m 8000) :
    Calls Tryz.prog 10 #[.pointer (some ⟨b, 0, none⟩), .slice lo l.length lc, .int .i64 s, .int .i64 most] w fun e w' => PlanR ea w.heap.size (checkN l s most) (planS l s.toNat most 24 m []) e w' ∧ Below w.heap.size w w' := by
  have hq : ∀ (a : Addr) (w : World), (Op.equal 34 (.iface 184 (.pointer (some a))) .nilIface).run Tryz.prog w = .ok false w := fun a w => by kernel_rfl
  have HCP := Lib.hid (copy_any b B m w hm)
  have HNX := Lib.hid (fun W b2 mk (hb : Below w.heap.size w W) (hm2 : MapAt W w.heap.size b2 mk) (h : PMok mk 9000) => next_any ea b2 w.heap.size mk l lo lc s most W hm2 hn (hr.below hb) (he.below hb) hk h.srv h.ev)
  have HAP := Lib.hid (fun W b2 mk e (t : Int) (hb : Below w.heap.size w W) (hm2 : MapAt W w.heap.size b2 mk) (h : PMok mk 9000) (hp : EN.plain e) => apply_any ea b2 w.heap.size mk e t W hm2 (he.below hb) (EN.zero_at e hp.1 hp.2.1 hp.2.2.1 hp.2.2.2 W) hea h.live h.evs hb.size)
  have HPL := Lib.hid (fun mk e h => next_plain (m := mk) (l := l) (s := s.toNat) (most := most) (e := e) hk h)
  have HOK := Lib.hid hok
  have HPN := Lib.hid (fun k mk out h => planS_none (l := l) (s := s.toNat) (most := most) (k := k) (m := mk) (out := out) h)
  have HPS := Lib.hid (fun k mk out e h hl => planS_some (l := l) (s := s.toNat) (most := most) (k := k) (m := mk) (out := out) (e := e) h hl)
  have HCC := checkN_cases l s most
  obtain ⟨i0, hinf, hz0, hz1, hz2⟩ := info_parts Tryz.infoEn
  have HI := Lib.hid (And.intro hinf (And.intro hz0 (And.intro hz1 hz2)))
  clear hm hr he hea hk hok hinf hz0 hz1 hz2
  have HCC2 : Hid (checkN l s most = 4 ∨ checkN l s most = 1 ∨ checkN l s most = 0) := Lib.hid (by rcases HCC with h | h | h <;> simp [h])
  clear HCC
  generalize s.toNat = sn at *
  generalize hc : checkN l s most = c at *
  have HC := Lib.hid hc
  clear hc
  generalize hpf : planS l sn most 24 m [] = fin at *
  have HPF := Lib.hid hpf
  clear hpf
  go_enter Tryz.func10, Tryz.ntmps10
  go_wp2_with fail
  refine HCP.out.mono ?_
  rintro e w1 ⟨b2, rfl, hm1, hb1⟩
  have S1 := Lib.hid (show PL w b2 m [] (.slice none 0 0) w1 from ⟨hb1, hm1, OwnE.nil⟩)
  clear hm1 hb1 HCP
  go_wp2_with fail
  go_loopw [11] (fun v wr => ∃ (out : List EN) (mk : PM), out.length ≤ 24 ∧ (∃ ao cap, v = .slice ao out.length cap) ∧ Hid (PL w b2 mk out v wr) ∧ Hid (PMok mk (8000 + out.length)) ∧ Hid (planS l sn most (24 - out.length) mk out = fin) ∧ Hid (1 ≤ out.length → c = 0)) (fun v _ => 24 - lenV v)
  case atStart => exact ⟨[], m, by decide, ⟨none, 0, rfl⟩, S1, HOK, HPF, Lib.hid (fun h => by cases h)⟩
  case round =>
    obtain ⟨out, mk, hol, ⟨ao, cap, rfl⟩, HB, HK, HF, HCZ⟩ := hrel
    by_cases hlt : out.length < 24
    · have HKK := Lib.hid (HK.out.mono (show 8000 + out.length ≤ 9000 by omega))
      have HNN := Lib.hid (HNX.out wr b2 mk HB.out.bel HB.out.mp HKK.out)
      go_wp2_with fail
      refine HNN.out.mono ?_
      rintro e w3 ⟨hnr, hb3⟩
      have HZ3 := Lib.hid (Blk.new w3 44 zeroEn)
      unfold zeroEn at HZ3
      have S3 := Lib.hid (HB.out.next hb3)
      clear hb3 HNN
      unfold NextR at hnr
      rcases HCC2.out with h4 | h4 | h4
      · rw [if_neg (by omega), h4] at hnr
        have hnr2 : e = .returned (.tuple #[.agg EN.zero.cells.toArray, .bool false, .iface 184 (.pointer (some (ea 3)))]) := hnr
        subst hnr2
        have H4 := Lib.hid h4
        clear hnr h4
        go_wp2_with (refine wpList_store_blk rfl 44 (.tmp 13) (.tmp 27) rfl w3.heap.size EN.zero.cells.toArray rfl rfl 44 _ HZ3.out rfl (by kernel_rfl) (EN.cells_one _) ?_)
        refine Lib.hid ?_
        intro w4 hz ho
        have S4 := Lib.hid (S3.out.next ((below_alloc w3 _).trans (ho.to_below (B := w3.heap.size) (by simp) (fun q hq e => by omega))))
        clear hz ho
        go_wp2_with fail
        go_ret3
        refine ⟨?_, S4.out.bel⟩
        unfold PlanR
        rw [H4.out, if_neg (by decide)]
        rfl
      · rw [if_neg (by omega), h4] at hnr
        have hnr2 : e = .returned (.tuple #[.agg EN.zero.cells.toArray, .bool false, .iface 184 (.pointer (some (ea 0)))]) := hnr
        subst hnr2
        have H4 := Lib.hid h4
        clear hnr h4
        go_wp2_with (refine wpList_store_blk rfl 44 (.tmp 13) (.tmp 27) rfl w3.heap.size EN.zero.cells.toArray rfl rfl 44 _ HZ3.out rfl (by kernel_rfl) (EN.cells_one _) ?_)
        refine Lib.hid ?_
        intro w4 hz ho
        have S4 := Lib.hid (S3.out.next ((below_alloc w3 _).trans (ho.to_below (B := w3.heap.size) (by simp) (fun q hq e => by omega))))
        clear hz ho
        go_wp2_with fail
        go_ret3
        refine ⟨?_, S4.out.bel⟩
        unfold PlanR
        rw [H4.out, if_neg (by decide)]
        rfl
      · rw [if_pos h4] at hnr
        have H4 := Lib.hid h4
        clear h4
        cases hs : nextP mk l sn most with
        | none =>
          have HFF := Lib.hid ((HPN.out (24 - out.length) mk out hs).symm.trans HF.out)
          rw [hs] at hnr
          dsimp only [Option.getD, Option.isSome] at hnr
          subst hnr
          clear hs
          go_wp2_with (refine wpList_store_blk rfl 44 (.tmp 13) (.tmp 27) rfl w3.heap.size EN.zero.cells.toArray rfl rfl 44 _ HZ3.out rfl (by kernel_rfl) (EN.cells_one _) ?_)
          refine Lib.hid ?_
          intro w4 hz ho
          have S4 := Lib.hid (S3.out.next ((below_alloc w3 _).trans (ho.to_below (B := w3.heap.size) (by simp) (fun q hq e => by omega))))
          clear hz ho
          go_wp2_with fail
          go_ret3
          refine ⟨?_, S4.out.bel⟩
          unfold PlanR
          rw [if_pos H4.out, ← HFF.out]
          exact ⟨_, _, rfl, S4.out.out, S4.out.mp⟩
        | some en =>
          have HFS := Lib.hid ((HPS.out 24 mk out en hs hlt).symm.trans HF.out)
          have HPE := Lib.hid (HPL.out mk en hs)
          have HAA := Lib.hid (fun W (t : Int) hb hm2 => HAP.out W b2 mk en t hb hm2 HKK.out HPE.out)
          have HKN := Lib.hid (HK.out.apply en (out.length : Nat))
          rw [hs] at hnr
          dsimp only [Option.getD, Option.isSome] at hnr
          subst hnr
          clear hs
          have HEC := Lib.hid (EN.cells_one en)
          obtain ⟨kd, sh, ot, sv, cl, sq, eo, no, co, ky, up, pt, ps, ad, nd, cd⟩ := en
          dsimp only [EN.cells] at HAA HEC ⊢
          go_wp2_with (refine wpList_store_blk rfl 44 (.tmp 13) (.tmp 27) rfl w3.heap.size #[.int .i64 kd, .int .i64 sh, .int .i64 ot, .int .i64 sv, .int .i64 cl, .int .i64 sq, .slice eo no co, .string ky, .int .i64 up, .int .i64 pt, .int .i64 ps, .slice ad nd cd] rfl rfl 44 _ HZ3.out rfl (by kernel_rfl) HEC.out ?_)
          refine Lib.hid ?_
          intro w4 hz ho
          have HY4 := Lib.hid hz
          have HQ4 : Hid (w3.heap.size < w4.heap.size) := Lib.hid hz.lt
          have S4 := Lib.hid (S3.out.next ((below_alloc w3 _).trans (ho.to_below (B := w3.heap.size) (by simp) (fun q hq e => by omega))))
          have HQ3 : Hid (w.heap.size ≤ w3.heap.size) := Lib.hid S3.out.bel.size
          clear hz ho S3 HZ3
          go_wp2_with (refine wpList_load_hid rfl 44 (.tmp 13) rfl w3.heap.size rfl 44 #[.int .i64 kd, .int .i64 sh, .int .i64 ot, .int .i64 sv, .int .i64 cl, .int .i64 sq, .slice eo no co, .string ky, .int .i64 up, .int .i64 pt, .int .i64 ps, .slice ad nd cd] HY4.out _ Tryz.underlying44 rfl (by kernel_rfl) ?_)
          refine Lib.hid ?_
          go_wp2_with fail
          refine (HAA.out w4 (out.length : Nat) S4.out.bel S4.out.mp).mono ?_
          rintro e w5 ⟨rfl, hm5, hc5⟩
          have S5 := Lib.hid (S4.out.chg hm5 hc5)
          have HY5 := Lib.hid (HY4.out.chg hc5 (.inr (by unfold PT; decide)))
          clear hm5 hc5 S4 HY4
          have HOW := Lib.hid S5.out.out
          have HOB := Lib.hid S5.out.bel
          have HOS := Lib.hid S5.out.bel.size
          go_wp2_with (first | (refine wpList_load_hid rfl 44 (.tmp 13) rfl w3.heap.size rfl 44 #[.int .i64 kd, .int .i64 sh, .int .i64 ot, .int .i64 sv, .int .i64 cl, .int .i64 sq, .slice eo no co, .string ky, .int .i64 up, .int .i64 pt, .int .i64 ps, .slice ad nd cd] HY5.out _ Tryz.underlying44 rfl (by kernel_rfl) ?_; refine Lib.hid ?_) | (refine appE rfl (.tmp 40) (.tmp 42) 32 rfl 44 i0 _ 12 136 Tryz.underlying32 HI.out.1 HI.out.2.1 HI.out.2.2.1 HI.out.2.2.2 rfl (by decide) w.heap.size (.slice ao out.length cap) out.length (enRow out) rfl HOW.out w.heap.size (Nat.le_refl _) HOB.out HOS.out [.int .i64 kd, .int .i64 sh, .int .i64 ot, .int .i64 sv, .int .i64 cl, .int .i64 sq, .slice eo no co, .string ky, .int .i64 up, .int .i64 pt, .int .i64 ps, .slice ad nd cd] 1 rfl (by decide) (by intro u hu; simp only [List.mem_cons, List.mem_nil_iff, or_false] at hu; rcases hu with rfl | rfl | rfl | rfl | rfl | rfl | rfl | rfl | rfl | rfl | rfl | rfl <;> rfl) rfl (by omega) (by decide) ?_))
          refine Lib.hid ?_
          intro v9 w9 h1 h2 h3
          obtain ⟨g9, c9, rfl, -, -, -, -⟩ := own_some h1 (by omega)
          have S9 := Lib.hid (show PL w b2 (applyP mk ⟨kd, sh, ot, sv, cl, sq, eo, no, co, ky, up, pt, ps, ad, nd, cd⟩ (out.length : Nat)).2 (out ++ [⟨kd, sh, ot, sv, cl, sq, eo, no, co, ky, up, pt, ps, ad, nd, cd⟩]) (.slice (some ⟨g9, 0, none⟩) (out.length + 1) c9) w9 from by
            refine ⟨h2, ?_, ?_⟩
            · have hc := (Chg.of_below (T := fun t => t = 44) (B := w.heap.size) (below_alloc w5 _)).grown h3 (fun k hk => ownE_ty (S5.out.out.alloc _) hk)
              exact MapAt.chg S5.out.mp hc (by decide) (by decide) (by decide)
            · rw [enRow_app, List.length_append, List.length_singleton]
              exact .inr h1)
          clear h1 h2 h3
          go_wp2_with fail
          go_roundw
          case rel =>
            refine ⟨out ++ [⟨kd, sh, ot, sv, cl, sq, eo, no, co, ky, up, pt, ps, ad, nd, cd⟩], _, ?_, ⟨some ⟨g9, 0, none⟩, c9, ?_⟩, S9, ?_, HFS, Lib.hid (fun _ => H4.out)⟩
            · rw [List.length_append, List.length_singleton]; omega
            · rw [List.length_append, List.length_singleton]
            · rw [List.length_append, List.length_singleton]
              exact HKN
          case measure => simp [lenV]; omega
    · have HFF := Lib.hid HF.out
      have h24 : out.length = 24 := by omega
      have HFE : Hid ((out, mk) = fin) := Lib.hid (by
        have := HF.out
        rw [h24] at this
        exact this)
      have H4 := Lib.hid (HCZ.out (by omega))
      clear h24
      go_wp2_with fail
      go_ret3
      refine ⟨?_, HB.out.bel⟩
      unfold PlanR
      rw [if_pos H4.out, ← HFE.out]
      exact ⟨_, _, rfl, HB.out.out, HB.out.mp⟩
end Go.Proofs.YthjmfcdhpdiehaaGreatDoor

namespace Go.Proofs.YthjmfcdhpdiehaaGreatDoor
open Go.RowKit Utf
set_option maxRecDepth 100000
set_option linter.unusedSimpArgs false
set_option linter.unusedVariables false

/-- The reference's map: shards that live, in any order; the numbers used; the events. -/
structure RM where
  live : List Sh
  used : List Int
  evs : List Ev
structure RMV (w : World) (B b : Nat) (m : RM) (vl vu ve : Value) : Prop where
  blk : Blk w b 117 #[vl, vu, ve]
  ge : B ≤ b
  live : w.ownsRow B 75 5 vl m.live.length (shRow m.live)
  used : w.ownsRow B 3 1 vu m.used.length (zRow m.used)
  ev : OwnE w B 124 13 ve m.evs.length (evRow m.evs)
  l1 : 1 ≤ m.live.length ∧ 1 ≤ m.used.length
  len : m.live.length ≤ 10000 ∧ m.used.length ≤ 10000 ∧ m.evs.length ≤ 10000
  ok : ∀ s ∈ m.live, s.ok
def RMAt (w : World) (B b : Nat) (m : RM) : Prop := ∃ vl vu ve, RMV w B b m vl vu ve
/-- What kinds of block the reference's map is made of. -/
def RT (t : TypeId) : Prop := t = 117 ∨ t = 75 ∨ t = 124 ∨ t = 3
section
variable {w w' : World} {B B' b : Nat} {m : RM} {vl vu ve : Value}
theorem RMV.below (h : RMV w B b m vl vu ve) (hb : Below w.heap.size w w') : RMV w' B b m vl vu ve :=
  ⟨h.blk.below hb h.blk.lt, h.ge, own_below h.live hb, own_below h.used hb, h.ev.below hb, h.l1, h.len, h.ok⟩
theorem RMV.base (h : RMV w B b m vl vu ve) (hb : B' ≤ B) : RMV w B' b m vl vu ve :=
  ⟨h.blk, Nat.le_trans hb h.ge, own_base h.live hb, own_base h.used hb, h.ev.base hb, h.l1, h.len, h.ok⟩
theorem RMV.chg {T : TypeId → Prop} {D : Nat} (h : RMV w B b m vl vu ve) (hc : Chg T D w w') (h1 : ¬ T 117) (h2 : ¬ T 75) (h3 : ¬ T 124) (h4 : ¬ T 3) : RMV w' B b m vl vu ve :=
  ⟨h.blk.chg hc (.inr h1), h.ge, own_chg h.live hc h2, own_chg h.used hc h4, h.ev.chg hc h3, h.l1, h.len, h.ok⟩
theorem RMAt.below (h : RMAt w B b m) (hb : Below w.heap.size w w') : RMAt w' B b m := by
  obtain ⟨vl, vu, ve, h⟩ := h
  exact ⟨vl, vu, ve, h.below hb⟩
theorem RMAt.base (h : RMAt w B b m) (hb : B' ≤ B) : RMAt w B' b m := by
  obtain ⟨vl, vu, ve, h⟩ := h
  exact ⟨vl, vu, ve, h.base hb⟩
theorem RMAt.chg {T : TypeId → Prop} {D : Nat} (h : RMAt w B b m) (hc : Chg T D w w') (h1 : ¬ T 117) (h2 : ¬ T 75) (h3 : ¬ T 124) (h4 : ¬ T 3) : RMAt w' B b m := by
  obtain ⟨vl, vu, ve, h⟩ := h
  exact ⟨vl, vu, ve, h.chg hc h1 h2 h3 h4⟩
end

/-- How Find's loop stands. -/
structure RF (w : World) (g : Nat) (l : List Sh) (W : World) : Prop where
  bel : Below w.heap.size w W
  row : RowAt W (some ⟨g, 0, none⟩) (shRow l)
theorem RF.next {w W W' : World} {g : Nat} {l : List Sh} (h : RF w g l W) (hb : Below W.heap.size W W') : RF w g l W' :=
  ⟨h.bel.trans (hb.mono h.bel.size), h.row.below hb⟩

set_option maxHeartbeats 2000000 in
theorem rfind_any (b B : Nat) (m : RM) (id : Int) (w : World) (hm : RMAt w B b m) :
    Calls Tryz.prog 59 #[.pointer (some ⟨b, 0, none⟩), .int .i64 id] w fun e w' => e = .returned (.int .i64 (idxI (findN id m.live))) ∧ Below w.heap.size w w' := by
  obtain ⟨vl, vu, ve, hm⟩ := hm
  obtain ⟨g, cap, rfl, -, -, -, hr⟩ := own_some hm.live hm.l1.1
  have hln := hm.len.1
  have c0 : w.cell? ⟨b, 0, none⟩ = some (.slice (some ⟨g, 0, none⟩) m.live.length cap) := hm.blk.cell 0
  have S0 := Lib.hid (show RF w g m.live w from ⟨Below.refl _ _, hr⟩)
  have HN := Lib.hid (fun h => find_none (id := id) (l := m.live) h)
  have HS := Lib.hid (fun k h1 h2 h3 => find_some (id := id) (l := m.live) (k := k) h1 h2 h3)
  clear hm hr
  generalize m.live = l at *
  go_enter Tryz.func59, Tryz.ntmps59
  go_wp2_with fail
  go_loopw [12] (fun i wr => ∃ k : Nat, k ≤ l.length ∧ i = .int .i64 k ∧ Hid (RF w g l wr) ∧ Hid (∀ j (hj : j < l.length), j < k → ¬ l[j].id = id)) (fun i _ => l.length - (intOf i).toNat)
  case atStart => exact ⟨0, Nat.zero_le _, rfl, S0, Lib.hid (fun j _ hj => by omega)⟩
  case round =>
    obtain ⟨k, hk, rfl, HB, HP⟩ := hrel
    by_cases hlt : k < l.length
    · have HRG := Lib.hid (show wr.rangeAt g (k * 5) (l[k]).cells from fun j v hj => by
        have hj5 : j < 5 := by have := (List.getElem?_eq_some_iff.1 hj).1; rw [Sh.cells_len] at this; exact this
        rw [row_sh HB.out.row hlt j hj5, shAt_eq hlt]; exact hj)
      have HSI := Lib.hid (show (Tryz.prog.info? 75).map (·.size) = some (l[k]).cells.length by rw [Sh.cells_len]; kernel_rfl)
      have HZ1 := Lib.hid (Blk.new wr 75 #[.int .i64 0, .int .i64 0, .int .i64 0, .string ⟨#[]⟩, .string ⟨#[]⟩])
      have HSK := Lib.hid (fun h => HS.out k hlt h (fun j hj => HP.out j (by omega) hj))
      have HPK := Lib.hid (fun (h : ¬ l[k].id = id) j (hj : j < l.length) (hjk : j < k + 1) => show ¬ l[j].id = id from by
        by_cases hjj : j < k
        · exact HP.out j hj hjj
        · have : j = k := by omega
          subst this
          exact h)
      generalize l[k] = x at *
      obtain ⟨sid, server, since, lo, hi⟩ := x
      unfold Sh.cells at HRG HSI
      dsimp only at HRG HSI HSK HPK
      go_wp2_with (first | (refine wpList_load_mid rfl 75 (.tmp 15) rfl g (k * 5) rfl _ _ HRG.out Tryz.underlying75 rfl HSI.out ?_) | (refine wpList_store_blk rfl 75 (.tmp 6) (.tmp 16) rfl wr.heap.size #[.int .i64 sid, .int .i64 server, .int .i64 since, .string lo, .string hi] rfl rfl 75 _ HZ1.out rfl (by kernel_rfl) (by kernel_rfl) ?_))
      refine Lib.hid ?_
      intro w2 hz ho
      have S2 := Lib.hid (HB.out.next ((below_alloc wr _).trans (ho.to_below (B := wr.heap.size) (by simp) (fun q hq e => by omega))))
      have d0 : w2.cell? ⟨wr.heap.size, 0, none⟩ = some (.int .i64 sid) := hz.cell 0
      clear hz ho HZ1 HRG
      by_cases hx : sid = id
      · have HRS := Lib.hid (HSK.out hx)
        have hq : (sid == id) = true := by simp [hx]
        clear hx HPK HSK
        go_wp2_with fail
        go_ret
        exact ⟨by rw [HRS.out]; rfl, S2.out.bel⟩
      · have HRS := Lib.hid (HPK.out hx)
        have hq : (sid == id) = false := by simp [hx]
        clear hx HPK HSK
        go_wp2_with fail
        go_roundw
        case rel => exact ⟨k + 1, by omega, by go_num, S2, HRS⟩
        case measure => simp [intOf]; omega
    · obtain rfl : k = l.length := by omega
      have HR := Lib.hid (HN.out (fun j hj => HP.out j hj hj))
      go_wp2_with fail
      go_ret
      exact ⟨by rw [HR.out]; rfl, HB.out.bel⟩

/-- Is a number in a list? -/
def inL (l : List Int) (n : Int) : Bool := l.any (fun x => decide (x = n))
theorem inL_yes {l : List Int} {n : Int} {k : Nat} (hk : k < l.length) (h : l.getD k 0 = n) : inL l n = true := by
  unfold inL
  rw [List.any_eq_true]
  refine ⟨l[k], List.getElem_mem hk, ?_⟩
  rw [List.getD_eq_getElem?_getD, List.getElem?_eq_getElem hk] at h
  simpa using h
theorem inL_no {l : List Int} {n : Int} (h : ∀ j, j < l.length → ¬ l.getD j 0 = n) : inL l n = false := by
  unfold inL
  rw [List.any_eq_false]
  intro x hx
  obtain ⟨j, hj, rfl⟩ := List.getElem_of_mem hx
  have := h j hj
  rw [List.getD_eq_getElem?_getD, List.getElem?_eq_getElem hj] at this
  simpa using this
set_option maxHeartbeats 1000000 in
theorem in_any (l : List Int) (n : Int) (b o c : Nat) (w : World) (hn : l.length ≤ 1000000) (hr : RowAt w (some ⟨b, o, none⟩) (zRow l)) :
    Calls Tryz.prog 86 #[.slice (some ⟨b, o, none⟩) l.length c, .int .i64 n] w fun e w' => e = .returned (.bool (inL l n)) ∧ Below w.heap.size w w' := by
  have HR := Lib.hid hr
  have HY := Lib.hid (fun k h1 h2 => inL_yes (l := l) (n := n) (k := k) h1 h2)
  have HN := Lib.hid (fun h => inL_no (l := l) (n := n) h)
  clear hr
  go_enter Tryz.func86, Tryz.ntmps86
  go_wp2_with fail
  go_loopw [9] (fun i wr => ∃ k : Nat, k ≤ l.length ∧ i = .int .i64 k ∧ wr = w ∧ Hid (∀ j, j < k → ¬ l.getD j 0 = n)) (fun i _ => l.length - (intOf i).toNat)
  case atStart => exact ⟨0, Nat.zero_le _, rfl, rfl, Lib.hid (fun j hj => by omega)⟩
  case round =>
    obtain ⟨k, hk, rfl, rfl, HP⟩ := hrel
    by_cases hlt : k < l.length
    · have c0 := zRow_cell HR.out hlt
      have HYK := Lib.hid (HY.out k hlt)
      have HPK := Lib.hid (fun (h : ¬ l.getD k 0 = n) j (hjk : j < k + 1) => show ¬ l.getD j 0 = n from by
        by_cases hjj : j < k
        · exact HP.out j hjj
        · have : j = k := by omega
          subst this
          exact h)
      generalize l.getD k 0 = x at *
      by_cases hx : x = n
      · have HRS := Lib.hid (HYK.out hx)
        have hq : (x == n) = true := by simp [hx]
        clear hx HPK HYK
        go_wp2_with fail
        go_ret
        exact ⟨by rw [HRS.out]; rfl, Below.refl _ _⟩
      · have HRS := Lib.hid (HPK.out hx)
        have hq : (x == n) = false := by simp [hx]
        clear hx HPK HYK
        go_wp2_with fail
        go_roundw
        case rel => exact ⟨k + 1, by omega, by go_num, trivial, HRS⟩
        case measure => simp [intOf]; omega
    · obtain rfl : k = l.length := by omega
      have HRS := Lib.hid (HN.out (fun j hj => HP.out j hj))
      go_wp2_with fail
      go_ret
      exact ⟨by rw [HRS.out]; rfl, Below.refl _ _⟩
end Go.Proofs.YthjmfcdhpdiehaaGreatDoor
