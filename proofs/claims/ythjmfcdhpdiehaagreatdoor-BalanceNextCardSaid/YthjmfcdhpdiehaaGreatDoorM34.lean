/-
  The reference's Next. (Printed by wip/gen/rnext.py.)
-/
import Derived.Test.YthjmfcdhpdiehaaGreatDoorM33
import Derived.Test.YthjmfcdhpdiehaaGreatDoorM30
namespace Go.Proofs.YthjmfcdhpdiehaaGreatDoor
open Go.RowKit Utf
set_option maxRecDepth 100000
set_option linter.unusedSimpArgs false
set_option linter.unusedVariables false

/-- The first place with the least, the first with the greatest, of the first k. -/
structure LoR (l : List Int) (k a : Nat) : Prop where
  le : ∀ j, j < k → l.getD a 0 ≤ l.getD j 0
  lt : ∀ j, j < a → l.getD a 0 < l.getD j 0
  ix : a < k ∨ a = 0
structure HiR (l : List Int) (k a : Nat) : Prop where
  le : ∀ j, j < k → l.getD j 0 ≤ l.getD a 0
  lt : ∀ j, j < a → l.getD j 0 < l.getD a 0
  ix : a < k ∨ a = 0
theorem LoR.zero (l : List Int) : LoR l 0 0 := ⟨fun j h => by omega, fun j h => by omega, .inr rfl⟩
theorem HiR.zero (l : List Int) : HiR l 0 0 := ⟨fun j h => by omega, fun j h => by omega, .inr rfl⟩
theorem LoR.yes {l : List Int} {k a : Nat} (h : LoR l k a) (hn : l.getD k 0 < l.getD a 0) : LoR l (k + 1) k :=
  ⟨fun j hj => by
    by_cases e : j = k
    · subst e; exact Int.le_refl _
    · have := h.le j (by omega); omega, fun j hj => by have := h.le j hj; omega, .inl (by omega)⟩
theorem LoR.no {l : List Int} {k a : Nat} (h : LoR l k a) (hn : ¬ l.getD k 0 < l.getD a 0) : LoR l (k + 1) a :=
  ⟨fun j hj => by
    by_cases e : j = k
    · subst e; omega
    · exact h.le j (by omega), h.lt, by rcases h.ix with h | h <;> omega⟩
theorem HiR.yes {l : List Int} {k a : Nat} (h : HiR l k a) (hn : l.getD a 0 < l.getD k 0) : HiR l (k + 1) k :=
  ⟨fun j hj => by
    by_cases e : j = k
    · subst e; exact Int.le_refl _
    · have := h.le j (by omega); omega, fun j hj => by have := h.le j hj; omega, .inl (by omega)⟩
theorem HiR.no {l : List Int} {k a : Nat} (h : HiR l k a) (hn : ¬ l.getD a 0 < l.getD k 0) : HiR l (k + 1) a :=
  ⟨fun j hj => by
    by_cases e : j = k
    · subst e; omega
    · exact h.le j (by omega), h.lt, by rcases h.ix with h | h <;> omega⟩
theorem foldMin_le : ∀ (r : List Int) (d : Int), r.foldl min d ≤ d ∧ ∀ x ∈ r, r.foldl min d ≤ x
  | [], d => ⟨Int.le_refl _, fun x h => by cases h⟩
  | y :: r, d => by
    obtain ⟨h1, h2⟩ := foldMin_le r (min d y)
    refine ⟨by rw [List.foldl_cons]; omega, fun x hx => ?_⟩
    rw [List.foldl_cons]
    rcases List.mem_cons.1 hx with rfl | hx
    · omega
    · exact h2 x hx
theorem foldMax_ge : ∀ (r : List Int) (d : Int), d ≤ r.foldl max d ∧ ∀ x ∈ r, x ≤ r.foldl max d
  | [], d => ⟨Int.le_refl _, fun x h => by cases h⟩
  | y :: r, d => by
    obtain ⟨h1, h2⟩ := foldMax_ge r (max d y)
    refine ⟨by rw [List.foldl_cons]; omega, fun x hx => ?_⟩
    rw [List.foldl_cons]
    rcases List.mem_cons.1 hx with rfl | hx
    · omega
    · exact h2 x hx
theorem getD_in {l : List Int} {j : Nat} (hj : j < l.length) : l.getD j 0 ∈ l := by
  rw [List.getD_eq_getElem?_getD, List.getElem?_eq_getElem hj]
  exact List.getElem_mem hj
theorem in_getD {l : List Int} {x : Int} (h : x ∈ l) : ∃ j, j < l.length ∧ l.getD j 0 = x := by
  obtain ⟨j, hj, e⟩ := List.getElem_of_mem h
  refine ⟨j, hj, ?_⟩
  rw [List.getD_eq_getElem?_getD, List.getElem?_eq_getElem hj]
  exact e
theorem in_split {l : List Int} (h1 : 1 ≤ l.length) {x : Int} (h : x ∈ l) : x = l.getD 0 0 ∨ x ∈ l.drop 1 := by
  cases l with
  | nil => cases h
  | cons y r => rcases List.mem_cons.1 h with h | h
                · exact .inl h
                · exact .inr h
theorem ends_of {l : List Int} (h1 : 1 ≤ l.length) {a b : Nat} (ha : LoR l l.length a) (hb : HiR l l.length b) : endsL l = (a + 1, b + 1) := by
  have hal : a < l.length := by rcases ha.ix with h | h <;> omega
  have hbl : b < l.length := by rcases hb.ix with h | h <;> omega
  have hmin : minL l = l.getD a 0 := by
    have hm := fold_in min min_or h1
    obtain ⟨j, hj, e⟩ := in_getD hm
    have h2 := ha.le j hj
    have h3 : minL l ≤ l.getD a 0 := by
      unfold minL
      rcases in_split h1 (getD_in hal) with h | h
      · rw [h]; exact (foldMin_le _ _).1
      · exact (foldMin_le _ _).2 _ h
    have e2 : l.getD j 0 = minL l := e
    omega
  have hmax : maxL l = l.getD b 0 := by
    have hm := fold_in max max_or h1
    obtain ⟨j, hj, e⟩ := in_getD hm
    have h2 := hb.le j hj
    have h3 : l.getD b 0 ≤ maxL l := by
      unfold maxL
      rcases in_split h1 (getD_in hbl) with h | h
      · rw [h]; exact (foldMax_ge _ _).1
      · exact (foldMax_ge _ _).2 _ h
    have e2 : l.getD j 0 = maxL l := e
    omega
  unfold endsL
  rw [idx_some hal hmin (fun j hj => by have := ha.lt j hj; rw [hmin]; omega), idx_some hbl hmax (fun j hj => by have := hb.lt j hj; rw [hmax]; omega)]
  rfl
theorem wrap_in (x : Int) (h : -1000000000000000 ≤ x ∧ x ≤ 1000000000000000) : Value.int .i64 (IntKind.i64.wrap x) = .int .i64 x := by
  rw [Go.IntWalk.i64_in _ (by omega)]
/-- Strays, by shards. -/
theorem strayS_none {s : Int} {xs : List Sh} {l : List LD} (h : ∀ j, j < xs.length → ¬ s < (shAt xs j).server) : strayN s (loadsP xs l) = none := by
  unfold strayN
  rw [List.findIdx?_eq_none_iff]
  intro y hy
  unfold loadsP at hy
  obtain ⟨x, hx, rfl⟩ := List.mem_map.1 hy
  obtain ⟨j, hj, rfl⟩ := List.getElem_of_mem hx
  have := h j hj
  rw [shAt_eq hj] at this
  exact decide_eq_false this
theorem strayS_some {s : Int} {xs : List Sh} {l : List LD} {k : Nat} (hk : k < xs.length) (h : s < (shAt xs k).server) (hn : ∀ j, j < k → ¬ s < (shAt xs j).server) : strayN s (loadsP xs l) = some k := by
  unfold strayN
  rw [List.findIdx?_eq_some_iff_getElem]
  refine ⟨by rw [loads_len]; exact hk, ?_, fun j hj => ?_⟩
  · unfold loadsP
    rw [List.getElem_map]
    rw [shAt_eq hk] at h
    exact decide_eq_true h
  · unfold loadsP
    rw [List.getElem_map]
    have := hn j hj
    rw [shAt_eq (show j < xs.length by omega)] at this
    simpa using this
/-- With the servers' loads. -/
structure CB (w : World) (B b : Nat) (r : RM) (ra lo : Option Addr) (xs : List Sh) (l : List LD) (g : Nat) (bs : List Int) (W : World) : Prop extends CR w B b r ra lo xs l W where
  brow : RowAt W (some ⟨g, 0, none⟩) (zRow bs)
structure CBX (w : World) (B b : Nat) (r : RM) (ra lo : Option Addr) (xs : List Sh) (l : List LD) (g : Nat) (bs : List Int) (q : Nat) (x : Sh) (W : World) : Prop extends CB w B b r ra lo xs l g bs W where
  box : Blk W q 75 x.cells.toArray
section
variable {w W W' : World} {B b q g : Nat} {r : RM} {ra lo : Option Addr} {xs : List Sh} {l : List LD} {x : Sh} {bs : List Int}
theorem CB.next (h : CB w B b r ra lo xs l g bs W) (hb : Below W.heap.size W W') : CB w B b r ra lo xs l g bs W' := ⟨h.toCR.next hb, h.brow.below hb⟩
theorem CBX.next (h : CBX w B b r ra lo xs l g bs q x W) (hb : Below W.heap.size W W') : CBX w B b r ra lo xs l g bs q x W' := ⟨h.toCB.next hb, h.box.below hb h.box.lt⟩
theorem CB.at' (h : CB w B b r ra lo xs l g bs W) {i : Nat} (hi : i < bs.length) : W.cell? ⟨g, i, none⟩ = some (.int .i64 (bs.getD i 0)) := by
  have := zRow_cell h.brow hi
  rw [Nat.zero_add] at this
  exact this
end

set_option maxHeartbeats 16000000 in
theorem rnext_any (b B : Nat) (m : PM) (r : RM) (l : List LD) (lo : Option Addr) (lc s : Nat) (most : Int) (w : World) (hm : RMAt w B b r) (hsm : SameM m r) (hi : Inv m) (hml : 1 ≤ m.live.length ∧ m.live.length ≤ 10000) (hso : SrvOk m) (hok : ∀ x ∈ m.live, x.ok) (hs : 1 ≤ s ∧ s ≤ 4) (hn : l.length ≤ 1000) (hr : RowAt w lo (ldRow l)) (hk : LdOk l) (hno : NumOk l) :
    Calls Tryz.prog 28 #[.pointer (some ⟨b, 0, none⟩), .slice lo l.length lc, .int .i64 (s : Nat), .int .i64 most] w fun e w' => EntR (nextP m l s most) e ∧ Below w.heap.size w w' := by
  have hba := below_alloc w (.cells zeroEn 44)
  have HR := Lib.hid hr
  have HM := Lib.hid hm
  have HEB := Lib.hid (Blk.new w 44 zeroEn)
  have HST := Lib.hid (sort_same hsm hi)
  have HSO := Lib.hid (rsorted_any b B r _ (hm.below hba))
  have HSV := Lib.hid (fun W (hb : Below w.heap.size w W) => rservers_any b B r l lo lc s W (hm.below hb) hs hn (hr.below hb) hk hno (fun x hx => hso x (hsm.perm.mem_iff.1 hx)))
  have HVE := Lib.hid (srv_perm s (hsm.perm.map (fun x => (x, keysP x l))))
  rw [HST.out] at HSO
  rw [show srvP s (loadsP r.live l) = srvP s (loadsP m.live l) from HVE.out] at HSV
  have HU := Lib.hid (fun (k : Nat) (h1 : 1 ≤ k) (h2 : k ≤ 12) => (hsm.used k h1 h2).trans (hi.used k h1 h2))
  have HOK := Lib.hid hok
  have HKF := Lib.hid (fun s W (h1 : s.ok) (h2 : RowAt W lo (ldRow l)) => rkeys_any s l lo lc W h1 hn h2 hk)
  have HCU := Lib.hid (fun ra rc server W h1 h2 h3 => rcut_any b B r m.evs m.live l ra lo rc lc most server W h1 HU.out hml hok hn h2 h3 hk hno)
  have HNK := Lib.hid (fun s => show NumOk (keysP s l) from by have := hno.keys s l.length; rw [List.take_length] at this; exact this)
  have HKL := Lib.hid (fun s => show (keysP s l).length ≤ 1000 from Nat.le_trans (keysP_len _ _) hn)
  have HSB := Lib.hid (fun x => show 0 ≤ sumN (keysP x l) ∧ sumN (keysP x l) ≤ 1000000000 from by have h1 := sumN_bound (HNK.out x); have h2 := HKL.out x; omega)
  have HPL := Lib.hid (fun i h => plAt_loads (live := m.live) (l := l) (i := i) h)
  have HBD := Lib.hid (srvP_bound (s := s) (p := loadsP m.live l) (fun x hx => by
    unfold loadsP at hx
    obtain ⟨y, -, rfl⟩ := List.mem_map.1 hx
    exact HSB.out y) (by rw [loads_len]; exact hml.2))
  have HN1 := Lib.hid (fun e h => next_1 (m := m) (l := l) (s := s) (most := most) (e := e) h)
  have HN2 := Lib.hid (fun e h h2 => next_2 (m := m) (l := l) (s := s) (most := most) (e := e) h h2)
  have HN3 := Lib.hid (fun e h h2 h3 => next_3 (m := m) (l := l) (s := s) (most := most) (e := e) h h2 h3)
  have HN4 := Lib.hid (fun h h2 h3 => next_4 (m := m) (l := l) (s := s) (most := most) h h2 h3)
  have HBL := Lib.hid (srvP_len s (loadsP m.live l))
  obtain ⟨hml1, hml2⟩ := hml
  clear hba hm hr hk hno hok hsm hi hso HVE HST HU
  generalize nextP m l s most = nx at *
  generalize m.evs = evs at *
  generalize m.live = xs at *
  generalize srvP s (loadsP xs l) = bs at *
  obtain ⟨hs1, hs4⟩ := hs
  have hbl : bs.length = s := HBL.out
  unfold zeroEn at HSO HEB
  go_enter Tryz.func28, Tryz.ntmps28
  go_wp2_with fail
  refine HSO.out.mono ?_
  rintro e w1 ⟨v1, rfl, h1, hb1⟩
  obtain ⟨ra, rc, rfl, hrow1⟩ := ownE_row h1
  have hbw1 := (below_alloc w (.cells #[.int .i64 0, .int .i64 0, .int .i64 0, .int .i64 0, .int .i64 0, .int .i64 0, .slice none 0 0, .string ⟨#[]⟩, .int .i64 0, .int .i64 0, .int .i64 0, .slice none 0 0] 44)).trans (hb1.mono (below_alloc _ _).size)
  have S1 := Lib.hid (show CR w B b r ra lo xs l w1 from ⟨hbw1, HEB.out.below hb1 HEB.out.lt, HM.out.below hbw1, hrow1, HR.out.below hbw1⟩)
  have HRN := Lib.hid (fun b' o' (e : ra = some ⟨b', o', none⟩) => show w.heap.size < b' from by
    rcases h1 with ⟨-, h0, -⟩ | h1
    · omega
    · obtain ⟨g, cp, hv, hg, -, hcp, -⟩ := own_some h1 hml1
      cases hv
      cases e
      have : w.heap.size < (w.alloc (.cells zeroEn 44)).heap.size := by simp
      exact Nat.lt_of_lt_of_le this hg)
  clear h1 hb1 hrow1 hbw1 HSO HEB
  go_wp2_with fail
  refine (HSV.out w1 S1.out.bel).mono ?_
  rintro e w2 ⟨v2, rfl, h2, hb2⟩
  obtain ⟨g, gc, rfl, hgB, -, -, hbrow⟩ := own_some h2 hs1
  have S2 := Lib.hid (show CB w B b r ra lo xs l g bs w2 from ⟨S1.out.next hb2, hbrow⟩)
  have HGN : Hid (w.heap.size < g) := Lib.hid (by have := S1.out.ebox.lt; omega)
  clear h2 hb2 hgB hbrow HSV S1
  go_wp2_with fail
  go_loopw [12, 13, 34] (fun av bv i wr => ∃ k a c : Nat, k ≤ s ∧ i = .int .i64 k ∧ av = .int .i64 a ∧ bv = .int .i64 c ∧ a < s ∧ c < s ∧ Hid (LoR bs k a) ∧ Hid (HiR bs k c) ∧ Hid (CB w B b r ra lo xs l g bs wr)) (fun _ _ i _ => s - (intOf i).toNat)
  case atStart => exact ⟨0, 0, 0, Nat.zero_le _, rfl, rfl, rfl, by omega, by omega, Lib.hid (LoR.zero _), Lib.hid (HiR.zero _), S2⟩
  case round =>
    obtain ⟨k, a, c, hk, rfl, rfl, rfl, ha, hc, HLO, HHI, HB⟩ := hrel
    by_cases hlt : k < s
    · have ck := HB.out.at' (i := k) (by omega)
      have ca := HB.out.at' (i := a) (by omega)
      have cc := HB.out.at' (i := c) (by omega)
      have HY1 := Lib.hid (fun h => HLO.out.yes h)
      have HY2 := Lib.hid (fun h => HLO.out.no h)
      have HZ1 := Lib.hid (fun h => HHI.out.yes h)
      have HZ2 := Lib.hid (fun h => HHI.out.no h)
      clear HLO HHI
      generalize bs.getD k 0 = x at *
      generalize bs.getD a 0 = y at *
      generalize bs.getD c 0 = z at *
      by_cases h1 : x < y
      · have H1 := Lib.hid (HY1.out h1)
        by_cases h2 : z < x
        · have H2 := Lib.hid (HZ1.out h2)
          clear HY1 HY2 HZ1 HZ2
          go_wp2_with fail
          go_roundw
          case rel => exact ⟨k + 1, k, k, by omega, by go_num, by go_num, by go_num, by omega, by omega, H1, H2, HB⟩
          case measure => simp [intOf]; omega
        · have H2 := Lib.hid (HZ2.out h2)
          clear HY1 HY2 HZ1 HZ2
          go_wp2_with fail
          go_roundw
          case rel => exact ⟨k + 1, k, c, by omega, by go_num, by go_num, by go_num, by omega, by omega, H1, H2, HB⟩
          case measure => simp [intOf]; omega
      · have H1 := Lib.hid (HY2.out h1)
        by_cases h2 : z < x
        · have H2 := Lib.hid (HZ1.out h2)
          clear HY1 HY2 HZ1 HZ2
          go_wp2_with fail
          go_roundw
          case rel => exact ⟨k + 1, a, k, by omega, by go_num, by go_num, by go_num, by omega, by omega, H1, H2, HB⟩
          case measure => simp [intOf]; omega
        · have H2 := Lib.hid (HZ2.out h2)
          clear HY1 HY2 HZ1 HZ2
          go_wp2_with fail
          go_roundw
          case rel => exact ⟨k + 1, a, c, by omega, by go_num, by go_num, by go_num, by omega, by omega, H1, H2, HB⟩
          case measure => simp [intOf]; omega
    · obtain rfl : s = k := by omega
      have hend : endsL bs = (a + 1, c + 1) := ends_of (by omega) (by rw [hbl]; exact HLO.out) (by rw [hbl]; exact HHI.out)
      rw [hend] at HN1 HN2 HN3 HN4
      dsimp only at HN1 HN2 HN3 HN4
      have SB := Lib.hid HB.out
      clear HLO HHI HB S2 hend
      generalize wr = wa at *
      go_wp2_with fail
      go_loopw [56] (fun i wr => ∃ k : Nat, k ≤ xs.length ∧ i = .int .i64 k ∧ Hid (∀ j, j < k → (shAt xs j).server ≤ ((s : Nat) : Int)) ∧ Hid (CB w B b r ra lo xs l g bs wr)) (fun i _ => xs.length - (intOf i).toNat)
      case atStart => exact ⟨0, Nat.zero_le _, rfl, Lib.hid (fun j h => by omega), SB⟩
      case round =>
        obtain ⟨k, hk, rfl, HP, HB⟩ := hrel
        by_cases hlt : k < xs.length
        · obtain ⟨b', o', rfl, -⟩ := row_flat Sh.cells 5 (by decide) Sh.cells_len HB.out.row k hlt
          have HRG := Lib.hid (row_shc HB.out.row hlt)
          have HSI := Lib.hid (show (Tryz.prog.info? 75).map (·.size) = some (shAt xs k).cells.length by rw [Sh.cells_len]; kernel_rfl)
          have HZ1 := Lib.hid (Blk.new wr 75 #[.int .i64 0, .int .i64 0, .int .i64 0, .string ⟨#[]⟩, .string ⟨#[]⟩])
          have HYS := Lib.hid (fun h => show straysP (loadsP xs l) (s : Nat) ((a + 1 : Nat) : Int) = some (moveE (shAt xs k).id ((a + 1 : Nat) : Int)) from by
            unfold straysP
            rw [strayS_some hlt h (fun j hj => by have := HP.out j hj; omega)]
            show some (moveE (plAt (loadsP xs l) k).1.id _) = _
            rw [HPL.out k hlt])
          have HNS := Lib.hid (fun (h : (shAt xs k).server ≤ ((s : Nat) : Int)) j (hj : j < k + 1) => show (shAt xs j).server ≤ ((s : Nat) : Int) from by
            by_cases hjk : j < k
            · exact HP.out j hjk
            · obtain rfl : j = k := by omega
              exact h)
          generalize shAt xs k = x at *
          obtain ⟨sid, server, since, slo, shi⟩ := x
          unfold Sh.cells at HRG HSI
          dsimp only at HRG HSI HYS HNS
          clear HP
          go_wp2_with (first | (refine wpList_load_mid rfl 75 (.tmp 58) rfl b' (o' + k * 5) rfl _ _ HRG.out Tryz.underlying75 rfl HSI.out ?_) | (refine wpList_store_blk rfl 75 (.tmp 17) (.tmp 59) rfl wr.heap.size #[.int .i64 sid, .int .i64 server, .int .i64 since, .string slo, .string shi] rfl rfl 75 _ HZ1.out rfl (by kernel_rfl) (by kernel_rfl) ?_))
          refine Lib.hid ?_
          intro w4 hz ho
          have S4 := Lib.hid (HB.out.next ((below_alloc wr _).trans (ho.to_below (B := wr.heap.size) (by simp) (fun q hq e => by omega))))
          have c0 : w4.cell? ⟨wr.heap.size, 0, none⟩ = some (.int .i64 sid) := hz.cell 0
          have c1 : w4.cell? ⟨wr.heap.size, 1, none⟩ = some (.int .i64 server) := hz.cell 1
          have HE4 := Lib.hid S4.out.ebox
          unfold zeroEn at HE4
          clear hz ho HZ1 HRG HB
          by_cases hsv : ((s : Nat) : Int) < server
          · have HNX := Lib.hid (HN1.out _ (HYS.out hsv))
            clear HYS HNS
            go_wp2_with (refine wpList_store_blk rfl 44 (.tmp 8) (.tmp 68) rfl w.heap.size #[.int .i64 2, .int .i64 sid, .int .i64 0, .int .i64 ((a : Int) + 1), .int .i64 0, .int .i64 0, .slice none 0 0, .string ⟨#[]⟩, .int .i64 0, .int .i64 0, .int .i64 0, .slice none 0 0] rfl rfl 44 _ HE4.out rfl (by kernel_rfl) (by kernel_rfl) ?_)
            refine Lib.hid ?_
            intro w5 hz ho
            have HZ5 := Lib.hid hz
            have B5 := Lib.hid (S4.out.bel.trans (ho.to_below S4.out.bel.size (fun k hk e => by omega)))
            clear hz ho
            go_wp2_with fail
            refine bodyPost_ret (results_cell_tmp rfl _ _ w.heap.size 44 _ (0, 0) _ rfl HZ5.out Tryz.underlying44 rfl (by kernel_rfl)) rfl ?_
            exact ⟨by rw [HNX.out]; rfl, B5.out⟩
          · have HNX := Lib.hid (HNS.out (by omega))
            clear HYS HNS HE4
            go_wp2_with fail
            go_roundw
            case rel => exact ⟨k + 1, by omega, by go_num, HNX, S4⟩
            case measure => simp [intOf]; omega
        · obtain rfl : k = xs.length := by omega
          have HS1 := Lib.hid (show straysP (loadsP xs l) (s : Nat) ((a + 1 : Nat) : Int) = none from by
            unfold straysP
            rw [strayS_none (fun j hj => by have := HP.out j hj; omega)]
            rfl)
          have SC := Lib.hid HB.out
          clear HP HB SB
          generalize wr = wb at *
          go_wp2_with fail
          rw [show ((a : Int) + 1) = ((a + 1 : Nat) : Int) from rfl]
          refine (HCU.out ra rc ((a + 1 : Nat) : Int) wb SC.out.mp SC.out.row SC.out.lrow).mono ?_
          rintro e w4 ⟨he, hb4⟩
          unfold EntR at he
          subst he
          have S4 := Lib.hid (SC.out.next hb4)
          clear hb4 SC
          cases hcu : cutsP evs (loadsP xs l) most ((a + 1 : Nat) : Int) with
          | some en =>
            have HNX := Lib.hid (HN2.out en HS1.out hcu)
            dsimp only [Option.getD, Option.isSome]
            obtain ⟨kd, sh, ot, sv, cl, sq, eo, no, co, ky, up, pt, ps, ad, nd, cd⟩ := en
            unfold EN.cells
            dsimp only
            have HZ2 := Lib.hid (Blk.new w4 44 zeroEn)
            unfold zeroEn at HZ2
            clear hcu
            go_wp2_with (refine wpList_store_blk rfl 44 (.tmp 18) (.tmp 78) rfl w4.heap.size #[.int .i64 kd, .int .i64 sh, .int .i64 ot, .int .i64 sv, .int .i64 cl, .int .i64 sq, .slice eo no co, .string ky, .int .i64 up, .int .i64 pt, .int .i64 ps, .slice ad nd cd] rfl rfl 44 _ HZ2.out rfl (by kernel_rfl) (by kernel_rfl) ?_)
            refine Lib.hid ?_
            intro w5 hz ho
            have HZ5 := Lib.hid hz
            have S5 := Lib.hid (S4.out.next ((below_alloc w4 _).trans (ho.to_below (B := w4.heap.size) (by simp) (fun q hq e => by omega))))
            have HE5 := Lib.hid S5.out.ebox
            unfold zeroEn at HE5
            clear hz ho HZ2 S4
            go_wp2_with (first | (refine wpList_load_hid rfl 44 (.tmp 18) rfl w4.heap.size rfl 44 #[.int .i64 kd, .int .i64 sh, .int .i64 ot, .int .i64 sv, .int .i64 cl, .int .i64 sq, .slice eo no co, .string ky, .int .i64 up, .int .i64 pt, .int .i64 ps, .slice ad nd cd] HZ5.out _ Tryz.underlying44 rfl (by kernel_rfl) ?_; refine Lib.hid ?_) | (refine wpList_store_blk rfl 44 (.tmp 8) (.tmp 81) rfl w.heap.size #[.int .i64 kd, .int .i64 sh, .int .i64 ot, .int .i64 sv, .int .i64 cl, .int .i64 sq, .slice eo no co, .string ky, .int .i64 up, .int .i64 pt, .int .i64 ps, .slice ad nd cd] rfl rfl 44 _ HE5.out rfl (by kernel_rfl) (by kernel_rfl) ?_))
            refine Lib.hid ?_
            intro w6 hz ho
            have HZ6 := Lib.hid hz
            have B6 := Lib.hid (S5.out.bel.trans (ho.to_below S5.out.bel.size (fun k hk e => by omega)))
            clear hz ho
            go_wp2_with fail
            refine bodyPost_ret (results_cell_tmp rfl _ _ w.heap.size 44 _ (0, 0) _ rfl HZ6.out Tryz.underlying44 rfl (by kernel_rfl)) rfl ?_
            exact ⟨by rw [HNX.out]; rfl, B6.out⟩
          | none =>
            have HS2 := Lib.hid hcu
            dsimp only [Option.getD, Option.isSome]
            unfold EN.zero EN.cells
            dsimp only
            have HZ2 := Lib.hid (Blk.new w4 44 zeroEn)
            unfold zeroEn at HZ2
            clear hcu
            go_wp2_with (refine wpList_store_blk rfl 44 (.tmp 18) (.tmp 78) rfl w4.heap.size #[.int .i64 0, .int .i64 0, .int .i64 0, .int .i64 0, .int .i64 0, .int .i64 0, .slice none 0 0, .string ⟨#[]⟩, .int .i64 0, .int .i64 0, .int .i64 0, .slice none 0 0] rfl rfl 44 _ HZ2.out rfl (by kernel_rfl) (by kernel_rfl) ?_)
            refine Lib.hid ?_
            intro w5 hz ho
            have S5 := Lib.hid (S4.out.next ((below_alloc w4 _).trans (ho.to_below (B := w4.heap.size) (by simp) (fun q hq e => by omega))))
            have hby := HBD.out a
            have hbz := HBD.out c
            have HGY := Lib.hid (fun W (h : RowAt W (some ⟨g, 0, none⟩) (zRow bs)) => show W.cell? ⟨g, a * 1, none⟩ = some (.int .i64 (bs.getD a 0)) from by
              have := zRow_cell h (i := a) (by omega)
              rw [Nat.zero_add] at this
              rw [Nat.mul_one]; exact this)
            have HGZ := Lib.hid (fun W (h : RowAt W (some ⟨g, 0, none⟩) (zRow bs)) => show W.cell? ⟨g, c * 1, none⟩ = some (.int .i64 (bs.getD c 0)) from by
              have := zRow_cell h (i := c) (by omega)
              rw [Nat.zero_add] at this
              rw [Nat.mul_one]; exact this)
            have HEV := Lib.hid (show ∀ o, bestN (evenMay ((c + 1 : Nat) : Int) (bs.getD c 0 - bs.getD a 0)) (loadsP xs l) = o → evensP (loadsP xs l) bs (a + 1) (c + 1) = o.map (fun i => moveE (plAt (loadsP xs l) i).1.id ((a + 1 : Nat) : Int)) from fun o h => by
              unfold evensP
              rw [Nat.add_sub_cancel, Nat.add_sub_cancel, h])
            generalize bs.getD a 0 = y at *
            generalize bs.getD c 0 = z at *
            clear hz ho HZ2 S4
            go_wp2_with fail
            go_loopw [20, 84] (fun bv i wr => ∃ k : Nat, k ≤ xs.length ∧ i = .int .i64 k ∧ ((bv = .int .i64 (-1) ∧ Hid (bestTo (evenMay ((c + 1 : Nat) : Int) (z - y)) (loadsP xs l) k = none)) ∨ ∃ q : Nat, bv = .int .i64 q ∧ Hid (bestTo (evenMay ((c + 1 : Nat) : Int) (z - y)) (loadsP xs l) k = some q)) ∧ Hid (CB w B b r ra lo xs l g bs wr)) (fun _ i _ => xs.length - (intOf i).toNat)
            case atStart => exact ⟨0, Nat.zero_le _, rfl, .inl ⟨rfl, Lib.hid rfl⟩, S5⟩
            case round =>
              obtain ⟨k, hk, rfl, HPV, HB⟩ := hrel
              clear S5
              by_cases hlt : k < xs.length
              · obtain ⟨b', o', rfl, -⟩ := row_flat Sh.cells 5 (by decide) Sh.cells_len HB.out.row k hlt
                have HRG := Lib.hid (row_shc HB.out.row hlt)
                have HSI := Lib.hid (show (Tryz.prog.info? 75).map (·.size) = some (shAt xs k).cells.length by rw [Sh.cells_len]; kernel_rfl)
                have HZ1 := Lib.hid (Blk.new wr 75 #[.int .i64 0, .int .i64 0, .int .i64 0, .string ⟨#[]⟩, .string ⟨#[]⟩])
                have HKX := Lib.hid (fun W (h2 : RowAt W lo (ldRow l)) => HKF.out (shAt xs k) W (HOK.out _ (shAt_mem hlt)) h2)
                have HNX := Lib.hid (HNK.out (shAt xs k))
                have HLX := Lib.hid (HKL.out (shAt xs k))
                have HBX := Lib.hid (HSB.out (shAt xs k))
                have HBT := Lib.hid (bestTo_succ (evenMay ((c + 1 : Nat) : Int) (z - y)) (loadsP xs l) k)
                have HNO := Lib.hid (fun best h => bestStep_no (may := evenMay ((c + 1 : Nat) : Int) (z - y)) (p := loadsP xs l) (best := best) (k := k) h)
                have HFI := Lib.hid (fun h => bestStep_first (may := evenMay ((c + 1 : Nat) : Int) (z - y)) (p := loadsP xs l) (k := k) h)
                have HMO := Lib.hid (fun q h h2 => bestStep_more (may := evenMay ((c + 1 : Nat) : Int) (z - y)) (p := loadsP xs l) (k := k) (q := q) h h2)
                have HLE := Lib.hid (fun q h h2 => bestStep_less (may := evenMay ((c + 1 : Nat) : Int) (z - y)) (p := loadsP xs l) (k := k) (q := q) h h2)
                rw [HPL.out k hlt] at HNO HFI HMO HLE
                have HMAY := Lib.hid (show evenMay ((c + 1 : Nat) : Int) (z - y) (shAt xs k, keysP (shAt xs k) l) = (decide ((shAt xs k).server = ((c + 1 : Nat) : Int)) && decide (0 < sumN (keysP (shAt xs k) l)) && decide (sumN (keysP (shAt xs k) l) < z - y)) from rfl)
                rw [HMAY.out] at HNO HFI HMO HLE
                generalize keysP (shAt xs k) l = kx at *
                generalize shAt xs k = x at *
                obtain ⟨sid, server, since, slo, shi⟩ := x
                unfold Sh.cells at HRG HSI HKX
                dsimp only at HRG HSI HKX HNO HFI HMO HLE
                clear HMAY
                go_wp2_with (first | (refine wpList_load_mid rfl 75 (.tmp 87) rfl b' (o' + k * 5) rfl _ _ HRG.out Tryz.underlying75 rfl HSI.out ?_) | (refine wpList_store_blk rfl 75 (.tmp 22) (.tmp 88) rfl wr.heap.size #[.int .i64 sid, .int .i64 server, .int .i64 since, .string slo, .string shi] rfl rfl 75 _ HZ1.out rfl (by kernel_rfl) (by kernel_rfl) ?_))
                refine Lib.hid ?_
                intro w4 hz ho
                have S4 := Lib.hid (show CBX w B b r (some ⟨b', o', none⟩) lo xs l g bs wr.heap.size ⟨sid, server, since, slo, shi⟩ w4 from ⟨HB.out.next ((below_alloc wr _).trans (ho.to_below (B := wr.heap.size) (by simp) (fun q hq e => by omega))), hz⟩)
                have HX4 := Lib.hid (show Blk w4 wr.heap.size 75 #[.int .i64 sid, .int .i64 server, .int .i64 since, .string slo, .string shi] from hz)
                clear hz ho HZ1 HRG HB
                go_wp2_with (refine wpList_load_hid rfl 75 (.tmp 22) rfl wr.heap.size rfl 75 #[.int .i64 sid, .int .i64 server, .int .i64 since, .string slo, .string shi] HX4.out _ Tryz.underlying75 rfl (by kernel_rfl) ?_)
                refine Lib.hid ?_
                go_wp2_with fail
                refine (HKX.out w4 S4.out.lrow).mono ?_
                rintro e w5 ⟨v5, rfl, h5, hb5⟩
                obtain ⟨ka, kc, rfl, hkr⟩ := ownE_row h5
                have HKR := Lib.hid hkr
                have S5 := Lib.hid (S4.out.next hb5)
                clear h5 hb5 hkr S4 HX4
                go_wp2_with fail
                refine (rsum_any kx ka kc w5 HLX.out HKR.out HNX.out).mono ?_
                rintro e w6 ⟨rfl, hb6⟩
                have S6 := Lib.hid (S5.out.next hb6)
                have HWZ := Lib.hid (show -1000000000000000 ≤ z - y ∧ z - y ≤ 1000000000000000 by omega)
                clear hb6 HKR S5 HKX
                by_cases h4 : server = ((c + 1 : Nat) : Int)
                · have H4 := Lib.hid (show (server == ((c : Nat) : Int) + 1) = true by simp [h4])
                  by_cases h7 : 0 < sumN kx
                  · have H7 := Lib.hid (show decide (0 < sumN kx) = true from decide_eq_true h7)
                    by_cases h20 : sumN kx < z - y
                    · have H20 := Lib.hid (show decide (sumN kx < z - y) = true from decide_eq_true h20)
                      have HMY := Lib.hid (show (decide (server = ((c + 1 : Nat) : Int)) && decide (0 < sumN kx) && decide (sumN kx < z - y)) = true by rw [decide_eq_true h4, H7.out, H20.out]; rfl)
                      clear h4 h7 h20 HNO
                      rcases HPV with ⟨rfl, HP⟩ | ⟨q, rfl, HP⟩
                      · have HNW := Lib.hid (show bestTo (evenMay ((c + 1 : Nat) : Int) (z - y)) (loadsP xs l) (k + 1) = some k from HBT.out.trans ((congrArg (fun o => bestStep (evenMay ((c + 1 : Nat) : Int) (z - y)) (loadsP xs l) o k) HP.out).trans (HFI.out HMY.out)))
                        clear HBT HFI HMO HLE HP HMY
                        go_wp2_with fail
                        refine wp_region_class ((CBX w B b r (some ⟨b', o', none⟩) lo xs l g bs wr.heap.size ⟨sid, server, since, slo, shi⟩)) (by kernel_rfl) (by kernel_rfl) (S6.out.next (tame_drewN (Below.refl _ w6) 1)) ?_
                        refine wq_k (.pointer (some ⟨wr.heap.size, 1, none⟩)) (wq_v (.int .i64 server) (fun W hW => run_load1 3 (.tmp 93) (by kernel_rfl) ⟨wr.heap.size, 1, none⟩ (by kernel_rfl) (.int .i64 server) (hW.box.cell 1) _ Tryz.underlying3 rfl) (wq_k (.int .i64 ((c : Nat) : Int)) (wq_v (.int .i64 (((c : Nat) : Int) + 1)) (fun W hW => run_eqv (v := .int .i64 (IntKind.i64.wrap (((c : Nat) : Int) + 1))) (by kernel_rfl) (wrap_big _ (by omega) (by omega))) (wq_v (.bool true) (fun W hW => run_eqv (v := .bool (server == ((c : Nat) : Int) + 1)) (by kernel_rfl) ((by rw [H4.out]))) (wq_k (.bool true) (wq_k (.int .i64 (sumN kx)) (wq_v (.bool true) (fun W hW => run_eqv (v := .bool (decide (0 < sumN kx))) (by kernel_rfl) ((by rw [H7.out]))) ?_)))))))
                        refine wq_k (.bool true) (wq_k (.bool true) (wq_k (.int .i64 (sumN kx)) (wq_k (.slice (some ⟨g, 0, none⟩) s gc) (wq_k (.int .i64 ((c : Nat) : Int)) (wq_v (.pointer (some ⟨g, c * 1, none⟩)) (fun W hW => run_eqv (run_idx 37 (.tmp 104) (.tmp 105) (by kernel_rfl) g 0 s gc c 3 1 (by kernel_rfl) (by kernel_rfl) (by omega) Tryz.underlying37 (by kernel_rfl)) (by rw [Nat.zero_add])) (wq_v (.int .i64 z) (fun W hW => run_load1 3 (.tmp 106) (by kernel_rfl) ⟨g, c * 1, none⟩ (by kernel_rfl) (.int .i64 z) (HGZ.out W hW.brow) _ Tryz.underlying3 rfl) (wq_k (.slice (some ⟨g, 0, none⟩) s gc) ?_)))))))
                        refine wq_k (.int .i64 ((a : Nat) : Int)) (wq_v (.pointer (some ⟨g, a * 1, none⟩)) (fun W hW => run_eqv (run_idx 37 (.tmp 108) (.tmp 109) (by kernel_rfl) g 0 s gc a 3 1 (by kernel_rfl) (by kernel_rfl) (by omega) Tryz.underlying37 (by kernel_rfl)) (by rw [Nat.zero_add])) (wq_v (.int .i64 y) (fun W hW => run_load1 3 (.tmp 110) (by kernel_rfl) ⟨g, a * 1, none⟩ (by kernel_rfl) (.int .i64 y) (HGY.out W hW.brow) _ Tryz.underlying3 rfl) (wq_v (.int .i64 (z - y)) (fun W hW => run_eqv (v := .int .i64 (IntKind.i64.wrap (z - y))) (by kernel_rfl) (wrap_in _ HWZ.out)) (wq_v (.bool true) (fun W hW => run_eqv (v := .bool (decide (sumN kx < z - y))) (by kernel_rfl) ((by rw [H20.out]))) (wq_k (.bool true) (wq_k (.bool true) (wq_k (.int .i64 (-1)) ?_)))))))
                        refine wq_v (.bool true) (fun W hW => run_eqv (v := .bool (decide ((-1 : Int) < 0))) (by kernel_rfl) (rfl)) (wq_k (.bool true) (wq_n (wq_n (wq_n (wq_n (wq_n (wq_n ?_)))))))
                        refine wq_n (wq_n (wq_n (wq_k (.bool true) (wq_k (.bool true) ?_))))
                        refine quiet_end rfl (Lib.hid ?_)
                        refine Lib.hid ?_
                        intro w7 hW
                        have S7 := Lib.hid hW.toCB
                        clear hW
                        dsimp only [Exit.then, Act.put]
                        simp only [List.setIfInBounds_toArray, List.set_cons_succ, List.set_cons_zero]
                        go_wp2_with fail
                        go_roundw
                        case rel => exact ⟨k + 1, by omega, by go_num, .inr ⟨k, by go_num, HNW⟩, S7⟩
                        case measure => simp [intOf]; omega
                      · have hq : q < xs.length := by
                          have := bestTo_lt _ _ _ _ HP.out
                          omega
                        have HRQ := Lib.hid (fun W (h : RowAt W (some ⟨b', o', none⟩) (shRow xs)) => row_shc h hq)
                        have HKQ := Lib.hid (fun W (h2 : RowAt W lo (ldRow l)) => HKF.out (shAt xs q) W (HOK.out _ (shAt_mem hq)) h2)
                        have HNQ := Lib.hid (HNK.out (shAt xs q))
                        have HLQ := Lib.hid (HKL.out (shAt xs q))
                        have HMQ := Lib.hid (HMO.out q HMY.out)
                        have HLEQ := Lib.hid (HLE.out q HMY.out)
                        rw [HPL.out q hq] at HMQ HLEQ
                        generalize keysP (shAt xs q) l = kq at *
                        generalize shAt xs q = xq at *
                        obtain ⟨qid, qserver, qsince, qlo, qhi⟩ := xq
                        unfold Sh.cells at HRQ HKQ
                        dsimp only at HRQ HKQ HMQ HLEQ
                        clear HFI HMO HLE HMY
                        cases hgt : decide (sumN kq < sumN kx) with
                        | false =>
                          have HGT := Lib.hid hgt
                          have HNW := Lib.hid (show bestTo (evenMay ((c + 1 : Nat) : Int) (z - y)) (loadsP xs l) (k + 1) = some q from HBT.out.trans ((congrArg (fun o => bestStep (evenMay ((c + 1 : Nat) : Int) (z - y)) (loadsP xs l) o k) HP.out).trans (HLEQ.out hgt)))
                          clear hgt HBT HP HMQ HLEQ
                          go_wp2_with fail
                          refine wp_region_wb ((CBX w B b r (some ⟨b', o', none⟩) lo xs l g bs wr.heap.size ⟨sid, server, since, slo, shi⟩)) (by kernel_rfl) (S6.out.next (tame_drewN (Below.refl _ w6) 1)) (fun _ _ _ _ _ h => h) ?_
                          intro hS HZQ
                          refine wa_k 0 93 (.pointer (some ⟨wr.heap.size, 1, none⟩)) hS HZQ (wa_v 1 94 (.int .i64 server) hS HZQ (fun W hW => run_load1 3 (.tmp 93) (by kernel_rfl) ⟨wr.heap.size, 1, none⟩ (by kernel_rfl) (.int .i64 server) (hW.box.cell 1) _ Tryz.underlying3 rfl) (wa_k 2 95 (.int .i64 ((c : Nat) : Int)) hS HZQ (wa_v 3 96 (.int .i64 (((c : Nat) : Int) + 1)) hS HZQ (fun W hW => run_eqv (v := .int .i64 (IntKind.i64.wrap (((c : Nat) : Int) + 1))) (by kernel_rfl) (wrap_big _ (by omega) (by omega))) (wa_v 4 97 (.bool true) hS HZQ (fun W hW => run_eqv (v := .bool (server == ((c : Nat) : Int) + 1)) (by kernel_rfl) ((by rw [H4.out]))) (wa_k 5 98 (.bool true) hS HZQ (wa_k 6 99 (.int .i64 (sumN kx)) hS HZQ (wa_v 7 100 (.bool true) hS HZQ (fun W hW => run_eqv (v := .bool (decide (0 < sumN kx))) (by kernel_rfl) ((by rw [H7.out]))) ?_)))))))
                          refine wa_k 8 101 (.bool true) hS HZQ (wa_k 9 102 (.bool true) hS HZQ (wa_k 10 103 (.int .i64 (sumN kx)) hS HZQ (wa_k 11 104 (.slice (some ⟨g, 0, none⟩) s gc) hS HZQ (wa_k 12 105 (.int .i64 ((c : Nat) : Int)) hS HZQ (wa_v 13 106 (.pointer (some ⟨g, c * 1, none⟩)) hS HZQ (fun W hW => run_eqv (run_idx 37 (.tmp 104) (.tmp 105) (by kernel_rfl) g 0 s gc c 3 1 (by kernel_rfl) (by kernel_rfl) (by omega) Tryz.underlying37 (by kernel_rfl)) (by rw [Nat.zero_add])) (wa_v 14 107 (.int .i64 z) hS HZQ (fun W hW => run_load1 3 (.tmp 106) (by kernel_rfl) ⟨g, c * 1, none⟩ (by kernel_rfl) (.int .i64 z) (HGZ.out W hW.brow) _ Tryz.underlying3 rfl) (wa_k 15 108 (.slice (some ⟨g, 0, none⟩) s gc) hS HZQ ?_)))))))
                          refine wa_k 16 109 (.int .i64 ((a : Nat) : Int)) hS HZQ (wa_v 17 110 (.pointer (some ⟨g, a * 1, none⟩)) hS HZQ (fun W hW => run_eqv (run_idx 37 (.tmp 108) (.tmp 109) (by kernel_rfl) g 0 s gc a 3 1 (by kernel_rfl) (by kernel_rfl) (by omega) Tryz.underlying37 (by kernel_rfl)) (by rw [Nat.zero_add])) (wa_v 18 111 (.int .i64 y) hS HZQ (fun W hW => run_load1 3 (.tmp 110) (by kernel_rfl) ⟨g, a * 1, none⟩ (by kernel_rfl) (.int .i64 y) (HGY.out W hW.brow) _ Tryz.underlying3 rfl) (wa_v 19 112 (.int .i64 (z - y)) hS HZQ (fun W hW => run_eqv (v := .int .i64 (IntKind.i64.wrap (z - y))) (by kernel_rfl) (wrap_in _ HWZ.out)) (wa_v 20 113 (.bool true) hS HZQ (fun W hW => run_eqv (v := .bool (decide (sumN kx < z - y))) (by kernel_rfl) ((by rw [H20.out]))) (wa_k 21 114 (.bool true) hS HZQ (wa_k 22 115 (.bool true) hS HZQ (wa_k 23 116 (.int .i64 ((q : Nat) : Int)) hS HZQ ?_)))))))
                          refine wa_v 24 117 (.bool false) hS HZQ (fun W hW => run_eqv (v := .bool (decide (((q : Nat) : Int) < 0))) (by kernel_rfl) ((by rw [decide_eq_false (by omega)]))) (wa_k 25 118 (.bool false) hS HZQ (wa_k 26 119 (.int .i64 (sumN kx)) hS HZQ (wa_k 27 120 (.slice (some ⟨b', o', none⟩) xs.length rc) hS HZQ (wa_k 28 121 (.int .i64 ((q : Nat) : Int)) hS HZQ (wa_v 29 122 (.pointer (some ⟨b', o' + q * 5, none⟩)) hS HZQ (fun W hW => run_eqv (run_idx 73 (.tmp 120) (.tmp 121) (by kernel_rfl) (b') (o') xs.length rc q 75 5 (by kernel_rfl) (by kernel_rfl) (by omega) Tryz.underlying73 (by kernel_rfl)) rfl) (wa_v 30 123 (.agg #[.int .i64 qid, .int .i64 qserver, .int .i64 qsince, .string qlo, .string qhi]) hS HZQ (fun W hW => run_eqv (run_loadN 75 (.tmp 122) (by kernel_rfl) (b') (o' + q * 5) (by kernel_rfl) [.int .i64 qid, .int .i64 qserver, .int .i64 qsince, .string qlo, .string qhi] (HRQ.out W hW.row) _ Tryz.underlying75 rfl (by kernel_rfl)) rfl) (wa_k 31 124 (.slice lo l.length lc) hS HZQ ?_)))))))
                          refine wa_r [32] ?_
                          refine ar_a (some 125) (fun K hK => ?_) ar_nil
                          refine ow_call 54 #[.agg #[.int .i64 qid, .int .i64 qserver, .int .i64 qsince, .string qlo, .string qhi], .slice lo l.length lc] (by kernel_rfl) (fun v w' => OwnE w' _ 109 2 v kq.length (ldRow kq) ∧ Below _ _ w') ((HKQ.out _ hS.lrow).mono fun e' w' h => h) (Lib.hid ?_)
                          rintro v wx ⟨hox, hbx⟩
                          obtain ⟨kqa, kqc, rfl, hkr⟩ := ownE_row hox
                          have HKR := Lib.hid hkr
                          refine hK.out _ _ (hS.next hbx) (fun hS => ?_)
                          clear hK K hbx hox hkr
                          refine wa_r [33] ?_
                          refine ar_a (some 126) (fun K hK => ?_) ar_nil
                          refine ow_call 53 #[.slice kqa kq.length kqc] (by kernel_rfl) (fun v w' => v = .int .i64 (sumN kq) ∧ Below _ _ w') ((rsum_any kq kqa kqc _ HLQ.out HKR.out HNQ.out).mono fun e' w' h => ⟨_, h.1, rfl, h.2⟩) (Lib.hid ?_)
                          rintro v wy ⟨rfl, hby⟩
                          refine hK.out _ _ (hS.next hby) (fun hS => ?_)
                          clear hK K hby HKR
                          refine wa_v 34 127 (.bool false) hS HZQ (fun W hW => run_eqv (v := .bool (decide (sumN kq < sumN kx))) (by kernel_rfl) ((by rw [HGT.out]))) (wa_k 35 128 (.bool false) hS HZQ (wa_k 36 129 (.bool false) hS HZQ ?_))
                          refine wa_done (by kernel_rfl) ?_
                          dsimp only [Exit.then, Act.put]
                          simp only [List.setIfInBounds_toArray, List.set_cons_succ, List.set_cons_zero]
                          have S7 := Lib.hid hS.toCB
                          clear hS
                          go_wp2_with fail
                          go_roundw
                          case rel => exact ⟨k + 1, by omega, by go_num, .inr ⟨q, by go_num, HNW⟩, S7⟩
                          case measure => simp [intOf]; omega
                        | true =>
                          have HGT := Lib.hid hgt
                          have HNW := Lib.hid (show bestTo (evenMay ((c + 1 : Nat) : Int) (z - y)) (loadsP xs l) (k + 1) = some k from HBT.out.trans ((congrArg (fun o => bestStep (evenMay ((c + 1 : Nat) : Int) (z - y)) (loadsP xs l) o k) HP.out).trans (HMQ.out hgt)))
                          clear hgt HBT HP HMQ HLEQ
                          go_wp2_with fail
                          refine wp_region_wb ((CBX w B b r (some ⟨b', o', none⟩) lo xs l g bs wr.heap.size ⟨sid, server, since, slo, shi⟩)) (by kernel_rfl) (S6.out.next (tame_drewN (Below.refl _ w6) 1)) (fun _ _ _ _ _ h => h) ?_
                          intro hS HZQ
                          refine wa_k 0 93 (.pointer (some ⟨wr.heap.size, 1, none⟩)) hS HZQ (wa_v 1 94 (.int .i64 server) hS HZQ (fun W hW => run_load1 3 (.tmp 93) (by kernel_rfl) ⟨wr.heap.size, 1, none⟩ (by kernel_rfl) (.int .i64 server) (hW.box.cell 1) _ Tryz.underlying3 rfl) (wa_k 2 95 (.int .i64 ((c : Nat) : Int)) hS HZQ (wa_v 3 96 (.int .i64 (((c : Nat) : Int) + 1)) hS HZQ (fun W hW => run_eqv (v := .int .i64 (IntKind.i64.wrap (((c : Nat) : Int) + 1))) (by kernel_rfl) (wrap_big _ (by omega) (by omega))) (wa_v 4 97 (.bool true) hS HZQ (fun W hW => run_eqv (v := .bool (server == ((c : Nat) : Int) + 1)) (by kernel_rfl) ((by rw [H4.out]))) (wa_k 5 98 (.bool true) hS HZQ (wa_k 6 99 (.int .i64 (sumN kx)) hS HZQ (wa_v 7 100 (.bool true) hS HZQ (fun W hW => run_eqv (v := .bool (decide (0 < sumN kx))) (by kernel_rfl) ((by rw [H7.out]))) ?_)))))))
                          refine wa_k 8 101 (.bool true) hS HZQ (wa_k 9 102 (.bool true) hS HZQ (wa_k 10 103 (.int .i64 (sumN kx)) hS HZQ (wa_k 11 104 (.slice (some ⟨g, 0, none⟩) s gc) hS HZQ (wa_k 12 105 (.int .i64 ((c : Nat) : Int)) hS HZQ (wa_v 13 106 (.pointer (some ⟨g, c * 1, none⟩)) hS HZQ (fun W hW => run_eqv (run_idx 37 (.tmp 104) (.tmp 105) (by kernel_rfl) g 0 s gc c 3 1 (by kernel_rfl) (by kernel_rfl) (by omega) Tryz.underlying37 (by kernel_rfl)) (by rw [Nat.zero_add])) (wa_v 14 107 (.int .i64 z) hS HZQ (fun W hW => run_load1 3 (.tmp 106) (by kernel_rfl) ⟨g, c * 1, none⟩ (by kernel_rfl) (.int .i64 z) (HGZ.out W hW.brow) _ Tryz.underlying3 rfl) (wa_k 15 108 (.slice (some ⟨g, 0, none⟩) s gc) hS HZQ ?_)))))))
                          refine wa_k 16 109 (.int .i64 ((a : Nat) : Int)) hS HZQ (wa_v 17 110 (.pointer (some ⟨g, a * 1, none⟩)) hS HZQ (fun W hW => run_eqv (run_idx 37 (.tmp 108) (.tmp 109) (by kernel_rfl) g 0 s gc a 3 1 (by kernel_rfl) (by kernel_rfl) (by omega) Tryz.underlying37 (by kernel_rfl)) (by rw [Nat.zero_add])) (wa_v 18 111 (.int .i64 y) hS HZQ (fun W hW => run_load1 3 (.tmp 110) (by kernel_rfl) ⟨g, a * 1, none⟩ (by kernel_rfl) (.int .i64 y) (HGY.out W hW.brow) _ Tryz.underlying3 rfl) (wa_v 19 112 (.int .i64 (z - y)) hS HZQ (fun W hW => run_eqv (v := .int .i64 (IntKind.i64.wrap (z - y))) (by kernel_rfl) (wrap_in _ HWZ.out)) (wa_v 20 113 (.bool true) hS HZQ (fun W hW => run_eqv (v := .bool (decide (sumN kx < z - y))) (by kernel_rfl) ((by rw [H20.out]))) (wa_k 21 114 (.bool true) hS HZQ (wa_k 22 115 (.bool true) hS HZQ (wa_k 23 116 (.int .i64 ((q : Nat) : Int)) hS HZQ ?_)))))))
                          refine wa_v 24 117 (.bool false) hS HZQ (fun W hW => run_eqv (v := .bool (decide (((q : Nat) : Int) < 0))) (by kernel_rfl) ((by rw [decide_eq_false (by omega)]))) (wa_k 25 118 (.bool false) hS HZQ (wa_k 26 119 (.int .i64 (sumN kx)) hS HZQ (wa_k 27 120 (.slice (some ⟨b', o', none⟩) xs.length rc) hS HZQ (wa_k 28 121 (.int .i64 ((q : Nat) : Int)) hS HZQ (wa_v 29 122 (.pointer (some ⟨b', o' + q * 5, none⟩)) hS HZQ (fun W hW => run_eqv (run_idx 73 (.tmp 120) (.tmp 121) (by kernel_rfl) (b') (o') xs.length rc q 75 5 (by kernel_rfl) (by kernel_rfl) (by omega) Tryz.underlying73 (by kernel_rfl)) rfl) (wa_v 30 123 (.agg #[.int .i64 qid, .int .i64 qserver, .int .i64 qsince, .string qlo, .string qhi]) hS HZQ (fun W hW => run_eqv (run_loadN 75 (.tmp 122) (by kernel_rfl) (b') (o' + q * 5) (by kernel_rfl) [.int .i64 qid, .int .i64 qserver, .int .i64 qsince, .string qlo, .string qhi] (HRQ.out W hW.row) _ Tryz.underlying75 rfl (by kernel_rfl)) rfl) (wa_k 31 124 (.slice lo l.length lc) hS HZQ ?_)))))))
                          refine wa_r [32] ?_
                          refine ar_a (some 125) (fun K hK => ?_) ar_nil
                          refine ow_call 54 #[.agg #[.int .i64 qid, .int .i64 qserver, .int .i64 qsince, .string qlo, .string qhi], .slice lo l.length lc] (by kernel_rfl) (fun v w' => OwnE w' _ 109 2 v kq.length (ldRow kq) ∧ Below _ _ w') ((HKQ.out _ hS.lrow).mono fun e' w' h => h) (Lib.hid ?_)
                          rintro v wx ⟨hox, hbx⟩
                          obtain ⟨kqa, kqc, rfl, hkr⟩ := ownE_row hox
                          have HKR := Lib.hid hkr
                          refine hK.out _ _ (hS.next hbx) (fun hS => ?_)
                          clear hK K hbx hox hkr
                          refine wa_r [33] ?_
                          refine ar_a (some 126) (fun K hK => ?_) ar_nil
                          refine ow_call 53 #[.slice kqa kq.length kqc] (by kernel_rfl) (fun v w' => v = .int .i64 (sumN kq) ∧ Below _ _ w') ((rsum_any kq kqa kqc _ HLQ.out HKR.out HNQ.out).mono fun e' w' h => ⟨_, h.1, rfl, h.2⟩) (Lib.hid ?_)
                          rintro v wy ⟨rfl, hby⟩
                          refine hK.out _ _ (hS.next hby) (fun hS => ?_)
                          clear hK K hby HKR
                          refine wa_v 34 127 (.bool true) hS HZQ (fun W hW => run_eqv (v := .bool (decide (sumN kq < sumN kx))) (by kernel_rfl) ((by rw [HGT.out]))) (wa_k 35 128 (.bool true) hS HZQ (wa_k 36 129 (.bool true) hS HZQ ?_))
                          refine wa_done (by kernel_rfl) ?_
                          dsimp only [Exit.then, Act.put]
                          simp only [List.setIfInBounds_toArray, List.set_cons_succ, List.set_cons_zero]
                          have S7 := Lib.hid hS.toCB
                          clear hS
                          go_wp2_with fail
                          go_roundw
                          case rel => exact ⟨k + 1, by omega, by go_num, .inr ⟨k, by go_num, HNW⟩, S7⟩
                          case measure => simp [intOf]; omega
                    · have H20 := Lib.hid (show decide (sumN kx < z - y) = false from decide_eq_false h20)
                      have HNW := Lib.hid (HBT.out.trans (HNO.out (bestTo (evenMay ((c + 1 : Nat) : Int) (z - y)) (loadsP xs l) k) (by simp [h20])))
                      clear HBT HNO HFI HMO HLE
                      go_wp2_with fail
                      refine wp_region_class ((CBX w B b r (some ⟨b', o', none⟩) lo xs l g bs wr.heap.size ⟨sid, server, since, slo, shi⟩)) (by kernel_rfl) (by kernel_rfl) (S6.out.next (tame_drewN (Below.refl _ w6) 1)) ?_
                      refine wq_k (.pointer (some ⟨wr.heap.size, 1, none⟩)) (wq_v (.int .i64 server) (fun W hW => run_load1 3 (.tmp 93) (by kernel_rfl) ⟨wr.heap.size, 1, none⟩ (by kernel_rfl) (.int .i64 server) (hW.box.cell 1) _ Tryz.underlying3 rfl) (wq_k (.int .i64 ((c : Nat) : Int)) (wq_v (.int .i64 (((c : Nat) : Int) + 1)) (fun W hW => run_eqv (v := .int .i64 (IntKind.i64.wrap (((c : Nat) : Int) + 1))) (by kernel_rfl) (wrap_big _ (by omega) (by omega))) (wq_v (.bool true) (fun W hW => run_eqv (v := .bool (server == ((c : Nat) : Int) + 1)) (by kernel_rfl) ((by rw [H4.out]))) (wq_k (.bool true) (wq_k (.int .i64 (sumN kx)) (wq_v (.bool true) (fun W hW => run_eqv (v := .bool (decide (0 < sumN kx))) (by kernel_rfl) ((by rw [H7.out]))) ?_)))))))
                      refine wq_k (.bool true) (wq_k (.bool true) (wq_k (.int .i64 (sumN kx)) (wq_k (.slice (some ⟨g, 0, none⟩) s gc) (wq_k (.int .i64 ((c : Nat) : Int)) (wq_v (.pointer (some ⟨g, c * 1, none⟩)) (fun W hW => run_eqv (run_idx 37 (.tmp 104) (.tmp 105) (by kernel_rfl) g 0 s gc c 3 1 (by kernel_rfl) (by kernel_rfl) (by omega) Tryz.underlying37 (by kernel_rfl)) (by rw [Nat.zero_add])) (wq_v (.int .i64 z) (fun W hW => run_load1 3 (.tmp 106) (by kernel_rfl) ⟨g, c * 1, none⟩ (by kernel_rfl) (.int .i64 z) (HGZ.out W hW.brow) _ Tryz.underlying3 rfl) (wq_k (.slice (some ⟨g, 0, none⟩) s gc) ?_)))))))
                      refine wq_k (.int .i64 ((a : Nat) : Int)) (wq_v (.pointer (some ⟨g, a * 1, none⟩)) (fun W hW => run_eqv (run_idx 37 (.tmp 108) (.tmp 109) (by kernel_rfl) g 0 s gc a 3 1 (by kernel_rfl) (by kernel_rfl) (by omega) Tryz.underlying37 (by kernel_rfl)) (by rw [Nat.zero_add])) (wq_v (.int .i64 y) (fun W hW => run_load1 3 (.tmp 110) (by kernel_rfl) ⟨g, a * 1, none⟩ (by kernel_rfl) (.int .i64 y) (HGY.out W hW.brow) _ Tryz.underlying3 rfl) (wq_v (.int .i64 (z - y)) (fun W hW => run_eqv (v := .int .i64 (IntKind.i64.wrap (z - y))) (by kernel_rfl) (wrap_in _ HWZ.out)) (wq_v (.bool false) (fun W hW => run_eqv (v := .bool (decide (sumN kx < z - y))) (by kernel_rfl) ((by rw [H20.out]))) (wq_k (.bool false) (wq_k (.bool false) (wq_n ?_)))))))
                      refine wq_n (wq_n (wq_n (wq_n (wq_n (wq_n (wq_n (wq_n ?_)))))))
                      refine wq_n (wq_n (wq_n (wq_n (wq_k (.bool false) ?_))))
                      refine quiet_end rfl (Lib.hid ?_)
                      refine Lib.hid ?_
                      intro w7 hW
                      have S7 := Lib.hid hW.toCB
                      clear hW
                      dsimp only [Exit.then, Act.put]
                      simp only [List.setIfInBounds_toArray, List.set_cons_succ, List.set_cons_zero]
                      go_wp2_with fail
                      go_roundw
                      case rel => exact ⟨k + 1, by omega, by go_num, by rw [HNW.out]; exact HPV, S7⟩
                      case measure => simp [intOf]; omega
                  · have H7 := Lib.hid (show decide (0 < sumN kx) = false from decide_eq_false h7)
                    have HNW := Lib.hid (HBT.out.trans (HNO.out (bestTo (evenMay ((c + 1 : Nat) : Int) (z - y)) (loadsP xs l) k) (by simp [h7])))
                    clear HBT HNO HFI HMO HLE
                    go_wp2_with fail
                    refine wp_region_class ((CBX w B b r (some ⟨b', o', none⟩) lo xs l g bs wr.heap.size ⟨sid, server, since, slo, shi⟩)) (by kernel_rfl) (by kernel_rfl) (S6.out.next (tame_drewN (Below.refl _ w6) 1)) ?_
                    refine wq_k (.pointer (some ⟨wr.heap.size, 1, none⟩)) (wq_v (.int .i64 server) (fun W hW => run_load1 3 (.tmp 93) (by kernel_rfl) ⟨wr.heap.size, 1, none⟩ (by kernel_rfl) (.int .i64 server) (hW.box.cell 1) _ Tryz.underlying3 rfl) (wq_k (.int .i64 ((c : Nat) : Int)) (wq_v (.int .i64 (((c : Nat) : Int) + 1)) (fun W hW => run_eqv (v := .int .i64 (IntKind.i64.wrap (((c : Nat) : Int) + 1))) (by kernel_rfl) (wrap_big _ (by omega) (by omega))) (wq_v (.bool true) (fun W hW => run_eqv (v := .bool (server == ((c : Nat) : Int) + 1)) (by kernel_rfl) ((by rw [H4.out]))) (wq_k (.bool true) (wq_k (.int .i64 (sumN kx)) (wq_v (.bool false) (fun W hW => run_eqv (v := .bool (decide (0 < sumN kx))) (by kernel_rfl) ((by rw [H7.out]))) ?_)))))))
                    refine wq_k (.bool false) (wq_k (.bool false) (wq_n (wq_n (wq_n (wq_n (wq_n (wq_n ?_)))))))
                    refine wq_n (wq_n (wq_n (wq_n (wq_n (wq_k (.bool false) (wq_k (.bool false) (wq_n ?_)))))))
                    refine wq_n (wq_n (wq_n (wq_n (wq_n (wq_n (wq_n (wq_n ?_)))))))
                    refine wq_n (wq_n (wq_n (wq_n (wq_k (.bool false) ?_))))
                    refine quiet_end rfl (Lib.hid ?_)
                    refine Lib.hid ?_
                    intro w7 hW
                    have S7 := Lib.hid hW.toCB
                    clear hW
                    dsimp only [Exit.then, Act.put]
                    simp only [List.setIfInBounds_toArray, List.set_cons_succ, List.set_cons_zero]
                    go_wp2_with fail
                    go_roundw
                    case rel => exact ⟨k + 1, by omega, by go_num, by rw [HNW.out]; exact HPV, S7⟩
                    case measure => simp [intOf]; omega
                · have H4 := Lib.hid (show (server == ((c : Nat) : Int) + 1) = false by simp; omega)
                  have h4b : ¬ server = (c : Int) + 1 := by omega
                  have HNW := Lib.hid (HBT.out.trans (HNO.out (bestTo (evenMay ((c + 1 : Nat) : Int) (z - y)) (loadsP xs l) k) (by simp [h4b])))
                  clear HBT HNO HFI HMO HLE
                  go_wp2_with fail
                  refine wp_region_class ((CBX w B b r (some ⟨b', o', none⟩) lo xs l g bs wr.heap.size ⟨sid, server, since, slo, shi⟩)) (by kernel_rfl) (by kernel_rfl) (S6.out.next (tame_drewN (Below.refl _ w6) 1)) ?_
                  refine wq_k (.pointer (some ⟨wr.heap.size, 1, none⟩)) (wq_v (.int .i64 server) (fun W hW => run_load1 3 (.tmp 93) (by kernel_rfl) ⟨wr.heap.size, 1, none⟩ (by kernel_rfl) (.int .i64 server) (hW.box.cell 1) _ Tryz.underlying3 rfl) (wq_k (.int .i64 ((c : Nat) : Int)) (wq_v (.int .i64 (((c : Nat) : Int) + 1)) (fun W hW => run_eqv (v := .int .i64 (IntKind.i64.wrap (((c : Nat) : Int) + 1))) (by kernel_rfl) (wrap_big _ (by omega) (by omega))) (wq_v (.bool false) (fun W hW => run_eqv (v := .bool (server == ((c : Nat) : Int) + 1)) (by kernel_rfl) ((by rw [H4.out]))) (wq_k (.bool false) (wq_n (wq_n ?_)))))))
                  refine wq_k (.bool false) (wq_k (.bool false) (wq_n (wq_n (wq_n (wq_n (wq_n (wq_n ?_)))))))
                  refine wq_n (wq_n (wq_n (wq_n (wq_n (wq_k (.bool false) (wq_k (.bool false) (wq_n ?_)))))))
                  refine wq_n (wq_n (wq_n (wq_n (wq_n (wq_n (wq_n (wq_n ?_)))))))
                  refine wq_n (wq_n (wq_n (wq_n (wq_k (.bool false) ?_))))
                  refine quiet_end rfl (Lib.hid ?_)
                  refine Lib.hid ?_
                  intro w7 hW
                  have S7 := Lib.hid hW.toCB
                  clear hW
                  dsimp only [Exit.then, Act.put]
                  simp only [List.setIfInBounds_toArray, List.set_cons_succ, List.set_cons_zero]
                  go_wp2_with fail
                  go_roundw
                  case rel => exact ⟨k + 1, by omega, by go_num, by rw [HNW.out]; exact HPV, S7⟩
                  case measure => simp [intOf]; omega
              · obtain rfl : k = xs.length := by omega
                rcases HPV with ⟨rfl, HP⟩ | ⟨q, rfl, HP⟩
                · have HS3 := Lib.hid (show evensP (loadsP xs l) bs (a + 1) (c + 1) = none from HEV.out none (by unfold bestN; rw [loads_len]; exact HP.out))
                  have HNJ := Lib.hid (HN4.out HS1.out HS2.out HS3.out)
                  have SD := Lib.hid HB.out
                  clear HP HB HEV HGY HGZ
                  generalize wr = wc at *
                  go_wp2_with fail
                  go_loopw [24] (fun i wr => ∃ k : Nat, 1 ≤ k ∧ k ≤ xs.length ∧ i = .int .i64 k ∧ Hid (∀ j, j + 1 < k → joinAt (loadsP xs l) most j = false) ∧ Hid (CB w B b r ra lo xs l g bs wr)) (fun i _ => xs.length - (intOf i).toNat)
                  case atStart => exact ⟨1, Nat.le_refl _, hml1, rfl, Lib.hid (fun j h => by omega), SD⟩
                  case round =>
                    obtain ⟨k, hk1, hk, rfl, HP, HB⟩ := hrel
                    clear SD
                    by_cases hlt : k < xs.length
                    · obtain ⟨j, rfl⟩ : ∃ j, k = j + 1 := ⟨k - 1, by omega⟩
                      have hjl : j < xs.length := by omega
                      obtain ⟨b', o', rfl, -⟩ := row_flat Sh.cells 5 (by decide) Sh.cells_len HB.out.row j hjl
                      have HRX := Lib.hid (fun W (h : RowAt W (some ⟨b', o', none⟩) (shRow xs)) => row_shc h hjl)
                      have HRY := Lib.hid (fun W (h : RowAt W (some ⟨b', o', none⟩) (shRow xs)) => row_shc h hlt)
                      have HKX := Lib.hid (fun W (h2 : RowAt W lo (ldRow l)) => HKF.out (shAt xs j) W (HOK.out _ (shAt_mem hjl)) h2)
                      have HKY := Lib.hid (fun W (h2 : RowAt W lo (ldRow l)) => HKF.out (shAt xs (j + 1)) W (HOK.out _ (shAt_mem hlt)) h2)
                      have HNX := Lib.hid (HNK.out (shAt xs j))
                      have HNY := Lib.hid (HNK.out (shAt xs (j + 1)))
                      have HLX := Lib.hid (HKL.out (shAt xs j))
                      have HLY := Lib.hid (HKL.out (shAt xs (j + 1)))
                      have hbx := HSB.out (shAt xs j)
                      have hby := HSB.out (shAt xs (j + 1))
                      have HJA := Lib.hid (joinAt_eq (p := loadsP xs l) (most := most) (k := j) (by rw [loads_len]; exact hlt))
                      have HJS := Lib.hid (fun h => join_some (p := loadsP xs l) (most := most) (k := j) (by rw [loads_len]; exact hjl) h (fun i hi => HP.out i (by omega)))
                      have HPN := Lib.hid (fun (h : joinAt (loadsP xs l) most j = false) i (hi : i + 1 < j + 1 + 1) => show joinAt (loadsP xs l) most i = false from by
                        by_cases hij : i = j
                        · subst hij; exact h
                        · exact HP.out i (by omega))
                      rw [HPL.out j hjl, HPL.out (j + 1) hlt] at HJA HJS
                      dsimp only at HJA HJS
                      generalize keysP (shAt xs j) l = kx at *
                      generalize keysP (shAt xs (j + 1)) l = ky at *
                      generalize shAt xs j = x at *
                      generalize shAt xs (j + 1) = x2 at *
                      obtain ⟨sid, server, since, slo, shi⟩ := x
                      obtain ⟨qid, qserver, qsince, qlo, qhi⟩ := x2
                      unfold Sh.cells at HRX HRY HKX HKY
                      dsimp only at HRX HRY HKX HKY HJA HJS
                      have HW1 := Lib.hid (show 0 ≤ sumN kx + sumN ky ∧ sumN kx + sumN ky ≤ 1000000000000000 by omega)
                      have HW2 := Lib.hid (show 0 ≤ 4 * (sumN kx + sumN ky) ∧ 4 * (sumN kx + sumN ky) ≤ 1000000000000000 by omega)
                      clear hbx hby HP
                      go_wp2_with fail
                      refine wp_region_wb ((CB w B b r (some ⟨b', o', none⟩) lo xs l g bs)) (by kernel_rfl) (HB.out.next (tame_drewN (Below.refl _ wr) 1)) (fun _ _ _ _ _ h => h) ?_
                      intro hS HZQ
                      refine wa_k 0 148 (.slice (some ⟨b', o', none⟩) xs.length rc) hS HZQ (wa_k 1 149 (.int .i64 ((j + 1 : Nat) : Int)) hS HZQ (wa_v 2 150 (.int .i64 ((j : Nat) : Int)) hS HZQ (fun W hW => run_eqv (v := .int .i64 (IntKind.i64.wrap (((j + 1 : Nat) : Int) - 1))) (by kernel_rfl) (wrap_nat _ j (by omega) (by omega))) (wa_v 3 151 (.pointer (some ⟨b', o' + j * 5, none⟩)) hS HZQ (fun W hW => run_eqv (run_idx 73 (.tmp 148) (.tmp 150) (by kernel_rfl) (b') (o') xs.length rc j 75 5 (by kernel_rfl) (by kernel_rfl) (by omega) Tryz.underlying73 (by kernel_rfl)) rfl) (wa_v 4 152 (.agg #[.int .i64 sid, .int .i64 server, .int .i64 since, .string slo, .string shi]) hS HZQ (fun W hW => run_eqv (run_loadN 75 (.tmp 151) (by kernel_rfl) (b') (o' + j * 5) (by kernel_rfl) [.int .i64 sid, .int .i64 server, .int .i64 since, .string slo, .string shi] (HRX.out W hW.row) _ Tryz.underlying75 rfl (by kernel_rfl)) rfl) (wa_k 5 153 (.slice lo l.length lc) hS HZQ (wa_k 8 156 (.slice (some ⟨b', o', none⟩) xs.length rc) hS HZQ (wa_k 9 157 (.int .i64 ((j + 1 : Nat) : Int)) hS HZQ ?_)))))))
                      refine wa_v 10 158 (.pointer (some ⟨b', o' + (j + 1) * 5, none⟩)) hS HZQ (fun W hW => run_eqv (run_idx 73 (.tmp 156) (.tmp 157) (by kernel_rfl) (b') (o') xs.length rc (j + 1) 75 5 (by kernel_rfl) (by kernel_rfl) (by omega) Tryz.underlying73 (by kernel_rfl)) rfl) (wa_v 11 159 (.agg #[.int .i64 qid, .int .i64 qserver, .int .i64 qsince, .string qlo, .string qhi]) hS HZQ (fun W hW => run_eqv (run_loadN 75 (.tmp 158) (by kernel_rfl) (b') (o' + (j + 1) * 5) (by kernel_rfl) [.int .i64 qid, .int .i64 qserver, .int .i64 qsince, .string qlo, .string qhi] (HRY.out W hW.row) _ Tryz.underlying75 rfl (by kernel_rfl)) rfl) (wa_k 12 160 (.slice lo l.length lc) hS HZQ ?_))
                      refine wa_r [6] ?_
                      refine ar_a (some 154) (fun K hK => ?_) ar_nil
                      refine ow_call 54 #[.agg #[.int .i64 sid, .int .i64 server, .int .i64 since, .string slo, .string shi], .slice lo l.length lc] (by kernel_rfl) (fun v w' => OwnE w' _ 109 2 v kx.length (ldRow kx) ∧ Below _ _ w') ((HKX.out _ hS.lrow).mono fun e' w' h => h) (Lib.hid ?_)
                      rintro v wx ⟨hox, hbx⟩
                      obtain ⟨kxa, kxc, rfl, hkr⟩ := ownE_row hox
                      have HKR := Lib.hid hkr
                      refine hK.out _ _ (hS.next hbx) (fun hS => ?_)
                      clear hK K hbx hox hkr
                      refine wa_r [7] ?_
                      refine ar_a (some 155) (fun K hK => ?_) ar_nil
                      refine ow_call 53 #[.slice kxa kx.length kxc] (by kernel_rfl) (fun v w' => v = .int .i64 (sumN kx) ∧ Below _ _ w') ((rsum_any kx kxa kxc _ HLX.out HKR.out HNX.out).mono fun e' w' h => ⟨_, h.1, rfl, h.2⟩) (Lib.hid ?_)
                      rintro v wy ⟨rfl, hby⟩
                      refine hK.out _ _ (hS.next hby) (fun hS => ?_)
                      clear hK K hby HKR
                      refine wa_r [13] ?_
                      refine ar_a (some 161) (fun K hK => ?_) ar_nil
                      refine ow_call 54 #[.agg #[.int .i64 qid, .int .i64 qserver, .int .i64 qsince, .string qlo, .string qhi], .slice lo l.length lc] (by kernel_rfl) (fun v w' => OwnE w' _ 109 2 v ky.length (ldRow ky) ∧ Below _ _ w') ((HKY.out _ hS.lrow).mono fun e' w' h => h) (Lib.hid ?_)
                      rintro v wx ⟨hox, hbx⟩
                      obtain ⟨kya, kyc, rfl, hkr⟩ := ownE_row hox
                      have HKR := Lib.hid hkr
                      refine hK.out _ _ (hS.next hbx) (fun hS => ?_)
                      clear hK K hbx hox hkr
                      refine wa_r [14] ?_
                      refine ar_a (some 162) (fun K hK => ?_) ar_nil
                      refine ow_call 53 #[.slice kya ky.length kyc] (by kernel_rfl) (fun v w' => v = .int .i64 (sumN ky) ∧ Below _ _ w') ((rsum_any ky kya kyc _ HLY.out HKR.out HNY.out).mono fun e' w' h => ⟨_, h.1, rfl, h.2⟩) (Lib.hid ?_)
                      rintro v wy ⟨rfl, hby⟩
                      refine hK.out _ _ (hS.next hby) (fun hS => ?_)
                      clear hK K hby HKR
                      refine wa_v 15 163 (.int .i64 (sumN kx + sumN ky)) hS HZQ (fun W hW => run_eqv (v := .int .i64 (IntKind.i64.wrap (sumN kx + sumN ky))) (by kernel_rfl) (wrap_big _ HW1.out.1 HW1.out.2)) (wa_k 16 25 (.int .i64 (sumN kx + sumN ky)) hS HZQ ?_)
                      refine wa_done (by kernel_rfl) ?_
                      dsimp only [Exit.then, Act.put]
                      simp only [List.setIfInBounds_toArray, List.set_cons_succ, List.set_cons_zero]
                      have S6 := Lib.hid hS
                      rename World => w6
                      clear hS HB
                      cases h11 : (server == qserver) with
                      | false =>
                        have H11 := Lib.hid h11
                        have HPN2 := Lib.hid (HPN.out (by rw [HJA.out, h11]; rfl))
                        clear h11 HJA HJS HPN
                        go_wp2_with fail
                        refine wp_region_class ((CB w B b r (some ⟨b', o', none⟩) lo xs l g bs)) (by kernel_rfl) (by kernel_rfl) (S6.out.next (tame_drewN (Below.refl _ w6) 1)) ?_
                        refine wq_k (.slice (some ⟨b', o', none⟩) xs.length rc) (wq_k (.int .i64 ((j + 1 : Nat) : Int)) (wq_v (.int .i64 ((j : Nat) : Int)) (fun W hW => run_eqv (v := .int .i64 (IntKind.i64.wrap (((j + 1 : Nat) : Int) - 1))) (by kernel_rfl) (wrap_nat _ j (by omega) (by omega))) (wq_v (.pointer (some ⟨b', o' + j * 5, none⟩)) (fun W hW => run_eqv (run_idx 73 (.tmp 164) (.tmp 166) (by kernel_rfl) (b') (o') xs.length rc j 75 5 (by kernel_rfl) (by kernel_rfl) (by omega) Tryz.underlying73 (by kernel_rfl)) rfl) (wq_k (.pointer (some ⟨b', o' + j * 5 + 1, none⟩)) (wq_v (.int .i64 server) (fun W hW => run_load1 3 (.tmp 168) (by kernel_rfl) ⟨b', o' + j * 5 + 1, none⟩ (by kernel_rfl) (.int .i64 server) (HRX.out W hW.row 1 _ rfl) _ Tryz.underlying3 rfl) (wq_k (.slice (some ⟨b', o', none⟩) xs.length rc) (wq_k (.int .i64 ((j + 1 : Nat) : Int)) ?_)))))))
                        refine wq_v (.pointer (some ⟨b', o' + (j + 1) * 5, none⟩)) (fun W hW => run_eqv (run_idx 73 (.tmp 170) (.tmp 171) (by kernel_rfl) (b') (o') xs.length rc (j + 1) 75 5 (by kernel_rfl) (by kernel_rfl) (by omega) Tryz.underlying73 (by kernel_rfl)) rfl) (wq_k (.pointer (some ⟨b', o' + (j + 1) * 5 + 1, none⟩)) (wq_v (.int .i64 qserver) (fun W hW => run_load1 3 (.tmp 173) (by kernel_rfl) ⟨b', o' + (j + 1) * 5 + 1, none⟩ (by kernel_rfl) (.int .i64 qserver) (HRY.out W hW.row 1 _ rfl) _ Tryz.underlying3 rfl) (wq_v (.bool false) (fun W hW => run_eqv (v := .bool (server == qserver)) (by kernel_rfl) ((by rw [H11.out]))) (wq_k (.bool false) (wq_n (wq_n (wq_n ?_)))))))
                        refine wq_n (wq_k (.bool false) ?_)
                        refine quiet_end rfl (Lib.hid ?_)
                        refine Lib.hid ?_
                        intro w7 hW
                        have S7 := Lib.hid hW
                        clear hW
                        dsimp only [Exit.then, Act.put]
                        simp only [List.setIfInBounds_toArray, List.set_cons_succ, List.set_cons_zero]
                        go_wp2_with fail
                        go_roundw
                        case rel => exact ⟨j + 1 + 1, by omega, by omega, by go_num, HPN2, S7⟩
                        case measure => simp [intOf]; omega
                      | true =>
                        have H11 := Lib.hid h11
                        cases h16 : decide (4 * (sumN kx + sumN ky) ≤ most) with
                        | false =>
                          have H16 := Lib.hid h16
                          have HPN2 := Lib.hid (HPN.out (by rw [HJA.out, h11, h16]; rfl))
                          clear h11 h16 HJA HJS HPN
                          go_wp2_with fail
                          refine wp_region_class ((CB w B b r (some ⟨b', o', none⟩) lo xs l g bs)) (by kernel_rfl) (by kernel_rfl) (S6.out.next (tame_drewN (Below.refl _ w6) 1)) ?_
                          refine wq_k (.slice (some ⟨b', o', none⟩) xs.length rc) (wq_k (.int .i64 ((j + 1 : Nat) : Int)) (wq_v (.int .i64 ((j : Nat) : Int)) (fun W hW => run_eqv (v := .int .i64 (IntKind.i64.wrap (((j + 1 : Nat) : Int) - 1))) (by kernel_rfl) (wrap_nat _ j (by omega) (by omega))) (wq_v (.pointer (some ⟨b', o' + j * 5, none⟩)) (fun W hW => run_eqv (run_idx 73 (.tmp 164) (.tmp 166) (by kernel_rfl) (b') (o') xs.length rc j 75 5 (by kernel_rfl) (by kernel_rfl) (by omega) Tryz.underlying73 (by kernel_rfl)) rfl) (wq_k (.pointer (some ⟨b', o' + j * 5 + 1, none⟩)) (wq_v (.int .i64 server) (fun W hW => run_load1 3 (.tmp 168) (by kernel_rfl) ⟨b', o' + j * 5 + 1, none⟩ (by kernel_rfl) (.int .i64 server) (HRX.out W hW.row 1 _ rfl) _ Tryz.underlying3 rfl) (wq_k (.slice (some ⟨b', o', none⟩) xs.length rc) (wq_k (.int .i64 ((j + 1 : Nat) : Int)) ?_)))))))
                          refine wq_v (.pointer (some ⟨b', o' + (j + 1) * 5, none⟩)) (fun W hW => run_eqv (run_idx 73 (.tmp 170) (.tmp 171) (by kernel_rfl) (b') (o') xs.length rc (j + 1) 75 5 (by kernel_rfl) (by kernel_rfl) (by omega) Tryz.underlying73 (by kernel_rfl)) rfl) (wq_k (.pointer (some ⟨b', o' + (j + 1) * 5 + 1, none⟩)) (wq_v (.int .i64 qserver) (fun W hW => run_load1 3 (.tmp 173) (by kernel_rfl) ⟨b', o' + (j + 1) * 5 + 1, none⟩ (by kernel_rfl) (.int .i64 qserver) (HRY.out W hW.row 1 _ rfl) _ Tryz.underlying3 rfl) (wq_v (.bool true) (fun W hW => run_eqv (v := .bool (server == qserver)) (by kernel_rfl) ((by rw [H11.out]))) (wq_k (.bool true) (wq_k (.int .i64 (sumN kx + sumN ky)) (wq_v (.int .i64 (4 * (sumN kx + sumN ky))) (fun W hW => run_eqv (v := .int .i64 (IntKind.i64.wrap (4 * (sumN kx + sumN ky)))) (by kernel_rfl) (wrap_big _ HW2.out.1 HW2.out.2)) (wq_k (.int .i64 most) ?_)))))))
                          refine wq_v (.bool false) (fun W hW => run_eqv (v := .bool (decide (4 * (sumN kx + sumN ky) ≤ most))) (by kernel_rfl) ((by rw [H16.out]))) (wq_k (.bool false) ?_)
                          refine quiet_end rfl (Lib.hid ?_)
                          refine Lib.hid ?_
                          intro w7 hW
                          have S7 := Lib.hid hW
                          clear hW
                          dsimp only [Exit.then, Act.put]
                          simp only [List.setIfInBounds_toArray, List.set_cons_succ, List.set_cons_zero]
                          go_wp2_with fail
                          go_roundw
                          case rel => exact ⟨j + 1 + 1, by omega, by omega, by go_num, HPN2, S7⟩
                          case measure => simp [intOf]; omega
                        | true =>
                          have H16 := Lib.hid h16
                          have HNX2 := Lib.hid (HNJ.out.trans (HJS.out (by rw [HJA.out, h11, h16]; rfl)))
                          clear h11 h16 HJA HJS HPN
                          go_wp2_with fail
                          refine wp_region_class ((CB w B b r (some ⟨b', o', none⟩) lo xs l g bs)) (by kernel_rfl) (by kernel_rfl) (S6.out.next (tame_drewN (Below.refl _ w6) 1)) ?_
                          refine wq_k (.slice (some ⟨b', o', none⟩) xs.length rc) (wq_k (.int .i64 ((j + 1 : Nat) : Int)) (wq_v (.int .i64 ((j : Nat) : Int)) (fun W hW => run_eqv (v := .int .i64 (IntKind.i64.wrap (((j + 1 : Nat) : Int) - 1))) (by kernel_rfl) (wrap_nat _ j (by omega) (by omega))) (wq_v (.pointer (some ⟨b', o' + j * 5, none⟩)) (fun W hW => run_eqv (run_idx 73 (.tmp 164) (.tmp 166) (by kernel_rfl) (b') (o') xs.length rc j 75 5 (by kernel_rfl) (by kernel_rfl) (by omega) Tryz.underlying73 (by kernel_rfl)) rfl) (wq_k (.pointer (some ⟨b', o' + j * 5 + 1, none⟩)) (wq_v (.int .i64 server) (fun W hW => run_load1 3 (.tmp 168) (by kernel_rfl) ⟨b', o' + j * 5 + 1, none⟩ (by kernel_rfl) (.int .i64 server) (HRX.out W hW.row 1 _ rfl) _ Tryz.underlying3 rfl) (wq_k (.slice (some ⟨b', o', none⟩) xs.length rc) (wq_k (.int .i64 ((j + 1 : Nat) : Int)) ?_)))))))
                          refine wq_v (.pointer (some ⟨b', o' + (j + 1) * 5, none⟩)) (fun W hW => run_eqv (run_idx 73 (.tmp 170) (.tmp 171) (by kernel_rfl) (b') (o') xs.length rc (j + 1) 75 5 (by kernel_rfl) (by kernel_rfl) (by omega) Tryz.underlying73 (by kernel_rfl)) rfl) (wq_k (.pointer (some ⟨b', o' + (j + 1) * 5 + 1, none⟩)) (wq_v (.int .i64 qserver) (fun W hW => run_load1 3 (.tmp 173) (by kernel_rfl) ⟨b', o' + (j + 1) * 5 + 1, none⟩ (by kernel_rfl) (.int .i64 qserver) (HRY.out W hW.row 1 _ rfl) _ Tryz.underlying3 rfl) (wq_v (.bool true) (fun W hW => run_eqv (v := .bool (server == qserver)) (by kernel_rfl) ((by rw [H11.out]))) (wq_k (.bool true) (wq_k (.int .i64 (sumN kx + sumN ky)) (wq_v (.int .i64 (4 * (sumN kx + sumN ky))) (fun W hW => run_eqv (v := .int .i64 (IntKind.i64.wrap (4 * (sumN kx + sumN ky)))) (by kernel_rfl) (wrap_big _ HW2.out.1 HW2.out.2)) (wq_k (.int .i64 most) ?_)))))))
                          refine wq_v (.bool true) (fun W hW => run_eqv (v := .bool (decide (4 * (sumN kx + sumN ky) ≤ most))) (by kernel_rfl) ((by rw [H16.out]))) (wq_k (.bool true) ?_)
                          refine quiet_end rfl (Lib.hid ?_)
                          refine Lib.hid ?_
                          intro w7 hW
                          have S7 := Lib.hid hW
                          clear hW
                          dsimp only [Exit.then, Act.put]
                          simp only [List.setIfInBounds_toArray, List.set_cons_succ, List.set_cons_zero]
                          go_wp2_with fail
                          have HR2 := Lib.hid S7.out.row
                          have HEB2 := Lib.hid S7.out.ebox
                          unfold zeroEn at HEB2
                          have HNB := Lib.hid (fun (ad : Addr) (e : some (⟨b', o', none⟩ : Addr) = some ad) (h : ad.block = w.heap.size) => show False from by
                            cases e
                            have := HRN.out b' o' rfl
                            dsimp only at h
                            omega)
                          refine wp_region_wb ((Only (fun q => q = w.heap.size) w7)) (by kernel_rfl) (((Only.refl (fun q => q = w.heap.size) w7).drewN 1)) (fun _ _ _ _ _ h => h) ?_
                          intro hS HZQ
                          refine wa_k 0 182 (.slice (some ⟨b', o', none⟩) xs.length rc) hS HZQ (wa_k 1 183 (.int .i64 ((j + 1 : Nat) : Int)) hS HZQ (wa_v 2 184 (.int .i64 ((j : Nat) : Int)) hS HZQ (fun W hW => run_eqv (v := .int .i64 (IntKind.i64.wrap (((j + 1 : Nat) : Int) - 1))) (by kernel_rfl) (wrap_nat _ j (by omega) (by omega))) (wa_v 3 185 (.pointer (some ⟨b', o' + j * 5, none⟩)) hS HZQ (fun W hW => run_eqv (run_idx 73 (.tmp 182) (.tmp 184) (by kernel_rfl) (b') (o') xs.length rc j 75 5 (by kernel_rfl) (by kernel_rfl) (by omega) Tryz.underlying73 (by kernel_rfl)) rfl) (wa_k 4 186 (.pointer (some ⟨b', o' + j * 5, none⟩)) hS HZQ (wa_v 5 187 (.int .i64 sid) hS HZQ (fun W hW => run_load1 3 (.tmp 186) (by kernel_rfl) ⟨b', o' + j * 5, none⟩ (by kernel_rfl) (.int .i64 sid) (HRX.out W (HR2.out.only hW HNB.out) 0 _ rfl) _ Tryz.underlying3 rfl) (wa_k 6 188 (.slice (some ⟨b', o', none⟩) xs.length rc) hS HZQ (wa_k 7 189 (.int .i64 ((j + 1 : Nat) : Int)) hS HZQ ?_)))))))
                          refine wa_v 8 190 (.pointer (some ⟨b', o' + (j + 1) * 5, none⟩)) hS HZQ (fun W hW => run_eqv (run_idx 73 (.tmp 188) (.tmp 189) (by kernel_rfl) (b') (o') xs.length rc (j + 1) 75 5 (by kernel_rfl) (by kernel_rfl) (by omega) Tryz.underlying73 (by kernel_rfl)) rfl) (wa_k 9 191 (.pointer (some ⟨b', o' + (j + 1) * 5, none⟩)) hS HZQ (wa_v 10 192 (.int .i64 qid) hS HZQ (fun W hW => run_load1 3 (.tmp 191) (by kernel_rfl) ⟨b', o' + (j + 1) * 5, none⟩ (by kernel_rfl) (.int .i64 qid) (HRY.out W (HR2.out.only hW HNB.out) 0 _ rfl) _ Tryz.underlying3 rfl) (wa_k 11 193 (.agg #[.int .i64 4, .int .i64 sid, .int .i64 qid, .int .i64 0, .int .i64 0, .int .i64 0, .slice none 0 0, .string ⟨#[]⟩, .int .i64 0, .int .i64 0, .int .i64 0, .slice none 0 0]) hS HZQ ?_)))
                          refine wa_r [12] ?_
                          refine ar_a none (fun K hK => ?_) ar_nil
                          refine ow_store_blk 44 (.tmp 8) (.tmp 193) (by kernel_rfl) w.heap.size #[.int .i64 4, .int .i64 sid, .int .i64 qid, .int .i64 0, .int .i64 0, .int .i64 0, .slice none 0 0, .string ⟨#[]⟩, .int .i64 0, .int .i64 0, .int .i64 0, .slice none 0 0] (by kernel_rfl) (by kernel_rfl) 44 _ (HEB2.out.drewN 1) rfl (by kernel_rfl) (by kernel_rfl) (Lib.hid ?_)
                          intro w8 hz hox
                          refine hK.out _ _ (hS.trans hox) (fun hS => ?_)
                          have HZ8 := Lib.hid hz
                          clear hK K hz hox
                          refine wa_k 13 9 (.bool true) hS HZQ ?_
                          refine wa_done (by kernel_rfl) ?_
                          dsimp only [Exit.then, Act.put]
                          simp only [List.setIfInBounds_toArray, List.set_cons_succ, List.set_cons_zero]
                          have O8 := Lib.hid hS
                          clear hS
                          go_wp2_with fail
                          refine bodyPost_ret (results_cell_tmp rfl _ _ w.heap.size 44 _ (0, 0) _ rfl HZ8.out Tryz.underlying44 rfl (by kernel_rfl)) rfl ?_
                          exact ⟨by rw [HNX2.out]; rfl, S7.out.bel.trans (O8.out.to_below S7.out.bel.size (fun q hq e => by omega))⟩
                    · obtain rfl : k = xs.length := by omega
                      have HSJ := Lib.hid (HNJ.out.trans (join_none (p := loadsP xs l) (most := most) (fun i hi => by
                        rw [loads_len] at hi
                        by_cases h : i + 1 < xs.length
                        · exact HP.out i h
                        · exact joinAt_no (by rw [loads_len]; exact h))))
                      have HE4 := Lib.hid HB.out.ebox
                      unfold zeroEn at HE4
                      clear HP
                      go_wp2_with (refine wpList_store_blk rfl 44 (.tmp 8) (.tmp 194) rfl w.heap.size #[.int .i64 0, .int .i64 0, .int .i64 0, .int .i64 0, .int .i64 0, .int .i64 0, .slice none 0 0, .string ⟨#[]⟩, .int .i64 0, .int .i64 0, .int .i64 0, .slice none 0 0] rfl rfl 44 _ HE4.out rfl (by kernel_rfl) (by kernel_rfl) ?_)
                      refine Lib.hid ?_
                      intro w6 hz ho
                      have HZ6 := Lib.hid hz
                      have B6 := Lib.hid (HB.out.bel.trans (ho.to_below HB.out.bel.size (fun k hk e => by omega)))
                      clear hz ho
                      go_wp2_with fail
                      refine bodyPost_ret (results_cell_tmp rfl _ _ w.heap.size 44 _ (0, 0) _ rfl HZ6.out Tryz.underlying44 rfl (by kernel_rfl)) rfl ?_
                      exact ⟨by rw [HSJ.out]; rfl, B6.out⟩
                · have hq : q < xs.length := by
                    have := bestTo_lt _ _ _ _ HP.out
                    exact this
                  have HS3 := Lib.hid (show evensP (loadsP xs l) bs (a + 1) (c + 1) = some (moveE (shAt xs q).id ((a + 1 : Nat) : Int)) from by
                    rw [HEV.out (some q) (by unfold bestN; rw [loads_len]; exact HP.out)]
                    show some (moveE (plAt (loadsP xs l) q).1.id _) = _
                    rw [HPL.out q hq])
                  have HNX := Lib.hid (HN3.out _ HS1.out HS2.out HS3.out)
                  obtain ⟨b', o', rfl, -⟩ := row_flat Sh.cells 5 (by decide) Sh.cells_len HB.out.row q hq
                  have c0 : wr.cell? ⟨b', o' + q * 5, none⟩ = some (.int .i64 (shAt xs q).id) := row_shc HB.out.row hq 0 _ rfl
                  have HE4 := Lib.hid HB.out.ebox
                  unfold zeroEn at HE4
                  generalize (shAt xs q).id = sid at *
                  have hnn : ¬ ((q : Nat) : Int) < 0 := by omega
                  clear HP HEV HGY HGZ HS3
                  go_wp2_with (refine wpList_store_blk rfl 44 (.tmp 8) (.tmp 141) rfl w.heap.size #[.int .i64 2, .int .i64 sid, .int .i64 0, .int .i64 ((a : Int) + 1), .int .i64 0, .int .i64 0, .slice none 0 0, .string ⟨#[]⟩, .int .i64 0, .int .i64 0, .int .i64 0, .slice none 0 0] rfl rfl 44 _ HE4.out rfl (by kernel_rfl) (by kernel_rfl) ?_)
                  refine Lib.hid ?_
                  intro w6 hz ho
                  have HZ6 := Lib.hid hz
                  have B6 := Lib.hid (HB.out.bel.trans (ho.to_below HB.out.bel.size (fun k hk e => by omega)))
                  clear hz ho
                  go_wp2_with fail
                  refine bodyPost_ret (results_cell_tmp rfl _ _ w.heap.size 44 _ (0, 0) _ rfl HZ6.out Tryz.underlying44 rfl (by kernel_rfl)) rfl ?_
                  exact ⟨by rw [HNX.out]; rfl, B6.out⟩
end Go.Proofs.YthjmfcdhpdiehaaGreatDoor
