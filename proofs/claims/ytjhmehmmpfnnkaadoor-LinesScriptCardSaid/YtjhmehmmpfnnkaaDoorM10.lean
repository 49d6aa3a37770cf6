/-
  What Parse's walk leans on: the words of a line are right texts; how the reading stands.
  The contract of lines.Parse.
  A region that draws its order, taken operation by operation: what is quiet first; then the one that is left.
-/
import Derived.Test.YtjhmehmmpfnnkaaDoorM09
namespace Go.Proofs.YtjhmehmmpfnnkaaDoor
open Go.RowKit Utf
set_option maxRecDepth 100000
set_option linter.unusedSimpArgs false
set_option linter.unusedVariables false

theorem ws_good (B : Nat) : ∀ (l : List Nat) (s t : WS), (∀ x ∈ s.out, allOk x ∧ (encAll x).length ≤ B) → allOk s.cur → allOk l → (encAll s.cur).length + (encAll l).length ≤ B → wsRun s l = some t →
    (∀ x ∈ t.out, allOk x ∧ (encAll x).length ≤ B) ∧ allOk t.cur ∧ (encAll t.cur).length ≤ B := by
  intro l
  induction l with
  | nil =>
    intro s t h1 h2 h3 h4 h
    cases h
    exact ⟨h1, h2, by omega⟩
  | cons c l ih =>
    intro s t h1 h2 h3 h4 h
    simp only [wsRun] at h
    cases hs : s.step c with
    | none => rw [hs] at h; cases h
    | some u =>
      rw [hs] at h
      have hc := allOk_cons.1 h3
      rw [encAll_cons, List.length_append] at h4
      have hu : (∀ x ∈ u.out, allOk x ∧ (encAll x).length ≤ B) ∧ allOk u.cur ∧ (encAll u.cur).length + (encAll l).length ≤ B := by
        have hnew : allOk (s.cur ++ [c]) ∧ (encAll (s.cur ++ [c])).length + (encAll l).length ≤ B := by
          refine ⟨allOk_append.2 ⟨h2, allOk_cons.2 ⟨hc.1, allOk_nil⟩⟩, ?_⟩
          rw [encAll_append, encAll_cons, encAll_nil, List.append_nil, List.length_append]
          omega
        unfold WS.step at hs
        split at hs
        · cases hs
        · cases hs
          exact ⟨h1, h2, by omega⟩
        · cases hs
          refine ⟨?_, allOk_nil, by simp [encAll_nil]; omega⟩
          intro x hx
          simp only [List.mem_append, List.mem_singleton] at hx
          rcases hx with hx | rfl
          · exact h1 x hx
          · exact ⟨h2, by omega⟩
        · cases hs
          exact ⟨h1, hnew.1, hnew.2⟩
      exact ih u t hu.1 hu.2.1 hc.2 hu.2.2 h

theorem words_good {rs : List Nat} {ws : List (List Nat)} (ho : allOk rs) (hl : (encAll rs).length ≤ 1000000) (h : wordsL rs = some ws) : Good ws ∧ ws.length ≤ 1000001 := by
  unfold wordsL at h
  cases hr : wsRun ws0 rs with
  | none => rw [hr] at h; cases h
  | some s =>
    rw [hr] at h
    obtain ⟨h1, h2, h3⟩ := ws_good 1000000 rs ws0 s (fun x hx => by cases hx) allOk_nil ho (by simp [ws0, encAll_nil]; exact hl) hr
    have h4 := wsRun_len _ _ _ hr
    have h5 := encAll_len rs
    have hfin : s.fin = some ws := h
    have hout : s.out.length ≤ rs.length := by simpa [ws0] using h4
    have hmem : ∀ l : List (List Nat), l = s.out ∨ l = s.out ++ [s.cur] → Good l := by
      intro l hl x hx
      rcases hl with rfl | rfl
      · exact h1 x hx
      · rcases List.mem_append.1 hx with hx | hx
        · exact h1 x hx
        · simp only [List.mem_singleton] at hx
          subst hx
          exact ⟨h2, h3⟩
    unfold WS.fin at hfin
    split at hfin
    · rename_i hm
      cases hfin
      exact ⟨hmem _ (.inl rfl), by omega⟩
    · rename_i hm
      cases hfin
      exact ⟨hmem _ (.inr rfl), by rw [List.length_append]; simp only [List.length_singleton]; omega⟩
    · rename_i hm
      cases hfin
      exact ⟨hmem _ (.inr rfl), by rw [List.length_append]; simp only [List.length_singleton]; omega⟩
    · cases hfin
    · cases hfin

theorem Only.iterAt {w : World} {k : Nat} {s : ByteArray} {p : Nat} (h : w.heap[k]? = some (.stringIter s p)) (p' : Nat) : Only (fun i => i = k) w (w.iterAt k s p') :=
  ⟨rfl, rfl, rfl, by rw [Lib.iterAt_size]; exact Nat.le_refl _, fun i _ hn => Lib.iterAt_other _ _ _ _ _ hn⟩

/-- How the reading of a line stands: w: the world when the call began. -/
structure PSt (w : World) (ea : Nat → Addr) (K : Nat → Prop) (rb sb c b : Nat) (wr : World) (cs : Array Value) (ws : List (List Nat)) (n : Nat) : Prop where
  only : Only (fun _ => False) w wr
  res : Blk wr rb 48 wZero
  tab : Blk wr sb 79 shapeCells
  rat : RAt wr b ea ws n K
  ob : Blk wr c 48 cs
  err : LErr wr ea
  good : Good ws
  base : w.heap.size ≤ rb
  o1 : rb < sb
  o2 : sb < c
  o3 : c < b
  top : gTop ≤ rb
  klt : ∀ k, K k → k < c
  krb : ¬ K rb

section
variable {w : World} {ea : Nat → Addr} {K : Nat → Prop} {rb sb c b : Nat} {wr w' : World} {cs : Array Value} {ws : List (List Nat)} {n : Nat}
theorem PSt.kc (h : PSt w ea K rb sb c b wr cs ws n) : ¬ K c := fun hk => Nat.lt_irrefl _ (h.klt c hk)
theorem PSt.kb (h : PSt w ea K rb sb c b wr cs ws n) : ¬ K b := fun hk => by have := h.klt b hk; have := h.o3; omega
/-- Nothing of it turns. -/
theorem PSt.keep {S : Nat → Prop} (h : PSt w ea K rb sb c b wr cs ws n) (ho : Only S wr w') (hs : ∀ k, S k → b < k) : PSt w ea K rb sb c b w' cs ws n := by
  have e1 := h.o1
  have e2 := h.o2
  have e3 := h.o3
  have e4 := h.base
  have e5 := h.top
  exact ⟨h.only.step ho (fun k hk => .inr (by have := hs k hk; omega)), h.res.only ho (fun k => by have := hs _ k; omega), h.tab.only ho (fun k => by have := hs _ k; omega),
    h.rat.only ho (fun k => by have := hs _ k; omega) (fun k hk hkk => by have := hs k hk; have := h.klt k hkk; omega), h.ob.only ho (fun k => by have := hs _ k; omega),
    h.err.only ho (fun k hk => by have := hs k hk; omega), h.good, e4, e1, e2, e3, e5, h.klt, h.krb⟩
/-- The reader and the op turn. -/
theorem PSt.turn (h : PSt w ea K rb sb c b wr cs ws n) {cs' : Array Value} {ws' : List (List Nat)} {n' : Nat} (ho : Only (fun k => k = b ∨ k = c) wr w') (hr : RAt w' b ea ws' n' K) (hb : Blk w' c 48 cs') (hg : Good ws') : PSt w ea K rb sb c b w' cs' ws' n' := by
  have e1 := h.o1
  have e2 := h.o2
  have e3 := h.o3
  have e4 := h.base
  have e5 := h.top
  exact ⟨h.only.step ho (fun k hk => .inr (by omega)), h.res.only ho (by omega), h.tab.only ho (by omega), hr, hb, h.err.only ho (fun k hk => by omega), hg, e4, e1, e2, e3, e5, h.klt, h.krb⟩
theorem PSt.read (h : PSt w ea K rb sb c b wr cs ws n) {o : Nat} {rv : Option Value} {ws' : List (List Nat)} {n' : Nat} {e : Ending} (hp : ReadPost b c o 48 cs ea K wr (rv, ws', n') e w') (hg : Good ws') : PSt w ea K rb sb c b w' (putAt cs o rv) ws' n' :=
  h.turn hp.2.1 hp.2.2.1 hp.2.2.2 hg
end

/-- One field is read: whatever field it is. -/
theorem read_fld {w : World} {ea : Nat → Addr} {K : Nat → Prop} {rb sb c b : Nat} {wr : World} {p : PW} {vo vg : Value} {ws : List (List Nat)} {n : Nat} (f : Fld) (h : PSt w ea K rb sb c b wr (wCells p vo vg) ws n) (hz : p.getN f = 0 ∧ p.getS f = []) :
    Calls Tryd.prog 37 #[.pointer (some ⟨b, 0, none⟩), ptrF c f] wr fun e w' => e = .returned (.tuple #[]) ∧ Only (fun k => k = b ∨ k = c) wr w' ∧
      ∃ p' ws' n', (if isNum f = true then (p', ws', n') = (p.setN ((rdNum ws n).1.getD 0) f, (rdNum ws n).2.1, (rdNum ws n).2.2) else (p', ws', n') = (p.setS ((rdStr ws n).1.getD []) f, (rdStr ws n).2.1, (rdStr ws n).2.2)) ∧
        PSt w ea K rb sb c b w' (wCells p' vo vg) ws' n' := by
  have hbc : b ≠ c := by have := h.o3; omega
  have hb : gTop ≤ b := by have := h.o1; have := h.o2; have := h.o3; have := h.top; omega
  have hc : gTop ≤ c := by have := h.o1; have := h.o2; have := h.top; omega
  cases hf : isNum f with
  | true =>
    have hp : ptrF c f = .iface 95 (.pointer (some ⟨c, offF f, none⟩)) := by unfold ptrF; rw [hf]; rfl
    rw [hp]
    have h0 : (wCells p vo vg)[offF f]? = some (.int .i64 0) := by rw [wCells_getN p vo vg f hf, hz.1]
    refine (read_num b c (offF f) 48 (wCells p vo vg) 0 ea ws n K wr h.rat h.kb h.kc h.good h.ob h0 hbc hb hc h.err).mono ?_
    intro e w' hp
    have h2 := h.read hp (rdNum_good h.good)
    rw [putNum _ _ _ h0, wCells_setN p vo vg f hf] at h2
    exact ⟨hp.1, hp.2.1, _, _, _, by rw [if_pos rfl], h2⟩
  | false =>
    have hp : ptrF c f = .iface 100 (.pointer (some ⟨c, offF f, none⟩)) := by unfold ptrF; rw [hf]; rfl
    rw [hp]
    have h0 : (wCells p vo vg)[offF f]? = some (.string ByteArray.empty) := by rw [wCells_getS p vo vg f hf, hz.2]; rfl
    refine (read_str b c (offF f) 48 (wCells p vo vg) ByteArray.empty ea ws n K wr h.rat h.kb h.kc h.good h.ob h0 hbc hb hc h.err).mono ?_
    intro e w' hp
    have h2 := h.read hp (rdStr_good h.good)
    rw [putStr _ _ _ h0, wCells_setS p vo vg f hf] at h2
    exact ⟨hp.1, hp.2.1, _, _, _, by rw [if_neg (by decide)], h2⟩

theorem rdFlds_cons (f : Fld) (fs : List Fld) (p : PW) (ws : List (List Nat)) (n : Nat) {p' : PW} {ws' : List (List Nat)} {n' : Nat}
    (h : if isNum f = true then (p', ws', n') = (p.setN ((rdNum ws n).1.getD 0) f, (rdNum ws n).2.1, (rdNum ws n).2.2) else (p', ws', n') = (p.setS ((rdStr ws n).1.getD []) f, (rdStr ws n).2.1, (rdStr ws n).2.2)) :
    rdFlds (f :: fs) p ws n = rdFlds fs p' ws' n' := by
  simp only [rdFlds]
  split at h
  · rename_i hf
    rw [if_pos hf]
    cases h
    rfl
  · rename_i hf
    rw [if_neg hf]
    cases h
    rfl
theorem clear_next (f : Fld) (fs : List Fld) (p : PW) (ws : List (List Nat)) (n : Nat) {p' : PW} {ws' : List (List Nat)} {n' : Nat} (hc : Clear p (f :: fs)) (hn : (f :: fs).Nodup)
    (h : if isNum f = true then (p', ws', n') = (p.setN ((rdNum ws n).1.getD 0) f, (rdNum ws n).2.1, (rdNum ws n).2.2) else (p', ws', n') = (p.setS ((rdStr ws n).1.getD []) f, (rdStr ws n).2.1, (rdStr ws n).2.2)) : Clear p' fs := by
  split at h
  · cases h; exact hc.setN hn _
  · cases h; exact hc.setS hn _
theorem clear_start (k e : Int) (fs : List Fld) : Clear { PW.zero with kind := k, ekind := e } fs := by
  intro f _
  cases f <;> exact ⟨rfl, rfl⟩
theorem rdLen_fld (f : Fld) (p : PW) (ws : List (List Nat)) (n : Nat) {p' : PW} {ws' : List (List Nat)} {n' : Nat}
    (h : if isNum f = true then (p', ws', n') = (p.setN ((rdNum ws n).1.getD 0) f, (rdNum ws n).2.1, (rdNum ws n).2.2) else (p', ws', n') = (p.setS ((rdStr ws n).1.getD []) f, (rdStr ws n).2.1, (rdStr ws n).2.2)) : ws'.length ≤ ws.length := by
  split at h
  · cases h; exact rdNum_len _ _
  · cases h; exact rdStr_len _ _

/-- What follows the fields is read: whatever the verb. -/
theorem rest_any {w : World} {ea : Nat → Addr} {K : Nat → Prop} {rb sb c b : Nat} {wr : World} {p : PW} {ws : List (List Nat)} {n : Nat} (k : Nat) (hk : k = 111 ∨ k = 103 ∨ k = 0) (h : PSt w ea K rb sb c b wr (wCells p (.slice none 0 0) (.slice none 0 0)) ws n) (hl : ws.length ≤ 1000000) (hkw : ∀ i, K i → i < wr.heap.size) :
    Calls Tryd.prog 39 #[.pointer (some ⟨b, 0, none⟩), .pointer (some ⟨c, 0, none⟩), .int .i32 (k : Int)] wr fun e w' => e = .returned (.tuple #[]) ∧ Only (fun i => i = b ∨ i = c) wr w' ∧
      ∃ vo vg ws', RAt w' b ea ws' (restAny k ws n).2.2 K ∧ Blk w' c 48 (wCells p vo vg) ∧ w'.ownsRow wr.heap.size 103 5 vo (restAny k ws n).1.length ((restAny k ws n).1.flatMap opCells) ∧ w'.ownsRow wr.heap.size 3 1 vg (restAny k ws n).2.1.length (intRow (restAny k ws n).2.1) := by
  have hbc : b ≠ c := by have := h.o3; omega
  have hb : gTop ≤ b := by have := h.o1; have := h.o2; have := h.o3; have := h.top; omega
  have hc : gTop ≤ c := by have := h.o1; have := h.o2; have := h.top; omega
  rcases hk with rfl | rfl | rfl
  · refine (rest_ops b c _ ea ws n K wr h.rat h.kb h.kc hkw h.good h.ob rfl rfl hbc hb hc h.err hl).mono ?_
    rintro e w' ⟨h1, h2, ⟨ws', h3⟩, v, h4, h5⟩
    rw [wCells_ops] at h4
    exact ⟨h1, h2, v, .slice none 0 0, ws', h3, h4, h5, World.ownsRow_nil _ _ _ _⟩
  · refine (rest_nums b c _ ea ws n K wr h.rat h.kb h.kc hkw h.good h.ob rfl rfl hbc hb hc h.err hl).mono ?_
    rintro e w' ⟨h1, h2, ⟨ws', h3⟩, v, h4, h5⟩
    rw [wCells_gone] at h4
    exact ⟨h1, h2, .slice none 0 0, v, ws', h3, h4, World.ownsRow_nil _ _ _ _, h5⟩
  · refine (restN_any b c ea ws n K wr h.rat h.kb hb h.err).mono ?_
    rintro e w' ⟨h1, h2, ws', h3⟩
    exact ⟨h1, h2.mono (fun i hi => .inl hi), .slice none 0 0, .slice none 0 0, ws', h3, h.ob.only h2 (fun e => hbc e.symm), World.ownsRow_nil _ _ _ _, World.ownsRow_nil _ _ _ _⟩
end Go.Proofs.YtjhmehmmpfnnkaaDoor

namespace Go.Proofs.YtjhmehmmpfnnkaaDoor
open Go.RowKit Utf
set_option maxRecDepth 100000
set_option linter.unusedSimpArgs false
set_option linter.unusedVariables false

/-- What lines.Parse answers, the words given. -/
def ParsePost (ea : Nat → Addr) (ws : List (List Nat)) (w : World) (e : Ending) (w' : World) : Prop :=
  Below w.heap.size w w' ∧ ((∃ m, parseW ws = (m, none) ∧ e = .returned (.tuple #[.agg wZero, errOf ea m])) ∨
    (∃ l vo vg, parseW ws = (0, some l) ∧ e = .returned (.tuple #[.agg (wCells l.p vo vg), .nilIface]) ∧
      w'.ownsRow w.heap.size 103 5 vo l.ops.length (l.ops.flatMap opCells) ∧ w'.ownsRow w.heap.size 3 1 vg l.gone.length (intRow l.gone)))

theorem own_slice1 {w : World} {B : Nat} {e : TypeId} {size : Nat} {v : Value} {n : Nat} {xs : List Value} (h : w.ownsRow B e size v n xs) : ∃ a n c, v = .slice a n c := by
  rcases h.2 with ⟨rfl, _⟩ | ⟨g, cap, cur, rfl, _⟩
  · exact ⟨_, _, _, rfl⟩
  · exact ⟨_, _, _, rfl⟩
theorem wCells_size (p : PW) (vo vg : Value) : (wCells p vo vg).size = 24 := rfl
theorem wZero_size : wZero.size = 24 := rfl
theorem wCells_one (p : PW) (vo vg : Value) (h1 : ∃ a n c, vo = .slice a n c) (h2 : ∃ a n c, vg = .slice a n c) : (wCells p vo vg).all (·.oneCell') = true := by
  obtain ⟨a, n, c, rfl⟩ := h1
  obtain ⟨a', n', c', rfl⟩ := h2
  simp [wCells, txt, Value.oneCell']

set_option maxHeartbeats 8000000 in
theorem parse_some (ea : Nat → Addr) (s : ByteArray) (rs : List Nat) (x : List Nat) (r : List (List Nat)) (w : World) (hs : s.size ≤ 1000000) (ho : allOk rs) (h : s.data.toList = encAll rs) (he : LErr w ea) (hw : wordsL rs = some (x :: r)) :
    Calls Tryd.prog 17 #[.string s] w (ParsePost ea (x :: r) w) := by
  have hes : (encAll rs).length ≤ 1000000 := by rw [← h, ← Lib.size_eq]; exact hs
  obtain ⟨hgood, hwl⟩ := words_good ho hes hw
  have hrl : r.length ≤ 1000000 := by simp at hwl; omega
  have HW := Lib.hid (fun W he => words_some ea s rs W hs ho h he)
  have hz := Blk.new w 48 wZero
  have HZ := Lib.hid hz
  have HE := Lib.hid (he.only (S := fun _ => False) ((Only.refl _ w).alloc (.cells wZero 48)) (fun _ h => h.elim))
  have HEE := Lib.hid he
  have HN := Lib.hid hw
  have HG := Lib.hid hgood
  clear h ho he hz hw hgood hwl hes
  go_enter Tryd.func17, Tryd.ntmps17
  go_wp2_with fail
  refine (HW.out _ HE.out).mono ?_
  rintro e w1 ⟨hb1, hres⟩
  rcases hres with ⟨ws, v, h1, rfl, h3⟩ | ⟨h1, rfl⟩
  rotate_left
  · exact absurd (HN.out.symm.trans h1) (by simp)
  obtain rfl : ws = x :: r := (Option.some.inj (HN.out.symm.trans h1)).symm
  obtain ⟨ao, cap, rfl, hrow, -, hcap, hcm, -, hsp⟩ := h3.row
  obtain ⟨wbk, wof, rfl, hx0⟩ := hrow 0 (by simp [strRow, fieldTexts])
  have hx1 : w1.cell? ⟨wbk, wof, none⟩ = some (.string (mkS (encAll x))) := hx0
  have hwblt : wbk < w1.heap.size := World.block_lt_of_cell? w1 _ hx1
  have hsz1 : w.heap.size + 1 ≤ w1.heap.size := by have := hb1.size; simpa using this
  have hwbge : w.heap.size + 1 ≤ wbk := by
    have := (h3.lt wbk (by simp only [ownB]; rw [if_neg (by simp at hcap; omega)])).1
    simpa using this
  have HROW := Lib.hid hrow
  have HZ2 := Lib.hid ((HZ.out.below hb1 HZ.out.lt).alloc (.cells #[.slice (some ⟨wbk, wof, none⟩) (x :: r).length cap] 22))
  have HO1 := Lib.hid (show Only (fun _ => False) w (w1.alloc (.cells #[.slice (some ⟨wbk, wof, none⟩) (x :: r).length cap] 22)) from (((Only.refl _ w).alloc _).trans (Only.below_all hb1)).alloc _)
  have HE2 := Lib.hid ((HE.out.below hb1).only (S := fun _ => False) ((Only.refl _ w1).alloc (.cells #[.slice (some ⟨wbk, wof, none⟩) (x :: r).length cap] 22)) (fun _ h => h.elim))
  have hwc := Blk.new w1 22 #[.slice (some ⟨wbk, wof, none⟩) (x :: r).length cap]
  have HWC := Lib.hid hwc
  have HX2 := Lib.hid ((World.cell?_alloc_lt w1 (.cells #[.slice (some ⟨wbk, wof, none⟩) (x :: r).length cap] 22) ⟨wbk, wof, none⟩ hwblt).trans hx1)
  have hnz : (((r.length : Int) + 1) == 0) = false := by simp; omega
  clear hb1 hx0 hx1 hwc hrow h3
  simp only [List.length_cons] at HZ2 HO1 HE2 HWC HX2 hcap ⊢
  go_wp2_with fail
  refine (shapes_any _).mono ?_
  rintro e w2 ⟨rfl, hw2⟩
  have hT := Blk.new (w1.alloc (.cells #[.slice (some ⟨wbk, wof, none⟩) (r.length + 1) cap] 22)) 79 shapeCells
  have HT := Lib.hid (show Blk w2 (w1.heap.size + 1) 79 shapeCells by rw [hw2]; rw [World.size_alloc] at hT; exact hT)
  have HZ3 := Lib.hid (show Blk w2 w.heap.size 48 wZero by rw [hw2]; exact HZ2.out.alloc _)
  have HO3 := Lib.hid (show Only (fun _ => False) w w2 by rw [hw2]; exact HO1.out.alloc _)
  have HE3 := Lib.hid (show LErr w2 ea by rw [hw2]; exact HE2.out.only (S := fun _ => False) ((Only.refl _ _).alloc _) (fun _ h => h.elim))
  have HWC3 := Lib.hid (show Blk w2 w1.heap.size 22 #[.slice (some ⟨wbk, wof, none⟩) (r.length + 1) cap] by rw [hw2]; exact HWC.out.alloc _)
  have HX3 := Lib.hid (show w2.cell? ⟨wbk, wof, none⟩ = some (.string (mkS (encAll x))) by rw [hw2]; exact (World.cell?_alloc_lt _ _ ⟨wbk, wof, none⟩ (by simp; omega)).trans HX2.out)
  have HROW3 := Lib.hid (show RowAt w2 (some ⟨wbk, wof, none⟩) (strRow (fieldTexts (x :: r))) by
    rw [hw2]; exact HROW.out.only (S := fun _ => False) (((Only.refl _ w1).alloc _).alloc _) (fun _ _ h => h))
  have HS2 := Lib.hid (show w2.heap.size = w1.heap.size + 2 by rw [hw2]; simp)
  clear hT hw2 HZ2 HO1 HE2 HWC HX2 HROW
  rw [World.size_alloc]
  go_wp2_with fail
  refine (index_parse (w1.heap.size + 1) w1.heap.size ⟨wbk, wof, none⟩ (r.length + 1) cap (mkS (encAll x)) w2 rfl (by omega) (HWC3.out.cell 0) HX3.out HT.out).mono ?_
  rintro e w3 ⟨rfl, hb3⟩
  have hvi : verbIdx (mkS (encAll x)).toList = verbIdx (encAll x) := by rw [Lib.toList_data, mkS_data]
  rw [hvi]
  have HT4 := Lib.hid (HT.out.below hb3 HT.out.lt)
  have HZ4 := Lib.hid (HZ3.out.below hb3 HZ3.out.lt)
  have HO4 := Lib.hid (HO3.out.trans (Only.below_all hb3))
  have HE4 := Lib.hid (HE3.out.below hb3)
  have HWC4 := Lib.hid (HWC3.out.below hb3 HWC3.out.lt)
  have HROW4 := Lib.hid (HROW3.out.below hb3)
  have HS4 := Lib.hid (show w1.heap.size + 2 ≤ w3.heap.size by have := hb3.size; have := HS2.out; omega)
  clear hb3 hvi HT HZ3 HO3 HE3 HWC3 HX3 HROW3
  by_cases hv : verbIdx (encAll x) < 17
  rotate_left
  · have HPW := Lib.hid (show parseW (x :: r) = (7, none) by
      have : verbs[verbIdx (encAll x)]? = none := List.getElem?_eq_none (by show 17 ≤ _; omega)
      simp only [parseW, this])
    have hii : idxInt (verbIdx (encAll x)) = -1 := by unfold idxInt; rw [if_neg hv]
    rw [hii]
    have ke := HE4.out.name
    clear hii hv
    go_wp2_with fail
    refine wp_region_held_drew (S := fun W => W.cell? ⟨6, 0, none⟩ = some (.iface 163 (.pointer (some (ea 6))))) (by kernel_rfl) ke ?_
    intro hS
    refine wpAnyH_take (i := 0) (v := .agg wZero) rfl (by kernel_rfl) (by kernel_rfl) (by kernel_rfl) (fun _ _ _ h => h) (.inl ⟨by rfl, fun W _ => by kernel_rfl⟩) hS ?_
    refine wpAnyH_take (i := 1) (v := .iface 163 (.pointer (some (ea 6)))) rfl (by kernel_rfl) (by kernel_rfl) (by kernel_rfl) (fun _ _ _ h => h) (.inl ⟨by rfl, fun W hW => by go_simp⟩) hS ?_
    refine wpAnyH_ready (rs := [2]) (by kernel_rfl) (by simp) ?_
    refine AllReadyH.cons rfl (fun K hK => ?_) AllReadyH.nil
    rw [if_pos (by rfl)]
    refine wp_store_blk 48 (.tmp 2) (.tmp 34) rfl w.heap.size wZero rfl rfl 48 wZero (Blk.drewN HZ4.out 1) rfl Tryd.sizeW wZero_one ?_
    intro w5 hz5 ho5
    have HZ5 := Lib.hid hz5
    have HO5 := Lib.hid ho5
    refine hK.out _ _ (ho5.cell hS (fun h => by have := World.block_lt_of_cell? w _ (HEE.out.name); simp only at h this; omega)) (fun hS => ?_)
    clear hK K
    refine wpAnyH_take (i := 3) (v := .iface 163 (.pointer (some (ea 6)))) rfl (by kernel_rfl) (by kernel_rfl) (by kernel_rfl) (fun _ _ _ h => h) (.inl ⟨by rfl, fun W hW => by go_simp⟩) hS ?_
    refine wpAnyH_done (by kernel_rfl) ?_ _
    clear hz5 ho5
    go_wp2_with fail
    refine bodyPost_ret (results_cell_tmp rfl _ _ w.heap.size 48 wZero (0, 0) _ rfl HZ5.out Tryd.underlying48 rfl Tryd.sizeW) rfl ?_
    exact ⟨(Only.step (Only.drewN HO4.out 1) HO5.out (fun k hk => .inr (Nat.le_of_eq hk.symm))).to_below (Nat.le_refl _) (fun _ _ h => h), .inl ⟨7, HPW.out, rfl⟩⟩
  · have hk2 : verbIdx (encAll x) < verbs.length := hv
    have hii : idxInt (verbIdx (encAll x)) = (verbIdx (encAll x) : Int) := by unfold idxInt; rw [if_pos hv]
    have hcell : ∀ j, j < 5 → w3.cell? ⟨w1.heap.size + 1, verbIdx (encAll x) * 5 + j, none⟩ = (shapeOf verbs[verbIdx (encAll x)])[j]? := by
      intro j hj5
      rw [HT4.out.cell, Nat.mul_comm (verbIdx (encAll x)) 5, shape_at _ hk2 j hj5]
    have HPW := Lib.hid (show parseW (x :: r) = (let q := rdFlds verbs[verbIdx (encAll x)].flds { PW.zero with kind := verbs[verbIdx (encAll x)].kind, ekind := verbs[verbIdx (encAll x)].ekind } r 0
        let o := restAny verbs[verbIdx (encAll x)].rest q.2.1 q.2.2
        if o.2.2 = 0 then (0, some ⟨q.1, o.1, o.2.1⟩) else (o.2.2, none)) by
      have : verbs[verbIdx (encAll x)]? = some verbs[verbIdx (encAll x)] := List.getElem?_eq_getElem hk2
      simp only [parseW, this])
    have HND := Lib.hid (verbs_nodup _ (List.getElem_mem hk2))
    have HRK := Lib.hid (verbs_rest _ (List.getElem_mem hk2))
    rw [hii]
    generalize hkk : verbIdx (encAll x) = k at *
    clear hkk hii
    generalize verbs[k] = v at *
    have s1 : w3.cell? ⟨w1.heap.size + 1, k * 5 + 1, none⟩ = some (.int .i64 (v.kind : Int)) := hcell 1 (by omega)
    have s2 : w3.cell? ⟨w1.heap.size + 1, k * 5 + 2, none⟩ = some (.int .i64 (v.ekind : Int)) := hcell 2 (by omega)
    have s3 : w3.cell? ⟨w1.heap.size + 1, k * 5 + 3, none⟩ = some (.string (mkS (encAll (v.flds.map letP)))) := hcell 3 (by omega)
    have HC4 := Lib.hid (show shapeCells[k * 5 + 4]? = some (.int .i32 (v.rest : Int)) from (HT4.out.cell (k * 5 + 4)).symm.trans (hcell 4 (by omega)))
    have HS3 := Lib.hid s3
    have HS2 := Lib.hid s2
    have hlt3 : w1.heap.size + 1 < w3.heap.size := HT4.out.lt
    have hk17 : (k : Int) < 17 := by omega
    have hcap1 : (1 : Int) ≤ (cap : Int) := by omega
    have HTOP := Lib.hid HEE.out.top
    unfold maxLen at hcm
    clear hcell s2 s3
    have HWCC := Lib.hid (show wCells { PW.zero with kind := (v.kind : Int) } (.slice none 0 0) (.slice none 0 0) = #[.int .i64 (v.kind : Int), .int .i64 0, .int .i64 0, .int .i64 0, .slice none 0 0, .int .i64 0, .int .i64 0, .int .i64 0, .int .i64 0, .int .i64 0, .int .i64 0, .slice none 0 0, .string ⟨#[]⟩,
      .int .i64 0, .int .i64 0, .int .i64 0, .slice none 0 0, .string ⟨#[]⟩, .string ⟨#[]⟩, .string ⟨#[]⟩, .slice none 0 0, .int .u64 0, .int .i64 0, .int .i64 0] from rfl)
    have HONE := Lib.hid (wCells_one { PW.zero with kind := (v.kind : Int) } (.slice none 0 0) (.slice none 0 0) ⟨_, _, _, rfl⟩ ⟨_, _, _, rfl⟩)
    rw [HWCC.out] at HONE
    have hzn := Blk.new w3 48 wZero
    have hon : Only (fun _ => False) w3 (w3.alloc (.cells wZero 48)) := (Only.refl _ w3).alloc _
    have HZN := Lib.hid hzn
    have HON := Lib.hid hon
    clear hzn hon
    go_wp2_with (refine wpList_store_blk rfl 48 (.tmp 8) (.tmp 41) rfl w3.heap.size _ rfl rfl 48 wZero HZN.out rfl Tryd.sizeW HONE.out ?_)
    refine Lib.hid ?_
    intro w4 hb4 ho4
    have hb4' := hb4
    have HB4 := Lib.hid (show Blk w4 w3.heap.size 48 (wCells { PW.zero with kind := (v.kind : Int) } (.slice none 0 0) (.slice none 0 0)) by rw [HWCC.out]; exact hb4)
    have HO34 := Lib.hid (show Only (fun _ => False) w3 w4 from HON.out.step ho4 (fun k hk => .inr (Nat.le_of_eq hk.symm)))
    have HSZ4 := Lib.hid (show w3.heap.size + 1 ≤ w4.heap.size by have := ho4.size; simpa using this)
    have HT5 := Lib.hid (HT4.out.only HO34.out (fun h => h))
    have HZ5 := Lib.hid (HZ4.out.only HO34.out (fun h => h))
    have HW5 := Lib.hid (HWC4.out.only HO34.out (fun h => h))
    have HE5 := Lib.hid (HE4.out.only HO34.out (fun _ h => h.elim))
    have HROW5 := Lib.hid (HROW4.out.only HO34.out (fun _ _ h => h))
    have HO5 := Lib.hid (HO4.out.trans HO34.out)
    have s2 : w4.cell? ⟨w1.heap.size + 1, k * 5 + 2, none⟩ = some (.int .i64 (v.ekind : Int)) := HO34.out.cell HS2.out (fun h => h)
    have k5 := hb4'.cell 5
    have k5f := hb4'.frozen 5
    have hset : Only (fun i => i = w3.heap.size) w4 (w4.setCell ⟨w3.heap.size, 5, none⟩ (.int .i64 (v.ekind : Int))) := (Only.refl (fun i => i = w3.heap.size) w4).set (.inl rfl) _
    have HSET := Lib.hid hset
    have swc : (w4.setCell ⟨w3.heap.size, 5, none⟩ (.int .i64 (v.ekind : Int))).cell? ⟨w1.heap.size, 0, none⟩ = some (.slice (some ⟨wbk, wof, none⟩) (r.length + 1) cap) := hset.cell (HW5.out.cell 0) (by simp; omega)
    have s3 : (w4.setCell ⟨w3.heap.size, 5, none⟩ (.int .i64 (v.ekind : Int))).cell? ⟨w1.heap.size + 1, k * 5 + 3, none⟩ = some (.string (mkS (encAll (v.flds.map letP)))) := hset.cell (HO34.out.cell HS3.out (fun h => h)) (by simp; omega)
    have hl3 : (w1.heap.size + 1) < (w4.setCell ⟨w3.heap.size, 5, none⟩ (.int .i64 (v.ekind : Int))).heap.size := World.block_lt_of_cell? _ _ s3
    have s3' := fun o => (World.cell?_alloc_lt _ o ⟨w1.heap.size + 1, k * 5 + 3, none⟩ hl3).trans s3
    have HPS := Lib.hid (show ∀ (ao2 : Option Addr) (cap2 : Nat), r.length ≤ cap2 → cap2 ≤ 9223372036854775807 → (cap2 = cap - 1) → (ao2 = some ⟨wbk, wof, none⟩ ∧ cap = 1 ∨ ao2 = some ⟨wbk, wof + 1, none⟩) →
        PSt w ea (fun i => w.heap.size + 1 ≤ i ∧ i < w1.heap.size) w.heap.size (w1.heap.size + 1) w3.heap.size w4.heap.size (((w4.setCell ⟨w3.heap.size, 5, none⟩ (.int .i64 (v.ekind : Int))).alloc (.cells #[.slice ao2 r.length cap2, .nilIface] 83)).iter (mkS (encAll (v.flds.map letP))) 0) (wCells { PW.zero with kind := (v.kind : Int), ekind := (v.ekind : Int) } (.slice none 0 0) (.slice none 0 0)) r 0 from by
      intro ao2 cap2 h1 h2 h3 h4
      have hof : Only (fun i => i = w3.heap.size) w4 (((w4.setCell ⟨w3.heap.size, 5, none⟩ (.int .i64 (v.ekind : Int))).alloc (.cells #[.slice ao2 r.length cap2, .nilIface] 83)).iter (mkS (encAll (v.flds.map letP))) 0) := (HSET.out.alloc _).alloc _
      have hsz : (w4.setCell ⟨w3.heap.size, 5, none⟩ (.int .i64 (v.ekind : Int))).heap.size = w4.heap.size := by simp [World.setCell]
      have hbk : Blk (((w4.setCell ⟨w3.heap.size, 5, none⟩ (.int .i64 (v.ekind : Int))).alloc (.cells #[.slice ao2 r.length cap2, .nilIface] 83)).iter (mkS (encAll (v.flds.map letP))) 0) w4.heap.size 83 #[.slice ao2 r.length cap2, .nilIface] := by
        have := (Blk.new (w4.setCell ⟨w3.heap.size, 5, none⟩ (.int .i64 (v.ekind : Int))) 83 #[.slice ao2 r.length cap2, .nilIface]).alloc (.stringIter (mkS (encAll (v.flds.map letP))) 0)
        rw [hsz] at this
        exact this
      have hrest : RowAt w4 (some ⟨wbk, wof + 1, none⟩) (strRow (fieldTexts r)) := HROW5.out.rest wbk wof rfl
      refine ⟨HO5.out.step hof (fun i hi => .inr (by omega)), HZ5.out.only hof (by omega), HT5.out.only hof (by omega), ?_, ?_, HE5.out.only hof (fun i hi => by have := HTOP.out; omega), HG.out.tail, Nat.le_refl _, by omega, by omega, by have := HSZ4.out; omega, HTOP.out, fun i hi => by omega, fun hi => by omega⟩
      · refine ⟨ao2, cap2, hbk, ?_, h1, by unfold maxLen; omega, ?_, ?_, ?_⟩
        · rcases h4 with ⟨rfl, h4⟩ | rfl
          · have hr0 : r.length = 0 := by omega
            intro i hi
            rw [List.length_eq_zero_iff.1 hr0] at hi
            simp [strRow, fieldTexts] at hi
          · exact hrest.only hof (fun ad e => by cases e; simp only; omega)
        · intro ad e
          rcases h4 with ⟨rfl, h4⟩ | rfl <;> cases e <;> rfl
        · intro e
          rcases h4 with ⟨rfl, h4⟩ | rfl <;> cases e
        · intro ad e
          rcases h4 with ⟨rfl, h4⟩ | rfl <;> cases e <;> exact ⟨hwbge, hwblt⟩
      · have h5 := HB4.out.put 5 (.int .i64 (v.ekind : Int))
        have h6 := (h5.alloc (.cells #[.slice ao2 r.length cap2, .nilIface] 83)).alloc (.stringIter (mkS (encAll (v.flds.map letP))) 0)
        exact h6)
    have HLL := Lib.hid (show allOk (v.flds.map letP) from by intro c hc; obtain ⟨f, _, rfl⟩ := List.mem_map.1 hc; exact letP_ok f)
    have HFD := Lib.hid (show (mkS (encAll (v.flds.map letP))).data.toList = encAll (v.flds.map letP) from rfl)
    have HLP := Lib.hid (show (v.flds.map letP).length = v.flds.length from List.length_map ..)
    have HNX := Lib.hid (fun (W : World) b kk hb hk ty => next_at (P := Tryd.prog) HLL.out HFD.out W b kk hb hk ty)
    have HNE := Lib.hid (fun (W : World) b hb ty => next_at_end (P := Tryd.prog) HFD.out W b hb ty)
    have HME0 := Lib.hid (off_pos_lt HFD.out)
    have HGI := Lib.hid (fun kk (hk : kk < (v.flds.map letP).length) => show (v.flds.map letP)[kk] = letP (v.flds[kk]'(by rw [← HLP.out]; exact hk)) from List.getElem_map ..)
    generalize hfs : mkS (encAll (v.flds.map letP)) = fs at *
    generalize hls : v.flds.map letP = ls at *
    have HFS := Lib.hid hfs
    have HLS := Lib.hid hls
    clear hfs hls hb4 ho4 hb4' hset hl3 HZN HON HONE
    have hcap2 : r.length ≤ cap - 1 := by omega
    have hcap3 : cap - 1 ≤ 9223372036854775807 := by omega
    have hcs : (cap = 1) ∨ (¬ cap = 1) := Classical.em _
    have HCAP := Lib.hid (show cap = 1 → (cap : Int) = 1 ∧ cap - 1 = 0 ∧ r.length = 0 by omega)
    rcases hcs with hc1 | hc1
    all_goals
      go_wp2_with fail
      go_loopw [11] (fun _ wr => ∃ (kk : Nat) (p : PW) (ws : List (List Nat)) (n : Nat), kk ≤ v.flds.length ∧ wr.heap[w4.heap.size + 1]? = some (.stringIter fs (off ls kk)) ∧ PSt w ea (fun i => w.heap.size + 1 ≤ i ∧ i < w1.heap.size) w.heap.size (w1.heap.size + 1) w3.heap.size w4.heap.size wr (wCells p (.slice none 0 0) (.slice none 0 0)) ws n ∧ Clear p (v.flds.drop kk) ∧ ws.length ≤ 1000000 ∧ Hid (rdFlds v.flds { PW.zero with kind := (v.kind : Int), ekind := (v.ekind : Int) } r 0 = rdFlds (v.flds.drop kk) p ws n)) (fun _ wr => fs.size - wr.iterPos (w4.heap.size + 1))
      case atStart =>
        refine ⟨0, _, r, 0, Nat.zero_le _, ?_, HPS.out _ _ (by omega) (by omega) (by omega) (by first | exact .inl ⟨rfl, hc1⟩ | exact .inr rfl), clear_start _ _ _, hrl, rfl⟩
        have hin := fun (W : World) (e : W.heap.size = w4.heap.size + 1) => (e ▸ iter_new W fs 0 : (W.iter fs 0).heap[w4.heap.size + 1]? = some (.stringIter fs 0))
        exact hin _ (by simp [World.setCell])
      case round =>
        obtain ⟨kk, p, ws, n, hkk, hit, hps, hclr, hwsl, HF⟩ := hrel
        have HIT := Lib.hid hit
        have HP := Lib.hid hps
        have HCL := Lib.hid hclr
        have HPO := Lib.hid (show wr.iterPos (w4.heap.size + 1) = off ls kk by simp [World.iterPos, hit])
        clear hit hps hclr
        by_cases hlt : kk < v.flds.length
        · have hlt2 : kk < ls.length := by rw [HLP.out]; exact hlt
          have hnx := HNX.out wr (w4.heap.size + 1) kk HIT.out hlt2
          rw [HGI.out kk hlt2] at hnx
          have HME := Lib.hid (HME0.out kk hlt2)
          have hdr : v.flds.drop kk = v.flds[kk] :: v.flds.drop (kk + 1) := List.drop_eq_getElem_cons hlt
          have hnd : (v.flds[kk] :: v.flds.drop (kk + 1)).Nodup := by rw [← hdr]; exact HND.out.sublist (List.drop_sublist _ _)
          have HND2 := Lib.hid hnd
          have HDR := Lib.hid hdr
          have HCL2 := Lib.hid (show Clear p (v.flds[kk] :: v.flds.drop (kk + 1)) by rw [← hdr]; exact HCL.out)
          have HF2 := Lib.hid (show rdFlds v.flds { PW.zero with kind := (v.kind : Int), ekind := (v.ekind : Int) } r 0 = rdFlds (v.flds[kk] :: v.flds.drop (kk + 1)) p ws n by rw [← hdr]; exact HF.out)
          clear hdr hnd HF HCL HDR
          generalize v.flds[kk] = f at *
          generalize hoff1 : off ls (kk + 1) = p1 at *
          have HOF1 := Lib.hid hoff1
          clear hoff1
          have HIT2 := Lib.hid (Lib.iterAt_heap wr (w4.heap.size + 1) fs (off ls kk) p1 HIT.out)
          have HP2 := Lib.hid (HP.out.keep (Only.iterAt HIT.out p1) (fun i hi => by subst hi; omega))
          generalize hw5 : wr.iterAt (w4.heap.size + 1) fs p1 = w5 at *
          clear hw5
          have HRF := Lib.hid (read_fld f HP2.out (HCL2.out f (List.mem_cons_self ..)))
          go_wp2_with fail
          refine (field_any f w3.heap.size w5).mono ?_
          rintro e w6 ⟨rfl, rfl⟩
          go_wp2_with fail
          refine HRF.out.mono ?_
          rintro e w6 ⟨rfl, ho6, p', ws', n', heq, hps'⟩
          have HP6 := Lib.hid hps'
          have HCL6 := Lib.hid (clear_next f _ p ws n HCL2.out HND2.out heq)
          have HLE6 := Lib.hid (rdLen_fld f p ws n heq)
          have HF6 := Lib.hid (HF2.out.trans (rdFlds_cons f _ p ws n heq))
          have HIT6 := Lib.hid (show w6.heap[w4.heap.size + 1]? = some (.stringIter fs p1) from (ho6.block _ (Array.getElem?_eq_some_iff.1 HIT2.out).1 (by have := HSZ4.out; omega)).trans HIT2.out)
          clear ho6 heq hps'
          go_wp2_with fail
          go_roundw
          case rel => exact ⟨kk + 1, p', ws', n', by omega, by rw [HOF1.out]; exact HIT6.out, HP6.out, HCL6.out, by have := HLE6.out; omega, HF6.out⟩
          case measure => rw [HPO.out]; have := HIT6.out; simp only [World.iterPos, this]; exact HME.out
        · obtain rfl : kk = v.flds.length := by omega
          have hnx := HNE.out wr (w4.heap.size + 1) (by rw [HLP.out]; exact HIT.out)
          have HF2 := Lib.hid (show rdFlds v.flds { PW.zero with kind := (v.kind : Int), ekind := (v.ekind : Int) } r 0 = (p, ws, n) by have := HF.out; rw [List.drop_length] at this; exact this)
          have hrl4 : wr.cell? ⟨w1.heap.size + 1, k * 5 + 4, none⟩ = some (.int .i32 (v.rest : Int)) := (HP.out.tab.cell _).trans HC4.out
          have HRA := Lib.hid (rest_any v.rest HRK.out HP.out hwsl (fun i hi => by have := HP.out.ob.lt; omega))
          have HPW2 := Lib.hid (show parseW (x :: r) = if (restAny v.rest ws n).2.2 = 0 then (0, some ⟨p, (restAny v.rest ws n).1, (restAny v.rest ws n).2.1⟩) else ((restAny v.rest ws n).2.2, none) by
            rw [HPW.out, HF2.out])
          clear HF
          generalize restAny v.rest ws n = ra at *
          obtain ⟨lo, lg, nn⟩ := ra
          go_wp2_with fail
          refine HRA.out.mono ?_
          rintro e w6 ⟨rfl, ho6, vo, vg, ws', hr6, hb6, hown1, hown2⟩
          have HO6 := Lib.hid (HP.out.only.step ho6 (fun i hi => .inr (by have := HP.out.base; have := HP.out.o1; have := HP.out.o2; have := HP.out.o3; omega)))
          have HZ6 := Lib.hid (HP.out.res.only ho6 (by have := HP.out.base; have := HP.out.o1; have := HP.out.o2; have := HP.out.o3; omega))
          have HB6 := Lib.hid hb6
          have HR6 := Lib.hid hr6
          have HV1 := Lib.hid hown1
          have HV2 := Lib.hid hown2
          have HBW := Lib.hid (show w.heap.size ≤ wr.heap.size from HP.out.only.size)
          have hk1 := hr6.cell1.1
          have hrbne : w.heap.size < wr.heap.size := by have := HP.out.res.lt; exact this
          clear ho6 hb6 hr6 hown1 hown2
          by_cases hnn : nn = 0
          · rw [if_pos hnn] at HPW2
            subst hnn
            rw [errOf_zero] at hk1
            have HSQ := Lib.hid ((wCells_size p vo vg).trans wZero_size.symm)
            have HSI := Lib.hid (show (Tryd.prog.info? 48).map (·.size) = some (wCells p vo vg).size by rw [wCells_size]; exact Tryd.sizeW)
            have HON2 := Lib.hid (wCells_one p vo vg (own_slice1 HV1.out) (own_slice1 HV2.out))
            go_wp2_with (first | (refine wpList_load_row rfl 48 (.tmp 8) rfl w3.heap.size rfl 48 (wCells p vo vg) (0, 0) _ HB6.out Tryd.underlying48 rfl Tryd.sizeW ?_) | (refine wpList_store_blk rfl 48 (.tmp 2) (.tmp 83) rfl w.heap.size (wCells p vo vg) rfl rfl 48 wZero HZ6.out HSQ.out HSI.out HON2.out ?_))
            refine Lib.hid ?_
            intro w7 hz7 ho7
            have HZ7 := Lib.hid hz7
            have HO7 := Lib.hid ho7
            clear hz7 ho7
            go_wp2_with fail
            refine bodyPost_ret (results_cell_tmp rfl _ _ w.heap.size 48 (wCells p vo vg) (0, 0) _ rfl HZ7.out Tryd.underlying48 rfl HSI.out) rfl ?_
            refine ⟨(HO6.out.step HO7.out (fun i hi => .inr (Nat.le_of_eq hi.symm))).to_below (Nat.le_refl _) (fun _ _ h => h), .inr ⟨⟨p, lo, lg⟩, vo, vg, HPW2.out, rfl, ?_, ?_⟩⟩
            · exact own_base (own_only HV1.out HO7.out (fun g hg hh => by have := (HV1.out.lt g hg).1; omega)) HBW.out
            · exact own_base (own_only HV2.out HO7.out (fun g hg hh => by have := (HV2.out.lt g hg).1; omega)) HBW.out
          · rw [if_neg hnn] at HPW2
            obtain ⟨m, rfl⟩ : ∃ m, nn = m + 1 := ⟨nn - 1, by omega⟩
            rw [errOf_succ] at hk1
            clear hnn
            go_wp2_with fail
            refine wp_region_held_drew (S := fun W => W.cell? ⟨w4.heap.size, 1, none⟩ = some (.iface 163 (.pointer (some (ea m))))) (by kernel_rfl) hk1 ?_
            intro hS
            refine wpAnyH_take (i := 0) (oi := ⟨some 78, _, _, _, _, _⟩) (v := .agg wZero) rfl (by kernel_rfl) (by kernel_rfl) (by kernel_rfl) (fun _ _ _ h => h) (.inl ⟨by rfl, fun W _ => by kernel_rfl⟩) hS ?_
            refine wpAnyH_take (i := 1) (oi := ⟨some 79, _, _, _, _, _⟩) (v := .pointer (some ⟨w4.heap.size, 0, none⟩)) rfl (by kernel_rfl) (by kernel_rfl) (by kernel_rfl) (fun _ _ _ h => h) (.inl ⟨by rfl, fun W hW => by go_simp⟩) hS ?_
            refine wpAnyH_take (i := 2) (oi := ⟨some 80, _, _, _, _, _⟩) (v := .pointer (some ⟨w4.heap.size, 0, none⟩)) rfl (by kernel_rfl) (by kernel_rfl) (by kernel_rfl) (fun _ _ _ h => h) (.inl ⟨by rfl, fun W hW => by go_simp⟩) hS ?_
            refine wpAnyH_take (i := 3) (oi := ⟨some 81, _, _, _, _, _⟩) (v := .pointer (some ⟨w4.heap.size, 1, none⟩)) rfl (by kernel_rfl) (by kernel_rfl) (by kernel_rfl) (fun _ _ _ h => h) (.inl ⟨by rfl, fun W hW => by go_simp⟩) hS ?_
            refine wpAnyH_take (i := 4) (oi := ⟨some 82, _, _, _, _, _⟩) (v := .iface 163 (.pointer (some (ea m)))) rfl (by kernel_rfl) (by kernel_rfl) (by kernel_rfl) (fun _ _ _ h => h) (.inl ⟨by rfl, fun W hW => by go_simp⟩) hS ?_
            refine wpAnyH_store (i := 5) (o := { dst := Option.none, op := Op.store 48 (Operand.tmp 2) (Operand.tmp 78), type := 0, pos := "lines.go:295", after := #[{ on := 0, ground := Ground.data }, { on := 0, ground := Ground.phase }, { on := 1, ground := Ground.textOnly Departure.lateStores }, { on := 2, ground := Ground.textOnly Departure.lateStores }, { on := 3, ground := Ground.textOnly Departure.lateStores }, { on := 4, ground := Ground.textOnly Departure.lateStores }], guard := Option.none }) (by kernel_rfl) (by kernel_rfl) rfl 48 (.tmp 2) (.tmp 78) rfl w.heap.size wZero (by kernel_rfl) (by kernel_rfl) 48 wZero (Blk.drewN HZ6.out 1) rfl Tryd.sizeW wZero_one ?_
            refine Lib.hid ?_
            intro w7 hz7 ho7
            have HZ7 := Lib.hid hz7
            have HO7 := Lib.hid ho7
            have hS7 := ho7.cell hS (fun h => by have := HSZ4.out; simp only at h; omega)
            refine ⟨hS7, ?_⟩
            refine wpAnyH_take (i := 6) (oi := ⟨some 3, _, _, _, _, _⟩) (v := .iface 163 (.pointer (some (ea m)))) rfl (by kernel_rfl) (by kernel_rfl) (by kernel_rfl) (fun _ _ _ h => h) (.inl ⟨by rfl, fun W hW => by go_simp⟩) hS7 ?_
            refine wpAnyH_done (by kernel_rfl) ?_ _
            clear hz7 ho7
            go_wp2_with fail
            refine bodyPost_ret (results_cell_tmp rfl _ _ w.heap.size 48 wZero (0, 0) _ (by kernel_rfl) HZ7.out Tryd.underlying48 rfl Tryd.sizeW) (by kernel_rfl) ?_
            exact ⟨(Only.step (Only.drewN HO6.out 1) HO7.out (fun i hi => .inr (Nat.le_of_eq hi.symm))).to_below (Nat.le_refl _) (fun _ _ h => h), .inl ⟨m + 1, HPW2.out, by kernel_rfl⟩⟩
end Go.Proofs.YtjhmehmmpfnnkaaDoor

namespace Go.Proofs.YtjhmehmmpfnnkaaDoor
open Go.RowKit Utf
set_option maxRecDepth 100000
set_option linter.unusedSimpArgs false
set_option linter.unusedVariables false

section
variable {P : Program} {ops : Array Oper} {a : Act} {w : World} {Q : Exit → Act → World → Prop} {md : Region.Mode} {S : World → Prop}
variable {o : Oper} {K : Act → World → Prop}
/-- A call of a Go function that returns. -/
theorem wp_call_of (f : FuncId) (args : Array Value) (hrun : (execOp a.eval o).run P w = .ok (.enter f args) w) (R : Value → World → Prop) (hc : Calls P f args w fun e w' => ∃ v, e = .returned v ∧ R v w')
    (h : Hid (∀ v w', R v w' → K (a.put o.dst v) w')) : o.wp P a w K Q := by
  unfold Oper.wp
  rw [hrun, Oper.upon_enter]
  refine hc.mono fun e w' he => ?_
  obtain ⟨v, rfl, hR⟩ := he
  exact h.out v w' hR
/-- An operation that yields a value. -/
theorem wp_val_of (v : Value) (w' : World) (hrun : (execOp a.eval o).run P w = .ok (.value v) w') (h : K (a.put o.dst v) w') : o.wp P a w K Q := by
  unfold Oper.wp
  rw [hrun, Oper.upon_value]
  exact h
theorem wp_skip_of (w' : World) (hrun : (execOp a.eval o).run P w = .ok .skip w') (h : K (a.put o.dst undef) w') : o.wp P a w K Q := by
  unfold Oper.wp
  rw [hrun, Oper.upon_skip]
  exact h
/-- One element is appended. -/
theorem wp_app_of (s x : Operand) (t : TypeId) (ho : o.op = Op.call { callee := Callee.builtin Builtin.append, args := #[s, x], argTypes := #[t, t] })
    (B : Nat) (e : TypeId) (i : TypeInfo) (z : Value) (size bytes : Nat) (ht : P.underlying t = some (.slice e)) (hi : P.info? e = some i) (hz : i.zero = some z)
    (hsize : i.size = size) (hby : i.bytes = bytes) (hzs : z.cells.size = size) (hsz : 0 < size)
    (v : Value) (n : Nat) (xs : List Value) (hs : a.eval s = v) (hown : w.ownsRow B e size v n xs)
    (g : Nat) (us : List Value) (hx : a.eval x = .slice (some ⟨g, 0, none⟩) 1 1) (hl : us.length = 1 * size) (hnews : ∀ j u, us[j]? = some u → w.cell? (Addr.add ⟨g, 0, none⟩ j) = some u) (h1 : ∀ u ∈ us, u.oneCell' = true)
    (hn : n ≤ 1000000000) (hby2 : bytes ≤ 1000) (hbase : B ≤ w.heap.size)
    (h : Hid (∀ v' w', w'.ownsRow B e size v' (n + 1) (xs ++ us) → w.grownBy w' v.ownBlock → (∃ g cap, v' = .slice (some ⟨g, 0, none⟩) (n + 1) cap) → K (a.put o.dst v') w')) : o.wp P a w K Q := by
  have hb2 : (n + 1) * bytes ≤ 140737488355328 := by
    have : (n + 1) * bytes ≤ 1000000001 * 1000 := Nat.mul_le_mul (by omega) hby2
    omega
  obtain ⟨v', w', hrun, k1, k2, -, -⟩ := run_append_own_at (P := P) w B t o.type e i z size bytes ht hi hz hsize hby hzs hsz v n xs hown ⟨g, 0, none⟩ 1 1 us hl hnews h1 (by unfold maxLen; omega) hb2 hbase
  unfold Oper.wp execOp
  simp only [ho, resolve, invoke, builtin, Sem.run_bind, Sem.run_pure, Result.andThen_ok, List.map_toArray, List.map_cons, List.map_nil, hs, hx, hrun]
  refine h.out v' w' k1 k2 ?_
  rcases k1.2 with ⟨_, hz0⟩ | ⟨g', cap', cur', hv', hr'⟩
  · omega
  · exact ⟨g', cap', hv'⟩
/-- A slice is stored into a cell. -/
theorem wp_slice_of (ty : TypeId) (x y : Operand) (ho : o.op = .store ty x y) (g off : Nat) (ao : Option Addr) (n c : Nat) (hx : a.eval x = .pointer (some ⟨g, off, none⟩)) (hy : a.eval y = .slice ao n c) (T : TypeId) (cs : Array Value) (hC : Blk w g T cs) (hoff : off < cs.size)
    (hi : (P.info? ty).map (·.size) = some 1) (h : K (a.put o.dst undef) (w.setCell ⟨g, off, none⟩ (.slice ao n c))) : o.wp P a w K Q := by
  obtain ⟨i, hi1, hi2⟩ := Option.map_eq_some_iff.1 hi
  have hc : w.cell? ⟨g, off, none⟩ = some (cs[off]'hoff) := by rw [hC.cell off, Array.getElem?_eq_getElem hoff]
  have hf := hC.frozen off
  have hrun : (storeVar ty ⟨g, off, none⟩ (.slice ao n c)).run P w = .ok () (w.setCell ⟨g, off, none⟩ (.slice ao n c)) := by
    simp [storeVar, storeCells, sizeOf, typeInfo, go_sem, hi1, hi2, hc, hf, Value.cells]
  unfold Oper.wp execOp
  simp only [ho, hx, hy, Instr.storeAt, Instr.sureAddr, Sem.run_bind, Sem.run_pure, Result.andThen_ok, hrun]
  exact h
end
end Go.Proofs.YtjhmehmmpfnnkaaDoor
