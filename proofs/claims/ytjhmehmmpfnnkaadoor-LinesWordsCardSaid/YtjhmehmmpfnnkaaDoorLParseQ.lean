/-
  What Parse's walk leans on: the words of a line are right texts; how the reading stands.
-/
import Derived.Test.YtjhmehmmpfnnkaaDoorLParseE
namespace Go.Proofs.YtjhmehmmpfnnkaaDoor
open Go.RowKit Utf
set_option maxRecDepth 100000
set_option linter.unusedSimpArgs false
set_option linter.unusedVariables false

theorem ws_good (B : Nat) : ∀ (l : List Nat) (s t : WS), (∀ x ∈ s.out, allOk x ∧ (encAll x).length ≤ B) → allOk s.cur → allOk l → (encAll s.cur).length + (encAll l).length ≤ B → wsRun s l = some t →
    (∀ x ∈ t.out, allOk x ∧ (encAll x).length ≤ B) ∧ allOk t.cur ∧ (encAll t.cur).length ≤ B := by
  intro l
  induction l with
  | nil =>
    intro s t h1 h2 h3 h4 h
    cases h
    exact ⟨h1, h2, by omega⟩
  | cons c l ih =>
    intro s t h1 h2 h3 h4 h
    simp only [wsRun] at h
    cases hs : s.step c with
    | none => rw [hs] at h; cases h
    | some u =>
      rw [hs] at h
      have hc := allOk_cons.1 h3
      rw [encAll_cons, List.length_append] at h4
      have hu : (∀ x ∈ u.out, allOk x ∧ (encAll x).length ≤ B) ∧ allOk u.cur ∧ (encAll u.cur).length + (encAll l).length ≤ B := by
        have hnew : allOk (s.cur ++ [c]) ∧ (encAll (s.cur ++ [c])).length + (encAll l).length ≤ B := by
          refine ⟨allOk_append.2 ⟨h2, allOk_cons.2 ⟨hc.1, allOk_nil⟩⟩, ?_⟩
          rw [encAll_append, encAll_cons, encAll_nil, List.append_nil, List.length_append]
          omega
        unfold WS.step at hs
        split at hs
        · cases hs
        · cases hs
          exact ⟨h1, h2, by omega⟩
        · cases hs
          refine ⟨?_, allOk_nil, by simp [encAll_nil]; omega⟩
          intro x hx
          simp only [List.mem_append, List.mem_singleton] at hx
          rcases hx with hx | rfl
          · exact h1 x hx
          · exact ⟨h2, by omega⟩
        · cases hs
          exact ⟨h1, hnew.1, hnew.2⟩
      exact ih u t hu.1 hu.2.1 hc.2 hu.2.2 h

theorem words_good {rs : List Nat} {ws : List (List Nat)} (ho : allOk rs) (hl : (encAll rs).length ≤ 1000000) (h : wordsL rs = some ws) : Good ws ∧ ws.length ≤ 1000001 := by
  unfold wordsL at h
  cases hr : wsRun ws0 rs with
  | none => rw [hr] at h; cases h
  | some s =>
    rw [hr] at h
    obtain ⟨h1, h2, h3⟩ := ws_good 1000000 rs ws0 s (fun x hx => by cases hx) allOk_nil ho (by simp [ws0, encAll_nil]; exact hl) hr
    have h4 := wsRun_len _ _ _ hr
    have h5 := encAll_len rs
    have hfin : s.fin = some ws := h
    have hout : s.out.length ≤ rs.length := by simpa [ws0] using h4
    have hmem : ∀ l : List (List Nat), l = s.out ∨ l = s.out ++ [s.cur] → Good l := by
      intro l hl x hx
      rcases hl with rfl | rfl
      · exact h1 x hx
      · rcases List.mem_append.1 hx with hx | hx
        · exact h1 x hx
        · simp only [List.mem_singleton] at hx
          subst hx
          exact ⟨h2, h3⟩
    unfold WS.fin at hfin
    split at hfin
    · rename_i hm
      cases hfin
      exact ⟨hmem _ (.inl rfl), by omega⟩
    · rename_i hm
      cases hfin
      exact ⟨hmem _ (.inr rfl), by rw [List.length_append]; simp only [List.length_singleton]; omega⟩
    · rename_i hm
      cases hfin
      exact ⟨hmem _ (.inr rfl), by rw [List.length_append]; simp only [List.length_singleton]; omega⟩
    · cases hfin
    · cases hfin

theorem Only.iterAt {w : World} {k : Nat} {s : ByteArray} {p : Nat} (h : w.heap[k]? = some (.stringIter s p)) (p' : Nat) : Only (fun i => i = k) w (w.iterAt k s p') :=
  ⟨rfl, rfl, rfl, by rw [Lib.iterAt_size]; exact Nat.le_refl _, fun i _ hn => Lib.iterAt_other _ _ _ _ _ hn⟩

/-- How the reading of a line stands: w: the world when the call began. -/
structure PSt (w : World) (ea : Nat → Addr) (K : Nat → Prop) (rb sb c b : Nat) (wr : World) (cs : Array Value) (ws : List (List Nat)) (n : Nat) : Prop where
  only : Only (fun _ => False) w wr
  res : Blk wr rb 48 wZero
  tab : Blk wr sb 79 shapeCells
  rat : RAt wr b ea ws n K
  ob : Blk wr c 48 cs
  err : LErr wr ea
  good : Good ws
  base : w.heap.size ≤ rb
  o1 : rb < sb
  o2 : sb < c
  o3 : c < b
  top : gTop ≤ rb
  klt : ∀ k, K k → k < c
  krb : ¬ K rb

section
variable {w : World} {ea : Nat → Addr} {K : Nat → Prop} {rb sb c b : Nat} {wr w' : World} {cs : Array Value} {ws : List (List Nat)} {n : Nat}
theorem PSt.kc (h : PSt w ea K rb sb c b wr cs ws n) : ¬ K c := fun hk => Nat.lt_irrefl _ (h.klt c hk)
theorem PSt.kb (h : PSt w ea K rb sb c b wr cs ws n) : ¬ K b := fun hk => by have := h.klt b hk; have := h.o3; omega
/-- Nothing of it turns. -/
theorem PSt.keep {S : Nat → Prop} (h : PSt w ea K rb sb c b wr cs ws n) (ho : Only S wr w') (hs : ∀ k, S k → b < k) : PSt w ea K rb sb c b w' cs ws n := by
  have e1 := h.o1
  have e2 := h.o2
  have e3 := h.o3
  have e4 := h.base
  have e5 := h.top
  exact ⟨h.only.step ho (fun k hk => .inr (by have := hs k hk; omega)), h.res.only ho (fun k => by have := hs _ k; omega), h.tab.only ho (fun k => by have := hs _ k; omega),
    h.rat.only ho (fun k => by have := hs _ k; omega) (fun k hk hkk => by have := hs k hk; have := h.klt k hkk; omega), h.ob.only ho (fun k => by have := hs _ k; omega),
    h.err.only ho (fun k hk => by have := hs k hk; omega), h.good, e4, e1, e2, e3, e5, h.klt, h.krb⟩
/-- The reader and the op turn. -/
theorem PSt.turn (h : PSt w ea K rb sb c b wr cs ws n) {cs' : Array Value} {ws' : List (List Nat)} {n' : Nat} (ho : Only (fun k => k = b ∨ k = c) wr w') (hr : RAt w' b ea ws' n' K) (hb : Blk w' c 48 cs') (hg : Good ws') : PSt w ea K rb sb c b w' cs' ws' n' := by
  have e1 := h.o1
  have e2 := h.o2
  have e3 := h.o3
  have e4 := h.base
  have e5 := h.top
  exact ⟨h.only.step ho (fun k hk => .inr (by omega)), h.res.only ho (by omega), h.tab.only ho (by omega), hr, hb, h.err.only ho (fun k hk => by omega), hg, e4, e1, e2, e3, e5, h.klt, h.krb⟩
theorem PSt.read (h : PSt w ea K rb sb c b wr cs ws n) {o : Nat} {rv : Option Value} {ws' : List (List Nat)} {n' : Nat} {e : Ending} (hp : ReadPost b c o 48 cs ea K wr (rv, ws', n') e w') (hg : Good ws') : PSt w ea K rb sb c b w' (putAt cs o rv) ws' n' :=
  h.turn hp.2.1 hp.2.2.1 hp.2.2.2 hg
end

/-- One field is read: whatever field it is. -/
theorem read_fld {w : World} {ea : Nat → Addr} {K : Nat → Prop} {rb sb c b : Nat} {wr : World} {p : PW} {vo vg : Value} {ws : List (List Nat)} {n : Nat} (f : Fld) (h : PSt w ea K rb sb c b wr (wCells p vo vg) ws n) (hz : p.getN f = 0 ∧ p.getS f = []) :
    Calls Tryd.prog 37 #[.pointer (some ⟨b, 0, none⟩), ptrF c f] wr fun e w' => e = .returned (.tuple #[]) ∧ Only (fun k => k = b ∨ k = c) wr w' ∧
      ∃ p' ws' n', (if isNum f = true then (p', ws', n') = (p.setN ((rdNum ws n).1.getD 0) f, (rdNum ws n).2.1, (rdNum ws n).2.2) else (p', ws', n') = (p.setS ((rdStr ws n).1.getD []) f, (rdStr ws n).2.1, (rdStr ws n).2.2)) ∧
        PSt w ea K rb sb c b w' (wCells p' vo vg) ws' n' := by
  have hbc : b ≠ c := by have := h.o3; omega
  have hb : gTop ≤ b := by have := h.o1; have := h.o2; have := h.o3; have := h.top; omega
  have hc : gTop ≤ c := by have := h.o1; have := h.o2; have := h.top; omega
  cases hf : isNum f with
  | true =>
    have hp : ptrF c f = .iface 95 (.pointer (some ⟨c, offF f, none⟩)) := by unfold ptrF; rw [hf]; rfl
    rw [hp]
    have h0 : (wCells p vo vg)[offF f]? = some (.int .i64 0) := by rw [wCells_getN p vo vg f hf, hz.1]
    refine (read_num b c (offF f) 48 (wCells p vo vg) 0 ea ws n K wr h.rat h.kb h.kc h.good h.ob h0 hbc hb hc h.err).mono ?_
    intro e w' hp
    have h2 := h.read hp (rdNum_good h.good)
    rw [putNum _ _ _ h0, wCells_setN p vo vg f hf] at h2
    exact ⟨hp.1, hp.2.1, _, _, _, by rw [if_pos rfl], h2⟩
  | false =>
    have hp : ptrF c f = .iface 100 (.pointer (some ⟨c, offF f, none⟩)) := by unfold ptrF; rw [hf]; rfl
    rw [hp]
    have h0 : (wCells p vo vg)[offF f]? = some (.string ByteArray.empty) := by rw [wCells_getS p vo vg f hf, hz.2]; rfl
    refine (read_str b c (offF f) 48 (wCells p vo vg) ByteArray.empty ea ws n K wr h.rat h.kb h.kc h.good h.ob h0 hbc hb hc h.err).mono ?_
    intro e w' hp
    have h2 := h.read hp (rdStr_good h.good)
    rw [putStr _ _ _ h0, wCells_setS p vo vg f hf] at h2
    exact ⟨hp.1, hp.2.1, _, _, _, by rw [if_neg (by decide)], h2⟩

theorem rdFlds_cons (f : Fld) (fs : List Fld) (p : PW) (ws : List (List Nat)) (n : Nat) {p' : PW} {ws' : List (List Nat)} {n' : Nat}
    (h : if isNum f = true then (p', ws', n') = (p.setN ((rdNum ws n).1.getD 0) f, (rdNum ws n).2.1, (rdNum ws n).2.2) else (p', ws', n') = (p.setS ((rdStr ws n).1.getD []) f, (rdStr ws n).2.1, (rdStr ws n).2.2)) :
    rdFlds (f :: fs) p ws n = rdFlds fs p' ws' n' := by
  simp only [rdFlds]
  split at h
  · rename_i hf
    rw [if_pos hf]
    cases h
    rfl
  · rename_i hf
    rw [if_neg hf]
    cases h
    rfl
theorem clear_next (f : Fld) (fs : List Fld) (p : PW) (ws : List (List Nat)) (n : Nat) {p' : PW} {ws' : List (List Nat)} {n' : Nat} (hc : Clear p (f :: fs)) (hn : (f :: fs).Nodup)
    (h : if isNum f = true then (p', ws', n') = (p.setN ((rdNum ws n).1.getD 0) f, (rdNum ws n).2.1, (rdNum ws n).2.2) else (p', ws', n') = (p.setS ((rdStr ws n).1.getD []) f, (rdStr ws n).2.1, (rdStr ws n).2.2)) : Clear p' fs := by
  split at h
  · cases h; exact hc.setN hn _
  · cases h; exact hc.setS hn _
theorem clear_start (k e : Int) (fs : List Fld) : Clear { PW.zero with kind := k, ekind := e } fs := by
  intro f _
  cases f <;> exact ⟨rfl, rfl⟩
theorem rdLen_fld (f : Fld) (p : PW) (ws : List (List Nat)) (n : Nat) {p' : PW} {ws' : List (List Nat)} {n' : Nat}
    (h : if isNum f = true then (p', ws', n') = (p.setN ((rdNum ws n).1.getD 0) f, (rdNum ws n).2.1, (rdNum ws n).2.2) else (p', ws', n') = (p.setS ((rdStr ws n).1.getD []) f, (rdStr ws n).2.1, (rdStr ws n).2.2)) : ws'.length ≤ ws.length := by
  split at h
  · cases h; exact rdNum_len _ _
  · cases h; exact rdStr_len _ _

/-- What follows the fields is read: whatever the verb. -/
theorem rest_any {w : World} {ea : Nat → Addr} {K : Nat → Prop} {rb sb c b : Nat} {wr : World} {p : PW} {ws : List (List Nat)} {n : Nat} (k : Nat) (hk : k = 111 ∨ k = 103 ∨ k = 0) (h : PSt w ea K rb sb c b wr (wCells p (.slice none 0 0) (.slice none 0 0)) ws n) (hl : ws.length ≤ 1000000) (hkw : ∀ i, K i → i < wr.heap.size) :
    Calls Tryd.prog 39 #[.pointer (some ⟨b, 0, none⟩), .pointer (some ⟨c, 0, none⟩), .int .i32 (k : Int)] wr fun e w' => e = .returned (.tuple #[]) ∧ Only (fun i => i = b ∨ i = c) wr w' ∧
      ∃ vo vg ws', RAt w' b ea ws' (restAny k ws n).2.2 K ∧ Blk w' c 48 (wCells p vo vg) ∧ w'.ownsRow wr.heap.size 103 5 vo (restAny k ws n).1.length ((restAny k ws n).1.flatMap opCells) ∧ w'.ownsRow wr.heap.size 3 1 vg (restAny k ws n).2.1.length (intRow (restAny k ws n).2.1) := by
  have hbc : b ≠ c := by have := h.o3; omega
  have hb : gTop ≤ b := by have := h.o1; have := h.o2; have := h.o3; have := h.top; omega
  have hc : gTop ≤ c := by have := h.o1; have := h.o2; have := h.top; omega
  rcases hk with rfl | rfl | rfl
  · refine (rest_ops b c _ ea ws n K wr h.rat h.kb h.kc hkw h.good h.ob rfl rfl hbc hb hc h.err hl).mono ?_
    rintro e w' ⟨h1, h2, ⟨ws', h3⟩, v, h4, h5⟩
    rw [wCells_ops] at h4
    exact ⟨h1, h2, v, .slice none 0 0, ws', h3, h4, h5, World.ownsRow_nil _ _ _ _⟩
  · refine (rest_nums b c _ ea ws n K wr h.rat h.kb h.kc hkw h.good h.ob rfl rfl hbc hb hc h.err hl).mono ?_
    rintro e w' ⟨h1, h2, ⟨ws', h3⟩, v, h4, h5⟩
    rw [wCells_gone] at h4
    exact ⟨h1, h2, .slice none 0 0, v, ws', h3, h4, World.ownsRow_nil _ _ _ _, h5⟩
  · refine (restN_any b c ea ws n K wr h.rat h.kb hb h.err).mono ?_
    rintro e w' ⟨h1, h2, ws', h3⟩
    exact ⟨h1, h2.mono (fun i hi => .inl hi), .slice none 0 0, .slice none 0 0, ws', h3, h.ob.only h2 (fun e => hbc e.symm), World.ownsRow_nil _ _ _ _, World.ownsRow_nil _ _ _ _⟩
end Go.Proofs.YtjhmehmmpfnnkaaDoor
