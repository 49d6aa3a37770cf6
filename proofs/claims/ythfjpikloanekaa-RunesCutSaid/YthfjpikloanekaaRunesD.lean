/-
  tidewaterref02.Text, tidewaterref02.After, tidewaterref02.Fields, runes.Fields.
-/
import Derived.Test.YthfjpikloanekaaRunesC
import Derived.Laws.AppendOwnNone
import Derived.ArgAppend
namespace Go.Proofs.Ythfjpikloanekaa
open Go.RowKit Utf
set_option maxRecDepth 100000
set_option linter.unusedSimpArgs false
set_option linter.unusedVariables false

section
variable {P : Program} {ops : Array Oper} {rest : List Oper} {o : Oper} {a : Act} {Q : Exit → Act → World → Prop} {wp w0 : World}

/-- One element is appended to a row of the call's own. -/
theorem app1 (hgd : o.guard = none) (s x : Operand) (t : TypeId)
    (ho : o.op = .call { callee := .builtin .append, args := #[s, x], argTypes := #[t, t] })
    (e : TypeId) (i : TypeInfo) (z : Value) (bytes : Nat) (ht : P.underlying t = some (.slice e)) (hi : P.info? e = some i) (hz : i.zero = some z)
    (hsize : i.size = 1) (hby : i.bytes = bytes) (hzs : z.cells.size = 1)
    (B : Nat) (v : Value) (n : Nat) (xs : List Value) (hs : a.eval s = v) (hown : wp.ownsRow B e 1 v n xs) (D : Nat) (hDB : D ≤ B) (hbel : Below D w0 wp) (hB : B ≤ wp.heap.size)
    (u : Value) (hu : u.oneCell' = true) (hx : a.eval x = .slice (some ⟨wp.heap.size, 0, none⟩) 1 1) (hn : n ≤ 1000000000) (hby2 : bytes ≤ 1000)
    (h : Hid (∀ v' w', w'.ownsRow B e 1 v' (n + 1) (xs ++ [u]) → Below D w0 w' → (wp.alloc (.cells #[u] e)).grownBy w' v.ownBlock → wpList P ops Q rest (a.put o.dst v') w')) :
    wpList P ops Q (o :: rest) a (wp.alloc (.cells #[u] e)) := by
  refine wpList_append_own _ hgd s x t ho B e i z 1 bytes ht hi hz hsize hby hzs (by omega) v n xs hs (hown.alloc _) ⟨wp.heap.size, 0, none⟩ 1 1 [u] hx rfl (one_cell _ _ _) (by intro y hy; simp at hy; subst hy; exact hu) (by unfold maxLen; omega) ?_ (by simp; omega) ?_
  · have : (n + 1) * bytes ≤ 1000000001 * 1000 := Nat.mul_le_mul (by omega) hby2
    omega
  · intro v' w' h1 h2 _
    exact h.out v' w' h1 ((hbel.alloc (by omega) _).grown h2 (by simp; omega) (fun k hk => by have := (hown.lt k hk).1; omega)) h2
end

theorem addr_add (b o j : Nat) : Addr.add ⟨b, o, none⟩ j = ⟨b, o + j, none⟩ := by
  unfold Addr.add
  by_cases h : j = 0 <;> simp [h]

theorem new_cells (l : List Value) (w : World) (t : TypeId) : ∀ (j : Nat) (u : Value), l[j]? = some u → (w.alloc (.cells l.toArray t)).cell? (Addr.add ⟨w.heap.size, 0, none⟩ j) = some u := by
  intro j u hj
  have hh := heap_alloc_new w (.cells l.toArray t)
  rw [addr_add, Nat.zero_add]
  unfold World.cell?
  rw [hh]
  simpa using hj

def byteRow (l : List UInt8) : List Value := l.map fun b => Value.int .u8 (b.toNat : Int)
theorem byteRow_len (l : List UInt8) : (byteRow l).length = l.length := by simp [byteRow]

theorem conv_bytes {w : World} {B : Nat} {e src dst : TypeId} {v : Value} {l : List UInt8} {P : Program} (h : w.ownsRow B e 1 v l.length (byteRow l)) (hs : P.underlying src = some (.slice e)) (he : P.underlying e = some (.int .u8)) (hd : P.underlying dst = some .string) :
    (convert src dst v).run P w = .ok (.string (mkS l)) w := by
  rcases h.2 with ⟨rfl, hl⟩ | ⟨g, cap, cur, rfl, _, hg, hnc, hcm, _, _⟩
  · obtain rfl : l = [] := List.length_eq_zero_iff.1 hl
    rw [run_convert_bytes_string w src dst e _ _ _ hs he hd]
    rfl
  · refine run_convert_bytes_back w src dst e _ cap l hs he hd ?_
    intro j hj
    have := h.cellAt j (by omega)
    rw [addr_add, Nat.zero_add, this]
    simp [byteRow, hj]

theorem byteRow_enc1 {c : Nat} (h : c < 128) : byteRow (enc c) = [Value.int .u8 (c : Int)] := by
  rw [enc_one h]; simp only [byteRow, List.map_cons, List.map_nil]; rw [u8_of c (by omega)]
theorem byteRow_enc2 {c : Nat} (h1 : 128 ≤ c) (h2 : c < 2048) : byteRow (enc c) = [Value.int .u8 (192 + (c : Int) / 64), .int .u8 (128 + (c : Int) % 64)] := by
  rw [enc_two h1 h2]; simp only [byteRow, List.map_cons, List.map_nil]; rw [u8_of _ (by omega), u8_of _ (by omega)]
  simp
theorem byteRow_enc3 {c : Nat} (h1 : 2048 ≤ c) (h2 : c < 65536) (hk : okR c = true) : byteRow (enc c) = [Value.int .u8 (224 + (c : Int) / 4096), .int .u8 (128 + (c : Int) / 64 % 64), .int .u8 (128 + (c : Int) % 64)] := by
  rw [enc_three h1 h2 hk]; simp only [byteRow, List.map_cons, List.map_nil]; rw [u8_of _ (by omega), u8_of _ (by omega), u8_of _ (by omega)]
  simp
theorem byteRow_enc4 {c : Nat} (h1 : 65536 ≤ c) (hk : okR c = true) : byteRow (enc c) = [Value.int .u8 (240 + (c : Int) / 262144), .int .u8 (128 + (c : Int) / 4096 % 64), .int .u8 (128 + (c : Int) / 64 % 64), .int .u8 (128 + (c : Int) % 64)] := by
  have := hk
  rw [okR_def] at this
  rw [enc_four h1 hk]; simp only [byteRow, List.map_cons, List.map_nil]; rw [u8_of _ (by omega), u8_of _ (by omega), u8_of _ (by omega), u8_of _ (by omega)]
  simp
theorem byteRow_app (a b : List UInt8) : byteRow (a ++ b) = byteRow a ++ byteRow b := by simp [byteRow]

theorem own_enc {w : World} {B : Nat} {e : TypeId} {v : Value} {pre : List UInt8} {c m : Nat} {us : List Value} (he : byteRow (enc c) = us) (hm : us.length = m)
    (h : w.ownsRow B e 1 v (pre.length + m) (byteRow pre ++ us)) : w.ownsRow B e 1 v (pre ++ enc c).length (byteRow (pre ++ enc c)) := by
  have e1 : (enc c).length = m := by rw [← byteRow_len, he, hm]
  rw [byteRow_app, he, List.length_append, e1]
  exact h

section
variable {P : Program} {ops : Array Oper} {rest : List Oper} {o : Oper} {a : Act} {Q : Exit → Act → World → Prop} {wp w0 : World}
/-- Several elements, written out, are appended to a row of the call's own. -/
theorem appN (hgd : o.guard = none) (s x : Operand) (t : TypeId)
    (ho : o.op = .call { callee := .builtin .append, args := #[s, x], argTypes := #[t, t] })
    (e : TypeId) (i : TypeInfo) (z : Value) (bytes : Nat) (ht : P.underlying t = some (.slice e)) (hi : P.info? e = some i) (hz : i.zero = some z)
    (hsize : i.size = 1) (hby : i.bytes = bytes) (hzs : z.cells.size = 1)
    (B : Nat) (v : Value) (n : Nat) (xs : List Value) (hs : a.eval s = v) (hown : wp.ownsRow B e 1 v n xs) (D : Nat) (hDB : D ≤ B) (hbel : Below D w0 wp) (hB : B ≤ wp.heap.size)
    (us : List Value) (m : Nat) (hm : us.length = m) (hu : ∀ u ∈ us, u.oneCell' = true) (hx : a.eval x = .slice (some ⟨wp.heap.size, 0, none⟩) m m) (hn : n + m ≤ 1000000000) (hby2 : bytes ≤ 1000)
    (h : Hid (∀ v' w', w'.ownsRow B e 1 v' (n + m) (xs ++ us) → Below D w0 w' → (wp.alloc (.cells us.toArray e)).grownBy w' v.ownBlock → wpList P ops Q rest (a.put o.dst v') w')) :
    wpList P ops Q (o :: rest) a (wp.alloc (.cells us.toArray e)) := by
  refine wpList_append_own _ hgd s x t ho B e i z 1 bytes ht hi hz hsize hby hzs (by omega) v n xs hs (hown.alloc _) ⟨wp.heap.size, 0, none⟩ m m us hx (by omega) (new_cells _ _ _) hu (by unfold maxLen; omega) ?_ (by simp; omega) ?_
  · have : (n + m) * bytes ≤ 1000000000 * 1000 := Nat.mul_le_mul (by omega) hby2
    omega
  · intro v' w' h1 h2 _
    exact h.out v' w' h1 ((hbel.alloc (by omega) _).grown h2 (by simp; omega) (fun k hk => by have := (hown.lt k hk).1; omega)) h2
end

section
variable {P : Program} {ops : Array Oper} {rest : List Oper} {o : Oper} {a : Act} {Q : Exit → Act → World → Prop} {wp w0 : World}
/-- A row that lies elsewhere (or nil) is appended to a row of the call's own. -/
theorem appS (hgd : o.guard = none) (s x : Operand) (t : TypeId)
    (ho : o.op = .call { callee := .builtin .append, args := #[s, x], argTypes := #[t, t] })
    (e : TypeId) (i : TypeInfo) (z : Value) (bytes : Nat) (ht : P.underlying t = some (.slice e)) (hi : P.info? e = some i) (hz : i.zero = some z)
    (hsize : i.size = 1) (hby : i.bytes = bytes) (hzs : z.cells.size = 1)
    (B : Nat) (v : Value) (n : Nat) (xs : List Value) (hs : a.eval s = v) (hown : wp.ownsRow B e 1 v n xs) (D : Nat) (hDB : D ≤ B) (hbel : Below D w0 wp) (hB : B ≤ wp.heap.size)
    (us : List Value) (ao : Option Addr) (m c : Nat) (hm : us.length = m) (hu : ∀ u ∈ us, u.oneCell' = true) (hx : a.eval x = .slice ao m c) (hr : RowAt wp ao us) (hao : ao = none → m = 0 ∧ c = 0) (hsp : ∀ ad, ao = some ad → ad.spot = none) (hn : n + m ≤ 1000000000) (hby2 : bytes ≤ 1000)
    (h : Hid (∀ v' w', w'.ownsRow B e 1 v' (n + m) (xs ++ us) → Below D w0 w' → wp.grownBy w' v.ownBlock → wpList P ops Q rest (a.put o.dst v') w')) :
    wpList P ops Q (o :: rest) a wp := by
  cases ao with
  | none =>
    obtain ⟨rfl, rfl⟩ := hao rfl
    obtain rfl : us = [] := List.length_eq_zero_iff.1 hm
    refine wpList_append_own_none hgd s x t ho B e i 1 ht hi v n xs hs hown hx ?_
    refine h.out v wp (by simpa using hown) hbel ?_
    exact ⟨rfl, rfl, rfl, Nat.le_refl _, fun _ _ _ => rfl⟩
  | some ad =>
    obtain ⟨b, of, sp⟩ := ad
    obtain rfl : sp = none := hsp _ rfl
    refine wpList_append_own _ hgd s x t ho B e i z 1 bytes ht hi hz hsize hby hzs (by omega) v n xs hs hown ⟨b, of, none⟩ m c us hx (by omega) ?_ hu (by unfold maxLen; omega) ?_ hB ?_
    · intro j u hj
      obtain ⟨hj1, hj2⟩ := List.getElem?_eq_some_iff.1 hj
      obtain ⟨b', o', e1, hc⟩ := hr j hj1
      cases e1
      rw [addr_add, hc, hj2]
    · have : (n + m) * bytes ≤ 1000000000 * 1000 := Nat.mul_le_mul (by omega) hby2
      omega
    · intro v' w' h1 h2 _
      exact h.out v' w' h1 (hbel.grown h2 (by omega) (fun k hk => by have := (hown.lt k hk).1; omega)) h2
end

/-- A slice value that is empty, or owns a row from block B on. -/
def OwnE (w : World) (B : Nat) (e : TypeId) (size : Nat) (v : Value) (n : Nat) (xs : List Value) : Prop :=
  ((v = .slice none 0 0 ∨ ∃ g, v = .slice (some ⟨g, 0, none⟩) 0 0) ∧ n = 0 ∧ xs = []) ∨ w.ownsRow B e size v n xs
theorem OwnE.nil {w : World} {B : Nat} {e : TypeId} {size : Nat} : OwnE w B e size (.slice none 0 0) 0 [] := .inl ⟨.inl rfl, rfl, rfl⟩
theorem OwnE.new {w : World} {B : Nat} {e : TypeId} {size g : Nat} : OwnE w B e size (.slice (some ⟨g, 0, none⟩) 0 0) 0 [] := .inl ⟨.inr ⟨g, rfl⟩, rfl, rfl⟩
theorem OwnE.alloc {w : World} {B : Nat} {e : TypeId} {size : Nat} {v : Value} {n : Nat} {xs : List Value} (h : OwnE w B e size v n xs) (o : Obj) : OwnE (w.alloc o) B e size v n xs :=
  h.imp id (fun h => h.alloc o)
theorem OwnE.below {w w' : World} {B : Nat} {e : TypeId} {size : Nat} {v : Value} {n : Nat} {xs : List Value} (h : OwnE w B e size v n xs) (hb : Below w.heap.size w w') : OwnE w' B e size v n xs :=
  h.imp id (fun h => own_below h hb)
theorem OwnE.base {w : World} {B B' : Nat} {e : TypeId} {size : Nat} {v : Value} {n : Nat} {xs : List Value} (h : OwnE w B e size v n xs) (hb : B' ≤ B) : OwnE w B' e size v n xs :=
  h.imp id (fun h => own_base h hb)
/-- The block that an append to a slice may write. -/
def ownB : Value → Option Nat
  | .slice (some a) _ cap => if cap = 0 then none else some a.block
  | _ => none
/-- Behind an append to another row. -/
theorem OwnE.other {w w' : World} {B B' : Nat} {e e' : TypeId} {size size' : Nat} {v v' : Value} {n n' : Nat} {xs xs' : List Value} (h : OwnE w B e size v n xs) (h' : OwnE w B' e' size' v' n' xs') (hne : e ≠ e') (hg : w.grownBy w' (ownB v')) : OwnE w' B e size v n xs := by
  rcases h with h | h
  · exact .inl h
  · refine .inr ⟨h.1, ?_⟩
    rcases h.2 with h2 | ⟨g, cap, cur, rfl, hb, hgg, r⟩
    · exact .inl h2
    · refine .inr ⟨g, cap, cur, rfl, hb, ?_, r⟩
      have hlt : g < w.heap.size := (Array.getElem?_eq_some_iff.1 hgg).1
      by_cases hq : some g = ownB v'
      · rcases h' with ⟨h', _, _⟩ | h'
        · rcases h' with rfl | ⟨g', rfl⟩ <;> cases hq
        · rcases h'.2 with ⟨rfl, _⟩ | ⟨g', cap', cur', rfl, _, hg', _⟩
          · cases hq
          · simp only [ownB] at hq
            split at hq
            · cases hq
            · simp at hq
              subst hq
              rw [hgg] at hg'
              simp at hg'
              exact absurd hg'.2 hne
      · rw [hg.block g hlt hq]; exact hgg
theorem OwnE.lt {w : World} {B : Nat} {e : TypeId} {size : Nat} {v : Value} {n : Nat} {xs : List Value} (h : OwnE w B e size v n xs) : ∀ k, ownB v = some k → B ≤ k ∧ k < w.heap.size := by
  intro k hk
  rcases h with ⟨h, _, _⟩ | h
  · rcases h with rfl | ⟨g', rfl⟩ <;> cases hk
  · refine h.lt k ?_
    rcases h.2 with ⟨rfl, _⟩ | ⟨g, cap, cur, rfl, _⟩
    · cases hk
    · simp only [ownB] at hk
      split at hk
      · cases hk
      · exact hk
theorem OwnE.row {w : World} {B : Nat} {e : TypeId} {v : Value} {n : Nat} {xs : List Value} (h : OwnE w B e 1 v n xs) : ∃ ao cap, v = .slice ao n cap ∧ RowAt w ao xs ∧ n = xs.length ∧ n ≤ cap ∧ cap ≤ maxLen ∧ (ao = none → n = 0 ∧ cap = 0) ∧ (∀ ad, ao = some ad → ad.spot = none) := by
  rcases h with ⟨h, rfl, rfl⟩ | h
  · rcases h with rfl | ⟨g, rfl⟩
    · exact ⟨none, 0, rfl, fun i hi => absurd hi (Nat.not_lt_zero i), rfl, Nat.le_refl _, Nat.zero_le _, fun _ => ⟨rfl, rfl⟩, fun _ h => by cases h⟩
    · exact ⟨some ⟨g, 0, none⟩, 0, rfl, fun i hi => absurd hi (Nat.not_lt_zero i), rfl, Nat.le_refl _, Nat.zero_le _, fun _ => ⟨rfl, rfl⟩, fun _ h => by cases h; rfl⟩
  · exact own_row h

section
variable {P : Program} {ops : Array Oper} {rest : List Oper} {o : Oper} {a : Act} {Q : Exit → Act → World → Prop} {wp w0 : World}
/-- Elements, written out, are appended to a slice that is empty or the call's own. -/
theorem appE (hgd : o.guard = none) (s x : Operand) (t : TypeId)
    (ho : o.op = .call { callee := .builtin .append, args := #[s, x], argTypes := #[t, t] })
    (e : TypeId) (i : TypeInfo) (z : Value) (size bytes : Nat) (ht : P.underlying t = some (.slice e)) (hi : P.info? e = some i) (hz : i.zero = some z)
    (hsize : i.size = size) (hby : i.bytes = bytes) (hzs : z.cells.size = size) (hsz : 0 < size)
    (B : Nat) (v : Value) (n : Nat) (xs : List Value) (hs : a.eval s = v) (hown : OwnE wp B e size v n xs) (D : Nat) (hDB : D ≤ B) (hbel : Below D w0 wp) (hB : B ≤ wp.heap.size)
    (us : List Value) (m : Nat) (hm : us.length = m * size) (hm1 : 1 ≤ m) (hu : ∀ u ∈ us, u.oneCell' = true) (hx : a.eval x = .slice (some ⟨wp.heap.size, 0, none⟩) m m) (hn : n + m ≤ 1000000000) (hby2 : bytes ≤ 1000)
    (h : Hid (∀ v' w', w'.ownsRow B e size v' (n + m) (xs ++ us) → Below D w0 w' → (wp.alloc (.cells us.toArray e)).grownBy w' (ownB v) → wpList P ops Q rest (a.put o.dst v') w')) :
    wpList P ops Q (o :: rest) a (wp.alloc (.cells us.toArray e)) := by
  have hb2 : (n + m) * bytes ≤ 140737488355328 := by
    have : (n + m) * bytes ≤ 1000000000 * 1000 := Nat.mul_le_mul hn hby2
    omega
  have hml : n + m ≤ maxLen := by unfold maxLen; omega
  have grow : ∀ ao, v = .slice ao 0 0 → n = 0 → xs = [] → wpList P ops Q (o :: rest) a (wp.alloc (.cells us.toArray e)) := by
    intro ao hv hn0 hxs
    subst hn0; subst hxs
    refine wpList_append_grows _ hgd s x t ho e i z size bytes ht hi hz hsize hby hzs hsz ao 0 0 [] (hs.trans hv) (fun _ => ⟨rfl, rfl⟩) (by simp) (fun _ _ j u hj => by simp at hj) ⟨wp.heap.size, 0, none⟩ m m us hx hm (new_cells _ _ _) hu (by omega) hml hb2 ?_
    intro v' w' h1 h2
    refine h.out v' w' (own_base h1 (by simp; omega)) ((hbel.alloc (by omega) _).grown h2 (by simp; omega) (fun k hk => by cases hk)) ?_
    exact ⟨h2.os, h2.tape, h2.output, h2.size, fun k hk _ => h2.block k hk (by simp)⟩
  rcases hown with ⟨hv, hn0, hxs⟩ | hown
  · rcases hv with hv | ⟨g, hv⟩
    · exact grow _ hv hn0 hxs
    · exact grow _ hv hn0 hxs
  · rcases hown.2 with ⟨hv, hn0⟩ | ⟨g, cap, cur, hv, hg⟩
    · exact grow _ hv hn0 (List.length_eq_zero_iff.1 (by rw [hown.1, hn0, Nat.zero_mul]))
    · by_cases hc0 : cap = 0
      · have hn0 : n = 0 := by have := hg.2.2.1; omega
        exact grow (some ⟨g, 0, none⟩) (by rw [hv, hc0, hn0]) hn0 (List.length_eq_zero_iff.1 (by rw [hown.1, hn0, Nat.zero_mul]))
      · refine wpList_append_own _ hgd s x t ho B e i z size bytes ht hi hz hsize hby hzs hsz v n xs hs (hown.alloc _) ⟨wp.heap.size, 0, none⟩ m m us hx hm (new_cells _ _ _) hu hml hb2 (by simp; omega) ?_
        intro v' w' h1 h2 _
        have e1 : ownB v = v.ownBlock := by rw [hv]; simp [ownB, Value.ownBlock, hc0]
        exact h.out v' w' h1 ((hbel.alloc (by omega) _).grown h2 (by simp; omega) (fun k hk => by have := (hown.lt k hk).1; omega)) (by rw [e1]; exact h2)
end

theorem encAll_le (rs : List Nat) : (encAll rs).length ≤ 4 * rs.length := by
  induction rs with
  | nil => simp [encAll_nil]
  | cons c rs ih => rw [encAll_cons, List.length_append, List.length_cons]; have := enc_length c; omega

set_option maxHeartbeats 2000000 in
theorem refText_any (rs : List Nat) (ao : Option Addr) (cap : Nat) (w : World) (hl : rs.length ≤ 1000000) (ho : allOk rs) (hr : RowAt w ao (natRow rs)) :
    Calls Try.prog 11 #[.slice ao rs.length cap] w fun e w' => e = .returned (.string (mkS (encAll rs))) ∧ Below w.heap.size w w' := by
  obtain ⟨i0, hi, hz0, hz1, hz2⟩ := info_parts Try.infoByte
  have HO := Lib.hid ho
  have HR := Lib.hid hr
  clear ho hr
  go_enter Try.func11, Try.ntmps11
  go_wp2_with fail
  go_loopw [3, 9] (fun v i wr => ∃ k : Nat, k ≤ rs.length ∧ i = .int .i64 k ∧ Below w.heap.size w wr ∧ wr.ownsRow w.heap.size 5 1 v (encAll (rs.take k)).length (byteRow (encAll (rs.take k)))) (fun _ i _ => rs.length - (intOf i).toNat)
  case atStart => exact ⟨0, Nat.zero_le _, rfl, (Below.refl _ _).alloc (Nat.le_refl _) _, World.ownsRow_made w #[] 0 (Nat.le_refl _) (by simp [maxLen]) rfl⟩
  case round =>
    obtain ⟨k, hk, rfl, hbel, hown⟩ := hrel
    have HBS := Lib.hid hbel.size
    by_cases hlt : k < rs.length
    · obtain ⟨b, of, rfl, hc⟩ := HR.out k (by rw [natRow_len]; exact hlt)
      rw [natRow_at] at hc
      replace hc := (hbel.cell (World.block_lt_of_cell? w _ hc)).trans hc
      have hok := HO.out _ (List.getElem_mem hlt)
      have HT := Lib.hid (show encAll (rs.take (k + 1)) = encAll (rs.take k) ++ enc rs[k] by rw [List.take_succ_eq_append_getElem hlt, encAll_append, encAll_cons, encAll_nil, List.append_nil])
      generalize rs[k] = c at *
      generalize hpre : encAll (rs.take k) = pre at *
      have hpl : pre.length ≤ 4000000 := by rw [← hpre]; have := encAll_le (rs.take k); rw [List.length_take] at this; omega
      clear hpre
      have hcb : c ≤ 1114111 := by rw [okR_def] at hok; omega
      by_cases h1 : (c : Int) < 128
      · go_wp2_with (at_builtin; refine app1 rfl _ _ 46 rfl 5 i0 (.int .u8 0) 1 Try.underlying46 hi hz0 hz1 hz2 rfl w.heap.size _ _ _ rfl hown w.heap.size (Nat.le_refl _) hbel HBS.out _ rfl rfl (by omega) (by omega) ?_)
        refine Lib.hid ?_
        intro v' w2 hown' hbel' _
        go_wp2_with fail
        go_roundw
        case rel => exact ⟨k + 1, by omega, by go_num, hbel', by rw [HT.out]; exact own_enc (byteRow_enc1 (by omega)) rfl hown'⟩
        case measure => simp [intOf]; omega
      · by_cases h2 : (c : Int) < 2048
        · have HE := Lib.hid (byteRow_enc2 (c := c) (by omega) (by omega))
          go_wp2_with (at_builtin; refine appN rfl _ _ 46 rfl 5 i0 (.int .u8 0) 1 Try.underlying46 hi hz0 hz1 hz2 rfl w.heap.size _ _ _ rfl hown w.heap.size (Nat.le_refl _) hbel HBS.out [Value.int .u8 (192 + (c : Int) / 64), .int .u8 (128 + (c : Int) % 64)] 2 rfl (by intro u hu; simp at hu; rcases hu with rfl | rfl <;> rfl) rfl (by omega) (by omega) ?_)
          refine Lib.hid ?_
          intro v' w2 hown' hbel' _
          go_wp2_with fail
          go_roundw
          case rel => exact ⟨k + 1, by omega, by go_num, hbel', by rw [HT.out]; exact own_enc (HE.out) rfl hown'⟩
          case measure => simp [intOf]; omega
        · by_cases h3 : (c : Int) < 65536
          · have HE := Lib.hid (byteRow_enc3 (c := c) (by omega) (by omega) hok)
            go_wp2_with (at_builtin; refine appN rfl _ _ 46 rfl 5 i0 (.int .u8 0) 1 Try.underlying46 hi hz0 hz1 hz2 rfl w.heap.size _ _ _ rfl hown w.heap.size (Nat.le_refl _) hbel HBS.out [Value.int .u8 (224 + (c : Int) / 4096), .int .u8 (128 + (c : Int) / 64 % 64), .int .u8 (128 + (c : Int) % 64)] 3 rfl (by intro u hu; simp at hu; rcases hu with rfl | rfl | rfl <;> rfl) rfl (by omega) (by omega) ?_)
            refine Lib.hid ?_
            intro v' w2 hown' hbel' _
            go_wp2_with fail
            go_roundw
            case rel => exact ⟨k + 1, by omega, by go_num, hbel', by rw [HT.out]; exact own_enc (HE.out) rfl hown'⟩
            case measure => simp [intOf]; omega
          · have HE := Lib.hid (byteRow_enc4 (c := c) (by omega) hok)
            go_wp2_with (at_builtin; refine appN rfl _ _ 46 rfl 5 i0 (.int .u8 0) 1 Try.underlying46 hi hz0 hz1 hz2 rfl w.heap.size _ _ _ rfl hown w.heap.size (Nat.le_refl _) hbel HBS.out [Value.int .u8 (240 + (c : Int) / 262144), .int .u8 (128 + (c : Int) / 4096 % 64), .int .u8 (128 + (c : Int) / 64 % 64), .int .u8 (128 + (c : Int) % 64)] 4 rfl (by intro u hu; simp at hu; rcases hu with rfl | rfl | rfl | rfl <;> rfl) rfl (by omega) (by omega) ?_)
            refine Lib.hid ?_
            intro v' w2 hown' hbel' _
            go_wp2_with fail
            go_roundw
            case rel => exact ⟨k + 1, by omega, by go_num, hbel', by rw [HT.out]; exact own_enc (HE.out) rfl hown'⟩
            case measure => simp [intOf]; omega
    · obtain rfl : k = rs.length := by omega
      rw [List.take_length] at hown
      have hcv := fun h => conv_bytes (P := Try.prog) (src := 46) (dst := 9) hown h Try.underlying5 Try.underlying9
      replace hcv := hcv Try.underlying46
      go_wp2_with fail
      go_ret
      exact ⟨rfl, hbel⟩
end Go.Proofs.Ythfjpikloanekaa
