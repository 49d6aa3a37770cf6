/-
  Blocks that are known whole, and frames: which blocks may have turned.
-/
import Derived.Test.YtjhmehmmpfnnkaaDoorLUnq
namespace Go.Proofs.YtjhmehmmpfnnkaaDoor
open Go.RowKit Utf
set_option maxRecDepth 100000
set_option linter.unusedSimpArgs false
set_option linter.unusedVariables false

/-- Block g holds just these cells, none frozen. -/
def Blk (w : World) (g : Nat) (t : TypeId) (cs : Array Value) : Prop := w.heap[g]? = some (.cells cs t (0, 0))

section
variable {w w' : World} {g : Nat} {t : TypeId} {cs : Array Value}
theorem Blk.lt (h : Blk w g t cs) : g < w.heap.size := (Array.getElem?_eq_some_iff.1 h).1
theorem Blk.cell (h : Blk w g t cs) (i : Nat) : w.cell? ⟨g, i, none⟩ = cs[i]? := cell_of_row w g i cs t (0, 0) h
theorem Blk.frozen (h : Blk w g t cs) (i : Nat) : w.frozen? ⟨g, i, none⟩ = false := by unfold Blk at h; simp [World.frozen?, h]
theorem Blk.new (w : World) (t : TypeId) (cs : Array Value) : Blk (w.alloc (.cells cs t)) w.heap.size t cs := heap_alloc_new w _
theorem Blk.drewN (h : Blk w g t cs) (n : Nat) : Blk (w.drewN n) g t cs := h
theorem Blk.alloc (h : Blk w g t cs) (o : Obj) : Blk (w.alloc o) g t cs := (Below.heap_alloc w o g h.lt).trans h
theorem Blk.put (h : Blk w g t cs) (i : Nat) (u : Value) : Blk (w.setCell ⟨g, i, none⟩ u) g t (cs.setIfInBounds i u) := by
  unfold Blk at h ⊢
  simp [World.setCell, Array.getElem?_modify, h]
theorem Blk.far (h : Blk w g t cs) {p : Addr} (hp : g ≠ p.block) (u : Value) : Blk (w.setCell p u) g t cs := (Below.heap_setCell w p u g hp).trans h
theorem Blk.below {B : Nat} (h : Blk w g t cs) (hb : Below B w w') (hg : g < B) : Blk w' g t cs := (hb.block g hg).trans h
end

/-- Of the blocks that lay, only those of S may have turned. -/
structure Only (S : Nat → Prop) (w w' : World) : Prop where
  os : w'.os = w.os
  tape : w'.tape = w.tape
  output : w'.output = w.output
  size : w.heap.size ≤ w'.heap.size
  block : ∀ k, k < w.heap.size → ¬ S k → w'.heap[k]? = w.heap[k]?

section
variable {S T : Nat → Prop} {a w w' : World}
theorem Only.refl (S : Nat → Prop) (w : World) : Only S w w := ⟨rfl, rfl, rfl, Nat.le_refl _, fun _ _ _ => rfl⟩
theorem Only.trans (h : Only S a w) (k : Only S w w') : Only S a w' :=
  ⟨k.os.trans h.os, k.tape.trans h.tape, k.output.trans h.output, Nat.le_trans h.size k.size, fun i hi hs => (k.block i (Nat.lt_of_lt_of_le hi h.size) hs).trans (h.block i hi hs)⟩
theorem Only.mono (h : Only S w w') (hs : ∀ k, S k → T k) : Only T w w' := ⟨h.os, h.tape, h.output, h.size, fun k hk ht => h.block k hk (fun s => ht (hs k s))⟩
/-- What is new may turn too. -/
theorem Only.also (h : Only T a w) (hs : ∀ k, T k → S k ∨ a.heap.size ≤ k) : Only S a w := ⟨h.os, h.tape, h.output, h.size, fun k hk ht => h.block k hk (fun s => (hs k s).elim ht (by omega))⟩
theorem Only.drewN (h : Only S a w) (n : Nat) : Only S a (w.drewN n) := ⟨h.os, h.tape, h.output, h.size, h.block⟩
theorem Only.alloc (h : Only S a w) (o : Obj) : Only S a (w.alloc o) :=
  ⟨h.os, h.tape, h.output, Nat.le_trans h.size (by simp), fun k hk hs => (Below.heap_alloc w o k (Nat.lt_of_lt_of_le hk h.size)).trans (h.block k hk hs)⟩
theorem Only.set (h : Only S a w) {p : Addr} (hp : S p.block ∨ a.heap.size ≤ p.block) (u : Value) : Only S a (w.setCell p u) :=
  ⟨h.os, h.tape, h.output, by simpa [World.setCell] using h.size, fun k hk hs => (Below.heap_setCell w p u k (fun e => by
    subst e
    rcases hp with hp | hp
    · exact hs hp
    · omega)).trans (h.block k hk hs)⟩
theorem Only.of_below {B : Nat} (h : Below B w w') (hs : ∀ k, k < w.heap.size → B ≤ k → S k) : Only S w w' :=
  ⟨h.os, h.tape, h.output, h.size, fun k hk hn => h.block k (Nat.lt_of_not_le fun hb => hn (hs k hk hb))⟩
theorem Only.below_all (h : Below w.heap.size w w') : Only S w w' := Only.of_below h (fun k hk hb => by omega)
theorem Only.to_below (h : Only S w w') {B : Nat} (hB : B ≤ w.heap.size) (hs : ∀ k, k < B → ¬ S k) : Below B w w' :=
  ⟨h.os, h.tape, h.output, h.size, fun k hk => h.block k (by omega) (hs k hk)⟩
/-- A step that may turn blocks of its own, some of which are new to the first world. -/
theorem Only.step (h : Only S a w) (k : Only T w w') (hs : ∀ i, T i → S i ∨ a.heap.size ≤ i) : Only S a w' :=
  ⟨k.os.trans h.os, k.tape.trans h.tape, k.output.trans h.output, Nat.le_trans h.size k.size, fun i hi hn => (k.block i (Nat.lt_of_lt_of_le hi h.size) (fun t => (hs i t).elim hn (by omega))).trans (h.block i hi hn)⟩
theorem Only.cell (h : Only S w w') {p : Addr} {v : Value} (hc : w.cell? p = some v) (hs : ¬ S p.block) : w'.cell? p = some v :=
  (World.cell?_of_block (h.block p.block (World.block_lt_of_cell? w p hc) hs)).trans hc
theorem Blk.only {g : Nat} {t : TypeId} {cs : Array Value} (hb : Blk w g t cs) (h : Only S w w') (hs : ¬ S g) : Blk w' g t cs := (h.block g hb.lt hs).trans hb
end

/-- A row of the call's own, kept. -/
theorem own_only {S : Nat → Prop} {w w' : World} {B : Nat} {e : TypeId} {size : Nat} {v : Value} {n : Nat} {xs : List Value} (h : w.ownsRow B e size v n xs) (ho : Only S w w') (hs : ∀ g, v.ownBlock = some g → ¬ S g) : w'.ownsRow B e size v n xs := by
  refine ⟨h.1, ?_⟩
  rcases h.2 with h2 | ⟨g, cap, cur, hv, hB, hg, r⟩
  · exact .inl h2
  · refine .inr ⟨g, cap, cur, hv, hB, ?_, r⟩
    rw [ho.block g (Array.getElem?_eq_some_iff.1 hg).1 (hs g (by rw [hv]; rfl))]
    exact hg

/-- A row of elements of one type and a block of another. -/
theorem own_ne_blk {w : World} {B : Nat} {e : TypeId} {size : Nat} {v : Value} {n : Nat} {xs : List Value} (h : w.ownsRow B e size v n xs) {c : Nat} {T : TypeId} {cs : Array Value} (hC : Blk w c T cs) (hne : e ≠ T) : v.ownBlock ≠ some c := by
  rcases h.2 with ⟨rfl, _⟩ | ⟨g', cap, cur, rfl, _, hg, _⟩
  · simp [Value.ownBlock]
  · intro hh
    have : g' = c := by simpa [Value.ownBlock] using hh
    subst this
    unfold Blk at hC
    rw [hg] at hC
    simp at hC
    exact hne hC.2

theorem Only.grown {S : Nat → Prop} {a w w' : World} {row : Option Nat} (h : Only S a w) (hg : w.grownBy w' row) (hr : ∀ k, row = some k → S k ∨ a.heap.size ≤ k) : Only S a w' :=
  ⟨hg.os.trans h.os, hg.tape.trans h.tape, hg.output.trans h.output, Nat.le_trans h.size hg.size, fun k hk hs => (hg.block k (Nat.lt_of_lt_of_le hk h.size) (fun e => by
    rcases hr k e.symm with h1 | h1
    · exact hs h1
    · omega)).trans (h.block k hk hs)⟩

/-- Above all blocks of the listed errors. -/
def gTop : Nat := (max (errG 1) (max (errG 3) (max (errG 5) (max (errG 6) (errG 15))))) + 1
theorem errG_top (i : Nat) (hi : i = 1 ∨ i = 3 ∨ i = 5 ∨ i = 6 ∨ i = 15) : errG i < gTop := by
  rcases hi with rfl | rfl | rfl | rfl | rfl <;> decide
theorem LErr.top {W : World} {ea : Nat → Addr} (h : LErr W ea) : gTop ≤ W.heap.size := by
  have h1 := World.block_lt_of_cell? W _ (h 1 (by omega))
  have h2 := World.block_lt_of_cell? W _ (h 3 (by omega))
  have h3 := World.block_lt_of_cell? W _ (h 5 (by omega))
  have h4 := World.block_lt_of_cell? W _ (h 6 (by omega))
  have h5 := World.block_lt_of_cell? W _ (h 15 (by omega))
  simp only at h1 h2 h3 h4 h5
  unfold gTop
  omega
theorem LErr.only {W W' : World} {ea : Nat → Addr} {S : Nat → Prop} (h : LErr W ea) (ho : Only S W W') (hs : ∀ k, S k → gTop ≤ k) : LErr W' ea :=
  fun i hi => ho.cell (h i hi) (fun s => by have := hs _ s; have := errG_top i hi; simp only at *; omega)
theorem LErr.set {W : World} {ea : Nat → Addr} (h : LErr W ea) {p : Addr} (hp : gTop ≤ p.block) (u : Value) : LErr (W.setCell p u) ea :=
  h.only (S := fun k => k = p.block) ((Only.refl (fun k => k = p.block) W).set (.inl rfl) u) (fun k hk => by subst hk; exact hp)
theorem LErr.drewN {W : World} {ea : Nat → Addr} (h : LErr W ea) (n : Nat) : LErr (W.drewN n) ea := h

/-- A row of cells, kept. -/
theorem RowAt.only {S : Nat → Prop} {w w' : World} {ao : Option Addr} {xs : List Value} (h : RowAt w ao xs) (ho : Only S w w') (hs : ∀ ad, ao = some ad → ¬ S ad.block) : RowAt w' ao xs := by
  intro i hi
  obtain ⟨b, o, e, hc⟩ := h i hi
  exact ⟨b, o, e, ho.cell hc (hs ⟨b, o, none⟩ e)⟩

/-- A reader of words: block b; the words that are left; its error's number. The row of words lies in no block of S. -/
def RAt (w : World) (b : Nat) (ea : Nat → Addr) (ws : List (List Nat)) (n : Nat) (K : Nat → Prop) : Prop :=
  ∃ ao cap, Blk w b 83 #[.slice ao ws.length cap, errOf ea n] ∧ RowAt w ao (strRow (fieldTexts ws)) ∧ ws.length ≤ cap ∧ cap ≤ maxLen ∧ (∀ ad, ao = some ad → ad.spot = none) ∧ (ao = none → cap = 0) ∧ (∀ ad, ao = some ad → K ad.block)

theorem RAt.only {S : Nat → Prop} {w w' : World} {b : Nat} {ea : Nat → Addr} {ws : List (List Nat)} {n : Nat} {K : Nat → Prop} (h : RAt w b ea ws n K) (ho : Only S w w') (hs : ¬ S b) (hK : ∀ k, S k → ¬ K k) : RAt w' b ea ws n K := by
  obtain ⟨ao, cap, h1, h2, h3, h4, h5, h6, h7⟩ := h
  exact ⟨ao, cap, h1.only ho hs, h2.only ho (fun ad e s => hK _ s (h7 ad e)), h3, h4, h5, h6, h7⟩
end Go.Proofs.YtjhmehmmpfnnkaaDoor
