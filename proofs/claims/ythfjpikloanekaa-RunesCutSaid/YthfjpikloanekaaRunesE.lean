/-
  tidewaterref02.Fields, runes.Fields, tidewaterref02.After.
-/
import Derived.Test.YthfjpikloanekaaRunesD
namespace Go.Proofs.Ythfjpikloanekaa
open Go.RowKit Utf
set_option maxRecDepth 100000
set_option linter.unusedSimpArgs false
set_option linter.unusedVariables false

/-- The parts between blanks, the part that is open carried along. -/
def fieldsGo : List Nat → List Nat → List (List Nat)
  | cur, [] => if cur = [] then [] else [cur]
  | cur, c :: rs => if c = 32 then (if cur = [] then fieldsGo [] rs else cur :: fieldsGo [] rs) else fieldsGo (cur ++ [c]) rs
def fieldTexts (l : List (List Nat)) : List ByteArray := l.map fun x => mkS (encAll x)

theorem fieldsGo_end (rs : List Nat) : ∀ cur, fieldsGo cur (rs ++ [32]) = fieldsGo cur rs := by
  induction rs with
  | nil => intro cur; by_cases h : cur = [] <;> simp [fieldsGo, h]
  | cons c rs ih => intro cur; simp only [List.cons_append, fieldsGo, ih]

theorem strRow_snoc (l : List ByteArray) (s : ByteArray) : strRow l ++ [Value.string s] = strRow (l ++ [s]) := by simp [strRow]
theorem fieldTexts_snoc (l : List (List Nat)) (x : List Nat) : fieldTexts l ++ [mkS (encAll x)] = fieldTexts (l ++ [x]) := by simp [fieldTexts]
theorem fieldTexts_len (l : List (List Nat)) : (fieldTexts l).length = l.length := by simp [fieldTexts]

theorem natRow_one (rs : List Nat) : ∀ u ∈ natRow rs, u.oneCell' = true := by
  intro u hu
  simp [natRow] at hu
  obtain ⟨c, _, rfl⟩ := hu
  rfl

/-- No more parts than runes. -/
theorem fields_bound (n : Nat) {done : List (List Nat)} {cur rest : List Nat} {rs : List Nat} (h : done ++ fieldsGo cur rest = fieldsGo [] rs) (hl : (fieldsGo [] rs).length ≤ n) : done.length ≤ n := by
  rw [← h, List.length_append] at hl
  omega
theorem fieldsGo_len (rs : List Nat) : ∀ cur, (fieldsGo cur rs).length ≤ rs.length + 1 := by
  induction rs with
  | nil => intro cur; simp only [fieldsGo]; split <;> simp
  | cons c rs ih =>
    intro cur
    simp only [fieldsGo]
    split
    · split
      · have := ih []; simp; omega
      · have := ih []; simp; omega
    · have := ih (cur ++ [c]); simp; omega

/-- Two owned rows of two kinds of elements do not lie in one block. -/
theorem own_ne {w : World} {B B' : Nat} {e e' : TypeId} {v v' : Value} {n n' : Nat} {xs xs' : List Value} (h : w.ownsRow B e 1 v n xs) (h' : w.ownsRow B' e' 1 v' n' xs') (hne : e ≠ e') : v.ownBlock = none ∨ v.ownBlock ≠ v'.ownBlock := by
  rcases h.2 with ⟨rfl, _⟩ | ⟨g, cap, cur, rfl, _, hg, _⟩
  · exact .inl rfl
  · rcases h'.2 with ⟨rfl, _⟩ | ⟨g', cap', cur', rfl, _, hg', _⟩
    · right; simp [Value.ownBlock]
    · right
      intro h
      simp [Value.ownBlock] at h
      subst h
      rw [hg] at hg'
      simp at hg'
      exact hne hg'.2

set_option maxHeartbeats 2000000 in
theorem refFields_any (rs : List Nat) (B : Nat) (v : Value) (w : World) (hl : rs.length ≤ 1000000) (ho : allOk rs) (hv : w.ownsRow B 3 1 v rs.length (natRow rs)) :
    Calls Try.prog 15 #[v] w fun e w' => ∃ v', e = .returned v' ∧ Below w.heap.size w w' ∧ OwnE w' w.heap.size 9 1 v' (fieldsGo [] rs).length (strRow (fieldTexts (fieldsGo [] rs))) := by
  obtain ⟨i0, hi, hz0, hz1, hz2⟩ := info_parts Try.infoInt
  obtain ⟨i1, hj, hy0, hy1, hy2⟩ := info_parts Try.infoString
  obtain ⟨ao, cap, rfl, hr, -, -, -, hao, hsp⟩ := own_row hv
  have HO := Lib.hid ho
  have HR := Lib.hid hr
  have HAO := Lib.hid hao
  have HSP := Lib.hid hsp
  clear ho hr hv hao hsp
  go_enter Try.func15, Try.ntmps15
  have hb0 : Below w.heap.size w (((w.alloc (.cells #[] 9)).alloc (.cells #[] 3)).alloc (.cells #[] 3)) := (((Below.refl _ _).alloc (Nat.le_refl _) _).alloc (by simp) _).alloc (by simp; omega) _
  have hown0 : (((w.alloc (.cells #[] 9)).alloc (.cells #[] 3)).alloc (.cells #[] 3)).ownsRow (w.heap.size + 2) 3 1 (.slice (some ⟨w.heap.size + 1 + 1, 0, none⟩) 0 0) 0 [] := by
    have := World.ownsRow_made (base := w.heap.size + 2) (e := 3) (size := 1) ((w.alloc (.cells #[] 9)).alloc (.cells #[] 3)) #[] 0 (by simp) (by simp [maxLen]) rfl
    simpa using this
  have HB0 := Lib.hid hb0
  have HOW := Lib.hid hown0
  clear hb0 hown0
  go_wp2_with (at_builtin; refine appS rfl _ _ 24 rfl 3 i0 (.int .i64 0) 8 Try.underlying24 hi hz0 hz1 hz2 rfl (w.heap.size + 2) _ _ _ rfl HOW.out w.heap.size (by omega) HB0.out (by simp <;> omega) (natRow rs) ao rs.length cap (natRow_len rs) (natRow_one rs) rfl (HR.out.below HB0.out) HAO.out HSP.out (by omega) (by omega) ?_)
  refine Lib.hid ?_
  intro v1 w1 hown1 hbel1 hgrow1
  have hsz1 := hgrow1.size
  simp at hsz1
  have HS1 := Lib.hid hsz1
  clear HOW HB0 hgrow1 hsz1
  go_wp2_with (at_builtin; refine app1 rfl _ _ 24 rfl 3 i0 (.int .i64 0) 8 Try.underlying24 hi hz0 hz1 hz2 rfl (w.heap.size + 2) _ _ _ rfl hown1 w.heap.size (by omega) hbel1 (by have := HS1.out; omega) (.int .i64 32) rfl rfl (by omega) (by omega) ?_)
  refine Lib.hid ?_
  intro v2 w2 hown2 hbel2 hgrow2
  rw [natRow_snoc rs 32 32 rfl] at hown2
  obtain ⟨a2, c2, rfl, hr2, -⟩ := own_row hown2
  have HR2 := Lib.hid hr2
  have HB2 := Lib.hid hbel2
  clear HS1 hgrow2 hr2 hown2 hbel2 hown1 hbel1 HAO HSP HR
  have HFB := Lib.hid (fieldsGo_len rs [])
  go_wp2_with fail
  go_loopw [3, 4, 15] (fun vo vc i wr => ∃ (k : Nat) (done : List (List Nat)) (cur : List Nat), k ≤ rs.length + 1 ∧ i = .int .i64 k ∧ Below w2.heap.size w2 wr ∧ OwnE wr w2.heap.size 9 1 vo done.length (strRow (fieldTexts done)) ∧ OwnE wr w2.heap.size 3 1 vc cur.length (natRow cur) ∧ Hid (done ++ fieldsGo cur ((rs ++ [32]).drop k) = fieldsGo [] (rs ++ [32])) ∧ allOk cur ∧ Hid (cur.length ≤ k) ∧ Hid (k = rs.length + 1 → cur = [])) (fun _ _ i _ => rs.length + 1 - (intOf i).toNat)
  case atStart => exact ⟨0, [], [], Nat.zero_le _, rfl, Below.refl _ _, .new, .new, rfl, allOk_nil, Nat.zero_le _, fun _ => rfl⟩
  case round =>
    obtain ⟨k, done, cur, hk, rfl, hbel, hout, hcur, HC, hoc, HL, HE⟩ := hrel
    have HDL := Lib.hid (fields_bound (rs.length + 1) HC.out (by rw [fieldsGo_end]; exact HFB.out))
    have HCO := Lib.hid hoc
    have HOU := Lib.hid hout
    have HCU := Lib.hid hcur
    have HBE := Lib.hid hbel
    have HSZ := Lib.hid hbel.size
    clear hoc hout hcur hbel
    by_cases hlt : k < (rs ++ [32]).length
    · obtain ⟨b, of, rfl, hc⟩ := HR2.out k (by rw [natRow_len]; exact hlt)
      rw [natRow_at] at hc
      replace hc := (HBE.out.cell (World.block_lt_of_cell? w2 _ hc)).trans hc
      have hdrop : (rs ++ [32]).drop k = (rs ++ [32])[k] :: (rs ++ [32]).drop (k + 1) := List.drop_eq_getElem_cons hlt
      have HD := Lib.hid hdrop
      have hcok : (rs ++ [32])[k] ≠ 32 → okR (rs ++ [32])[k] = true := by
        intro hne
        have := List.getElem_mem hlt
        rw [List.mem_append] at this
        rcases this with h | h
        · exact HO.out _ h
        · simp at h; exact absurd h hne
      have HK := Lib.hid hcok
      have HK2 := Lib.hid (show k = rs.length → (rs ++ [32])[k] = 32 from fun h => by subst h; simp)
      have hlt2 : k < rs.length + 1 := by simpa using hlt
      have hll : ((rs ++ [32]).length : Int) = (rs.length : Int) + 1 := by simp
      clear hdrop hcok
      generalize (rs ++ [32])[k] = c at *
      have HLL := Lib.hid hll
      clear hlt hll
      by_cases h32 : c = 32
      · have h32' : ((c : Int) != 32) = false := by simp [h32]
        have H32 := Lib.hid h32
        clear h32
        by_cases hcn : cur = []
        · subst hcn
          have hz : ¬ (0 : Int) < (([] : List Nat).length : Int) := by simp
          obtain ⟨ac, cc, rfl, -⟩ := OwnE.row HCU.out
          go_wp2_with fail
          go_roundw
          case rel =>
            refine ⟨k + 1, done, [], by omega, by go_num, HBE.out.alloc HSZ.out _, HOU.out.alloc _, .new, ?_, allOk_nil, Nat.zero_le _, fun _ => rfl⟩
            have := HC.out
            rw [HD.out, H32.out] at this
            show _ = _
            simpa [fieldsGo] using this
          case measure => simp [intOf]; omega
        · have hz : (0 : Int) < (cur.length : Int) := by
            have : cur.length ≠ 0 := fun h => hcn (List.length_eq_zero_iff.1 h)
            omega
          have HCN := Lib.hid hcn
          clear hcn
          obtain ⟨ac, cc, rfl, hrc, -⟩ := OwnE.row HCU.out
          have HRC := Lib.hid hrc
          clear hrc
          have hcl : cur.length ≤ 1000000 := by have := HL.out; omega
          go_wp2_with fail
          refine (refText_any cur ac cc _ hcl HCO.out HRC.out).mono ?_
          rintro e w3 ⟨rfl, hb3⟩
          have HB3 := Lib.hid hb3
          have HB3s := Lib.hid hb3.size
          clear hb3
          have HOU3 := Lib.hid (HOU.out.below HB3.out)
          go_wp2_with (at_builtin; refine appE rfl _ _ 31 rfl 9 i1 (.string ByteArray.empty) 1 16 Try.underlying31 hj hy0 hy1 hy2 rfl (by omega) w2.heap.size _ _ _ rfl HOU3.out w2.heap.size (Nat.le_refl _) (HBE.out.trans (HB3.out.mono HSZ.out)) (by have := HSZ.out; have := HB3s.out; omega) [.string (mkS (encAll cur))] 1 rfl (by omega) (by intro u hu; simp at hu; subst hu; rfl) rfl (by have := HDL.out; omega) (by omega) ?_)
          refine Lib.hid ?_
          intro v4 w4 hown4 hbel4 _
          have HB4 := Lib.hid hbel4
          have HO4 := Lib.hid hown4
          clear hown4 hbel4
          go_wp2_with fail
          go_roundw
          case rel =>
            refine ⟨k + 1, done ++ [cur], [], by omega, by go_num, HB4.out.alloc HB4.out.size _, ?_, .new, ?_, allOk_nil, Nat.zero_le _, fun _ => rfl⟩
            · have := HO4.out
              rw [strRow_snoc, fieldTexts_snoc] at this
              rw [List.length_append]
              exact .inr (this.alloc _)
            · have := HC.out
              rw [HD.out, H32.out] at this
              show _ = _
              simp only [fieldsGo, HCN.out, if_true, if_false] at this
              simpa using this
          case measure => simp [intOf]; omega
      · have h32' : ((c : Int) != 32) = true := by simp; omega
        have H32 := Lib.hid h32
        clear h32
        go_wp2_with (at_builtin; refine appE rfl _ _ 24 rfl 3 i0 (.int .i64 0) 1 8 Try.underlying24 hi hz0 hz1 hz2 rfl (by omega) w2.heap.size _ _ _ rfl HCU.out w2.heap.size (Nat.le_refl _) HBE.out HSZ.out [.int .i64 (c : Int)] 1 rfl (by omega) (by intro u hu; simp at hu; subst hu; rfl) rfl (by have := HL.out; omega) (by omega) ?_)
        refine Lib.hid ?_
        intro v4 w4 hown4 hbel4 hgrow4
        have HB4 := Lib.hid hbel4
        have HO4 := Lib.hid hown4
        have HOU4 := Lib.hid ((HOU.out.alloc (.cells #[.int .i64 (c : Int)] 3)).other (HCU.out.alloc _) (by decide) hgrow4)
        clear hown4 hbel4 hgrow4
        go_wp2_with fail
        go_roundw
        case rel =>
          refine ⟨k + 1, done, cur ++ [c], by omega, by go_num, HB4.out, HOU4.out, ?_, ?_, allOk_append.2 ⟨HCO.out, allOk_cons.2 ⟨HK.out H32.out, allOk_nil⟩⟩, ?_, fun h => absurd (HK2.out (by omega)) H32.out⟩
          · have := HO4.out
            rw [natRow_snoc cur c c rfl] at this
            rw [List.length_append]
            exact .inr this
          · have := HC.out
            rw [HD.out] at this
            show _ = _
            simp only [fieldsGo] at this
            rw [if_neg H32.out] at this
            exact this
          · have := HL.out
            show _ ≤ _
            rw [List.length_append]
            simp; omega
        case measure => simp [intOf]; omega
    · have hlt2 : k = rs.length + 1 := by simp at hlt; omega
      subst hlt2
      have hI : ¬ ((rs.length : Int) + 1 < ((rs ++ [32]).length : Int)) := by simp
      have HLL := Lib.hid hlt
      clear hlt
      go_wp2_with fail
      go_ret
      refine ⟨_, rfl, HB2.out.trans (HBE.out.mono HB2.out.size), ?_⟩
      have h1 := HC.out
      rw [fieldsGo_end, List.drop_of_length_le (by simp), HE.out (by first | rfl | trivial)] at h1
      simp only [fieldsGo, if_true, List.append_nil] at h1
      rw [← h1]
      exact HOU.out.base HB2.out.size

theorem off_mono {s : ByteArray} {rs : List Nat} (h : s.data.toList = encAll rs) {j k : Nat} (hjk : j ≤ k) : off rs j ≤ off rs k := by
  unfold off
  have e : rs.take k = rs.take j ++ (rs.take k).drop j := by
    have h1 := (List.take_append_drop j (rs.take k)).symm
    rwa [List.take_take, Nat.min_eq_left hjk] at h1
  rw [e, encAll_append, List.length_append]
  exact Nat.le_add_right _ _
theorem off_mid {s : ByteArray} {rs : List Nat} (h : s.data.toList = encAll rs) {j k : Nat} (hjk : j ≤ k) : (s.data.toList.drop (off rs j)).take (off rs k - off rs j) = encAll ((rs.take k).drop j) := by
  have e : rs.take k = rs.take j ++ (rs.take k).drop j := by
    have h1 := (List.take_append_drop j (rs.take k)).symm
    rwa [List.take_take, Nat.min_eq_left hjk] at h1
  rw [← List.drop_take, off_take h k]
  conv => lhs; rw [e, encAll_append]
  exact List.drop_left

/-- A part that stands in a text. -/
theorem extract_off {s : ByteArray} {rs : List Nat} (h : s.data.toList = encAll rs) {j k : Nat} (hjk : j ≤ k) : s.extract (off rs j) (off rs k) = mkS (encAll ((rs.take k).drop j)) := by
  apply str_ext
  rw [Lib.extract_data, off_mid h hjk, mkS_data]

theorem next_at {P : Program} {s : ByteArray} {rs : List Nat} (ho : allOk rs) (h : s.data.toList = encAll rs) (w : World) (b k : Nat) (hb : w.heap[b]? = some (.stringIter s (off rs k))) (hk : k < rs.length) (ty : TypeId) :
    (Instr.next (.pointer (some ⟨b, 0, none⟩)) true ty).run P w = .ok (.tuple #[.bool true, .int .i64 (off rs k), .int .i32 (rs[k] : Int)]) (w.iterAt b s (off rs (k + 1))) := by
  rw [Lib.run_next_any_at w b s _ ty hb (off_lt h k hk), decode_off ho h k hk, off_succ rs k hk]
theorem next_at_end {P : Program} {s : ByteArray} {rs : List Nat} (h : s.data.toList = encAll rs) (w : World) (b : Nat) (hb : w.heap[b]? = some (.stringIter s (off rs rs.length))) (ty : TypeId) :
    (Instr.next (.pointer (some ⟨b, 0, none⟩)) true ty).run P w = .ok (.tuple #[.bool false]) w :=
  Lib.run_next_end_at w b s _ ty hb (by rw [off_all h]; omega)

theorem OwnE.iterAt {w : World} {B : Nat} {e : TypeId} {size : Nat} {v : Value} {n : Nat} {xs : List Value} (h : OwnE w B e size v n xs) {k : Nat} (hk : k < B) (s : ByteArray) (p : Nat) : OwnE (w.iterAt k s p) B e size v n xs :=
  h.imp id (fun h => ownsRow_iterAt h hk s p)

theorem below_iter {w w' : World} {D b : Nat} (h : Below D w w') (hb : D ≤ b) (s : ByteArray) (p : Nat) : Below D w (w'.iterAt b s p) := Lib.below_iterAt h hb s p
end Go.Proofs.Ythfjpikloanekaa
