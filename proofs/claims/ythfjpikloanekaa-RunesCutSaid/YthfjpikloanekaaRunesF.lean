/-
  runes.Fields.
-/
import Derived.Test.YthfjpikloanekaaRunesE
namespace Go.Proofs.Ythfjpikloanekaa
open Go.RowKit Utf
set_option maxRecDepth 100000
set_option linter.unusedSimpArgs false
set_option linter.unusedVariables false

/-- The iterator's block behind an append to a row of the call's own. -/
theorem iter_grown {w w' : World} {e : TypeId} {us : Array Value} {row : Option Nat} {b : Nat} {x : Obj} (hg : (w.alloc (.cells us e)).grownBy w' row) (hb : w.heap[b]? = some x) (hne : ∀ k, row = some k → b < k) : w'.heap[b]? = some x := by
  have hlt : b < w.heap.size := (Array.getElem?_eq_some_iff.1 hb).1
  rw [hg.block b (by simp; omega) (fun e => by have := hne b e.symm; omega), Below.heap_alloc w _ b hlt]
  exact hb
theorem iter_new (w : World) (s : ByteArray) (p : Nat) : (w.iter s p).heap[w.heap.size]? = some (.stringIter s p) := World.iter_heap w s p

theorem fields_none (s : ByteArray) (w : World) (hs : s.size ≤ maxLen) (hd : dec s.data.toList = none) :
    Calls Try.prog 13 #[.string s] w fun e w' => e = .returned (.slice none 0 0) ∧ Below w.heap.size w w' := by
  have HD := Lib.hid hd
  clear hd
  go_enter Try.func13, Try.ntmps13
  go_wp2_with fail
  refine (right_any _ _ hs).mono ?_
  rintro e w1 ⟨rfl, hb1⟩
  rw [HD.out]
  go_wp2_with fail
  go_ret
  exact ⟨rfl, hb1⟩

/-- Where the open part begins: nowhere; or at rune j. -/
def Begins (rs : List Nat) (k : Nat) (bg : Int) (cur : List Nat) : Prop := (bg = -1 ∧ cur = []) ∨ ∃ j, j < k ∧ bg = (off rs j : Nat) ∧ cur = (rs.take k).drop j

theorem begins_next {rs : List Nat} {k j : Nat} (hk : k < rs.length) (hj : j < k) : (rs.take (k + 1)).drop j = (rs.take k).drop j ++ [rs[k]] := by
  rw [List.take_succ_eq_append_getElem hk, List.drop_append_of_le_length (by rw [List.length_take]; omega)]
theorem begins_first {rs : List Nat} {k : Nat} (hk : k < rs.length) : (rs.take (k + 1)).drop k = [rs[k]] := by
  rw [List.take_succ_eq_append_getElem hk, List.drop_append_of_le_length (by rw [List.length_take]; omega), List.drop_of_length_le (by rw [List.length_take]; omega)]
  rfl
theorem begins_ne {rs : List Nat} {k j : Nat} (hk : k ≤ rs.length) (hj : j < k) : (rs.take k).drop j ≠ [] := by
  intro h
  have := congrArg List.length h
  simp at this
  omega

set_option maxHeartbeats 2000000 in
theorem fields_some (s : ByteArray) (rs : List Nat) (w : World) (hs : s.size ≤ 1000000) (ho : allOk rs) (h : s.data.toList = encAll rs) :
    Calls Try.prog 13 #[.string s] w fun e w' => ∃ v', e = .returned v' ∧ Below w.heap.size w w' ∧ OwnE w' w.heap.size 9 1 v' (fieldsGo [] rs).length (strRow (fieldTexts (fieldsGo [] rs))) := by
  obtain ⟨i1, hj, hy0, hy1, hy2⟩ := info_parts Try.infoString
  have hs' : s.size ≤ maxLen := by unfold maxLen; omega
  have hd := dec_encAll ho
  rw [← h] at hd
  have hl := len_le h
  have HN := Lib.hid (fun (w : World) b k hb hk ty => next_at (P := Try.prog) ho h w b k hb hk ty)
  have HE := Lib.hid (fun (w : World) b hb ty => next_at_end (P := Try.prog) h w b hb ty)
  have HLT := Lib.hid (fun k hk => off_lt h k hk)
  have HLE := Lib.hid (fun k => off_le h k)
  have HS := Lib.hid (off_succ rs)
  have HM := Lib.hid (fun (j k : Nat) (hjk : j ≤ k) => off_mono (j := j) (k := k) h hjk)
  have HX := Lib.hid (fun (j k : Nat) (hjk : j ≤ k) => extract_off (j := j) (k := k) h hjk)
  have HA := Lib.hid (off_all h)
  have HP := Lib.hid (fun c => enc_length c)
  have HFB := Lib.hid (fieldsGo_len rs [])
  have HD := Lib.hid hd
  clear hd h
  go_enter Try.func13, Try.ntmps13
  go_wp2_with fail
  refine (right_any _ _ hs').mono ?_
  rintro e w1 ⟨rfl, hb1⟩
  rw [HD.out]
  have HB1 := Lib.hid hb1
  clear hb1
  go_wp2_with fail
  go_loopw [3, 4] (fun vo vb wr => ∃ (k : Nat) (done : List (List Nat)) (cur : List Nat) (bg : Int), k ≤ rs.length ∧ vb = .int .i64 bg ∧ wr.heap[w1.heap.size]? = some (.stringIter s (off rs k)) ∧ Below w1.heap.size w1 wr ∧ OwnE wr (w1.heap.size + 1) 9 1 vo done.length (strRow (fieldTexts done)) ∧ Hid (done ++ fieldsGo cur (rs.drop k) = fieldsGo [] rs) ∧ Hid (Begins rs k bg cur)) (fun _ _ wr => s.size - wr.iterPos w1.heap.size)
  case atStart => exact ⟨0, [], [], -1, Nat.zero_le _, rfl, iter_new _ _ _, (Below.refl _ _).alloc (Nat.le_refl _) _, .nil, rfl, .inl ⟨rfl, rfl⟩⟩
  case round =>
    obtain ⟨k, done, cur, bg, hk, rfl, hit, hbel, hout, HC, HBG⟩ := hrel
    have HDL := Lib.hid (fields_bound (rs.length + 1) HC.out HFB.out)
    have HOU := Lib.hid hout
    have HBE := Lib.hid hbel
    have HSZ := Lib.hid hbel.size
    have HIT := Lib.hid hit
    have HIL := Lib.hid ((Array.getElem?_eq_some_iff.1 hit).1)
    have HPO := Lib.hid (show wr.iterPos w1.heap.size = off rs k by simp [World.iterPos, hit])
    clear hout hbel hit
    by_cases hlt : k < rs.length
    · have hnx := HN.out wr w1.heap.size k HIT.out hlt
      have HD2 := Lib.hid (List.drop_eq_getElem_cons hlt : rs.drop k = _)
      have HBN := Lib.hid (fun j (hj : j < k) => begins_next hlt hj)
      have HBF := Lib.hid (begins_first hlt)
      have HO1 := Lib.hid (HS.out k hlt)
      have HO2 := Lib.hid (HLT.out k hlt)
      have hp := HP.out rs[k]
      have hpos : off rs k ≤ 1000000 := by have := HO2.out; omega
      have hmeas : s.size - off rs (k + 1) < s.size - off rs k := by have := HO1.out; have := HO2.out; omega
      have HME := Lib.hid hmeas
      clear hp hmeas
      generalize rs[k] = c at *
      generalize hoff1 : off rs (k + 1) = p1 at *
      have HOF1 := Lib.hid hoff1
      clear hoff1
      have HIT2 := Lib.hid (Lib.iterAt_heap wr w1.heap.size s (off rs k) p1 HIT.out)
      have HBE2 := Lib.hid (below_iter HBE.out (Nat.le_refl _) s p1)
      have HOU2 := Lib.hid (HOU.out.iterAt (Nat.lt_succ_self _) s p1)
      have HIS := Lib.hid (Lib.iterAt_size wr w1.heap.size s p1)
      generalize hw2 : wr.iterAt w1.heap.size s p1 = w2 at *
      have HW2 := Lib.hid hw2
      clear hw2
      rcases HBG.out with ⟨rfl, rfl⟩ | ⟨j, hjk, rfl, rfl⟩
      · by_cases h32 : c = 32
        · have h32' : ((c : Int) == 32) = true := by simp [h32]
          have h32'' : ((c : Int) != 32) = false := by simp [h32]
          have H32 := Lib.hid h32
          clear h32
          go_wp2_with fail
          go_roundw
          case rel =>
            refine ⟨k + 1, done, [], -1, by omega, rfl, by rw [HOF1.out]; exact HIT2.out, HBE2.out, HOU2.out, ?_, .inl ⟨rfl, rfl⟩⟩
            have := HC.out
            rw [HD2.out, H32.out] at this
            simp only [fieldsGo, if_true] at this
            exact this
          case measure => rw [HPO.out]; have := HIT2.out; simp only [World.iterPos, this]; exact HME.out
        · have h32' : ((c : Int) == 32) = false := by simp; omega
          have h32'' : ((c : Int) != 32) = true := by simp; omega
          have H32 := Lib.hid h32
          clear h32
          go_wp2_with fail
          go_roundw
          case rel =>
            refine ⟨k + 1, done, [c], off rs k, by omega, rfl, by rw [HOF1.out]; exact HIT2.out, HBE2.out, HOU2.out, ?_, .inr ⟨k, by omega, rfl, HBF.out.symm⟩⟩
            have := HC.out
            rw [HD2.out] at this
            simp only [fieldsGo] at this
            rw [if_neg H32.out] at this
            exact this
          case measure => rw [HPO.out]; have := HIT2.out; simp only [World.iterPos, this]; exact HME.out
      · have hjo := HM.out j k (by omega)
        have HXJ := Lib.hid (HX.out j k (by omega))
        have HCN := Lib.hid (begins_ne (rs := rs) (k := k) (j := j) hk hjk)
        have HBN2 := Lib.hid (HBN.out j hjk)
        have HKS := Lib.hid (HLE.out k)
        have hks : off rs k ≤ s.size := HLE.out k
        generalize hoj : off rs j = pj at *
        generalize hok : off rs k = pk at *
        have HOJ := Lib.hid hoj
        have HOK := Lib.hid hok
        clear hoj hok
        by_cases h32 : c = 32
        · have h32' : ((c : Int) == 32) = true := by simp [h32]
          have h32'' : ((c : Int) != 32) = false := by simp [h32]
          have H32 := Lib.hid h32
          clear h32
          go_wp2_with (at_builtin; refine appE rfl _ _ 31 rfl 9 i1 (.string ByteArray.empty) 1 16 Try.underlying31 hj hy0 hy1 hy2 rfl (by omega) (w1.heap.size + 1) _ _ _ rfl HOU2.out w1.heap.size (by omega) HBE2.out (by have := HIS.out; have := HIL.out; omega) [.string (s.extract pj pk)] 1 rfl (by omega) (by intro u hu; simp at hu; subst hu; rfl) rfl (by have := HDL.out; omega) (by omega) ?_)
          refine Lib.hid ?_
          intro v4 w4 hown4 hbel4 hgrow4
          have HB4 := Lib.hid hbel4
          have HO4 := Lib.hid hown4
          have HI4 := Lib.hid (iter_grown hgrow4 HIT2.out (fun k hk => by have := (HOU2.out.lt k hk).1; omega))
          clear hown4 hbel4 hgrow4
          go_wp2_with fail
          go_roundw
          case rel =>
            refine ⟨k + 1, done ++ [(rs.take k).drop j], [], -1, by omega, rfl, by rw [HOF1.out]; exact HI4.out, HB4.out, ?_, ?_, .inl ⟨rfl, rfl⟩⟩
            · have := HO4.out
              rw [HXJ.out, strRow_snoc, fieldTexts_snoc] at this
              rw [List.length_append]
              exact .inr this
            · have := HC.out
              rw [HD2.out, H32.out] at this
              simp only [fieldsGo, HCN.out, if_true, if_false] at this
              show _ = _
              rw [← this]
              simp
          case measure => rw [HPO.out]; have := HI4.out; simp only [World.iterPos, this]; exact HME.out
        · have h32' : ((c : Int) == 32) = false := by simp; omega
          have h32'' : ((c : Int) != 32) = true := by simp; omega
          have H32 := Lib.hid h32
          clear h32
          go_wp2_with fail
          go_roundw
          case rel =>
            refine ⟨k + 1, done, (rs.take k).drop j ++ [c], pj, by omega, rfl, by rw [HOF1.out]; exact HIT2.out, HBE2.out, HOU2.out, ?_, .inr ⟨j, by omega, by rw [HOJ.out], HBN2.out.symm⟩⟩
            have := HC.out
            rw [HD2.out] at this
            simp only [fieldsGo] at this
            rw [if_neg H32.out] at this
            exact this
          case measure => rw [HPO.out]; have := HIT2.out; simp only [World.iterPos, this]; exact HME.out
    · obtain rfl : k = rs.length := by omega
      have hnx := HE.out wr w1.heap.size HIT.out
      have HC2 := Lib.hid (show done ++ fieldsGo cur [] = fieldsGo [] rs by have := HC.out; rwa [List.drop_length] at this)
      rcases HBG.out with ⟨rfl, rfl⟩ | ⟨j, hjk, rfl, rfl⟩
      · go_wp2_with fail
        go_ret
        refine ⟨_, rfl, HB1.out.trans (HBE.out.mono HB1.out.size), ?_⟩
        have := HC2.out
        simp only [fieldsGo, if_true, List.append_nil] at this
        rw [← this]
        exact HOU.out.base (by have := HB1.out.size; omega)
      · have hjo := HM.out j rs.length (by omega)
        have HXJ := Lib.hid (HX.out j rs.length (by omega))
        have HCN := Lib.hid (begins_ne (rs := rs) (k := rs.length) (j := j) hk hjk)
        rw [HA.out] at hjo
        generalize hoj : off rs j = pj at *
        have HOJ := Lib.hid hoj
        clear hoj
        go_wp2_with (at_builtin; refine appE rfl _ _ 31 rfl 9 i1 (.string ByteArray.empty) 1 16 Try.underlying31 hj hy0 hy1 hy2 rfl (by omega) (w1.heap.size + 1) _ _ _ rfl HOU.out w1.heap.size (by omega) HBE.out (by have := HIL.out; omega) [.string (s.extract pj s.size)] 1 rfl (by omega) (by intro u hu; simp at hu; subst hu; rfl) rfl (by have := HDL.out; omega) (by omega) ?_)
        refine Lib.hid ?_
        intro v4 w4 hown4 hbel4 hgrow4
        have HB4 := Lib.hid hbel4
        have HO4 := Lib.hid hown4
        clear hown4 hbel4 hgrow4
        go_wp2_with fail
        go_ret
        refine ⟨_, rfl, HB1.out.trans (HB4.out.mono HB1.out.size), ?_⟩
        have h1 := HC2.out
        simp only [fieldsGo, HCN.out, if_false] at h1
        rw [← h1]
        have h2 := HO4.out
        have h3 := HXJ.out
        rw [HA.out] at h3
        rw [h3, strRow_snoc, fieldTexts_snoc] at h2
        rw [List.length_append]
        exact .inr (own_base h2 (by have := HB1.out.size; omega))
end Go.Proofs.Ythfjpikloanekaa
