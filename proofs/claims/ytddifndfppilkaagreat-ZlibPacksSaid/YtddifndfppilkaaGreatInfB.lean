/-
  Layer 8 (inflate): a book of the canonical words of lengths.
-/
import Derived.Test.YtddifndfppilkaaGreatInfT
import Derived.Test.YtddifndfppilkaaGreatHufQ
namespace Go.Proofs.YtddifndfppilkaaGreat
open Go.RowKit Go.Mz
set_option linter.unusedVariables false
set_option linter.unusedSimpArgs false
set_option maxRecDepth 100000

theorem canon_casesQ (ls : List Int) : (canonI ls).2.2 ≠ 0 ∧ (canonI ls).1 = [] ∨ ∃ l : List Nat, l.length = ls.length ∧ OkC l ∧ (∀ n ∈ l, n ≤ 30) ∧ canonI ls = (wordsC l, fullC l, 0) := by
  rw [canonI]
  split
  · exact .inl ⟨by decide, rfl⟩
  · rename_i h
    split
    · rename_i ok
      refine .inr ⟨natsOf ls, by simp [natsOf], ok, fun n hn => ?_, rfl⟩
      rw [natsOf, List.mem_map] at hn
      obtain ⟨x, hx, rfl⟩ := hn
      have : ¬ (x < 0 ∨ 30 < x) := fun hc => h ⟨x, hx, hc⟩
      omega
    · exact .inl ⟨by decide, rfl⟩
def ofN (l : List Nat) : List Int := l.map fun (n : Nat) => (n : Int)
theorem ofN_iv (l : List Nat) : (ofN l).map iv = nvs l := by rw [ofN, nvs, List.map_map]; rfl
theorem usedL_snoc (l : List Nat) (n : Nat) : usedL (l ++ [n]) = usedL l + (if 0 < n then 1 else 0) := by
  rw [usedL, usedL, List.filter_append, List.length_append]
  congr 1
  by_cases h : 0 < n <;> simp [h]
theorem longL_snoc (l : List Nat) (n : Nat) : longL (l ++ [n]) = max (longL l) n := by rw [longL, longL, List.foldl_append]; rfl
theorem usedL_le (l : List Nat) : usedL l ≤ l.length := List.length_filter_le _ _
def midL (n k : Nat) : List Value := (upto k).map iv ++ List.replicate (n - k) (.int .i64 0)
theorem midL_set {n k : Nat} (h : k < n) : (midL n k).set k (.int .i64 (k : Int)) = midL n (k + 1) := by
  have e : n - k = (n - (k + 1)) + 1 := by omega
  have hl : ((upto k).map iv).length = k := by simp [length_upto]
  rw [midL, midL, e, List.replicate_succ, upto_succ, List.map_append, List.append_assoc]
  rw [List.set_append_right _ _ (by rw [hl]; exact Nat.le_refl _), hl, Nat.sub_self]
  rfl
theorem midL_get {n k : Nat} (h : k < n) : (midL n k)[k]? = some (.int .i64 0) := by
  have hl : ((upto k).map iv).length = k := by simp [length_upto]
  rw [midL, List.getElem?_append_right (by rw [hl]; exact Nat.le_refl _), hl, Nat.sub_self, show n - k = (n - k - 1) + 1 by omega, List.replicate_succ]; rfl
theorem midL_end (n : Nat) : midL n n = (upto n).map iv := by rw [midL, Nat.sub_self]; simp
theorem length_midL {n k : Nat} (h : k ≤ n) : (midL n k).length = n := by rw [midL]; simp [length_upto]; omega
def WordsR (r : Nat ⊕ List (List Nat)) (w0 w' : World) (F : SProp) (e : Ending) : Prop :=
  match r with
  | .inl er => er ≠ 0 ∧ e = .returned (.tuple #[.pointer none, .int .i64 er]) ∧ St w0 w' F
  | .inr W => ∃ B, e = .returned (.tuple #[.pointer (some ⟨B, 0, none⟩), .int .i64 0]) ∧ St w0 w' (bkS B W * F)

set_option maxHeartbeats 40000000 in
theorem book_any {w0 w : World} {F : SProp} (h : St w0 w F) (l : List Nat) (how : Nat) (hh : how ≤ 2) (hl : l.length ≤ 900) (hl2 : ∀ n ∈ l, n ≤ 1000) {v : Value} (hv : Stb w0 F (fun w => Reads w 1 v l.length (nvs l))) :
    Calls Tryz.prog 50 #[v, .int .i64 how] w fun e w' => WordsR (wordsF l how) w0 w' F e := by
  have hlen : (ofN l).length = l.length := by simp [ofN]
  have CV := canon_any h (ofN l) (v := v) (by rw [hlen, ofN_iv]; exact hv) (by omega)
  have CF := canon_casesQ (ofN l)
  have hW : wordsF l how = if (canonI (ofN l)).2.2 ≠ 0 then .inl (canonI (ofN l)).2.2 else if (canonI (ofN l)).2.1 = false ∧ (how = 0 ∨ how = 1 ∧ (1 < usedL l ∨ 1 < longL l)) then .inl 3 else .inr (canonI (ofN l)).1 := rfl
  have HW := Lib.hid hW; clear hW
  obtain ⟨a1, c1, rfl⟩ := (hv w h).sub
  have T := elemI
  generalize canonI (ofN l) = R at *
  obtain ⟨W, fu, er⟩ := R
  simp only at CV CF HW
  have HC := Lib.hid CV; clear CV
  have HV := Lib.hid hv; clear hv
  have H := Lib.hid h; clear h
  rcases CF with ⟨her, rfl⟩ | ⟨l', hl', hok, h30, hE⟩
  · have he' : (er : Int) ≠ 0 := by omega
    go_enter Tryz.func50, Tryz.ntmps50
    go_wp2_with fail
    refine HC.out.mono ?_
    rintro e w2 ⟨v2, rfl, h2⟩
    obtain ⟨a2, c2, rfl⟩ := h2.reads.sub
    have H2 := Lib.hid h2; clear h2
    go_wp2_with fail
    go_ret2
    rw [HW.out, if_pos her]
    exact ⟨her, rfl, H2.out.right⟩
  have hWW : W = wordsC l' ∧ er = 0 := by
    injection hE with e1 e2
    injection e2 with e2 e3
    exact ⟨e1, e3⟩
  obtain ⟨hW1, rfl⟩ := hWW
  have hWl : W.length = l.length := by rw [hW1]; simp [wordsC]; omega
  have HBIT := Lib.hid (show ∀ v ∈ W, Bit v by rw [hW1]; exact bit_wordsC l')
  have HPF := Lib.hid (show PF W by rw [hW1]; exact pf_wordsC hok h30)
  have HW30 := Lib.hid (show ∀ v ∈ W, v.length ≤ 30 by
    rw [hW1]; intro v hv
    rw [wordsC, List.mem_map] at hv
    obtain ⟨i, _, rfl⟩ := hv
    rw [length_wordC, List.getD_eq_getElem?_getD]
    cases e : l'[i]? with
    | none => simp
    | some b => exact h30 b (List.mem_of_getElem? e))
  clear hW1 hE hok h30 hl'
  have HWL := Lib.hid hWl; clear hWl
  rw [if_neg (by decide)] at HW
  go_enter Tryz.func50, Tryz.ntmps50
  go_wp2_with fail
  refine HC.out.mono ?_
  rintro e w2 ⟨v2, rfl, h2⟩
  rw [HWL.out] at h2
  obtain ⟨a2, c2, rfl⟩ := h2.reads.sub
  have H2 := Lib.hid h2; clear h2 HC H
  go_wp2_with (at_make; apply stop)
  refine on (wpList_make_sep T rfl _ _ rfl l.length rfl rfl rfl rfl H2.out (by unfold maxLen; omega) (by omega) ?_)
  intro v3 w3 h3
  obtain ⟨a3, c3, rfl⟩ := h3.reads.sub
  have h3' : St w0 w3 (own 3 1 (.slice a3 l.length c3) l.length (midL l.length 0) * (own 9 1 (.slice a2 l.length c2) l.length (W.map txv) * F)) := by
    have e : (madeCells (Value.int .i64 0).cells (l.length * 1)).toList = midL l.length 0 := by
      rw [Nat.mul_one]
      simp [Value.cells, toList_madeCells_one, midL, upto]
    rw [← e]; exact h3
  have H3 := Lib.hid h3'; clear h3 h3' H2
  have hul := usedL_le l
  go_wp2_with fail
  go_loopw [9, 10, 28] (fun vu vg vi wr => ∃ k : Nat, k ≤ l.length ∧ vi = .int .i64 k ∧ vu = .int .i64 (usedL (l.take k) : Nat) ∧ vg = .int .i64 (longL (l.take k) : Nat) ∧
    St w0 wr (own 3 1 (.slice a3 l.length c3) l.length (midL l.length k) * (own 9 1 (.slice a2 l.length c2) l.length (W.map txv) * F))) (fun _ _ vi _ => l.length - (intOf vi).toNat)
  case atStart => exact ⟨0, by omega, rfl, rfl, rfl, H3.out⟩
  case round =>
    clear H3
    obtain ⟨k, hk, rfl, rfl, rfl, hst⟩ := hrel
    by_cases hkn : k < l.length
    · obtain ⟨g1, o1, rfl, e1⟩ := (HV.out wr hst.right.right).at_ hkn
      obtain ⟨g3, rfl⟩ := own_at hst (by omega)
      have f3 := hst.own_free k
      have x3 := hst.own_cell (i := k) (u := .int .i64 0) (midL_get hkn)
      have hset := midL_set hkn
      have hx := List.getElem?_eq_getElem hkn
      have hn1 := hl2 l[k] (List.getElem_mem _)
      have hul2 := usedL_le (l.take k)
      rw [List.length_take] at hul2
      have htk : l.take (k + 1) = l.take k ++ [l[k]] := by rw [List.take_add_one, hx]; rfl
      rw [nvs, List.getElem?_map, hx] at e1
      simp only [Option.map_some, nv] at e1
      have HU := Lib.hid (show usedL (l.take (k + 1)) = usedL (l.take k) + (if 0 < l[k] then 1 else 0) by rw [htk, usedL_snoc])
      have HL := Lib.hid (show longL (l.take (k + 1)) = max (longL (l.take k)) l[k] by rw [htk, longL_snoc])
      clear htk hx
      have hstep := hst.own_set k (.int .i64 (k : Int))
      rw [hset] at hstep
      have HST := Lib.hid hstep; clear hst hstep hset
      have hk2 : (k : Int) < l.length := by omega
      generalize l[k] = n at *
      generalize usedL (l.take k) = uu at *
      generalize longL (l.take k) = gg at *
      by_cases hn0 : 0 < n
      · have hn2 : 0 < (n : Int) := by omega
        rw [if_pos hn0] at HU
        by_cases hgn : gg < n
        · rw [Nat.max_eq_right (Nat.le_of_lt hgn)] at HL
          clear hn0
          go_wp2_with fail
          exact ⟨⟨k + 1, by omega, by go_num, by rw [HU.out]; go_num, by rw [HL.out], HST.out⟩, by simp [intOf]; omega⟩
        · rw [Nat.max_eq_left (by omega)] at HL
          clear hn0
          go_wp2_with fail
          exact ⟨⟨k + 1, by omega, by go_num, by rw [HU.out]; go_num, by rw [HL.out], HST.out⟩, by simp [intOf]; omega⟩
      · have hn2 : ¬ 0 < (n : Int) := by omega
        rw [if_neg hn0, Nat.add_zero] at HU
        rw [show n = 0 by omega, Nat.max_zero] at HL
        clear hn0
        go_wp2_with fail
        exact ⟨⟨k + 1, by omega, by go_num, by rw [HU.out]; rfl, by rw [HL.out], HST.out⟩, by simp [intOf]; omega⟩
    · obtain rfl : k = l.length := by omega
      rw [midL_end] at hst
      rw [List.take_length]
      have HST := Lib.hid hst; clear hst
      have C : ∀ w' (h : St w0 w' (own 3 1 (.slice a3 l.length c3) l.length ((upto l.length).map iv) * (own 9 1 (.slice a2 l.length c2) l.length (W.map txv) * F))), Calls Tryz.prog 78 #[.slice a2 l.length c2, .slice a3 l.length c3] w' fun e w'' => ∃ B, e = .returned (.tuple #[.pointer (some ⟨B, 0, none⟩), .int .i64 0]) ∧ St w0 w'' (bkS B W * F) := by
        intro w' h
        exact newW_any h HWL.out.symm HBIT.out HPF.out (by rw [HWL.out]; omega) (fun v hv => by have := HW30.out v hv; omega)
      have HC := Lib.hid (C _ HST.out); clear C
      generalize usedL l = uu at *
      generalize longL l = gg at *
      have fin : ∀ (hno : ¬ (fu = false ∧ (how = 0 ∨ how = 1 ∧ (1 < uu ∨ 1 < gg)))) (B : Nat) w'' (h : St w0 w'' (bkS B W * F)), WordsR (wordsF l how) w0 w'' F (.returned (.tuple #[.pointer (some ⟨B, 0, none⟩), .int .i64 0])) := fun hno B w'' h => by
        rw [HW.out, if_neg hno]; exact ⟨B, rfl, h⟩
      have bad : ∀ (hy : fu = false ∧ (how = 0 ∨ how = 1 ∧ (1 < uu ∨ 1 < gg))), WordsR (wordsF l how) w0 wr F (.returned (.tuple #[.pointer none, .int .i64 3])) := fun hy => by
        rw [HW.out, if_pos hy]; exact ⟨by decide, rfl, HST.out.right.right⟩
      have FINB := Lib.hid fin; have BADB := Lib.hid bad; clear fin bad HW
      cases fu
      · rcases (show how = 0 ∨ how = 1 ∨ how = 2 by omega) with rfl | rfl | rfl
        · go_wp2_with fail
          go_ret2
          exact BADB.out (by simp)
        · by_cases h1 : 1 < uu
          · have h1' : 1 < (uu : Int) := by omega
            go_wp2_with fail
            go_ret2
            exact BADB.out (by simp [h1])
          · have h1' : ¬ 1 < (uu : Int) := by omega
            by_cases h2 : 1 < gg
            · have h2' : 1 < (gg : Int) := by omega
              go_wp2_with fail
              go_ret2
              exact BADB.out (by simp [h2])
            · have h2' : ¬ 1 < (gg : Int) := by omega
              go_wp2_with fail
              refine HC.out.mono ?_
              rintro e w5 ⟨B, rfl, h5⟩
              have H5 := Lib.hid h5; clear h5
              go_wp2_with fail
              go_ret2
              exact FINB.out (by simp_all) B _ H5.out
        · go_wp2_with fail
          refine HC.out.mono ?_
          rintro e w5 ⟨B, rfl, h5⟩
          have H5 := Lib.hid h5; clear h5
          go_wp2_with fail
          go_ret2
          exact FINB.out (by simp_all) B _ H5.out
      · go_wp2_with fail
        refine HC.out.mono ?_
        rintro e w5 ⟨B, rfl, h5⟩
        have H5 := Lib.hid h5; clear h5
        go_wp2_with fail
        go_ret2
        exact FINB.out (by simp) B _ H5.out
end Go.Proofs.YtddifndfppilkaaGreat
