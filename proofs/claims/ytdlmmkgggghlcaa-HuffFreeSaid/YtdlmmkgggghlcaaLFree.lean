/-
  Layer 6: canonical words begin none another, and rise.
-/
import Derived.Test.YtdlmmkgggghlcaaLCanon
import Derived.Test.YtdlmmkgggghlcaaCanonF
namespace Go.Proofs.Ytdlmmkgggghlcaa.hfree
open Go.RowKit Go.Mz
set_option linter.unusedVariables false
set_option linter.unusedSimpArgs false
set_option maxRecDepth 100000

set_option maxHeartbeats 4000000 in
theorem lite_prefix (s p : ByteArray) (w : World) :
    Calls Try.prog 27 #[.string s, .string p] w fun e w' => e = .returned (.bool (Lib.hasPrefix s.data.toList p.data.toList)) ∧ w' = w := by
  rw [← Lib.hasPrefix_of_take, ← Lib.size_eq, ← Lib.size_eq]
  go_enter Try.func27, Try.ntmps27
  go_wp2
  · rename_i h
    go_ret
    refine ⟨?_, rfl⟩
    show Ending.returned (Value.bool ((s.extract 0 p.size).toList == p.toList)) = _
    rw [Lib.extract_toList, Lib.toList_data]
    simp [h]
  · rename_i h
    go_ret
    refine ⟨?_, rfl⟩
    show Ending.returned (Value.bool false) = _
    simp [h]
set_option maxHeartbeats 4000000 in
theorem has_prefix (s p : ByteArray) (w : World) :
    Calls Try.prog 10 #[.string s, .string p] w fun e w' => e = .returned (.bool (Lib.hasPrefix s.data.toList p.data.toList)) ∧ w' = w := by
  go_enter Try.func10, Try.ntmps10
  go_wp2_with (refine (lite_prefix _ _ _).mono ?_; rintro e w' ⟨rfl, hw⟩; rw [hw])
  go_ret
  exact ⟨rfl, rfl⟩
#print axioms has_prefix

/-- What the law asks of words. -/
def FreeW (ws : List (List Nat)) : Prop := (∀ w ∈ ws, Bit w) ∧ ∀ i k, i < ws.length → k < ws.length → ws.getD i [] ≠ [] →
  (i ≠ k → Lib.hasPrefix (tx (ws.getD k [])) (tx (ws.getD i [])) = false) ∧ (i < k → (ws.getD i []).length = (ws.getD k []).length → Go.Op.bytesLess (tx (ws.getD i [])) (tx (ws.getD k [])) = true)
theorem wordsC_free {l : List Nat} (ok : OkC l) (h30 : ∀ n ∈ l, n ≤ 30) : FreeW (wordsC l) := by
  have g : ∀ i, i < l.length → (wordsC l).getD i [] = wordC l i := fun i hi => by
    rw [wordsC, List.getD_eq_getElem?_getD, List.getElem?_map, List.getElem?_range hi]; rfl
  have hL : (wordsC l).length = l.length := by simp [wordsC]
  refine ⟨fun w hw => ?_, fun i k hi hk hne => ?_⟩
  · rw [wordsC, List.mem_map] at hw
    obtain ⟨i, _, rfl⟩ := hw
    exact bit_wordC l i
  · rw [hL] at hi hk
    rw [g i hi] at hne ⊢
    rw [g k hk]
    have hn : 0 < l.getD i 0 := by
      rcases Nat.eq_zero_or_pos (l.getD i 0) with h | h
      · exact absurd (List.eq_nil_of_length_eq_zero (by rw [length_wordC, h])) hne
      · exact h
    refine ⟨fun hik => ?_, fun hik he => ?_⟩
    · rw [Bool.eq_false_iff]
      intro h
      rw [Lib.hasPrefix, List.isPrefixOf_iff_prefix] at h
      exact wordC_free ok h30 hi hk hik hn (tx_prefix (bit_wordC _ _) (bit_wordC _ _) h)
    · rw [length_wordC, length_wordC] at he
      exact tx_less (bit_wordC _ _) (bit_wordC _ _) (by rw [length_wordC, length_wordC, he]) (wordC_rise ok h30 hik hk he hn)
theorem canon_free (ls : List Int) : (canonI ls).2.2 ≠ 0 ∧ (canonI ls).1 = [] ∨ (canonI ls).2.2 = 0 ∧ (canonI ls).1.map (fun w => (w.length : Int)) = ls ∧ FreeW (canonI ls).1 := by
  rw [canonI]
  split
  · exact .inl ⟨by decide, rfl⟩
  · rename_i h
    split
    · rename_i ok
      have h' : ∀ x ∈ ls, 0 ≤ x ∧ x ≤ 30 := fun x hx => by
        apply Classical.byContradiction; intro hc; exact h ⟨x, hx, by omega⟩
      refine .inr ⟨rfl, ?_, wordsC_free ok fun n hn => ?_⟩
      · apply List.ext_getElem?
        intro i
        simp only [wordsC, List.map_map, List.getElem?_map]
        by_cases hi : i < ls.length
        · have : i < (natsOf ls).length := by simpa [natsOf] using hi
          rw [List.getElem?_range this, List.getElem?_eq_getElem hi]
          simp only [Option.map_some, Function.comp, length_wordC, Option.some.injEq]
          rw [List.getD_eq_getElem?_getD, natsOf, List.getElem?_map, List.getElem?_eq_getElem hi]
          have := h' _ (List.getElem_mem hi)
          simp only [Option.map_some, Option.getD_some]; omega
        · rw [List.getElem?_eq_none (by simp [natsOf]; omega), List.getElem?_eq_none (by omega)]; rfl
      · rw [natsOf, List.mem_map] at hn
        obtain ⟨x, hx, rfl⟩ := hn
        have := h' x hx; omega
    · exact .inl ⟨by decide, rfl⟩

set_option maxHeartbeats 40000000 in
theorem walk (vb : Value) (ls : List Int) (w : World) (hb : Reads w 1 vb ls.length (ls.map iv)) :
    Calls Try.prog 4 #[vb] w fun e w' => e = .returned (.bool true) ∧ Below w.heap.size w w' := by
  have HB := Lib.hid (Stb.of_old hb)
  obtain ⟨a1, c1, rfl⟩ := hb.sub
  have hm := hb.len_le
  unfold maxLen at hm
  clear hb
  have H := Lib.hid (St.init w)
  have fin : ∀ w', St w w' (Mz.old w) → Below w.heap.size w w' := fun w' h => (h.perm ((emp_star _).symm.trans (star_comm _ _))).below
  have FIN := Lib.hid fin; clear fin
  by_cases hl6 : 60 < ls.length
  · have hl7 : 60 < (ls.length : Int) := by omega
    go_enter Try.func4, Try.ntmps4
    go_wp2_with fail
    refine (lives06 H.out).mono ?_
    rintro e w1 ⟨rfl, h2⟩
    have H2 := Lib.hid h2; clear h2
    go_wp2_with fail
    refine (lives06 H2.out).mono ?_
    rintro e w2 ⟨rfl, h3⟩
    have H3 := Lib.hid h3; clear h3
    go_wp2_with fail
    go_ret
    exact ⟨rfl, FIN.out _ H3.out⟩
  have hl7 : ¬ 60 < (ls.length : Int) := by omega
  go_enter Try.func4, Try.ntmps4
  go_wp2_with fail
  refine (lives06 H.out).mono ?_
  rintro e w1 ⟨rfl, h2⟩
  have H2 := Lib.hid h2; clear h2
  go_wp2_with fail
  have C1 := Lib.hid (canon_any H2.out ls HB.out (by omega))
  have CF := canon_free ls
  generalize canonI ls = R at *
  obtain ⟨ws, fu, er⟩ := R
  simp only at C1 CF
  refine C1.out.mono ?_
  rintro e w2 ⟨v2, rfl, h2⟩
  obtain ⟨a2, c2, rfl⟩ := h2.reads.sub
  have H3 := Lib.hid h2; clear h2 C1 H2 H
  rcases CF with ⟨he, rfl⟩ | ⟨rfl, hlen, hfree⟩
  · have he' : (er : Int) ≠ 0 := by omega
    go_wp2_with fail
    go_ret
    exact ⟨rfl, FIN.out _ H3.out.right⟩
  have hll : ws.length = ls.length := by rw [← hlen]; simp
  have hge : ∀ k (hk : k < ws.length), ls[k]? = some (ws[k].length : Int) := fun k hk => by rw [← hlen, List.getElem?_map, List.getElem?_eq_getElem hk]; rfl
  have HLL := Lib.hid hll; have HGE := Lib.hid hge; have HFREE := Lib.hid hfree
  clear hge hfree hlen
  rw [← hll] at HB ⊢
  have hwl : (ws.length : Int) ≤ 60 := by omega
  clear HLL hll
  go_wp2_with fail
  go_loopw [31] (fun vi wr => ∃ k : Nat, k ≤ ws.length ∧ vi = .int .i64 k ∧ St w wr (own 9 1 (.slice a2 ws.length c2) ws.length (ws.map txv) * Mz.old w)) (fun vi _ => ws.length - (intOf vi).toNat)
  case atStart => exact ⟨0, by omega, rfl, H3.out⟩
  case round =>
    clear H3
    obtain ⟨k, hk, rfl, hst⟩ := hrel
    by_cases hkn : k < ws.length
    · obtain ⟨g2, o2, rfl, e2⟩ := hst.reads.at_ hkn
      have hx := List.getElem?_eq_getElem hkn
      have hc' : (ws.map txv)[k]? = some (txv ws[k]) := by rw [List.getElem?_map, hx]; rfl
      rw [hc'] at e2
      obtain ⟨g1, o1, rfl, e1⟩ := (HB.out wr hst.right).at_ hkn
      rw [List.getElem?_map, HGE.out k hkn] at e1
      simp only [Option.map_some, iv] at e1
      have hsz : (ByteArray.mk (tx ws[k]).toArray).size = ws[k].length := by rw [Lib.size_eq]; simp
      rw [txv] at e2
      have FR := Lib.hid (show ∀ i (hi : i < ws.length), ws[k] ≠ [] → (k ≠ i → Lib.hasPrefix (tx ws[i]) (tx ws[k]) = false) ∧ (k < i → ws[k].length = ws[i].length → Go.Op.bytesLess (tx ws[k]) (tx ws[i]) = true) from fun i hi hne => by
        have := HFREE.out.2 k i hkn hi
        simp only [List.getD_eq_getElem?_getD, List.getElem?_eq_getElem hkn, List.getElem?_eq_getElem hi, Option.getD_some] at this
        exact this hne)
      have hk0 : (0 : Int) ≤ k := by omega
      have hk1 : (k : Int) < ws.length := by omega
      have HST := Lib.hid hst; clear hst hc' hx
      generalize hs1 : ByteArray.mk (tx ws[k]).toArray = s1 at *
      have HS1 := Lib.hid hs1; clear hs1
      generalize hW1 : ws[k] = W1 at *
      have HW1 := Lib.hid hW1; clear hW1
      go_wp2_with fail
      go_loopw [45] (fun vi wr => ∃ i : Nat, i ≤ ws.length ∧ vi = .int .i64 i ∧ St w wr (own 9 1 (.slice (some ⟨g2, o2, none⟩) ws.length c2) ws.length (ws.map txv) * Mz.old w)) (fun vi _ => ws.length - (intOf vi).toNat)
      case atStart => exact ⟨0, by omega, rfl, HST.out⟩
      case round =>
        clear HST
        obtain ⟨i, hi, rfl, hst⟩ := hrel
        by_cases hin : i < ws.length
        · obtain ⟨g3, o3, hg3, e3⟩ := hst.reads.at_ hin
          simp only [Option.some.injEq, Addr.mk.injEq, and_true] at hg3
          obtain ⟨rfl, rfl⟩ := hg3
          have hx := List.getElem?_eq_getElem hin
          have hc' : (ws.map txv)[i]? = some (txv ws[i]) := by rw [List.getElem?_map, hx]; rfl
          rw [hc', txv] at e3
          have hf := FR.out i hin
          have hsz2 : (ByteArray.mk (tx ws[i]).toArray).size = ws[i].length := by rw [Lib.size_eq]; simp
          clear hx hc'
          generalize hs2 : ByteArray.mk (tx ws[i]).toArray = s2 at *
          have hd1 : s1.data.toList = tx W1 := by rw [← HS1.out]
          have hd2 : s2.data.toList = tx ws[i] := by rw [← hs2]
          rw [← hd1, ← hd2] at hf
          have he1 : W1 = [] → s1.toList = [] := fun h => by rw [Lib.toList_data, hd1, h]; rfl
          have he2 : s1.toList = [] → W1 = [] := fun h => by rw [Lib.toList_data, hd1] at h; simpa [tx] using h
          generalize ws[i] = W2 at *
          have hi0 : (0 : Int) ≤ i := by omega
          have hi1 : (i : Int) < ws.length := by omega
          clear hs2 hd1 hd2
          rw [← Lib.toList_data s1, ← Lib.toList_data s2] at hf
          have HST := Lib.hid hst; clear hst
          have HF := Lib.hid hf; clear hf
          have HE1 := Lib.hid he1; have HE2 := Lib.hid he2; clear he1 he2
          by_cases hik : k = i
          · subst hik
            go_wp2_with fail
            exact ⟨⟨k + 1, by omega, by go_num, HST.out⟩, by simp [intOf]; omega⟩
          by_cases hne : W1 = []
          · have hs1 := HE1.out hne
            clear hne
            by_cases hlt : k < i
            · by_cases hle : W2.length = W1.length
              · go_wp2_with fail
                exact ⟨⟨i + 1, by omega, by go_num, HST.out⟩, by simp [intOf]; omega⟩
              · have hle2 : ¬ (W1.length : Int) = W2.length := by omega
                go_wp2_with fail
                exact ⟨⟨i + 1, by omega, by go_num, HST.out⟩, by simp [intOf]; omega⟩
            go_wp2_with fail
            exact ⟨⟨i + 1, by omega, by go_num, HST.out⟩, by simp [intOf]; omega⟩
          have hs1 : ¬ s1.toList = [] := fun h => hne (HE2.out h)
          obtain ⟨hp, hr⟩ := HF.out hne
          have hp := hp hik
          have HP := Lib.hid (fun w => has_prefix s2 s1 w)
          rw [← Lib.toList_data s1, ← Lib.toList_data s2, hp] at HP
          clear hp
          by_cases hlt : k < i
          · by_cases hle : W2.length = W1.length
            · have hr := hr hlt hle.symm
              go_wp2_with fail
              refine (HP.out _).mono ?_
              rintro e wq ⟨rfl, rfl⟩
              go_wp2_with fail
              exact ⟨⟨i + 1, by omega, by go_num, HST.out⟩, by simp [intOf]; omega⟩
            · clear hr
              have hle2 : ¬ (W1.length : Int) = W2.length := by omega
              go_wp2_with fail
              refine (HP.out _).mono ?_
              rintro e wq ⟨rfl, rfl⟩
              go_wp2_with fail
              exact ⟨⟨i + 1, by omega, by go_num, HST.out⟩, by simp [intOf]; omega⟩
          · clear hr
            go_wp2_with fail
            refine (HP.out _).mono ?_
            rintro e wq ⟨rfl, rfl⟩
            go_wp2_with fail
            exact ⟨⟨i + 1, by omega, by go_num, HST.out⟩, by simp [intOf]; omega⟩
        · obtain rfl : i = ws.length := by omega
          have HST := Lib.hid hst; clear hst
          go_wp2_with fail
          exact ⟨⟨k + 1, by omega, by go_num, HST.out⟩, by simp [intOf]; omega⟩
    · obtain rfl : k = ws.length := by omega
      have HST := Lib.hid hst; clear hst
      go_wp2_with fail
      go_ret
      exact ⟨rfl, FIN.out _ HST.out.right⟩
#print axioms walk
end Go.Proofs.Ytdlmmkgggghlcaa.hfree
