/-
  Layer 6 (huff), the document's answer: canonical words.
-/
import Derived.Test.YtddifndfppilkaaGreatHufC
import Derived.Deep.LoopGhost
namespace Go.Proofs.YtddifndfppilkaaGreat
open Go.RowKit Go.Mz
set_option linter.unusedVariables false
set_option linter.unusedSimpArgs false
set_option maxRecDepth 100000

theorem bit_split_rev : ∀ l : List Nat, Bit l → (∃ p k, Bit p ∧ l.reverse = p ++ 0 :: List.replicate k 1) ∨ ∃ k, l.reverse = List.replicate k 1
  | [], _ => .inr ⟨0, rfl⟩
  | b :: l, h => by
    have hl : Bit l := fun x hx => h x (List.mem_cons_of_mem _ hx)
    have hb : b ≤ 1 := h b (by simp)
    have hb2 : b = 0 ∨ b = 1 := by omega
    rw [List.reverse_cons]
    rcases hb2 with rfl | rfl
    · exact .inl ⟨l.reverse, 0, hl.reverse, rfl⟩
    · rcases bit_split_rev l hl with ⟨p, k, hp, e⟩ | ⟨k, e⟩
      · exact .inl ⟨p, k + 1, hp, by rw [e, List.append_assoc, List.cons_append, ← List.replicate_succ']⟩
      · exact .inr ⟨k + 1, by rw [e, ← List.replicate_succ']⟩
theorem bit_split {l : List Nat} (h : Bit l) : (∃ p k, Bit p ∧ l = p ++ 0 :: List.replicate k 1) ∨ ∃ k, l = List.replicate k 1 := by
  have := bit_split_rev l.reverse h.reverse
  rwa [List.reverse_reverse] at this

def contC (l : List Nat) (n i : Nat) : List (List Nat) := (List.range l.length).map fun j => if l.getD j 0 < n ∨ (l.getD j 0 = n ∧ j < i) then wordC l j else []
theorem length_contC (l : List Nat) (n i : Nat) : (contC l n i).length = l.length := by simp [contC]
theorem contC_up (l : List Nat) (n : Nat) : contC l n l.length = contC l (n + 1) 0 := by
  apply List.map_congr_left
  intro j hj
  rw [List.mem_range] at hj
  have : (l.getD j 0 < n ∨ (l.getD j 0 = n ∧ j < l.length)) ↔ (l.getD j 0 < n + 1 ∨ (l.getD j 0 = n + 1 ∧ j < 0)) := by omega
  simp only [this]
theorem contC_skip (l : List Nat) (n i : Nat) (h : l.getD i 0 ≠ n) : contC l n (i + 1) = contC l n i := by
  apply List.map_congr_left
  intro j _
  have : (l.getD j 0 < n ∨ (l.getD j 0 = n ∧ j < i + 1)) ↔ (l.getD j 0 < n ∨ (l.getD j 0 = n ∧ j < i)) := by
    by_cases e : j = i
    · subst e; omega
    · omega
  simp only [this]
theorem contC_set (l : List Nat) (n i : Nat) (hi : i < l.length) (h : l.getD i 0 = n) : (contC l n i).set i (wordC l i) = contC l n (i + 1) := by
  apply List.ext_getElem
  · simp [contC]
  · intro j h1 h2
    rw [List.getElem_set]
    simp only [contC, List.getElem_map, List.getElem_range]
    by_cases e : i = j
    · subst e
      rw [if_pos rfl, if_pos (by omega)]
    · rw [if_neg e]
      have : (l.getD j 0 < n ∨ (l.getD j 0 = n ∧ j < i)) ↔ (l.getD j 0 < n ∨ (l.getD j 0 = n ∧ j < i + 1)) := by omega
      simp only [this]
theorem contC_start (l : List Nat) : contC l 1 0 = List.replicate l.length [] := by
  apply List.ext_getElem
  · simp [contC]
  · intro j h1 h2
    simp only [contC, List.getElem_map, List.getElem_range, List.getElem_replicate]
    split
    · rename_i h
      have : l.getD j 0 = 0 := by omega
      rw [wordC, this]; rfl
    · rfl
theorem contC_end (l : List Nat) (h : ∀ (j : Nat), l.getD j 0 ≤ 30) : contC l 31 0 = wordsC l := by
  apply List.map_congr_left
  intro j _
  rw [if_pos (by have := h j; omega)]

theorem wordC_at {l : List Nat} {i n : Nat} (h : l.getD i 0 = n) : wordC l i = wordB (codeC l n + (l.take i).count n) n := by rw [wordC, h]
theorem count_take_succ {l : List Nat} {i c : Nat} (h : l[i]? = some c) (n : Nat) : (l.take (i + 1)).count n = (l.take i).count n + if c = n then 1 else 0 := by
  rw [List.take_add_one, h]
  simp only [Option.toList_some, List.count_append, List.count_singleton]
  by_cases e : c = n
  · subst e; simp
  · have : (c == n) = false := by simp [e]
    simp [e, this]

set_option maxHeartbeats 40000000 in
theorem rcanon_any {w0 w : World} {F : SProp} (h : St w0 w F) (lens : List Int) {v : Value} (hv : Stb w0 F (fun w => Reads w 1 v lens.length (lens.map iv))) (hl : lens.length ≤ 100000) :
    Calls Tryz.prog 62 #[v] w fun e w' => ∃ v', e = .returned (.tuple #[v', .bool (canonI lens).2.1, .int .i64 (canonI lens).2.2]) ∧
      St w0 w' (own 9 1 v' (canonI lens).1.length ((canonI lens).1.map txv) * F) := by
  obtain ⟨av, cv, rfl⟩ := (hv w h).sub
  have H := Lib.hid h; clear h
  have HV := Lib.hid hv; clear hv
  go_enter Tryz.func62, Tryz.ntmps62
  go_wp2_with (at_make; apply stop)
  refine on (wpList_make_sep elemStrs rfl _ _ rfl lens.length rfl rfl rfl rfl H.out (by unfold maxLen; omega) (by omega) ?_)
  intro v3 w3 h3
  obtain ⟨a3, c3, rfl⟩ := h3.reads.sub
  have h3' : St w0 w3 (own 9 1 (.slice a3 lens.length c3) lens.length ((List.replicate lens.length []).map txv) * F) := by
    have e : (madeCells (Value.string ⟨#[]⟩).cells (lens.length * 1)).toList = (List.replicate lens.length []).map txv := by
      rw [Nat.mul_one]
      simp [Value.cells, toList_madeCells_one, txv, tx]
    rw [← e]; exact h3
  have H3 := Lib.hid h3'; clear h3 h3' H
  go_wp2_with fail
  go_loopw [6] (fun i wr => ∃ k : Nat, k ≤ lens.length ∧ i = .int .i64 k ∧ (∀ x ∈ lens.take k, 0 ≤ x ∧ x ≤ 30) ∧ wr = w3) (fun i _ => lens.length - (intOf i).toNat)
  case atStart => exact ⟨0, by omega, rfl, by simp, rfl⟩
  case round =>
    obtain ⟨k, hk, rfl, hall, rfl⟩ := hrel
    by_cases hkn : k < lens.length
    · obtain ⟨g, off, rfl, hc⟩ := (HV.out _ H3.out.right).at_ hkn
      have hx := List.getElem?_eq_getElem hkn
      have HTK := Lib.hid (show lens.take (k + 1) = lens.take k ++ [lens[k]] from List.take_succ_eq_append_getElem hkn)
      have hmem : lens[k] ∈ lens := List.getElem_mem hkn
      generalize lens[k] = x at *
      have hc' : (lens.map iv)[k]? = some (.int .i64 x) := by simp [hx, iv]
      rw [hc'] at hc
      clear hc' hx
      have hk1 : (k : Int) < lens.length := by omega
      have HALL := Lib.hid hall; clear hall
      by_cases hbad : x < 0 ∨ 30 < x
      · have HR := Lib.hid (show canonI lens = ([], false, 1) by rw [canonI, if_pos ⟨x, hmem, hbad⟩])
        rcases hbad with hb | hb
        · go_wp2_with fail
          go_ret3
          refine ⟨.slice none 0 0, by rw [HR.out]; rfl, ?_⟩
          rw [HR.out]; exact St.own_nil _ _ H3.out.right
        · have hb0 : ¬ x < 0 := by omega
          go_wp2_with fail
          go_ret3
          refine ⟨.slice none 0 0, by rw [HR.out]; rfl, ?_⟩
          rw [HR.out]; exact St.own_nil _ _ H3.out.right
      have hi0 : ¬ x < 0 := by omega
      have hi1 : ¬ 30 < x := by omega
      have HAL2 := Lib.hid (show ∀ x ∈ lens.take (k + 1), 0 ≤ x ∧ x ≤ 30 by
        intro y hy
        rw [HTK.out, List.mem_append, List.mem_singleton] at hy
        rcases hy with hy | rfl
        · exact HALL.out y hy
        · omega)
      go_wp2_with fail
      exact ⟨⟨k + 1, by omega, by go_num, HAL2.out, trivial⟩, by simp [intOf]; omega⟩
    · obtain rfl : k = lens.length := by omega
      rw [List.take_length] at hall
      have HALL := Lib.hid hall; clear hall
      have hlN : (natsOf lens).length = lens.length := by simp [natsOf]
      generalize hl0 : natsOf lens = l at *
      have HL0 := Lib.hid hl0; clear hl0
      have h4 := H3.out
      rw [← hlN, ← contC_start, hlN] at h4
      have H4 := Lib.hid h4; clear h4 H3
      have hget : ∀ k, k < lens.length → ∃ c : Nat, lens[k]? = some (c : Int) ∧ l[k]? = some c ∧ l.getD k 0 = c ∧ c ≤ 30 := by
        intro k hk
        have hx := List.getElem?_eq_getElem hk
        have hxb := HALL.out _ (List.getElem_mem hk)
        refine ⟨lens[k].toNat, by rw [hx]; congr 1; omega, ?_, ?_, by omega⟩
        · rw [← HL0.out, natsOf, List.getElem?_map, hx]; rfl
        · rw [← HL0.out, List.getD_eq_getElem?_getD, natsOf, List.getElem?_map, hx]; rfl
      have HGET := Lib.hid hget; clear hget
      go_wp2_with fail
      go_loopw [10, 7, 8, 9] (fun vn vw vo vf wx => ∃ (n : Nat) (was : List Nat) (first ok : Bool), 1 ≤ n ∧ n ≤ 31 ∧ vn = .int .i64 n ∧ vw = .string ⟨(tx was).toArray⟩ ∧ vo = .bool ok ∧ vf = .bool first ∧ StandC l n 0 was first ∧ was.length ≤ 30 ∧ (∀ m, m < n → codeC l m + cntC l m ≤ 2 ^ m) ∧
        St w0 wx (own 9 1 (.slice a3 lens.length c3) lens.length ((contC l n 0).map txv) * F)) (fun vn _ _ _ _ => 31 - (intOf vn).toNat)
      case atStart => exact ⟨1, [], true, true, by omega, by omega, rfl, rfl, rfl, rfl, .inl ⟨rfl, rfl, by simp [codeC, cntC]⟩, by simp, by
        intro m hm
        obtain rfl : m = 0 := by omega
        simp [codeC, cntC], H4.out⟩
      case round =>
        obtain ⟨n, was, first, ok, hn1, hn2, rfl, rfl, rfl, rfl, hstand, hwas, hok, hst⟩ := hrel
        by_cases hn : n ≤ 30
        · have hni : (n : Int) ≤ 30 := by omega
          have HOK := Lib.hid hok; clear hok
          go_wp2_with fail
          go_loopw [11, 7, 8, 9] (fun vi vw vo vf wx => ∃ (i : Nat) (was : List Nat) (first ok : Bool), i ≤ lens.length ∧ vi = .int .i64 i ∧ vw = .string ⟨(tx was).toArray⟩ ∧ vo = .bool ok ∧ vf = .bool first ∧ StandC l n ((l.take i).count n) was first ∧ was.length ≤ 30 ∧
            St w0 wx (own 9 1 (.slice a3 lens.length c3) lens.length ((contC l n i).map txv) * F)) (fun vi _ _ _ _ => lens.length - (intOf vi).toNat)
          case atStart => exact ⟨0, was, first, ok, by omega, rfl, rfl, rfl, rfl, hstand, hwas, hst⟩
          case round =>
            clear hstand hwas hst
            obtain ⟨i, was, first, ok, hi, rfl, rfl, rfl, rfl, hstand, hwas, hst⟩ := hrel
            by_cases hin : i < lens.length
            · obtain ⟨g, off, rfl, hc⟩ := (HV.out wr hst.right).at_ hin
              obtain ⟨c, hx, hli, hgd, hc30⟩ := HGET.out i hin
              have hc' : (lens.map iv)[i]? = some (.int .i64 (c : Int)) := by simp [hx, iv]
              rw [hc'] at hc
              clear hc' hx
              have hi1 : (i : Int) < lens.length := by omega
              by_cases hcn : n = c
              · subst hcn
                cases first
                · have hbw : Bit was ∧ was.length ≤ 30 := by
                    refine ⟨?_, hwas⟩
                    rcases hstand with ⟨e, _⟩ | ⟨_, e, _⟩
                    · cases e
                    · exact e
                  rcases bit_split hbw.1 with ⟨p, k, hbp, rfl⟩ | ⟨k, rfl⟩
                  · have hpk : p.length + k + 1 ≤ n := by
                      rcases hstand with ⟨e, _⟩ | ⟨_, _, e, _⟩
                      · cases e
                      · rw [List.length_append, List.length_cons, List.length_replicate] at e; omega
                    go_wp2_with fail
                    refine (rnext_some p k hbp (by omega) rfl).mono ?_
                    rintro e w5 ⟨rfl, rfl⟩
                    go_wp2_with fail
                    obtain ⟨BB, hBB⟩ : ∃ BB : List Nat, BB = p ++ 1 :: List.replicate k 0 := ⟨_, rfl⟩
                    have hst1 : BB ++ List.replicate (n - (p.length + k + 1)) 0 = wordB (codeC l n + (l.take i).count n) n ∧ StandC l n ((l.take i).count n + 1) (BB ++ List.replicate (n - (p.length + k + 1)) 0) false := by
                      rw [hBB]; exact hstand.more
                    have HBL := Lib.hid (show BB.length = p.length + k + 1 by rw [hBB]; simp; try omega)
                    have HBB := Lib.hid hBB; clear hBB
                    have HSS := Lib.hid hst1; clear hst1
                    have HST := Lib.hid hst; clear hst
                    go_loopg [12] (n - (p.length + k + 1)) (fun g v wx => ∃ q : Nat, q + g = n - (p.length + k + 1) ∧ v = .string ⟨(tx (BB ++ List.replicate q 0)).toArray⟩ ∧ wx = wr)
                    case atStart => exact ⟨0, by omega, by rw [List.replicate_zero, List.append_nil, HBB.out]; try rfl, rfl⟩
                    case round =>
                      obtain ⟨q, hq, rfl, rfl⟩ := hrel
                      have hlq : (BB ++ List.replicate q 0).length = p.length + k + 1 + q := by rw [List.length_append, HBL.out, List.length_replicate]
                      have HAP := Lib.hid (show tx (BB ++ List.replicate (q + 1) 0) = tx (BB ++ List.replicate q 0) ++ tx [0] by rw [← tx_append, List.append_assoc, ← List.replicate_succ'])
                      by_cases hg : gk = 0
                      · have hqe : q = n - (p.length + k + 1) := by omega
                        have hss := HSS.out
                        rw [← hqe] at hss
                        have hle : (BB ++ List.replicate q 0).length = n := by rw [hlq]; omega
                        clear hlq HAP
                        have hwl : (contC l n i).length = lens.length := by rw [length_contC, hlN]
                        obtain ⟨gg, rfl⟩ := own_at HST.out (by omega)
                        have fz := HST.out.own_free i
                        obtain ⟨y0, hy0⟩ : ∃ y, (contC l n i)[i]? = some y := ⟨_, List.getElem?_eq_getElem (by omega)⟩
                        have cz := HST.out.own_cell (i := i) (u := txv y0) (by rw [List.getElem?_map, hy0]; rfl)
                        have hs1 := HST.out.own_set i (txv (wordC l i))
                        rw [← List.map_set, contC_set l n i (by omega) hgd, wordC_at hgd, ← hss.1] at hs1
                        have hs2 := hss.2
                        have hcs := count_take_succ hli n
                        rw [if_pos rfl] at hcs
                        rw [← hcs] at hs2
                        have HS1 := Lib.hid hs1; clear hs1
                        have HS2 := Lib.hid hs2; clear hs2 hcs hss hqe
                        simp only [txv] at cz HS1
                        generalize BB ++ List.replicate q 0 = WW at *
                        have hlw : (tx WW).length = n := by rw [length_tx, hle]
                        have HLE := Lib.hid hle; clear hle
                        go_wp2_with fail
                        go_roundw
                        case rel => exact ⟨i + 1, WW, false, _, by omega, by go_num, rfl, rfl, rfl, HS2.out, by rw [HLE.out]; omega, HS1.out⟩
                        case measure => simp [intOf]; omega
                      · have hlt : p.length + k + 1 + q < n := by omega
                        have hltt : (tx (BB ++ List.replicate q 0)).length = p.length + k + 1 + q := by rw [length_tx, hlq]
                        clear hlq
                        have hi9 : (((p.length + k + 1 + q : Nat)) : Int) < n := by omega
                        generalize tx (BB ++ List.replicate q 0) = tt at *
                        go_wp2_with fail
                        go_roundg (gk - 1)
                        case measure => omega
                        case rel => exact ⟨q + 1, by omega, by rw [HAP.out, ← ByteArray.mk_append_mk]; rfl, rfl⟩
                  · have hk30 : k ≤ 30 := by have := hbw.2; simpa using this
                    have hnone := hstand.none
                    have hcnt : (l.take i).count n + 1 ≤ cntC l n := by
                      have h1 := count_take_succ hli n
                      rw [if_pos rfl] at h1
                      have h2 := (List.take_sublist (i + 1) l).count_le n
                      rw [cntC, if_neg (by omega)]
                      omega
                    have HR := Lib.hid (show canonI lens = ([], false, 3) by
                      rw [canonI, if_neg (by rintro ⟨x, hx, h⟩; have := HALL.out x hx; omega), HL0.out, if_neg (fun ok => by have := ok n hn; omega)])
                    have HS := Lib.hid hst; clear hst hstand hnone hcnt
                    go_wp2_with fail
                    refine (rnext_none k hk30 rfl).mono ?_
                    rintro e w5 ⟨rfl, rfl⟩
                    go_wp2_with fail
                    go_ret3
                    refine ⟨.slice none 0 0, by rw [HR.out]; rfl, ?_⟩
                    rw [HR.out]; exact St.own_nil _ _ HS.out.right
                · go_wp2_with fail
                  obtain ⟨BB, hBB⟩ : ∃ BB : List Nat, BB = ([] : List Nat) := ⟨_, rfl⟩
                  have hst1 : BB ++ List.replicate (n - (0)) 0 = wordB (codeC l n + (l.take i).count n) n ∧ StandC l n ((l.take i).count n + 1) (BB ++ List.replicate (n - (0)) 0) false := by
                    rw [hBB]; simpa using hstand.one
                  have HBL := Lib.hid (show BB.length = 0 by rw [hBB]; simp; try omega)
                  have HBB := Lib.hid hBB; clear hBB
                  have HSS := Lib.hid hst1; clear hst1
                  have HST := Lib.hid hst; clear hst
                  go_loopg [12] (n - (0)) (fun g v wx => ∃ q : Nat, q + g = n - (0) ∧ v = .string ⟨(tx (BB ++ List.replicate q 0)).toArray⟩ ∧ wx = wr)
                  case atStart => exact ⟨0, by omega, by rw [List.replicate_zero, List.append_nil, HBB.out]; try rfl, rfl⟩
                  case round =>
                    obtain ⟨q, hq, rfl, rfl⟩ := hrel
                    have hlq : (BB ++ List.replicate q 0).length = 0 + q := by rw [List.length_append, HBL.out, List.length_replicate]
                    have HAP := Lib.hid (show tx (BB ++ List.replicate (q + 1) 0) = tx (BB ++ List.replicate q 0) ++ tx [0] by rw [← tx_append, List.append_assoc, ← List.replicate_succ'])
                    by_cases hg : gk = 0
                    · have hqe : q = n - (0) := by omega
                      have hss := HSS.out
                      rw [← hqe] at hss
                      have hle : (BB ++ List.replicate q 0).length = n := by rw [hlq]; omega
                      clear hlq HAP
                      have hwl : (contC l n i).length = lens.length := by rw [length_contC, hlN]
                      obtain ⟨gg, rfl⟩ := own_at HST.out (by omega)
                      have fz := HST.out.own_free i
                      obtain ⟨y0, hy0⟩ : ∃ y, (contC l n i)[i]? = some y := ⟨_, List.getElem?_eq_getElem (by omega)⟩
                      have cz := HST.out.own_cell (i := i) (u := txv y0) (by rw [List.getElem?_map, hy0]; rfl)
                      have hs1 := HST.out.own_set i (txv (wordC l i))
                      rw [← List.map_set, contC_set l n i (by omega) hgd, wordC_at hgd, ← hss.1] at hs1
                      have hs2 := hss.2
                      have hcs := count_take_succ hli n
                      rw [if_pos rfl] at hcs
                      rw [← hcs] at hs2
                      have HS1 := Lib.hid hs1; clear hs1
                      have HS2 := Lib.hid hs2; clear hs2 hcs hss hqe
                      simp only [txv] at cz HS1
                      generalize BB ++ List.replicate q 0 = WW at *
                      have hlw : (tx WW).length = n := by rw [length_tx, hle]
                      have HLE := Lib.hid hle; clear hle
                      go_wp2_with fail
                      go_roundw
                      case rel => exact ⟨i + 1, WW, false, _, by omega, by go_num, rfl, rfl, rfl, HS2.out, by rw [HLE.out]; omega, HS1.out⟩
                      case measure => simp [intOf]; omega
                    · have hlt : 0 + q < n := by omega
                      have hltt : (tx (BB ++ List.replicate q 0)).length = 0 + q := by rw [length_tx, hlq]
                      clear hlq
                      have hi9 : (((0 + q : Nat)) : Int) < n := by omega
                      generalize tx (BB ++ List.replicate q 0) = tt at *
                      go_wp2_with fail
                      go_roundg (gk - 1)
                      case measure => omega
                      case rel => exact ⟨q + 1, by omega, by rw [HAP.out, ← ByteArray.mk_append_mk]; rfl, rfl⟩
              · have hcn' : ¬ c = n := fun e => hcn e.symm
                have hcn1 : ¬ (c : Int) = n := by omega
                have hsk := contC_skip l n i (by rw [hgd]; exact hcn')
                have hcs := count_take_succ hli n
                simp only [if_neg hcn', Nat.add_zero] at hcs
                rw [← hsk] at hst
                rw [← hcs] at hstand
                have HS := Lib.hid hst; clear hst
                have HSD := Lib.hid hstand; clear hstand hcs hsk
                go_wp2_with fail
                go_roundw
                case rel => exact ⟨i + 1, was, first, ok, by omega, by go_num, rfl, rfl, rfl, HSD.out, hwas, HS.out⟩
                case measure => simp [intOf]; omega
            · obtain rfl : i = lens.length := by omega
              have hcnt : (l.take lens.length).count n = cntC l n := by
                rw [List.take_of_length_le (by omega), cntC, if_neg (by omega)]
              rw [hcnt] at hstand
              have hle := hstand.le
              have hup := hstand.up
              rw [← hlN, contC_up] at hst
              rw [hlN] at hst
              have HS := Lib.hid hst; clear hst
              have HUP := Lib.hid hup; clear hup hstand
              have HLE := Lib.hid hle; clear hle
              clear hcnt
              go_wp2_with fail
              go_roundw
              case rel => exact ⟨n + 1, was, first, ok, by omega, by omega, by go_num, rfl, rfl, rfl, HUP.out, hwas, by
                intro m hm
                by_cases e : m < n
                · exact HOK.out m e
                · have : m = n := by omega
                  rw [this]; exact HLE.out, HS.out⟩
              case measure => simp [intOf]; omega
        · obtain rfl : n = 31 := by omega
          have hce : contC l 31 0 = wordsC l := contC_end l (fun j => by
            by_cases hj : j < lens.length
            · obtain ⟨c, _, _, e, h30⟩ := HGET.out j hj
              rw [e]; exact h30
            · rw [List.getD_eq_getElem?_getD, List.getElem?_eq_none (by omega)]; simp)
          rw [hce] at hst
          have hwl : (wordsC l).length = lens.length := by rw [wordsC, List.length_map, List.length_range, hlN]
          have HR := Lib.hid (show canonI lens = (wordsC l, fullC l, 0) by
            rw [canonI, if_neg (by rintro ⟨x, hx, h⟩; have := HALL.out x hx; omega), HL0.out, if_pos (show OkC l from fun m hm => hok m (by omega))])
          have HWL := Lib.hid hwl; clear hwl
          have HS := Lib.hid hst; clear hst hok hce
          cases first
          · have hbw : Bit was := by
              rcases hstand with ⟨e, _⟩ | ⟨_, e, _⟩
              · cases e
              · exact e
            rcases bit_split hbw with ⟨p, k, hbp, rfl⟩ | ⟨k, rfl⟩
            · have hnf := hstand.not_full
              have HFU := Lib.hid (show fullC l = false by
                rw [fullC, beq_eq_false_iff_ne]; omega)
              have hpk : p.length + k + 1 ≤ 30 := by simp at hwas; omega
              clear hstand hnf
              go_wp2_with fail
              refine (rnext_some p k hbp hpk rfl).mono ?_
              rintro e w5 ⟨rfl, rfl⟩
              go_wp2_with fail
              go_ret3
              refine ⟨.slice a3 lens.length c3, by rw [HR.out]; simp only []; rw [HFU.out]; rfl, ?_⟩
              rw [HR.out, HWL.out]; exact HS.out
            · have hnf := hstand.none
              have HFU := Lib.hid (show fullC l = true by
                rw [fullC, beq_iff_eq]; omega)
              have hk30 : k ≤ 30 := by simpa using hwas
              clear hstand hnf
              go_wp2_with fail
              refine (rnext_none k hk30 rfl).mono ?_
              rintro e w5 ⟨rfl, rfl⟩
              go_wp2_with fail
              go_ret3
              refine ⟨.slice a3 lens.length c3, by rw [HR.out]; simp only []; rw [HFU.out]; rfl, ?_⟩
              rw [HR.out, HWL.out]; exact HS.out
          · rcases hstand with ⟨_, e, h0⟩ | ⟨e, _⟩
            · subst e
              have HFU := Lib.hid (show fullC l = false by
                rw [fullC, beq_eq_false_iff_ne]; omega)
              clear h0
              go_wp2_with fail
              refine (rnext_none 0 (by omega) rfl).mono ?_
              rintro e w5 ⟨rfl, rfl⟩
              go_wp2_with fail
              go_ret3
              refine ⟨.slice a3 lens.length c3, by rw [HR.out]; simp only []; rw [HFU.out]; rfl, ?_⟩
              rw [HR.out, HWL.out]; exact HS.out
            · cases e
end Go.Proofs.YtddifndfppilkaaGreat
