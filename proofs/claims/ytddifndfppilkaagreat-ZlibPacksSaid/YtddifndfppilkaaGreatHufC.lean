/-
  Layer 6 (huff): canonical words.
-/
import Derived.Test.YtddifndfppilkaaGreatHufW
import Derived.Test.YtddifndfppilkaaGreatHufN
import Derived.Deep.Cut
import Derived.Deep.CutRange
namespace Go.Proofs.YtddifndfppilkaaGreat
open Go.RowKit Go.Mz
set_option linter.unusedVariables false
set_option linter.unusedSimpArgs false
set_option maxRecDepth 100000

def natsOf (l : List Int) : List Nat := l.map Int.toNat
def canonI (l : List Int) : List (List Nat) × Bool × Nat :=
  if ∃ x ∈ l, x < 0 ∨ 30 < x then ([], false, 1) else if OkC (natsOf l) then (wordsC (natsOf l), fullC (natsOf l), 0) else ([], false, 3)
def cntsC (l : List Nat) : List Nat := (List.range 31).map (cntC l)
/-- The next codes: of lengths below n, as far as r words are told. -/
def nextsC (l : List Nat) (n : Nat) (r : List Nat) : List Nat := (List.range 32).map fun m => if 0 < m ∧ m < n then codeC l m + r.count m else 0
def arr (b : Nat) (e : TypeId) (L : List Nat) : SProp := blk b (.cells (L.map nv).toArray e (0, 0))

theorem arr_cell {w0 w : World} {b : Nat} {e : TypeId} {L : List Nat} {F : SProp} (h : St w0 w (arr b e L * F)) {j x : Nat} (hj : L[j]? = some x) : w.cell? ⟨b, j, none⟩ = some (.int .i64 (x : Int)) := by
  refine h.cell j ?_
  simp [hj, nv]
theorem arr_free {w0 w : World} {b : Nat} {e : TypeId} {L : List Nat} {F : SProp} (h : St w0 w (arr b e L * F)) (j : Nat) : w.frozen? ⟨b, j, none⟩ = false := St.free h j
theorem arr_set {w0 w : World} {b : Nat} {e : TypeId} {L : List Nat} {F : SProp} (h : St w0 w (arr b e L * F)) (j x : Nat) : St w0 (w.setCell ⟨b, j, none⟩ (.int .i64 (x : Int))) (arr b e (L.set j x) * F) := by
  have := St.set h j (.int .i64 (x : Int))
  rw [List.setIfInBounds_toArray, show (.int .i64 (x : Int) : Value) = nv x from rfl, ← List.map_set] at this
  exact this

theorem cntsC_snoc (l : List Nat) {c : Nat} (h0 : 0 < c) (h : c ≤ 30) : (cntsC l).set c (cntC l c + 1) = cntsC (l ++ [c]) := by
  apply List.ext_getElem
  · simp [cntsC]
  · intro i h1 h2
    rw [List.getElem_set]
    simp only [cntsC, List.getElem_map, List.getElem_range, cntC, List.count_append, List.count_singleton]
    by_cases hc : c = i
    · subst hc
      have hc0 : ¬ c = 0 := by omega
      simp [hc0]
    · have : (c == i) = false := by simp [hc]
      simp [hc, this]
theorem cntsC_zero (l : List Nat) : cntsC (l ++ [0]) = cntsC l := by
  apply List.map_congr_left
  intro i _
  simp only [cntC, List.count_append, List.count_singleton]
  by_cases hc : i = 0
  · simp [hc]
  · have : (0 == i) = false := by simp; omega
    simp [hc, this]
theorem cntsC_get (l : List Nat) {c : Nat} (h : c ≤ 30) : (cntsC l)[c]? = some (cntC l c) := by
  rw [cntsC, List.getElem?_map, List.getElem?_range (by omega)]; rfl
theorem cntC_le (l : List Nat) (c : Nat) : cntC l c ≤ l.length := by
  unfold cntC; split
  · omega
  · exact List.count_le_length
theorem nextsC_one (l : List Nat) : nextsC l 1 [] = List.replicate 32 0 := by
  apply List.ext_getElem
  · simp [nextsC]
  · intro i h1 h2
    simp only [nextsC, List.getElem_map, List.getElem_range, List.getElem_replicate]
    rw [if_neg (by omega)]
theorem nextsC_set (l : List Nat) {n : Nat} (h0 : 0 < n) (h : n ≤ 30) : (nextsC l n []).set n (codeC l n) = nextsC l (n + 1) [] := by
  apply List.ext_getElem
  · simp [nextsC]
  · intro i h1 h2
    rw [List.getElem_set]
    simp only [nextsC, List.getElem_map, List.getElem_range, List.count_nil, Nat.add_zero]
    by_cases hc : n = i
    · subst hc; simp [h0]
    · have : (0 < i ∧ i < n + 1) ↔ (0 < i ∧ i < n) := by omega
      simp [hc, this]
theorem nextsC_get (l : List Nat) (r : List Nat) {n m : Nat} (h0 : 0 < m) (h1 : m < n) (h : m ≤ 31) : (nextsC l n r)[m]? = some (codeC l m + r.count m) := by
  rw [nextsC, List.getElem?_map, List.getElem?_range (by omega), Option.map_some, if_pos ⟨h0, h1⟩]
theorem nextsC_more (l r : List Nat) {c : Nat} (h0 : 0 < c) (h : c ≤ 30) : (nextsC l 31 r).set c (codeC l c + r.count c + 1) = nextsC l 31 (r ++ [c]) := by
  apply List.ext_getElem
  · simp [nextsC]
  · intro i h1 h2
    rw [List.getElem_set]
    simp only [nextsC, List.getElem_map, List.getElem_range, List.count_append, List.count_singleton]
    by_cases hc : c = i
    · subst hc
      have : (0 < c ∧ c < 31) := by omega
      simp [this]; omega
    · have : (c == i) = false := by simp [hc]
      simp [hc, this]
theorem nextsC_zero (l r : List Nat) : nextsC l 31 (r ++ [0]) = nextsC l 31 r := by
  apply List.map_congr_left
  intro i _
  simp only [List.count_append, List.count_singleton]
  by_cases hc : 0 < i ∧ i < 31
  · have : (0 == i) = false := by simp; omega
    simp [this]
  · rw [if_neg hc, if_neg hc]

set_option maxHeartbeats 40000000 in
theorem canon_any {w0 w : World} {F : SProp} (h : St w0 w F) (lens : List Int) {v : Value} (hv : Stb w0 F (fun w => Reads w 1 v lens.length (lens.map iv))) (hl : lens.length ≤ 100000) :
    Calls Tryz.prog 77 #[v] w fun e w' => ∃ v', e = .returned (.tuple #[v', .bool (canonI lens).2.1, .int .i64 (canonI lens).2.2]) ∧
      St w0 w' (own 9 1 v' (canonI lens).1.length ((canonI lens).1.map txv) * F) := by
  obtain ⟨av, cv, rfl⟩ := (hv w h).sub
  have H := Lib.hid h; clear h
  have HV := Lib.hid hv; clear hv
  go_enter Tryz.func77, Tryz.ntmps77
  go_wp2_with fail
  have h1 : St w0 (w.alloc (.cells ((List.replicate 31 0).map nv).toArray 159 (0, 0))) (arr w.heap.size 159 (List.replicate 31 0) * F) := H.out.alloc _
  have H1 := Lib.hid h1; clear h1
  go_loopw [16] (fun i wr => ∃ k : Nat, k ≤ lens.length ∧ i = .int .i64 k ∧ (∀ x ∈ lens.take k, 0 ≤ x ∧ x ≤ 30) ∧ St w0 wr (arr w.heap.size 159 (cntsC (natsOf (lens.take k))) * F)) (fun i _ => lens.length - (intOf i).toNat)
  case atStart => exact ⟨0, by omega, rfl, by simp, H1.out⟩
  case round =>
    obtain ⟨k, hk, rfl, hall, hst⟩ := hrel
    generalize w.heap.size = b1 at *
    by_cases hkn : k < lens.length
    · obtain ⟨g, off, rfl, hc⟩ := (HV.out wr hst.right).at_ hkn
      have hx := List.getElem?_eq_getElem hkn
      have HTK := Lib.hid (show lens.take (k + 1) = lens.take k ++ [lens[k]] from List.take_succ_eq_append_getElem hkn)
      have hmem : lens[k] ∈ lens := List.getElem_mem hkn
      generalize lens[k] = x at *
      have hc' : (lens.map iv)[k]? = some (.int .i64 x) := by simp [hx, iv]
      rw [hc'] at hc
      clear hc' hx
      have hk1 : (k : Int) < lens.length := by omega
      have HALL := Lib.hid hall; clear hall
      by_cases hbad : x < 0 ∨ 30 < x
      · have HR := Lib.hid (show canonI lens = ([], false, 1) by rw [canonI, if_pos ⟨x, hmem, hbad⟩])
        have HS := Lib.hid hst; clear hst
        rcases hbad with hb | hb
        · go_wp2_with fail
          go_ret3
          refine ⟨.slice none 0 0, by rw [HR.out]; rfl, ?_⟩
          rw [HR.out]; exact St.own_nil _ _ HS.out.right
        · have hb0 : ¬ x < 0 := by omega
          go_wp2_with fail
          go_ret3
          refine ⟨.slice none 0 0, by rw [HR.out]; rfl, ?_⟩
          rw [HR.out]; exact St.own_nil _ _ HS.out.right
      obtain ⟨c, rfl⟩ : ∃ c : Nat, x = c := ⟨x.toNat, by omega⟩
      have hc30 : c ≤ 30 := by omega
      have HNT := Lib.hid (show natsOf (lens.take (k + 1)) = natsOf (lens.take k) ++ [c] by rw [HTK.out]; simp [natsOf])
      have HAL2 := Lib.hid (show ∀ x ∈ lens.take (k + 1), 0 ≤ x ∧ x ≤ 30 by
        intro y hy
        rw [HTK.out, List.mem_append, List.mem_singleton] at hy
        rcases hy with hy | rfl
        · exact HALL.out y hy
        · omega)
      have hcl := cntC_le (natsOf (lens.take k)) c
      have hcl2 : (natsOf (lens.take k)).length ≤ 100000 := by simp [natsOf]; omega
      have hi0 : ¬ (c : Int) < 0 := by omega
      have hi1 : ¬ (30 : Int) < c := by omega
      by_cases hz : c = 0
      · subst hz
        have HS := Lib.hid hst; clear hst
        go_wp2_with fail
        refine ⟨⟨k + 1, by omega, by go_num, HAL2.out, ?_⟩, by simp [intOf]; omega⟩
        rw [HNT.out, cntsC_zero]; exact HS.out
      · have e0 := arr_cell hst (cntsC_get (natsOf (lens.take k)) hc30)
        have f0 := arr_free hst c
        have hset := arr_set hst c (cntC (natsOf (lens.take k)) c + 1)
        rw [cntsC_snoc _ (by omega) hc30, ← HNT.out] at hset
        have HSET := Lib.hid hset; clear hset hst
        generalize cntC (natsOf (lens.take k)) c = y at *
        have hi2 : (0 : Int) < c := by omega
        have hi3 : (c : Int) < 31 := by omega
        have hsy : IntKind.i64.wrap ((y : Int) + 1) = ((y + 1 : Nat) : Int) := by rw [IntWalk.i64_in _ (by omega)]; rfl
        go_wp2_with fail
        refine ⟨⟨k + 1, by omega, by go_num, HAL2.out, ?_⟩, by simp [intOf]; omega⟩
        have := HSET.out
        simpa using this
    · obtain rfl : k = lens.length := by omega
      rw [List.take_length] at hall hst
      have HS := Lib.hid hst; clear hst
      have HALL := Lib.hid hall; clear hall
      go_wp2_with fail
      have hlN : (natsOf lens).length = lens.length := by simp [natsOf]
      generalize hl0 : natsOf lens = l at *
      have HL0 := Lib.hid hl0; clear hl0
      have h2 : St w0 (wr.alloc (.cells ((List.replicate 32 0).map nv).toArray 160 (0, 0))) (arr wr.heap.size 160 (List.replicate 32 0) * (arr b1 159 (cntsC l) * F)) := HS.out.alloc _
      rw [← nextsC_one l] at h2
      have H2 := Lib.hid h2; clear h2
      generalize wr.heap.size = b2 at *
      go_loopw [10, 9] (fun vn vc wx => ∃ n : Nat, 1 ≤ n ∧ n ≤ 31 ∧ vn = .int .i64 n ∧ vc = .int .i64 (codeC l n) ∧ (∀ m, m < n → codeC l m + cntC l m ≤ 2 ^ m) ∧ St w0 wx (arr b2 160 (nextsC l n []) * (arr b1 159 (cntsC l) * F))) (fun vn _ _ => 31 - (intOf vn).toNat)
      case atStart => exact ⟨1, by omega, by omega, rfl, rfl, by
        intro m hm
        obtain rfl : m = 0 := by omega
        simp [codeC, cntC], H2.out⟩
      case round =>
        obtain ⟨n, hn1, hn2, rfl, rfl, hok, hst⟩ := hrel
        have hcb : codeC l n ≤ 2 ^ n := by
          obtain ⟨m, rfl⟩ : ∃ m, n = m + 1 := ⟨n - 1, by omega⟩
          have := hok m (by omega)
          rw [codeC, Nat.pow_succ]
          omega
        have hp31 : 2 ^ n ≤ 2 ^ 31 := Nat.pow_le_pow_right (by decide) hn2
        by_cases hn : n ≤ 30
        · have hcl := cntC_le l n
          have e0 := arr_cell (hst.perm (star_left_comm _ _ _)) (cntsC_get l hn)
          have hset := arr_set hst n (codeC l n)
          rw [nextsC_set l (by omega) hn] at hset
          have f0 := arr_free hst n
          have c0 : ∃ y : Nat, wr.cell? ⟨b2, n, none⟩ = some (.int .i64 (y : Int)) := by
            refine ⟨(nextsC l n []).getD n 0, arr_cell hst ?_⟩
            rw [List.getD_eq_getElem?_getD]
            have : n < (nextsC l n []).length := by simp [nextsC]; omega
            rw [List.getElem?_eq_getElem this]; rfl
          obtain ⟨y0, c0⟩ := c0
          have e1 := arr_cell (hset.perm (star_left_comm _ _ _)) (cntsC_get l hn)
          have HSET := Lib.hid hset; clear hset hst
          have HOK := Lib.hid hok; clear hok
          have HCC := Lib.hid (show codeC l (n + 1) = (codeC l n + cntC l n) * 2 from rfl)
          have hi1 : (n : Int) ≤ 30 := by omega
          have hi2 : (n : Int) < 31 := by omega
          have hi3 : (n : Int) < 32 := by omega
          have hi4 : (0 : Int) ≤ n := by omega
          generalize hcd : codeC l n = cd at *
          generalize hct : cntC l n = ct at *
          have HCD := Lib.hid hcd; clear hcd
          have HCT := Lib.hid hct; clear hct
          have hs1 : IntKind.i64.wrap ((cd : Int) + ct) = (cd : Int) + ct := IntWalk.i64_in _ (by omega)
          have hwr : wrap64 ((2 : Int) ^ n) = ((2 ^ n : Nat) : Int) := by
            have e : ((2 : Int) ^ n) = ((2 ^ n : Nat) : Int) := by simp
            rw [e, wrap64]
            have : (2 : Nat) ^ 31 = 2147483648 := by decide
            generalize (2 : Nat) ^ n = z at *
            omega
          by_cases hq : cd + ct ≤ 2 ^ n
          · have hle : (cd : Int) + ct ≤ wrap64 ((2 : Int) ^ n) := by rw [hwr]; omega
            have HWR := Lib.hid hwr; clear hwr
            go_wp2_with fail
            refine ⟨⟨n + 1, by omega, by omega, by go_num, by rw [HCC.out]; simp, ?_, HSET.out⟩, by simp [intOf]; omega⟩
            intro m hm
            by_cases hmn : m < n
            · exact HOK.out m hmn
            · have hmn2 : m = n := by omega
              rw [hmn2, HCD.out, HCT.out]; exact hq
          · have hle : ¬ (cd : Int) + ct ≤ wrap64 ((2 : Int) ^ n) := by rw [hwr]; omega
            have HWR := Lib.hid hwr; clear hwr
            have HR := Lib.hid (show canonI lens = ([], false, 3) by
              rw [canonI, if_neg (by rintro ⟨x, hx, h⟩; have := HALL.out x hx; omega), HL0.out, if_neg (fun ok => hq (by have := ok n hn; rwa [HCD.out, HCT.out] at this))])
            go_wp2_with fail
            go_ret3
            refine ⟨.slice none 0 0, by rw [HR.out]; rfl, ?_⟩
            rw [HR.out]; exact St.own_nil _ _ HSET.out.right.right
        · obtain rfl : n = 31 := by omega
          have HS2 := Lib.hid hst; clear hst
          have HOK := Lib.hid hok; clear hok
          have HCB := Lib.hid hcb; clear hcb
          go_wp2_with (at_make; apply stop)
          have HR := Lib.hid (show canonI lens = (wordsC l, fullC l, 0) by
            rw [canonI, if_neg (by rintro ⟨x, hx, h⟩; have := HALL.out x hx; omega), HL0.out, if_pos (show OkC l from fun m hm => HOK.out m (by omega))])
          refine on (wpList_make_sep elemStrs rfl _ _ rfl lens.length rfl rfl rfl rfl HS2.out (by unfold maxLen; omega) (by omega) ?_)
          intro v3 w3 h3
          obtain ⟨a3, c3, rfl⟩ := h3.reads.sub
          have h3' : St w0 w3 (own 9 1 (.slice a3 lens.length c3) lens.length (((wordsC l).take 0 ++ List.replicate (lens.length - 0) []).map txv) * (arr b2 160 (nextsC l 31 (l.take 0)) * (arr b1 159 (cntsC l) * F))) := by
            have e : (madeCells (Value.string ⟨#[]⟩).cells (lens.length * 1)).toList = ((wordsC l).take 0 ++ List.replicate (lens.length - 0) []).map txv := by
              rw [Nat.mul_one]
              simp [Value.cells, toList_madeCells_one, txv, tx]
            rw [← e]; exact h3
          have H3 := Lib.hid h3'; clear h3 h3' HS2
          have HFU := Lib.hid (show Value.bool ((codeC l 31 : Int) == 2147483648) = Value.bool (fullC l) by
            congr 1
            rw [fullC, Bool.eq_iff_iff]
            simp
            omega)
          have hcl31 : codeC l 31 ≤ 2147483648 := HCB.out
          generalize hcd : codeC l 31 = cd at *
          have HCD := Lib.hid hcd; clear hcd
          go_wp2_with fail
          go_loopw [57] (fun i wx => ∃ k : Nat, k ≤ lens.length ∧ i = .int .i64 k ∧ St w0 wx (own 9 1 (.slice a3 lens.length c3) lens.length (((wordsC l).take k ++ List.replicate (lens.length - k) []).map txv) * (arr b2 160 (nextsC l 31 (l.take k)) * (arr b1 159 (cntsC l) * F)))) (fun i _ => lens.length - (intOf i).toNat)
          case atStart => exact ⟨0, by omega, rfl, H3.out⟩
          case round =>
            obtain ⟨k, hk, rfl, hst⟩ := hrel
            by_cases hkn : k < lens.length
            · obtain ⟨g, off, rfl, hc⟩ := (HV.out wr hst.right.right.right).at_ hkn
              have hmem : lens[k] ∈ lens := List.getElem_mem hkn
              have hx := List.getElem?_eq_getElem hkn
              have hxb := HALL.out _ hmem
              generalize lens[k] = x at *
              clear hmem
              obtain ⟨c, rfl⟩ : ∃ c : Nat, x = c := ⟨x.toNat, by omega⟩
              have hc' : (lens.map iv)[k]? = some (.int .i64 (c : Int)) := by simp [hx, iv]
              rw [hc'] at hc
              have hlk : l[k]? = some c := by rw [← HL0.out, natsOf, List.getElem?_map, hx]; rfl
              clear hc' hx
              have hgd : l.getD k 0 = c := by rw [List.getD_eq_getElem?_getD, hlk]; rfl
              have HTK := Lib.hid (show l.take (k + 1) = l.take k ++ [c] by rw [List.take_add_one, hlk]; rfl)
              have hwk : (wordsC l)[k]? = some (wordB (codeC l c + (l.take k).count c) c) := by
                rw [wordsC, List.getElem?_map, List.getElem?_range (by omega), Option.map_some, wordC, hgd]
              have hwl : (wordsC l).length = lens.length := by rw [wordsC, List.length_map, List.length_range, hlN]
              have HCON := Lib.hid (show (((wordsC l).take k ++ List.replicate (lens.length - k) []).map txv).set k (txv (wordB (codeC l c + (l.take k).count c) c)) = ((wordsC l).take (k + 1) ++ List.replicate (lens.length - (k + 1)) []).map txv by
                rw [← List.map_set]
                congr 1
                rw [List.take_add_one, hwk, List.set_append_right _ _ (by rw [List.length_take, hwl]; omega), List.length_take, hwl]
                have e2 : List.replicate (lens.length - k) ([] : List Nat) = [] :: List.replicate (lens.length - (k + 1)) [] := by rw [← List.replicate_succ]; congr 1; omega
                have e3 : k - min k lens.length = 0 := by omega
                rw [e2, e3]
                simp)
              have hk1 : (k : Int) < lens.length := by omega
              have heq0 : c = 0 → (wordsC l).take (k + 1) ++ List.replicate (lens.length - (k + 1)) [] = (wordsC l).take k ++ List.replicate (lens.length - k) [] := by
                intro h0
                rw [List.take_add_one, hwk, h0]
                have e2 : List.replicate (lens.length - k) ([] : List Nat) = [] :: List.replicate (lens.length - (k + 1)) [] := by rw [← List.replicate_succ]; congr 1; omega
                rw [e2]
                simp [wordB]
              by_cases hz : c = 0
              · have hsame : St w0 wr (own 9 1 (.slice a3 lens.length c3) lens.length (((wordsC l).take (k + 1) ++ List.replicate (lens.length - (k + 1)) []).map txv) * (arr b2 160 (nextsC l 31 (l.take (k + 1))) * (arr b1 159 (cntsC l) * F))) := by
                  rw [HTK.out, heq0 hz, hz, nextsC_zero]; exact hst
                clear hwk hwl hgd hlk heq0
                subst hz
                have HS := Lib.hid hsame; clear hsame hst
                go_wp2_with fail
                exact ⟨⟨k + 1, by omega, by go_num, HS.out⟩, by simp [intOf]; omega⟩
              · clear heq0
                obtain ⟨g3, rfl⟩ := own_at hst (by omega)
                have hcellk : ((((wordsC l).take k ++ List.replicate (lens.length - k) []).map txv))[k]? = some (txv []) := by
                  rw [List.getElem?_map, List.getElem?_append_right (by rw [List.length_take, hwl]; omega), List.length_take, hwl, List.getElem?_replicate, if_pos (by omega)]; rfl
                clear hwk hwl hgd hlk
                have hnx := nextsC_get l (l.take k) (n := 31) (show 0 < c by omega) (by omega) (by omega)
                have hcb : codeC l c ≤ 2 ^ 30 := by
                  have h1 := HOK.out c (by omega)
                  have h2 : 2 ^ c ≤ 2 ^ 30 := Nat.pow_le_pow_right (by decide) (by omega)
                  omega
                have hcnt : (l.take k).count c ≤ 100000 := Nat.le_trans List.count_le_length (by rw [List.length_take]; omega)
                have n0 := arr_cell (hst.perm (star_left_comm _ _ _)) hnx
                have HNX := Lib.hid hnx; clear hnx
                have HCK := Lib.hid hcellk; clear hcellk
                have HST := Lib.hid hst; clear hst
                have hmore := Lib.hid (nextsC_more l (l.take k) (show 0 < c by omega) (show c ≤ 30 by omega))
                have hp30 : (2 : Nat) ^ 30 = 1073741824 := by decide
                rw [hp30] at hcb
                generalize hnv : codeC l c + (l.take k).count c = nv0 at *
                have hnvb : nv0 ≤ 1100000000 := by omega
                clear hnv hcb hcnt hp30
                have hi2 : (0 : Int) < c := by omega
                have hi3 : (c : Int) < 32 := by omega
                have hsy : IntKind.i64.wrap ((nv0 : Int) + 1) = ((nv0 + 1 : Nat) : Int) := by rw [IntWalk.i64_in _ (by omega)]; rfl
                go_wp2_with fail
                refine (hword_any HST.out nv0 c (by omega) (by omega) rfl rfl).mono ?_
                rintro e w5 ⟨rfl, h5⟩
                have fz := h5.own_free k
                have cz := h5.own_cell HCK.out
                have h6 := h5.own_set k (txv (wordB nv0 c))
                rw [HCON.out] at h6
                have h6' := h6.perm (star_left_comm _ _ _)
                have n1 := arr_cell h6' HNX.out
                have f1 := arr_free h6' c
                have h7 := arr_set h6' c (nv0 + 1)
                rw [hmore.out, ← HTK.out] at h7
                have H7 := Lib.hid (h7.perm (star_left_comm _ _ _)); clear h7 h6' h6 h5
                simp only [txv] at n1 f1 H7
                generalize (ByteArray.mk (tx (wordB nv0 c)).toArray) = str at *
                go_wp2_with fail
                refine ⟨⟨k + 1, by omega, by go_num, ?_⟩, by simp [intOf]; omega⟩
                have := H7.out
                simpa using this
            · obtain rfl : k = lens.length := by omega
              have hfin : St w0 wr (own 9 1 (.slice a3 lens.length c3) lens.length ((wordsC l).map txv) * F) := by
                have hwl : (wordsC l).length = lens.length := by rw [wordsC, List.length_map, List.length_range, hlN]
                rw [Nat.sub_self, List.replicate_zero, List.append_nil, List.take_of_length_le (by omega)] at hst
                exact (hst.perm (show _ = (arr b2 _ _ * arr b1 _ _) * (own 9 1 (.slice a3 lens.length c3) lens.length ((wordsC l).map txv) * F) by ac_rfl)).right
              have HFN := Lib.hid hfin; clear hfin hst
              go_wp2_with fail
              go_ret3
              refine ⟨.slice a3 lens.length c3, ?_, ?_⟩
              · rw [HR.out]
                show Ending.returned (.tuple #[.slice a3 lens.length c3, Value.bool ((cd : Int) == 2147483648), .int .i64 0]) = _
                rw [HFU.out]; rfl
              · rw [HR.out, show (wordsC l).length = lens.length by rw [wordsC, List.length_map, List.length_range, hlN]]
                exact HFN.out
end Go.Proofs.YtddifndfppilkaaGreat
