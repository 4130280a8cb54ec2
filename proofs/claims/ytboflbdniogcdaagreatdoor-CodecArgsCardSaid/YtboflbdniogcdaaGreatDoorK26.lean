/-
  Parts of a proof.
-/
import Derived.Test.YtboflbdniogcdaaGreatDoorK25
import Derived.Test.YtboflbdniogcdaaGreatDoorK14
import Derived.Deep.Cut
import Derived.Deep.CutRange
import Derived.Test.YtboflbdniogcdaaGreatDoorK20
import Derived.BigQuiet
import Derived.BigRegion
import Derived.Deep.Fields
import Derived.Deep.LoopGhost
import Derived.Deep.QuietTactic
import Derived.Deep.RegionHeld
import Derived.Deep.RegionHeld3
import Derived.Deep.RegionLaw
import Derived.Deep.Slices
import Derived.DeepKeys
import Derived.Lib.Hide
import Derived.Lib.Strings
import Derived.OrdersHeld
import Derived.ProofKit
import Derived.RegionTactic
import Derived.Test.YtboflbdniogcdaaGreatDoorChecked
import Derived.WalkKit
import Derived.WalkLawsBesides
import Derived.WalkSpells
import Derived.Test.YtboflbdniogcdaaGreatDoorK15
namespace Go.Proofs.YtboflbdniogcdaaGreatDoor
open Go.RowKit Go.Mz
set_option linter.unusedVariables false
set_option linter.unusedSimpArgs false
set_option maxRecDepth 100000
def natsOf (l : List Int) : List Nat := l.map Int.toNat
def canonI (l : List Int) : List (List Nat) × Bool × Nat :=
 if ∃ x ∈ l, x < 0 ∨ 30 < x then ([], false, 1) else if OkC (natsOf l) then (wordsC (natsOf l), fullC (natsOf l), 0) else ([], false, 3)
def cntsC (l : List Nat) : List Nat := (List.range 31).map (cntC l)
def nextsC (l : List Nat) (n : Nat) (r : List Nat) : List Nat := (List.range 32).map fun m => if 0 < m ∧ m < n then codeC l m + r.count m else 0
def arr (b : Nat) (e : TypeId) (L : List Nat) : SProp := blk b (.cells (L.map nv).toArray e (0, 0))
theorem arr_cell {w0 w : World} {b : Nat} {e : TypeId} {L : List Nat} {F : SProp} (h : St w0 w (arr b e L * F)) {j x : Nat} (hj : L[j]? = some x) : w.cell? ⟨b, j, none⟩ = some (.int .i64 (x : Int)) := by
 refine h.cell j ?_
 simp [hj, nv]
theorem arr_free {w0 w : World} {b : Nat} {e : TypeId} {L : List Nat} {F : SProp} (h : St w0 w (arr b e L * F)) (j : Nat) : w.frozen? ⟨b, j, none⟩ = false := St.free h j
theorem arr_set {w0 w : World} {b : Nat} {e : TypeId} {L : List Nat} {F : SProp} (h : St w0 w (arr b e L * F)) (j x : Nat) : St w0 (w.setCell ⟨b, j, none⟩ (.int .i64 (x : Int))) (arr b e (L.set j x) * F) := by
 have := St.set h j (.int .i64 (x : Int))
 rw [List.setIfInBounds_toArray, show (.int .i64 (x : Int) : Value) = nv x from rfl, ← List.map_set] at this
 exact this
theorem cntsC_snoc (l : List Nat) {c : Nat} (h0 : 0 < c) (h : c ≤ 30) : (cntsC l).set c (cntC l c + 1) = cntsC (l ++ [c]) := by
 apply List.ext_getElem
 ·simp [cntsC]
 ·intro i h1 h2
  rw [List.getElem_set]
  simp only [cntsC, List.getElem_map, List.getElem_range, cntC, List.count_append, List.count_singleton]
  by_cases hc : c = i
  ·subst hc
   have hc0 : ¬ c = 0 := by omega
   simp [hc0]
  ·have : (c == i) = false := by simp [hc]
   simp [hc, this]
theorem cntsC_zero (l : List Nat) : cntsC (l ++ [0]) = cntsC l := by
 apply List.map_congr_left
 intro i _
 simp only [cntC, List.count_append, List.count_singleton]
 by_cases hc : i = 0
 ·simp [hc]
 ·have : (0 == i) = false := by simp; omega
  simp [hc, this]
theorem cntsC_get (l : List Nat) {c : Nat} (h : c ≤ 30) : (cntsC l)[c]? = some (cntC l c) := by
 rw [cntsC, List.getElem?_map, List.getElem?_range (by omega)]; rfl
theorem cntC_le (l : List Nat) (c : Nat) : cntC l c ≤ l.length := by
 unfold cntC; split
 ·omega
 ·exact List.count_le_length
theorem nextsC_one (l : List Nat) : nextsC l 1 [] = List.replicate 32 0 := by
 apply List.ext_getElem
 ·simp [nextsC]
 ·intro i h1 h2
  simp only [nextsC, List.getElem_map, List.getElem_range, List.getElem_replicate]
  rw [if_neg (by omega)]
theorem nextsC_set (l : List Nat) {n : Nat} (h0 : 0 < n) (h : n ≤ 30) : (nextsC l n []).set n (codeC l n) = nextsC l (n + 1) [] := by
 apply List.ext_getElem
 ·simp [nextsC]
 ·intro i h1 h2
  rw [List.getElem_set]
  simp only [nextsC, List.getElem_map, List.getElem_range, List.count_nil, Nat.add_zero]
  by_cases hc : n = i
  ·subst hc; simp [h0]
  ·have : (0 < i ∧ i < n + 1) ↔ (0 < i ∧ i < n) := by omega
   simp [hc, this]
theorem nextsC_get (l : List Nat) (r : List Nat) {n m : Nat} (h0 : 0 < m) (h1 : m < n) (h : m ≤ 31) : (nextsC l n r)[m]? = some (codeC l m + r.count m) := by
 rw [nextsC, List.getElem?_map, List.getElem?_range (by omega), Option.map_some, if_pos ⟨h0, h1⟩]
theorem nextsC_more (l r : List Nat) {c : Nat} (h0 : 0 < c) (h : c ≤ 30) : (nextsC l 31 r).set c (codeC l c + r.count c + 1) = nextsC l 31 (r ++ [c]) := by
 apply List.ext_getElem
 ·simp [nextsC]
 ·intro i h1 h2
  rw [List.getElem_set]
  simp only [nextsC, List.getElem_map, List.getElem_range, List.count_append, List.count_singleton]
  by_cases hc : c = i
  ·subst hc
   have : (0 < c ∧ c < 31) := by omega
   simp [this]; omega
  ·have : (c == i) = false := by simp [hc]
   simp [hc, this]
theorem nextsC_zero (l r : List Nat) : nextsC l 31 (r ++ [0]) = nextsC l 31 r := by
 apply List.map_congr_left
 intro i _
 simp only [List.count_append, List.count_singleton]
 by_cases hc : 0 < i ∧ i < 31
 ·have : (0 == i) = false := by simp; omega
  simp [this]
 ·rw [if_neg hc, if_neg hc]
set_option maxHeartbeats 40000000 in
theorem canon_any {w0 w : World} {F : SProp} (h : St w0 w F) (lens : List Int) {v : Value} (hv : Stb w0 F (fun w => Reads w 1 v lens.length (lens.map iv))) (hl : lens.length ≤ 100000) :
  Calls Tryz.prog 208 #[v] w fun e w' => ∃ v', e = .returned (.tuple #[v', .bool (canonI lens).2.1, .int .i64 (canonI lens).2.2]) ∧
   St w0 w' (own 9 1 v' (canonI lens).1.length ((canonI lens).1.map txv) * F) := by
 obtain ⟨av, cv, rfl⟩ := (hv w h).sub
 have H := Lib.hid h; clear h
 have HV := Lib.hid hv; clear hv
 go_enter Tryz.func208, Tryz.ntmps208
 go_wp2_with fail
 have h1 : St w0 (w.alloc (.cells ((List.replicate 31 0).map nv).toArray 307 (0, 0))) (arr w.heap.size 307 (List.replicate 31 0) * F) := H.out.alloc _
 have H1 := Lib.hid h1; clear h1
 go_loopw [16] (fun i wr => ∃ k : Nat, k ≤ lens.length ∧ i = .int .i64 k ∧ (∀ x ∈ lens.take k, 0 ≤ x ∧ x ≤ 30) ∧ St w0 wr (arr w.heap.size 307 (cntsC (natsOf (lens.take k))) * F)) (fun i _ => lens.length - (intOf i).toNat)
 case atStart => exact ⟨0, by omega, rfl, by simp, H1.out⟩
 case round =>
  obtain ⟨k, hk, rfl, hall, hst⟩ := hrel
  generalize w.heap.size = b1 at *
  by_cases hkn : k < lens.length
  ·obtain ⟨g, off, rfl, hc⟩ := (HV.out wr hst.right).at_ hkn
   have hx := List.getElem?_eq_getElem hkn
   have HTK := Lib.hid (show lens.take (k + 1) = lens.take k ++ [lens[k]] from List.take_succ_eq_append_getElem hkn)
   have hmem : lens[k] ∈ lens := List.getElem_mem hkn
   generalize lens[k] = x at *
   have hc' : (lens.map iv)[k]? = some (.int .i64 x) := by simp [hx, iv]
   rw [hc'] at hc
   clear hc' hx
   have hk1 : (k : Int) < lens.length := by omega
   have HALL := Lib.hid hall; clear hall
   by_cases hbad : x < 0 ∨ 30 < x
   ·have HR := Lib.hid (show canonI lens = ([], false, 1) by rw [canonI, if_pos ⟨x, hmem, hbad⟩])
    have HS := Lib.hid hst; clear hst
    rcases hbad with hb | hb
    ·go_wp2_with fail
     go_ret3
     refine ⟨.slice none 0 0, by rw [HR.out]; rfl, ?_⟩
     rw [HR.out]; exact St.own_nil _ _ HS.out.right
    ·have hb0 : ¬ x < 0 := by omega
     go_wp2_with fail
     go_ret3
     refine ⟨.slice none 0 0, by rw [HR.out]; rfl, ?_⟩
     rw [HR.out]; exact St.own_nil _ _ HS.out.right
   obtain ⟨c, rfl⟩ : ∃ c : Nat, x = c := ⟨x.toNat, by omega⟩
   have hc30 : c ≤ 30 := by omega
   have HNT := Lib.hid (show natsOf (lens.take (k + 1)) = natsOf (lens.take k) ++ [c] by rw [HTK.out]; simp [natsOf])
   have HAL2 := Lib.hid (show ∀ x ∈ lens.take (k + 1), 0 ≤ x ∧ x ≤ 30 by
    intro y hy
    rw [HTK.out, List.mem_append, List.mem_singleton] at hy
    rcases hy with hy | rfl
    ·exact HALL.out y hy
    ·omega)
   have hcl := cntC_le (natsOf (lens.take k)) c
   have hcl2 : (natsOf (lens.take k)).length ≤ 100000 := by simp [natsOf]; omega
   have hi0 : ¬ (c : Int) < 0 := by omega
   have hi1 : ¬ (30 : Int) < c := by omega
   by_cases hz : c = 0
   ·subst hz
    have HS := Lib.hid hst; clear hst
    go_wp2_with fail
    refine ⟨⟨k + 1, by omega, by go_num, HAL2.out, ?_⟩, by simp [intOf]; omega⟩
    rw [HNT.out, cntsC_zero]; exact HS.out
   ·have e0 := arr_cell hst (cntsC_get (natsOf (lens.take k)) hc30)
    have f0 := arr_free hst c
    have hset := arr_set hst c (cntC (natsOf (lens.take k)) c + 1)
    rw [cntsC_snoc _ (by omega) hc30, ← HNT.out] at hset
    have HSET := Lib.hid hset; clear hset hst
    generalize cntC (natsOf (lens.take k)) c = y at *
    have hi2 : (0 : Int) < c := by omega
    have hi3 : (c : Int) < 31 := by omega
    have hsy : IntKind.i64.wrap ((y : Int) + 1) = ((y + 1 : Nat) : Int) := by rw [IntWalk.i64_in _ (by omega)]; rfl
    go_wp2_with fail
    refine ⟨⟨k + 1, by omega, by go_num, HAL2.out, ?_⟩, by simp [intOf]; omega⟩
    have := HSET.out
    simpa using this
  ·obtain rfl : k = lens.length := by omega
   rw [List.take_length] at hall hst
   have HS := Lib.hid hst; clear hst
   have HALL := Lib.hid hall; clear hall
   go_wp2_with fail
   have hlN : (natsOf lens).length = lens.length := by simp [natsOf]
   generalize hl0 : natsOf lens = l at *
   have HL0 := Lib.hid hl0; clear hl0
   have h2 : St w0 (wr.alloc (.cells ((List.replicate 32 0).map nv).toArray 308 (0, 0))) (arr wr.heap.size 308 (List.replicate 32 0) * (arr b1 307 (cntsC l) * F)) := HS.out.alloc _
   rw [← nextsC_one l] at h2
   have H2 := Lib.hid h2; clear h2
   generalize wr.heap.size = b2 at *
   go_loopw [10, 9] (fun vn vc wx => ∃ n : Nat, 1 ≤ n ∧ n ≤ 31 ∧ vn = .int .i64 n ∧ vc = .int .i64 (codeC l n) ∧ (∀ m, m < n → codeC l m + cntC l m ≤ 2 ^ m) ∧ St w0 wx (arr b2 308 (nextsC l n []) * (arr b1 307 (cntsC l) * F))) (fun vn _ _ => 31 - (intOf vn).toNat)
   case atStart => exact ⟨1, by omega, by omega, rfl, rfl, by
    intro m hm
    obtain rfl : m = 0 := by omega
    simp [codeC, cntC], H2.out⟩
   case round =>
    obtain ⟨n, hn1, hn2, rfl, rfl, hok, hst⟩ := hrel
    have hcb : codeC l n ≤ 2 ^ n := by
     obtain ⟨m, rfl⟩ : ∃ m, n = m + 1 := ⟨n - 1, by omega⟩
     have := hok m (by omega)
     rw [codeC, Nat.pow_succ]
     omega
    have hp31 : 2 ^ n ≤ 2 ^ 31 := Nat.pow_le_pow_right (by decide) hn2
    by_cases hn : n ≤ 30
    ·have hcl := cntC_le l n
     have e0 := arr_cell (hst.perm (star_left_comm _ _ _)) (cntsC_get l hn)
     have hset := arr_set hst n (codeC l n)
     rw [nextsC_set l (by omega) hn] at hset
     have f0 := arr_free hst n
     have c0 : ∃ y : Nat, wr.cell? ⟨b2, n, none⟩ = some (.int .i64 (y : Int)) := by
      refine ⟨(nextsC l n []).getD n 0, arr_cell hst ?_⟩
      rw [List.getD_eq_getElem?_getD]
      have : n < (nextsC l n []).length := by simp [nextsC]; omega
      rw [List.getElem?_eq_getElem this]; rfl
     obtain ⟨y0, c0⟩ := c0
     have e1 := arr_cell (hset.perm (star_left_comm _ _ _)) (cntsC_get l hn)
     have HSET := Lib.hid hset; clear hset hst
     have HOK := Lib.hid hok; clear hok
     have HCC := Lib.hid (show codeC l (n + 1) = (codeC l n + cntC l n) * 2 from rfl)
     have hi1 : (n : Int) ≤ 30 := by omega
     have hi2 : (n : Int) < 31 := by omega
     have hi3 : (n : Int) < 32 := by omega
     have hi4 : (0 : Int) ≤ n := by omega
     generalize hcd : codeC l n = cd at *
     generalize hct : cntC l n = ct at *
     have HCD := Lib.hid hcd; clear hcd
     have HCT := Lib.hid hct; clear hct
     have hs1 : IntKind.i64.wrap ((cd : Int) + ct) = (cd : Int) + ct := IntWalk.i64_in _ (by omega)
     have hwr : wrap64 ((2 : Int) ^ n) = ((2 ^ n : Nat) : Int) := by
      have e : ((2 : Int) ^ n) = ((2 ^ n : Nat) : Int) := by simp
      rw [e, wrap64]
      have : (2 : Nat) ^ 31 = 2147483648 := by decide
      generalize (2 : Nat) ^ n = z at *
      omega
     by_cases hq : cd + ct ≤ 2 ^ n
     ·have hle : (cd : Int) + ct ≤ wrap64 ((2 : Int) ^ n) := by rw [hwr]; omega
      have HWR := Lib.hid hwr; clear hwr
      go_wp2_with fail
      refine ⟨⟨n + 1, by omega, by omega, by go_num, by rw [HCC.out]; simp, ?_, HSET.out⟩, by simp [intOf]; omega⟩
      intro m hm
      by_cases hmn : m < n
      ·exact HOK.out m hmn
      ·have hmn2 : m = n := by omega
       rw [hmn2, HCD.out, HCT.out]; exact hq
     ·have hle : ¬ (cd : Int) + ct ≤ wrap64 ((2 : Int) ^ n) := by rw [hwr]; omega
      have HWR := Lib.hid hwr; clear hwr
      have HR := Lib.hid (show canonI lens = ([], false, 3) by
       rw [canonI, if_neg (by rintro ⟨x, hx, h⟩; have := HALL.out x hx; omega), HL0.out, if_neg (fun ok => hq (by have := ok n hn; rwa [HCD.out, HCT.out] at this))])
      go_wp2_with fail
      go_ret3
      refine ⟨.slice none 0 0, by rw [HR.out]; rfl, ?_⟩
      rw [HR.out]; exact St.own_nil _ _ HSET.out.right.right
    ·obtain rfl : n = 31 := by omega
     have HS2 := Lib.hid hst; clear hst
     have HOK := Lib.hid hok; clear hok
     have HCB := Lib.hid hcb; clear hcb
     go_wp2_with (at_make; apply stop)
     have HR := Lib.hid (show canonI lens = (wordsC l, fullC l, 0) by
      rw [canonI, if_neg (by rintro ⟨x, hx, h⟩; have := HALL.out x hx; omega), HL0.out, if_pos (show OkC l from fun m hm => HOK.out m (by omega))])
     refine on (wpList_make_sep elemStrs rfl _ _ rfl lens.length rfl rfl rfl rfl HS2.out (by unfold maxLen; omega) (by omega) ?_)
     intro v3 w3 h3
     obtain ⟨a3, c3, rfl⟩ := h3.reads.sub
     have h3' : St w0 w3 (own 9 1 (.slice a3 lens.length c3) lens.length (((wordsC l).take 0 ++ List.replicate (lens.length - 0) []).map txv) * (arr b2 308 (nextsC l 31 (l.take 0)) * (arr b1 307 (cntsC l) * F))) := by
      have e : (madeCells (Value.string ⟨#[]⟩).cells (lens.length * 1)).toList = ((wordsC l).take 0 ++ List.replicate (lens.length - 0) []).map txv := by
       rw [Nat.mul_one]
       simp [Value.cells, toList_madeCells_one, txv, tx]
      rw [← e]; exact h3
     have H3 := Lib.hid h3'; clear h3 h3' HS2
     have HFU := Lib.hid (show Value.bool ((codeC l 31 : Int) == 2147483648) = Value.bool (fullC l) by
      congr 1
      rw [fullC, Bool.eq_iff_iff]
      simp
      omega)
     have hcl31 : codeC l 31 ≤ 2147483648 := HCB.out
     generalize hcd : codeC l 31 = cd at *
     have HCD := Lib.hid hcd; clear hcd
     go_wp2_with fail
     go_loopw [57] (fun i wx => ∃ k : Nat, k ≤ lens.length ∧ i = .int .i64 k ∧ St w0 wx (own 9 1 (.slice a3 lens.length c3) lens.length (((wordsC l).take k ++ List.replicate (lens.length - k) []).map txv) * (arr b2 308 (nextsC l 31 (l.take k)) * (arr b1 307 (cntsC l) * F)))) (fun i _ => lens.length - (intOf i).toNat)
     case atStart => exact ⟨0, by omega, rfl, H3.out⟩
     case round =>
      obtain ⟨k, hk, rfl, hst⟩ := hrel
      by_cases hkn : k < lens.length
      ·obtain ⟨g, off, rfl, hc⟩ := (HV.out wr hst.right.right.right).at_ hkn
       have hmem : lens[k] ∈ lens := List.getElem_mem hkn
       have hx := List.getElem?_eq_getElem hkn
       have hxb := HALL.out _ hmem
       generalize lens[k] = x at *
       clear hmem
       obtain ⟨c, rfl⟩ : ∃ c : Nat, x = c := ⟨x.toNat, by omega⟩
       have hc' : (lens.map iv)[k]? = some (.int .i64 (c : Int)) := by simp [hx, iv]
       rw [hc'] at hc
       have hlk : l[k]? = some c := by rw [← HL0.out, natsOf, List.getElem?_map, hx]; rfl
       clear hc' hx
       have hgd : l.getD k 0 = c := by rw [List.getD_eq_getElem?_getD, hlk]; rfl
       have HTK := Lib.hid (show l.take (k + 1) = l.take k ++ [c] by rw [List.take_add_one, hlk]; rfl)
       have hwk : (wordsC l)[k]? = some (wordB (codeC l c + (l.take k).count c) c) := by
        rw [wordsC, List.getElem?_map, List.getElem?_range (by omega), Option.map_some, wordC, hgd]
       have hwl : (wordsC l).length = lens.length := by rw [wordsC, List.length_map, List.length_range, hlN]
       have HCON := Lib.hid (show (((wordsC l).take k ++ List.replicate (lens.length - k) []).map txv).set k (txv (wordB (codeC l c + (l.take k).count c) c)) = ((wordsC l).take (k + 1) ++ List.replicate (lens.length - (k + 1)) []).map txv by
        rw [← List.map_set]
        congr 1
        rw [List.take_add_one, hwk, List.set_append_right _ _ (by rw [List.length_take, hwl]; omega), List.length_take, hwl]
        have e2 : List.replicate (lens.length - k) ([] : List Nat) = [] :: List.replicate (lens.length - (k + 1)) [] := by rw [← List.replicate_succ]; congr 1; omega
        have e3 : k - min k lens.length = 0 := by omega
        rw [e2, e3]
        simp)
       have hk1 : (k : Int) < lens.length := by omega
       have heq0 : c = 0 → (wordsC l).take (k + 1) ++ List.replicate (lens.length - (k + 1)) [] = (wordsC l).take k ++ List.replicate (lens.length - k) [] := by
        intro h0
        rw [List.take_add_one, hwk, h0]
        have e2 : List.replicate (lens.length - k) ([] : List Nat) = [] :: List.replicate (lens.length - (k + 1)) [] := by rw [← List.replicate_succ]; congr 1; omega
        rw [e2]
        simp [wordB]
       by_cases hz : c = 0
       ·have hsame : St w0 wr (own 9 1 (.slice a3 lens.length c3) lens.length (((wordsC l).take (k + 1) ++ List.replicate (lens.length - (k + 1)) []).map txv) * (arr b2 308 (nextsC l 31 (l.take (k + 1))) * (arr b1 307 (cntsC l) * F))) := by
         rw [HTK.out, heq0 hz, hz, nextsC_zero]; exact hst
        clear hwk hwl hgd hlk heq0
        subst hz
        have HS := Lib.hid hsame; clear hsame hst
        go_wp2_with fail
        exact ⟨⟨k + 1, by omega, by go_num, HS.out⟩, by simp [intOf]; omega⟩
       ·clear heq0
        obtain ⟨g3, rfl⟩ := own_at hst (by omega)
        have hcellk : ((((wordsC l).take k ++ List.replicate (lens.length - k) []).map txv))[k]? = some (txv []) := by
         rw [List.getElem?_map, List.getElem?_append_right (by rw [List.length_take, hwl]; omega), List.length_take, hwl, List.getElem?_replicate, if_pos (by omega)]; rfl
        clear hwk hwl hgd hlk
        have hnx := nextsC_get l (l.take k) (n := 31) (show 0 < c by omega) (by omega) (by omega)
        have hcb : codeC l c ≤ 2 ^ 30 := by
         have h1 := HOK.out c (by omega)
         have h2 : 2 ^ c ≤ 2 ^ 30 := Nat.pow_le_pow_right (by decide) (by omega)
         omega
        have hcnt : (l.take k).count c ≤ 100000 := Nat.le_trans List.count_le_length (by rw [List.length_take]; omega)
        have n0 := arr_cell (hst.perm (star_left_comm _ _ _)) hnx
        have HNX := Lib.hid hnx; clear hnx
        have HCK := Lib.hid hcellk; clear hcellk
        have HST := Lib.hid hst; clear hst
        have hmore := Lib.hid (nextsC_more l (l.take k) (show 0 < c by omega) (show c ≤ 30 by omega))
        have hp30 : (2 : Nat) ^ 30 = 1073741824 := by decide
        rw [hp30] at hcb
        generalize hnv : codeC l c + (l.take k).count c = nv0 at *
        have hnvb : nv0 ≤ 1100000000 := by omega
        clear hnv hcb hcnt hp30
        have hi2 : (0 : Int) < c := by omega
        have hi3 : (c : Int) < 32 := by omega
        have hsy : IntKind.i64.wrap ((nv0 : Int) + 1) = ((nv0 + 1 : Nat) : Int) := by rw [IntWalk.i64_in _ (by omega)]; rfl
        go_wp2_with fail
        refine (hword_any HST.out nv0 c (by omega) (by omega) rfl rfl).mono ?_
        rintro e w5 ⟨rfl, h5⟩
        have fz := h5.own_free k
        have cz := h5.own_cell HCK.out
        have h6 := h5.own_set k (txv (wordB nv0 c))
        rw [HCON.out] at h6
        have h6' := h6.perm (star_left_comm _ _ _)
        have n1 := arr_cell h6' HNX.out
        have f1 := arr_free h6' c
        have h7 := arr_set h6' c (nv0 + 1)
        rw [hmore.out, ← HTK.out] at h7
        have H7 := Lib.hid (h7.perm (star_left_comm _ _ _)); clear h7 h6' h6 h5
        simp only [txv] at n1 f1 H7
        generalize (ByteArray.mk (tx (wordB nv0 c)).toArray) = str at *
        go_wp2_with fail
        refine ⟨⟨k + 1, by omega, by go_num, ?_⟩, by simp [intOf]; omega⟩
        have := H7.out
        simpa using this
      ·obtain rfl : k = lens.length := by omega
       have hfin : St w0 wr (own 9 1 (.slice a3 lens.length c3) lens.length ((wordsC l).map txv) * F) := by
        have hwl : (wordsC l).length = lens.length := by rw [wordsC, List.length_map, List.length_range, hlN]
        rw [Nat.sub_self, List.replicate_zero, List.append_nil, List.take_of_length_le (by omega)] at hst
        exact (hst.perm (show _ = (arr b2 _ _ * arr b1 _ _) * (own 9 1 (.slice a3 lens.length c3) lens.length ((wordsC l).map txv) * F) by ac_rfl)).right
       have HFN := Lib.hid hfin; clear hfin hst
       go_wp2_with fail
       go_ret3
       refine ⟨.slice a3 lens.length c3, ?_, ?_⟩
       ·rw [HR.out]
        show Ending.returned (.tuple #[.slice a3 lens.length c3, Value.bool ((cd : Int) == 2147483648), .int .i64 0]) = _
        rw [HFU.out]; rfl
       ·rw [HR.out, show (wordsC l).length = lens.length by rw [wordsC, List.length_map, List.length_range, hlN]]
        exact HFN.out
end Go.Proofs.YtboflbdniogcdaaGreatDoor
namespace Go.Proofs.YtboflbdniogcdaaGreatDoor
open Go.RowKit Go.Mz
set_option linter.unusedVariables false
set_option linter.unusedSimpArgs false
def vl (t : List Nat) (p n : Nat) : Nat := numV true (fun i => t.getD (p + i) 0) n
def fixN (k : Nat) : Nat := if k < 144 ∨ 280 ≤ k then 8 else if k < 256 then 9 else 7
def fixA : List Nat := (List.range 288).map fixN
def fixB : List Nat := List.replicate 30 5
def fromL : Nat → Nat
 | 0 => 3
 | k + 1 => fromL k + 2 ^ (k / 4 - 1)
def fromD : Nat → Nat
 | 0 => 1
 | k + 1 => fromD k + 2 ^ (k / 2 - 1)
def lensB : List (Nat × Nat) := (List.range 28).map (fun k => (fromL k, k / 4 - 1)) ++ [(258, 0)]
def distsB : List (Nat × Nat) := (List.range 30).map fun k => (fromD k, k / 2 - 1)
def orderL : List Nat := [16, 17, 18, 0, 8, 7, 9, 6, 10, 5, 11, 4, 12, 3, 13, 2, 14, 1, 15]
def usedL (l : List Nat) : Nat := (l.filter (fun n => decide (0 < n))).length
def longL (l : List Nat) : Nat := l.foldl max 0
def wordsF (l : List Nat) (how : Nat) : Nat ⊕ List (List Nat) :=
 let c := canonI (l.map fun (n : Nat) => (n : Int))
 if c.2.2 ≠ 0 then .inl c.2.2
 else if c.2.1 = false ∧ (how = 0 ∨ how = 1 ∧ (1 < usedL l ∨ 1 < longL l)) then .inl 3
 else .inr c.1
def bytesF (t : List Nat) (most : Nat) : Nat → Nat → List UInt8 → Nat ⊕ (Nat × List UInt8)
 | 0, p, out => .inr (p, out)
 | n + 1, p, out =>
  if t.length < p + 8 then .inl 2 else if most ≤ out.length then .inl 8 else bytesF t most n (p + 8) (out ++ [UInt8.ofNat (vl t p 8)])
def storedF (t : List Nat) (most p : Nat) (out : List UInt8) : Nat ⊕ (Nat × List UInt8) :=
 let q := (p + 7) / 8 * 8
 if t.length < q + 32 then .inl 2
 else if vl t q 16 + vl t (q + 16) 16 ≠ 65535 then .inl 3
 else bytesF t most (vl t q 16) (q + 32) out
def lengthsF (t : List Nat) (W : List (List Nat)) (n : Nat) : Nat → List Nat → Nat → Nat ⊕ (Nat × List Nat)
 | 0, _, _ => .inl 99
 | f + 1, all, p =>
  if all.length < n then
   match rdW W [] (t.drop p) with
   | (_, .inr e) => .inl e
   | (k, .inl v) =>
    if v < 16 then lengthsF t W n f (all ++ [v]) (p + k)
    else if v = 16 ∧ all = [] then .inl 3
    else
     let value := if v = 16 then all.getD (all.length - 1) 0 else 0
     let least := if v = 18 then 11 else 3
     let wide := if v = 16 then 2 else if v = 18 then 7 else 3
     if t.length < p + k + wide then .inl 2
     else lengthsF t W n f (all ++ List.replicate (least + vl t (p + k) wide) value) (p + k + wide)
  else if n < all.length then .inl 3 else .inr (p, all)
def numberF (t : List Nat) (l : List (Nat × Nat)) (i p : Nat) : Nat ⊕ (Nat × Nat) :=
 match l[i]? with
 | none => .inl 6
 | some b => if t.length < p + b.2 then .inl 2 else .inr (p + b.2, b.1 + vl t p b.2)
def copyF (d : Nat) : Nat → List UInt8 → List UInt8
 | 0, out => out
 | n + 1, out => copyF d n (out ++ [out.getD (out.length - d) 0])
def copyR (t : List Nat) (B : List (List Nat)) (most n p : Nat) (out : List UInt8) : Nat ⊕ (Nat × List UInt8) :=
 match rdW B [] (t.drop p) with
 | (_, .inr e) => .inl e
 | (k, .inl v) =>
  match numberF t distsB v (p + k) with
  | .inl e => .inl e
  | .inr (q, d) => if out.length < d then .inl 3 else if most < out.length + n then .inl 8 else .inr (q, copyF d n out)
def blockS (t : List Nat) (A B : List (List Nat)) (most p : Nat) (out : List UInt8) : Nat ⊕ (Nat × List UInt8 × Bool) :=
 match rdW A [] (t.drop p) with
 | (_, .inr e) => .inl e
 | (k, .inl v) =>
  if v = 256 then .inr (p + k, out, true)
  else if v < 256 then (if most ≤ out.length then .inl 8 else .inr (p + k, out ++ [UInt8.ofNat v], false))
  else
   match numberF t lensB (v - 257) (p + k) with
   | .inl e => .inl e
   | .inr (q, n) =>
    match copyR t B most n q out with
    | .inl e => .inl e
    | .inr (q', out') => .inr (q', out', false)
def blockF (t : List Nat) (A B : List (List Nat)) (most : Nat) : Nat → Nat → List UInt8 → Nat ⊕ (Nat × List UInt8)
 | 0, _, _ => .inl 99
 | f + 1, p, out =>
  match blockS t A B most p out with
  | .inl e => .inl e
  | .inr (q, o, true) => .inr (q, o)
  | .inr (q, o, false) => blockF t A B most f q o
def blockL (t : List Nat) (la lb : List Nat) (how most p : Nat) (out : List UInt8) : Nat ⊕ (Nat × List UInt8) :=
 match wordsF la 0 with
 | .inl e => .inl e
 | .inr A =>
  match wordsF lb how with
  | .inl e => .inl e
  | .inr B => blockF t A B most (t.length + 1 - p) p out
def metaF (t : List Nat) : List Nat → Nat → List Nat → Nat ⊕ (Nat × List Nat)
 | [], p, lens => .inr (p, lens)
 | i :: r, p, lens => if t.length < p + 3 then .inl 2 else metaF t r (p + 3) (lens.set i (vl t p 3))
def dynamicF (t : List Nat) (most p : Nat) (out : List UInt8) : Nat ⊕ (Nat × List UInt8) :=
 if t.length < p + 14 then .inl 2
 else
  let lits := vl t p 5 + 257
  let dists := vl t (p + 5) 5 + 1
  let m := vl t (p + 10) 4 + 4
  if 286 < lits ∨ 30 < dists then .inl 3
  else
   match metaF t (orderL.take m) (p + 14) (List.replicate 19 0) with
   | .inl e => .inl e
   | .inr (q, lens) =>
    match wordsF lens 0 with
    | .inl e => .inl e
    | .inr W =>
     match lengthsF t W (lits + dists) (lits + dists + 1) [] q with
     | .inl e => .inl e
     | .inr (q', all) => if all.getD 256 0 = 0 then .inl 3 else blockL t (all.take lits) (all.drop lits) 1 most q' out
def partF (t : List Nat) (most h p : Nat) (out : List UInt8) : Nat ⊕ (Nat × List UInt8) :=
 if h = 0 then storedF t most p out else if h = 1 then blockL t fixA fixB 2 most p out else if h = 2 then dynamicF t most p out else .inl 3
def inflF (t : List Nat) (most : Nat) : Nat → Nat → List UInt8 → Nat ⊕ (Nat × List UInt8)
 | 0, _, _ => .inl 99
 | f + 1, p, out =>
  if t.length < p + 3 then .inl 2
  else
   match partF t most (vl t p 3 / 2) (p + 3) out with
   | .inl e => .inl e
   | .inr (q, out') => if vl t p 3 % 2 = 1 then .inr (q, out') else inflF t most f q out'
end Go.Proofs.YtboflbdniogcdaaGreatDoor
namespace Go.Mz
abbrev Pcl := Nat × List Nat
def pairsF : List Pcl → List Pcl
 | x :: y :: r => (x.1 + y.1, x.2 ++ y.2) :: pairsF r
 | _ => []
def mrg : List Pcl → List Pcl → List Pcl
 | [], b => b
 | a, [] => a
 | x :: a, y :: b => if x.1 ≤ y.1 then x :: mrg a (y :: b) else y :: mrg (x :: a) b
termination_by a b => a.length + b.length
def lv (S : List Pcl) : Nat → List Pcl
 | 0 => []
 | k + 1 => mrg S (pairsF (lv S k))
def Srt (l : List Pcl) : Prop := l.Pairwise (fun x y => x.1 ≤ y.1)
theorem mrg_nil (a : List Pcl) : mrg a [] = a := by cases a <;> simp [mrg]
theorem mrg_length : ∀ (a b : List Pcl), (mrg a b).length = a.length + b.length
 | [], b => by simp [mrg]
 | x :: a, [] => by simp [mrg]
 | x :: a, y :: b => by
  rw [mrg]
  split
  ·rw [List.length_cons, mrg_length a (y :: b)]; simp; omega
  ·rw [List.length_cons, mrg_length (x :: a) b]; simp; omega
termination_by a b => a.length + b.length
theorem mrg_mem : ∀ (a b : List Pcl) (z : Pcl), z ∈ mrg a b → z ∈ a ∨ z ∈ b
 | [], b, z, h => by simp [mrg] at h; exact .inr h
 | x :: a, [], z, h => by simp [mrg] at h; exact .inl (by simpa using h)
 | x :: a, y :: b, z, h => by
  rw [mrg] at h
  split at h
  ·rcases List.mem_cons.1 h with rfl | h
   ·exact .inl (by simp)
   ·rcases mrg_mem a (y :: b) z h with h | h
    ·exact .inl (by simp [h])
    ·exact .inr h
  ·rcases List.mem_cons.1 h with rfl | h
   ·exact .inr (by simp)
   ·rcases mrg_mem (x :: a) b z h with h | h
    ·exact .inl h
    ·exact .inr (by simp [h])
termination_by a b => a.length + b.length
theorem mrg_srt : ∀ (a b : List Pcl), Srt a → Srt b → Srt (mrg a b)
 | [], b, _, hb => by simpa [mrg] using hb
 | x :: a, [], ha, _ => by rw [mrg_nil]; exact ha
 | x :: a, y :: b, ha, hb => by
  have ha2 := List.pairwise_cons.1 ha
  have hb2 := List.pairwise_cons.1 hb
  rw [mrg]
  split
  ·rename_i hle
   refine List.pairwise_cons.2 ⟨fun z hz => ?_, mrg_srt a (y :: b) ha2.2 hb⟩
   rcases mrg_mem _ _ _ hz with h | h
   ·exact ha2.1 z h
   ·rcases List.mem_cons.1 h with rfl | h
    ·exact hle
    ·have := hb2.1 z h; omega
  ·rename_i hle
   refine List.pairwise_cons.2 ⟨fun z hz => ?_, mrg_srt (x :: a) b ha hb2.2⟩
   rcases mrg_mem _ _ _ hz with h | h
   ·rcases List.mem_cons.1 h with rfl | h
    ·omega
    ·have := ha2.1 z h; omega
   ·exact hb2.1 z h
termination_by a b => a.length + b.length
theorem pairsF_length : ∀ l : List Pcl, (pairsF l).length = l.length / 2
 | [] => by simp [pairsF]
 | [x] => by simp [pairsF]
 | x :: y :: r => by rw [pairsF, List.length_cons, pairsF_length r]; simp; omega
theorem pairsF_srt : ∀ l : List Pcl, Srt l → Srt (pairsF l)
 | [], _ => List.Pairwise.nil
 | [x], _ => List.Pairwise.nil
 | x :: y :: r, h => by
  have h1 := List.pairwise_cons.1 h
  have h2 := List.pairwise_cons.1 h1.2
  rw [pairsF]
  refine List.pairwise_cons.2 ⟨?_, pairsF_srt r h2.2⟩
  have key : ∀ (r : List Pcl), (∀ z ∈ r, x.1 ≤ z.1) → (∀ z ∈ r, y.1 ≤ z.1) → ∀ z ∈ pairsF r, x.1 + y.1 ≤ z.1 := by
   intro r
   induction r using pairsF.induct with
   | case1 u v r ih =>
    intro hx hy z hz
    rw [pairsF] at hz
    rcases List.mem_cons.1 hz with rfl | hz
    ·have a := hx u (by simp); have b := hy v (by simp); show x.1 + y.1 ≤ u.1 + v.1; omega
    ·exact ih (fun w hw => hx w (by simp [hw])) (fun w hw => hy w (by simp [hw])) z hz
   | case2 r hr =>
    intro _ _ z hz
    rw [pairsF] at hz
    ·simp at hz
    ·exact hr
  exact key r (fun z hz => h1.1 z (by simp [hz])) (fun z hz => h2.1 z hz)
theorem lv_srt (S : List Pcl) (h : Srt S) : ∀ k, Srt (lv S k)
 | 0 => List.Pairwise.nil
 | k + 1 => mrg_srt _ _ h (pairsF_srt _ (lv_srt S h k))
theorem mrg_take : ∀ (a b : List Pcl) (m : Nat), Srt a → Srt b → m ≤ a.length + b.length → ∃ s q, s ≤ a.length ∧ q ≤ b.length ∧ s + q = m ∧ ((mrg a b).take m).Perm (a.take s ++ b.take q) ∧
  (0 < q → ∀ j u z, a[j]? = some u → b[q - 1]? = some z → u.1 ≤ z.1 → j < s)
 | [], b, m, _, _, hm => ⟨0, m, by simp, by simpa using hm, by omega, by simp [mrg], fun _ j u z h => by simp at h⟩
 | x :: a, [], m, _, _, hm => ⟨m, 0, by simpa using hm, by simp, by omega, by simp [mrg], fun h => by omega⟩
 | x :: a, y :: b, 0, _, _, _ => ⟨0, 0, by simp, by simp, by omega, by simp, fun h => by omega⟩
 | x :: a, y :: b, m + 1, ha, hb, hm => by
  have ha2 := List.pairwise_cons.1 ha
  have hb2 := List.pairwise_cons.1 hb
  rw [mrg]
  split
  ·rename_i hle
   obtain ⟨s, q, h1, h2, h3, h4, h5⟩ := mrg_take a (y :: b) m ha2.2 hb (by simp at hm ⊢; omega)
   refine ⟨s + 1, q, by simp; omega, h2, by omega, ?_, fun hq j u z hu hz hle2 => ?_⟩
   ·rw [List.take_succ_cons, List.take_succ_cons, List.cons_append]
    exact List.Perm.cons _ h4
   ·cases j with
    | zero => omega
    | succ j => have := h5 hq j u z (by simpa using hu) hz hle2; omega
  ·rename_i hle
   obtain ⟨s, q, h1, h2, h3, h4, h5⟩ := mrg_take (x :: a) b m ha hb2.2 (by simp at hm ⊢; omega)
   refine ⟨s, q + 1, h1, by simp; omega, by omega, ?_, fun _ j u z hu hz hle2 => ?_⟩
   ·rw [List.take_succ_cons, List.take_succ_cons]
    exact (List.Perm.cons _ h4).trans List.perm_middle.symm
   ·rw [Nat.add_sub_cancel] at hz
    by_cases hq : 0 < q
    ·refine h5 hq j u z hu ?_ hle2
     obtain ⟨r, rfl⟩ : ∃ r, q = r + 1 := ⟨q - 1, by omega⟩
     simpa using hz
    ·obtain rfl : q = 0 := by omega
     simp at hz
     subst hz
     exfalso
     cases j with
     | zero => simp at hu; subst hu; omega
     | succ j =>
      have hm2 : u ∈ a := List.mem_of_getElem? (by simpa using hu)
      have := ha2.1 u hm2
      omega
termination_by a b => a.length + b.length
theorem pairsF_take : ∀ (l : List Pcl) (q : Nat), 2 * q ≤ l.length → ((pairsF l).take q).flatMap (·.2) = (l.take (2 * q)).flatMap (·.2)
 | l, 0, _ => by simp
 | [], q + 1, h => by simp at h
 | [x], q + 1, h => by simp at h; omega
 | x :: y :: r, q + 1, h => by
  rw [pairsF, List.take_succ_cons, show 2 * (q + 1) = 2 * q + 1 + 1 by omega, List.take_succ_cons, List.take_succ_cons]
  simp only [List.flatMap_cons]
  rw [pairsF_take r q (by simp at h; omega), List.append_assoc]
theorem pairsF_get : ∀ (l : List Pcl) (q : Nat) (z : Pcl), (pairsF l)[q]? = some z → ∃ u v, l[2 * q]? = some u ∧ l[2 * q + 1]? = some v ∧ z.1 = u.1 + v.1
 | [], q, z, h => by simp [pairsF] at h
 | [x], q, z, h => by simp [pairsF] at h
 | x :: y :: r, 0, z, h => by simp [pairsF] at h; subst h; exact ⟨x, y, by simp, by simp, rfl⟩
 | x :: y :: r, q + 1, z, h => by
  rw [pairsF, List.getElem?_cons_succ] at h
  obtain ⟨u, v, h1, h2, h3⟩ := pairsF_get r q z h
  exact ⟨u, v, by rw [show 2 * (q + 1) = 2 * q + 1 + 1 by omega]; simpa using h1, by rw [show 2 * (q + 1) + 1 = 2 * q + 1 + 1 + 1 by omega]; simpa using h2, h3⟩
def cho (S : List Pcl) (k m : Nat) : List Nat := ((lv S k).take m).flatMap (·.2)
def Single (S : List Pcl) (id : Nat → Nat) : Prop := Srt S ∧ (∀ j u, S[j]? = some u → u.2 = [id j]) ∧ ∀ i j, i < S.length → j < S.length → id i = id j → i = j
theorem cho_step {S : List Pcl} (hS : Srt S) (k m : Nat) (hm : m ≤ (lv S (k + 1)).length) : ∃ s q, s ≤ S.length ∧ s + q = m ∧ 2 * q ≤ (lv S k).length ∧ (cho S (k + 1) m).Perm ((S.take s).flatMap (·.2) ++ cho S k (2 * q)) ∧
  (0 < q → ∀ j u v, S[j]? = some u → v ∈ (lv S k).take (2 * q) → u.1 ≤ v.1 → j < s) := by
 rw [lv, mrg_length] at hm
 obtain ⟨s, q, h1, h2, h3, h4, h5⟩ := mrg_take S (pairsF (lv S k)) m hS (pairsF_srt _ (lv_srt S hS k)) hm
 rw [pairsF_length] at h2
 have h2q : 2 * q ≤ (lv S k).length := by omega
 refine ⟨s, q, h1, h3, h2q, ?_, fun hq j u v hu hv hle => ?_⟩
 ·rw [cho, lv]
  have := h4.flatMap_right (·.2)
  rw [List.flatMap_append, pairsF_take _ _ h2q] at this
  exact this
 ·have hq1 : q - 1 < (pairsF (lv S k)).length := by rw [pairsF_length]; omega
  obtain ⟨a, b, ha, hb, hz⟩ := pairsF_get (lv S k) (q - 1) _ (List.getElem?_eq_getElem hq1)
  refine h5 hq j u _ hu (List.getElem?_eq_getElem hq1) ?_
  have hvb : v.1 ≤ b.1 := by
   obtain ⟨i, hi, rfl⟩ := List.getElem_of_mem hv
   rw [List.length_take] at hi
   rw [List.getElem_take]
   have e : 2 * (q - 1) + 1 = 2 * q - 1 := by omega
   rw [e] at hb
   obtain ⟨hb1, hb2⟩ := List.getElem?_eq_some_iff.1 hb
   rcases Nat.lt_or_ge i (2 * q - 1) with hlt | hge
   ·have := List.pairwise_iff_getElem.1 (lv_srt S hS k) i (2 * q - 1) (by omega) hb1 hlt
    rw [hb2] at this; exact this
   ·have : i = 2 * q - 1 := by omega
    subst this
    rw [← hb2]; exact Nat.le_refl _
  omega
theorem count_take {S : List Pcl} {id : Nat → Nat} (hS : Single S id) {j : Nat} (hj : j < S.length) : ∀ s, s ≤ S.length → ((S.take s).flatMap (·.2)).count (id j) = if j < s then 1 else 0 := by
 intro s
 induction s with
 | zero => intro _; simp
 | succ s ih =>
  intro hs
  have hs1 : s < S.length := by omega
  rw [List.take_succ_eq_append_getElem hs1, List.flatMap_append, List.count_append, ih (by omega)]
  have h2 := hS.2.1 s _ (List.getElem?_eq_getElem hs1)
  simp only [List.flatMap_cons, List.flatMap_nil, List.append_nil]
  rw [h2]
  by_cases h : j = s
  ·subst h; simp
  ·have hne : ¬ id s = id j := fun e => h (hS.2.2 j s hj hs1 e.symm)
   rw [List.count_cons, List.count_nil]
   simp only [beq_iff_eq, hne, if_false]
   by_cases h3 : j < s
   ·rw [if_pos h3, if_pos (by omega)]
   ·rw [if_neg h3, if_neg (by omega)]
theorem cho_mem {S : List Pcl} {id : Nat → Nat} (hS : Single S id) {j : Nat} (hj : j < S.length) : ∀ (k m : Nat), m ≤ (lv S k).length → 0 < (cho S k m).count (id j) → ∃ v ∈ (lv S k).take m, (S[j]'hj).1 ≤ v.1 := by
 intro k
 induction k with
 | zero => intro m _ h; simp [cho, lv] at h
 | succ k ih =>
  intro m hm h
  have hmem : id j ∈ cho S (k + 1) m := List.count_pos_iff.1 h
  rw [cho, List.mem_flatMap] at hmem
  obtain ⟨v, hv, hjv⟩ := hmem
  refine ⟨v, hv, ?_⟩
  have key : ∀ k v, v ∈ lv S k → id j ∈ v.2 → (S[j]'hj).1 ≤ v.1 := by
   intro k
   induction k with
   | zero => intro v hv; simp [lv] at hv
   | succ k ihk =>
    intro v hv hjv
    rw [lv] at hv
    rcases mrg_mem _ _ _ hv with h | h
    ·obtain ⟨i, hi, rfl⟩ := List.getElem_of_mem h
     have h2 := hS.2.1 i _ (List.getElem?_eq_getElem hi)
     rw [h2] at hjv
     have e : id j = id i := by simpa using hjv
     have := hS.2.2 j i hj hi e
     subst this
     exact Nat.le_refl _
    ·obtain ⟨i, hi, rfl⟩ := List.getElem_of_mem h
     have : ∀ (l : List Pcl) (z : Pcl), z ∈ pairsF l → id j ∈ z.2 → ∃ u ∈ l, id j ∈ u.2 ∧ u.1 ≤ z.1 := by
      intro l
      induction l using pairsF.induct with
      | case1 x y r ih2 =>
       intro z hz hjz
       rw [pairsF] at hz
       rcases List.mem_cons.1 hz with rfl | hz
       ·rcases List.mem_append.1 hjz with h | h
        ·exact ⟨x, by simp, h, by show x.1 ≤ x.1 + y.1; omega⟩
        ·exact ⟨y, by simp, h, by show y.1 ≤ x.1 + y.1; omega⟩
       ·obtain ⟨u, h1, h2, h3⟩ := ih2 z hz hjz
        exact ⟨u, by simp [h1], h2, h3⟩
      | case2 r hr =>
       intro z hz
       rw [pairsF] at hz
       ·simp at hz
       ·exact hr
     obtain ⟨u, h1, h2, h3⟩ := this _ _ (List.getElem_mem hi) hjv
     have := ihk u h1 h2
     omega
  exact key (k + 1) v (List.mem_of_mem_take hv) hjv
def cnt (S : List Pcl) (id : Nat → Nat) (k m j : Nat) : Nat := (cho S k m).count (id j)
theorem cnt_step {S : List Pcl} {id : Nat → Nat} (hS : Single S id) (k m : Nat) (hm : m ≤ (lv S (k + 1)).length) : ∃ s q, s ≤ S.length ∧ s + q = m ∧ 2 * q ≤ (lv S k).length ∧
  ∀ j, j < S.length → cnt S id (k + 1) m j = (if j < s then 1 else 0) + cnt S id k (2 * q) j ∧ (s ≤ j → cnt S id k (2 * q) j = 0) := by
 obtain ⟨s, q, h1, h2, h3, h4, h5⟩ := cho_step hS.1 k m hm
 refine ⟨s, q, h1, h2, h3, fun j hj => ⟨?_, fun hsj => ?_⟩⟩
 ·rw [cnt, h4.count_eq, List.count_append, count_take hS hj s h1]; rfl
 ·rcases Nat.eq_zero_or_pos (cnt S id k (2 * q) j) with h | h
  ·exact h
  ·exfalso
   obtain ⟨v, hv, hle⟩ := cho_mem hS hj k (2 * q) h3 h
   have hq : 0 < q := by
    rcases Nat.eq_zero_or_pos q with e | e
    ·subst e; simp at hv
    ·exact e
   have := h5 hq j _ v (List.getElem?_eq_getElem hj) hv hle
   omega
def sumR (n : Nat) (f : Nat → Nat) : Nat := ((List.range n).map f).sum
theorem sumR_succ (n : Nat) (f : Nat → Nat) : sumR (n + 1) f = sumR n f + f n := by simp [sumR, List.range_succ]
theorem sumR_congr {n : Nat} {f g : Nat → Nat} (h : ∀ j, j < n → f j = g j) : sumR n f = sumR n g := by
 induction n with
 | zero => rfl
 | succ n ih => rw [sumR_succ, sumR_succ, ih (fun j hj => h j (by omega)), h n (by omega)]
theorem sumR_add (n : Nat) (f g : Nat → Nat) : sumR n (fun j => f j + g j) = sumR n f + sumR n g := by
 induction n with
 | zero => rfl
 | succ n ih => rw [sumR_succ, sumR_succ, sumR_succ, ih]; omega
theorem sumR_ind (n s c : Nat) (h : s ≤ n) : sumR n (fun j => if j < s then c else 0) = s * c := by
 induction n with
 | zero => obtain rfl : s = 0 := by omega
           simp [sumR]
 | succ n ih =>
  rw [sumR_succ]
  by_cases hs : s ≤ n
  ·rw [ih hs, if_neg (by omega)]; omega
  ·obtain rfl : s = n + 1 := by omega
   rw [if_pos (by omega), sumR_congr (g := fun _ => c) (fun j hj => if_pos (by omega))]
   clear ih h hs
   have : ∀ n, sumR n (fun _ => c) = n * c := by
    intro n
    induction n with
    | zero => simp [sumR]
    | succ n ih => rw [sumR_succ, ih, Nat.succ_mul]
   rw [this, Nat.succ_mul]
theorem deficit {S : List Pcl} {id : Nat → Nat} (hS : Single S id) : ∀ (k m : Nat), m ≤ (lv S k).length → (∀ j, j < S.length → cnt S id k m j ≤ k) ∧ 2 * sumR S.length (fun j => 2 ^ k - 2 ^ (k - cnt S id k m j)) = 2 ^ k * m := by
 intro k
 induction k with
 | zero =>
  intro m hm
  have h0 : ∀ j, cnt S id 0 m j = 0 := fun j => by simp [cnt, cho, lv]
  simp [lv] at hm
  subst hm
  refine ⟨fun j _ => by rw [h0]; exact Nat.le_refl _, ?_⟩
  rw [sumR_congr (g := fun _ => 0) (fun j _ => by rw [h0, Nat.sub_zero, Nat.sub_self])]
  have : ∀ n, sumR n (fun _ => 0) = 0 := fun n => by
   induction n with
   | zero => rfl
   | succ n ih => rw [sumR_succ, ih]
  rw [this]
 | succ k ih =>
  intro m hm
  obtain ⟨s, q, h1, h2, h3, h4⟩ := cnt_step hS k m hm
  obtain ⟨i1, i2⟩ := ih (2 * q) h3
  refine ⟨fun j hj => ?_, ?_⟩
  ·have := (h4 j hj).1; have := i1 j hj; split at * <;> omega
  ·have e : sumR S.length (fun j => 2 ^ (k + 1) - 2 ^ (k + 1 - cnt S id (k + 1) m j)) = sumR S.length (fun j => (if j < s then 2 ^ k else 0) + (2 ^ k - 2 ^ (k - cnt S id k (2 * q) j))) := by
    refine sumR_congr fun j hj => ?_
    obtain ⟨c1, c2⟩ := h4 j hj
    have hk := i1 j hj
    by_cases hjs : j < s
    ·rw [if_pos hjs] at c1 ⊢
     rw [c1, show k + 1 - (1 + cnt S id k (2 * q) j) = k - cnt S id k (2 * q) j by omega, Nat.pow_succ]
     have : 2 ^ (k - cnt S id k (2 * q) j) ≤ 2 ^ k := Nat.pow_le_pow_right (by decide) (by omega)
     omega
    ·rw [if_neg hjs] at c1 ⊢
     have := c2 (by omega)
     rw [c1, this]; simp
   rw [e, sumR_add, sumR_ind _ _ _ h1, Nat.mul_add, i2, Nat.pow_succ]
   have e2 : 2 ^ k * (2 * q) = 2 * (2 ^ k * q) := by rw [Nat.mul_left_comm]
   have e3 : 2 ^ k * 2 * m = 2 * (2 ^ k * s) + 2 * (2 ^ k * q) := by rw [← h2, Nat.mul_add, Nat.mul_comm (2 ^ k) 2, Nat.mul_assoc, Nat.mul_assoc]
   rw [e2, e3, Nat.mul_comm s]
theorem lv_len (S : List Pcl) (hn : 1 ≤ S.length) : ∀ k, 2 * S.length ≤ (lv S (k + 1)).length + 1 + (S.length - 1) / 2 ^ k := by
 intro k
 induction k with
 | zero => rw [lv, lv]; simp [pairsF, mrg_nil]; omega
 | succ k ih =>
  rw [lv, mrg_length, pairsF_length, Nat.pow_succ, ← Nat.div_div_eq_div_mul]
  omega
theorem kraft {S : List Pcl} {id : Nat → Nat} (hS : Single S id) (h2 : 2 ≤ S.length) (k : Nat) (hk : S.length ≤ 2 ^ (k + 1)) :
  2 * S.length - 2 ≤ (lv S (k + 1)).length ∧ (∀ j, j < S.length → 1 ≤ cnt S id (k + 1) (2 * S.length - 2) j ∧ cnt S id (k + 1) (2 * S.length - 2) j ≤ k + 1) ∧
  sumR S.length (fun j => 2 ^ (k + 1 - cnt S id (k + 1) (2 * S.length - 2) j)) = 2 ^ (k + 1) := by
 have hl := lv_len S (by omega) k
 have hd : (S.length - 1) / 2 ^ k < 2 := by
  rw [Nat.div_lt_iff_lt_mul (Nat.pos_of_ne_zero (by simp)), Nat.mul_comm, ← Nat.pow_succ]
  omega
 have hm : 2 * S.length - 2 ≤ (lv S (k + 1)).length := by omega
 obtain ⟨c1, c2⟩ := deficit hS (k + 1) (2 * S.length - 2) hm
 have hle : ∀ j, j < S.length → 2 ^ (k + 1 - cnt S id (k + 1) (2 * S.length - 2) j) ≤ 2 ^ (k + 1) := fun j _ => Nat.pow_le_pow_right (by decide) (by omega)
 have hsum : sumR S.length (fun j => 2 ^ (k + 1) - 2 ^ (k + 1 - cnt S id (k + 1) (2 * S.length - 2) j)) + sumR S.length (fun j => 2 ^ (k + 1 - cnt S id (k + 1) (2 * S.length - 2) j)) = S.length * 2 ^ (k + 1) := by
  rw [← sumR_add, sumR_congr (g := fun j => if j < S.length then 2 ^ (k + 1) else 0) (fun j hj => by rw [if_pos hj]; have := hle j hj; omega), sumR_ind _ _ _ (Nat.le_refl _)]
 generalize hc : cnt S id (k + 1) (2 * S.length - 2) = c at *
 have hK : sumR S.length (fun j => 2 ^ (k + 1 - c j)) = 2 ^ (k + 1) := by
  obtain ⟨n, hn⟩ : ∃ n, S.length = n + 1 := ⟨S.length - 1, by omega⟩
  rw [hn] at c2 hsum ⊢
  rw [show 2 * (n + 1) - 2 = 2 * n by omega, Nat.mul_left_comm] at c2
  rw [Nat.succ_mul, Nat.mul_comm n] at hsum
  omega
 refine ⟨hm, fun j hj => ⟨?_, c1 j hj⟩, hK⟩
 rcases Nat.eq_zero_or_pos (c j) with h0 | h0
 ·exfalso
  have split : ∀ n, (∀ i, i < n → 1 ≤ 2 ^ (k + 1 - c i)) → ∀ j, j < n → 2 ≤ n → 2 ^ (k + 1 - c j) + 1 ≤ sumR n (fun i => 2 ^ (k + 1 - c i)) := by
   intro n
   induction n with
   | zero => intro _ j hj; omega
   | succ n ih =>
    intro h1 j hj h2
    rw [sumR_succ]
    rcases Nat.lt_or_ge j n with hjn | hjn
    ·have hn := h1 n (by omega)
     have hge : 2 ^ (k + 1 - c j) ≤ sumR n (fun i => 2 ^ (k + 1 - c i)) := by
      clear ih h1 h2 hj hn
      induction n with
      | zero => omega
      | succ n ih2 =>
       rw [sumR_succ]
       rcases Nat.lt_or_ge j n with h | h
       ·exact Nat.le_trans (ih2 h) (Nat.le_add_right _ _)
       ·obtain rfl : j = n := by omega
        omega
     omega
    ·obtain rfl : j = n := by omega
     have h0 : 1 ≤ sumR j (fun i => 2 ^ (k + 1 - c i)) := by
      obtain ⟨m, rfl⟩ : ∃ m, j = m + 1 := ⟨j - 1, by omega⟩
      rw [sumR_succ]
      have := h1 m (by omega)
      omega
     omega
  have := split S.length (fun i _ => Nat.one_le_two_pow) j hj h2
  rw [hK, h0] at this
  simp at this
  omega
 ·exact h0
def insF (x : Pcl) : List Pcl → List Pcl
 | [] => [x]
 | y :: r => if x.1 ≤ y.1 then x :: y :: r else y :: insF x r
def stab (l : List Pcl) : List Pcl := l.foldr insF []
theorem insF_mem (x : Pcl) : ∀ (l : List Pcl) (z : Pcl), z ∈ insF x l ↔ z = x ∨ z ∈ l := by
 intro l
 induction l with
 | nil => intro z; simp [insF]
 | cons y r ih =>
  intro z
  rw [insF]
  split
  ·simp
  ·rw [List.mem_cons, ih, List.mem_cons]
   constructor
   ·rintro (h | h | h)
    ·exact .inr (.inl h)
    ·exact .inl h
    ·exact .inr (.inr h)
   ·rintro (h | h | h)
    ·exact .inr (.inl h)
    ·exact .inl h
    ·exact .inr (.inr h)
theorem insF_perm (x : Pcl) : ∀ l : List Pcl, (insF x l).Perm (x :: l) := by
 intro l
 induction l with
 | nil => exact List.Perm.refl _
 | cons y r ih =>
  rw [insF]
  split
  ·exact List.Perm.refl _
  ·exact (List.Perm.cons y ih).trans (List.Perm.swap x y r)
theorem insF_srt (x : Pcl) : ∀ l : List Pcl, Srt l → Srt (insF x l) := by
 intro l
 induction l with
 | nil => intro _; simp [insF, Srt]
 | cons y r ih =>
  intro h
  have h2 := List.pairwise_cons.1 h
  rw [insF]
  split
  ·rename_i hle
   refine List.pairwise_cons.2 ⟨fun z hz => ?_, h⟩
   rcases List.mem_cons.1 hz with rfl | hz
   ·exact hle
   ·have := h2.1 z hz; omega
  ·rename_i hle
   refine List.pairwise_cons.2 ⟨fun z hz => ?_, ih h2.2⟩
   rcases (insF_mem x r z).1 hz with rfl | hz
   ·omega
   ·exact h2.1 z hz
theorem stab_srt : ∀ l : List Pcl, Srt (stab l)
 | [] => List.Pairwise.nil
 | x :: l => insF_srt x _ (stab_srt l)
theorem stab_perm : ∀ l : List Pcl, (stab l).Perm l
 | [] => List.Perm.refl _
 | x :: l => (insF_perm x _).trans (List.Perm.cons x (stab_perm l))
theorem insF_filter (x : Pcl) (w : Nat) : ∀ l : List Pcl, (insF x l).filter (fun z => z.1 == w) = if x.1 = w then x :: l.filter (fun z => z.1 == w) else l.filter (fun z => z.1 == w) := by
 intro l
 induction l with
 | nil => by_cases h : x.1 = w <;> simp [insF, h]
 | cons y r ih =>
  rw [insF]
  split
  ·by_cases h : x.1 = w
   ·rw [if_pos h, List.filter_cons, if_pos (by simpa using h)]
   ·rw [if_neg h, List.filter_cons, if_neg (by simpa using h)]
  ·rename_i hle
   rw [List.filter_cons, ih, List.filter_cons (xs := r)]
   by_cases h : x.1 = w
   ·rw [if_pos h, if_pos h, if_neg (by simp; omega), if_neg (by simp; omega)]
   ·rw [if_neg h, if_neg h]
theorem stab_filter (w : Nat) : ∀ l : List Pcl, (stab l).filter (fun z => z.1 == w) = l.filter (fun z => z.1 == w)
 | [] => rfl
 | x :: l => by
  show (insF x (stab l)).filter _ = _
  rw [insF_filter, stab_filter w l, List.filter_cons]
  by_cases h : x.1 = w
  ·rw [if_pos h, if_pos (by simpa using h)]
  ·rw [if_neg h, if_neg (by simpa using h)]
theorem srt_ext : ∀ (a b : List Pcl), Srt a → Srt b → (∀ w, a.filter (fun z => z.1 == w) = b.filter (fun z => z.1 == w)) → a = b := by
 intro a
 induction a with
 | nil =>
  intro b _ _ h
  cases b with
  | nil => rfl
  | cons y b => have := h y.1; simp at this
 | cons x a ih =>
  intro b ha hb h
  cases b with
  | nil => have := h x.1; simp at this
  | cons y b =>
   have ha2 := List.pairwise_cons.1 ha
   have hb2 := List.pairwise_cons.1 hb
   have hxb : x ∈ y :: b := by
    have : x ∈ (x :: a).filter (fun z => z.1 == x.1) := by simp
    rw [h] at this
    exact (List.mem_filter.1 this).1
   have hya : y ∈ x :: a := by
    have : y ∈ (y :: b).filter (fun z => z.1 == y.1) := by simp
    rw [← h] at this
    exact (List.mem_filter.1 this).1
   have hw : x.1 = y.1 := by
    have h1 : y.1 ≤ x.1 := by
     rcases List.mem_cons.1 hxb with e | e
     ·rw [e]; exact Nat.le_refl _
     ·exact hb2.1 x e
    have h2 : x.1 ≤ y.1 := by
     rcases List.mem_cons.1 hya with e | e
     ·rw [e]; exact Nat.le_refl _
     ·exact ha2.1 y e
    omega
   have hxy : x = y := by
    have := h x.1
    rw [List.filter_cons, List.filter_cons, if_pos (by simp), if_pos (by simp [hw])] at this
    exact (List.cons.inj this).1
   subst hxy
   rw [ih b ha2.2 hb2.2 fun w => ?_]
   have := h w
   rw [List.filter_cons, List.filter_cons] at this
   by_cases hx : x.1 = w
   ·rw [if_pos (by simpa using hx), if_pos (by simpa using hx)] at this
    exact (List.cons.inj this).2
   ·rw [if_neg (by simpa using hx), if_neg (by simpa using hx)] at this
    exact this
theorem stab_of {l l' : List Pcl} (h1 : Srt l') (h2 : ∀ w, l'.filter (fun z => z.1 == w) = l.filter (fun z => z.1 == w)) : l' = stab l :=
 srt_ext _ _ h1 (stab_srt l) fun w => by rw [h2 w, stab_filter]
theorem insF_mrg (x : Pcl) : ∀ (a b : List Pcl), (∀ z ∈ a, x.1 ≤ z.1) → insF x (mrg a b) = mrg (x :: a) b := by
 intro a b
 induction b with
 | nil =>
  intro h
  rw [mrg_nil, mrg_nil]
  cases a with
  | nil => rfl
  | cons u a => rw [insF, if_pos (h u (by simp))]
 | cons y b ih =>
  intro h
  rw [mrg]
  by_cases hxy : x.1 ≤ y.1
  ·rw [if_pos hxy]
   cases a with
   | nil => simp only [mrg]; rw [insF, if_pos hxy]
   | cons u a =>
    rw [mrg]
    split
    ·rw [insF, if_pos (h u (by simp))]
    ·rw [insF, if_pos hxy]
  ·rw [if_neg hxy]
   have ih := ih h
   cases a with
   | nil =>
    simp only [mrg] at ih ⊢
    rw [insF, if_neg hxy, ih]
   | cons u a =>
    have hu := h u (by simp)
    rw [mrg, if_neg (by omega), insF, if_neg hxy, ih]
theorem stab_self : ∀ l : List Pcl, Srt l → stab l = l
 | [], _ => rfl
 | x :: l, h => by
  have h2 := List.pairwise_cons.1 h
  show insF x (stab l) = _
  rw [stab_self l h2.2]
  cases l with
  | nil => rfl
  | cons y l => rw [insF, if_pos (h2.1 y (by simp))]
theorem stab_mrg : ∀ (a b : List Pcl), Srt a → Srt b → stab (a ++ b) = mrg a b
 | [], b, _, hb => by rw [List.nil_append, stab_self b hb]; simp [mrg]
 | x :: a, b, ha, hb => by
  have h2 := List.pairwise_cons.1 ha
  show insF x (stab (a ++ b)) = _
  rw [stab_mrg a b h2.2 hb, insF_mrg x a b h2.1]
end Go.Mz
namespace Go.Mz
open Go.RowKit
set_option linter.unusedVariables false
set_option linter.unusedSimpArgs false
def krT (n x : Nat) : Nat := if 1 ≤ x ∧ x < n then 2 ^ (n - x) else 0
def krS (n : Nat) (l : List Nat) : Nat := (l.map (krT n)).sum
theorem krS_cons (n x : Nat) (l : List Nat) : krS n (x :: l) = krT n x + krS n l := by simp [krS]
theorem krS_step (n : Nat) (l : List Nat) : krS (n + 1) l = (krS n l + cntC l n) * 2 := by
 induction l with
 | nil => simp [krS, cntC]
 | cons x l ih =>
  rw [krS_cons, krS_cons, ih]
  have hc : cntC (x :: l) n = cntC l n + if 1 ≤ n ∧ x = n then 1 else 0 := by
   rw [cntC, cntC]
   by_cases h0 : n = 0
   ·rw [if_pos h0, if_pos h0, if_neg (by omega)]
   ·rw [if_neg h0, if_neg h0, List.count_cons]
    by_cases hx : x = n
    ·subst hx
     simp only [beq_self_eq_true, if_true]
     rw [if_pos (show 1 ≤ x ∧ True from ⟨by omega, trivial⟩)]
    ·simp [hx]
  rw [hc, krT, krT]
  by_cases h1 : 1 ≤ x ∧ x < n
  ·rw [if_pos h1, if_pos (by omega), if_neg (by omega), show n + 1 - x = (n - x) + 1 by omega, Nat.pow_succ]
   omega
  ·by_cases h2 : 1 ≤ n ∧ x = n
   ·obtain ⟨h2, rfl⟩ := h2
    rw [if_neg h1, if_pos (by omega), if_pos ⟨h2, rfl⟩, show x + 1 - x = 1 by omega]
    omega
   ·rw [if_neg h1, if_neg (by omega), if_neg h2]
    omega
theorem codeC_kr (l : List Nat) : ∀ n, codeC l n = krS n l := by
 intro n
 induction n with
 | zero =>
  rw [codeC]
  induction l with
  | nil => rfl
  | cons x l ih => rw [krS_cons, ← ih, krT, if_neg (by omega)]
 | succ n ih => rw [codeC, ih, krS_step]
theorem krS_up (l : List Nat) (n : Nat) : ∀ d, krS n l * 2 ^ d ≤ krS (n + d) l := by
 intro d
 induction d with
 | zero => simp
 | succ d ih =>
  rw [← Nat.add_assoc, krS_step, Nat.pow_succ, ← Nat.mul_assoc]
  exact Nat.mul_le_mul_right _ (Nat.le_trans ih (Nat.le_add_right _ _))
theorem kraft_full {l : List Nat} (h : krS 31 l = 2 ^ 31) : fullC l = true ∧ OkC l := by
 refine ⟨by rw [fullC, codeC_kr, h]; simp, fun n hn => ?_⟩
 have e : (codeC l n + cntC l n) * 2 = krS (n + 1) l := by rw [codeC_kr, krS_step]
 have h1 := krS_up l (n + 1) (30 - n)
 rw [show n + 1 + (30 - n) = 31 by omega, h, ← e, Nat.mul_assoc] at h1
 have e2 : 2 * 2 ^ (30 - n) = 2 ^ (31 - n) := by rw [Nat.mul_comm, ← Nat.pow_succ]; congr 1; omega
 rw [e2, show (2 : Nat) ^ 31 = 2 ^ n * 2 ^ (31 - n) by rw [← Nat.pow_add]; congr 1; omega] at h1
 exact Nat.le_of_mul_le_mul_right h1 (Nat.pos_of_ne_zero (by simp))
end Go.Mz
namespace Go.Mz
open Go.RowKit
set_option linter.unusedVariables false
set_option linter.unusedSimpArgs false
def sing (often : List Nat) (k : Nat) : List Pcl := ((List.range k).filter fun i => decide (0 < often.getD i 0)).map fun i => (often.getD i 0, [i])
theorem sing_succ (often : List Nat) (k : Nat) : sing often (k + 1) = sing often k ++ if 0 < often.getD k 0 then [(often.getD k 0, [k])] else [] := by
 rw [sing, List.range_succ, List.filter_append, List.map_append, sing]
 congr 1
 by_cases h : 0 < often.getD k 0
 ·rw [if_pos h, List.filter_cons, if_pos (by simpa using h)]; rfl
 ·rw [if_neg h, List.filter_cons, if_neg (by simpa using h)]; rfl
theorem sing_mem {often : List Nat} {k : Nat} {u : Pcl} (h : u ∈ sing often k) : ∃ i, i < k ∧ 0 < often.getD i 0 ∧ u = (often.getD i 0, [i]) := by
 obtain ⟨i, hi, rfl⟩ := List.mem_map.1 h
 obtain ⟨h1, h2⟩ := List.mem_filter.1 hi
 exact ⟨i, List.mem_range.1 h1, by simpa using h2, rfl⟩
theorem mem_sing {often : List Nat} {k i : Nat} (h : i < k) (h0 : 0 < often.getD i 0) : (often.getD i 0, [i]) ∈ sing often k :=
 List.mem_map.2 ⟨i, List.mem_filter.2 ⟨List.mem_range.2 h, by simpa using h0⟩, rfl⟩
def comes (often : List Nat) : Nat := (sing often often.length).length
def hd1 (u : Pcl) : Nat := u.2.headD 0
theorem sing_ids (often : List Nat) (k : Nat) : (sing often k).map hd1 = (List.range k).filter fun i => decide (0 < often.getD i 0) := by
 rw [sing, List.map_map]
 conv => rhs; rw [← List.map_id ((List.range k).filter fun i => decide (0 < often.getD i 0))]
 rfl
theorem sing_nodup (often : List Nat) (k : Nat) : ((sing often k).map hd1).Nodup := by
 rw [sing_ids]; exact List.Pairwise.filter _ List.nodup_range
def rowS (often : List Nat) : List Pcl := stab (sing often often.length)
def idS (often : List Nat) (j : Nat) : Nat := ((rowS often).map hd1).getD j 0
theorem rowS_len (often : List Nat) : (rowS often).length = comes often := (stab_perm _).length_eq
theorem rowS_mem {often : List Nat} {u : Pcl} (h : u ∈ rowS often) : ∃ i, i < often.length ∧ 0 < often.getD i 0 ∧ u = (often.getD i 0, [i]) := sing_mem ((stab_perm _).mem_iff.1 h)
theorem idS_nodup (often : List Nat) : ((rowS often).map hd1).Nodup := ((stab_perm (sing often often.length)).map hd1).nodup_iff.2 (sing_nodup _ _)
theorem rowS_single (often : List Nat) : Single (rowS often) (idS often) := by
 refine ⟨stab_srt _, fun j u hu => ?_, fun i j hi hj h => ?_⟩
 ·obtain ⟨i, h1, h2, rfl⟩ := rowS_mem (List.mem_of_getElem? hu)
  have e : ((rowS often).map hd1)[j]? = some i := by rw [List.getElem?_map, hu]; rfl
  show [i] = [((rowS often).map hd1).getD j 0]
  rw [List.getD_eq_getElem?_getD (l := (rowS often).map hd1), e]
  rfl
 ·have h1 : i < ((rowS often).map hd1).length := by rw [List.length_map]; exact hi
  have h2 : j < ((rowS often).map hd1).length := by rw [List.length_map]; exact hj
  rw [idS, idS, List.getD_eq_getElem?_getD, List.getD_eq_getElem?_getD, List.getElem?_eq_getElem h1, List.getElem?_eq_getElem h2] at h
  exact (List.getElem_inj (idS_nodup often)).1 h
theorem idS_mem {often : List Nat} {i : Nat} : i ∈ (rowS often).map hd1 ↔ i < often.length ∧ 0 < often.getD i 0 := by
 constructor
 ·intro h
  obtain ⟨u, hu, rfl⟩ := List.mem_map.1 h
  obtain ⟨i, h1, h2, rfl⟩ := rowS_mem hu
  exact ⟨h1, h2⟩
 ·rintro ⟨h1, h2⟩
  exact List.mem_map.2 ⟨_, (stab_perm _).mem_iff.2 (mem_sing h1 h2), rfl⟩
theorem idS_at {often : List Nat} {i : Nat} (h : i < often.length) (h0 : 0 < often.getD i 0) : ∃ j, j < (rowS often).length ∧ idS often j = i := by
 obtain ⟨j, hj, he⟩ := List.mem_iff_getElem.1 (idS_mem.2 ⟨h, h0⟩)
 refine ⟨j, by rw [List.length_map] at hj; exact hj, ?_⟩
 rw [idS, List.getD_eq_getElem?_getD, List.getElem?_eq_getElem hj]; exact he
theorem sum_over (g : Nat → Nat) (N : Nat) (L : List Nat) (hn : L.Nodup) (hl : ∀ i ∈ L, i < N) (h0 : ∀ i, i < N → i ∉ L → g i = 0) : ((List.range N).map g).sum = (L.map g).sum := by
 have hp : L.Perm ((List.range N).filter fun i => decide (i ∈ L)) := by
  refine (List.perm_ext_iff_of_nodup hn (List.Pairwise.filter _ List.nodup_range)).2 fun i => ?_
  rw [List.mem_filter, List.mem_range, decide_eq_true_eq]
  exact ⟨fun h => ⟨hl i h, h⟩, fun h => h.2⟩
 rw [(hp.map g).sum_nat]
 have key : ∀ M : List Nat, (∀ i ∈ M, i < N) → (M.map g).sum = ((M.filter fun i => decide (i ∈ L)).map g).sum := by
  intro M
  induction M with
  | nil => intro _; rfl
  | cons x M ih =>
   intro hM
   rw [List.map_cons, List.sum_cons, ih fun i hi => hM i (by simp [hi]), List.filter_cons]
   by_cases hx : x ∈ L
   ·rw [if_pos (by simpa using hx), List.map_cons, List.sum_cons]
   ·rw [if_neg (by simpa using hx), h0 x (hM x (by simp)) hx, Nat.zero_add]
 exact key _ fun i hi => List.mem_range.1 hi
def limC (often : List Nat) (most : Nat) : List Nat := cho (rowS often) most (2 * comes often - 2)
def limL (often : List Nat) (most : Nat) : List Nat := (List.range often.length).map fun i => (limC often most).count i
structure LimOk (often : List Nat) (most : Nat) (l : List Nat) : Prop where
 len : l.length = often.length
 pos : ∀ i, i < often.length → (0 < l.getD i 0 ↔ 0 < often.getD i 0)
 le : ∀ n ∈ l, n ≤ most
 full : 2 ≤ comes often → krS 31 l = 2 ^ 31
 one : comes often ≤ 1 → ∀ n ∈ l, n ≤ 1
theorem lv_ids {often : List Nat} : ∀ k, ∀ u ∈ lv (rowS often) k, ∀ i ∈ u.2, i < often.length ∧ 0 < often.getD i 0 := by
 intro k
 induction k with
 | zero => intro u hu; simp [lv] at hu
 | succ k ih =>
  intro u hu i hi
  rw [lv] at hu
  rcases mrg_mem _ _ _ hu with h | h
  ·obtain ⟨j, h1, h2, rfl⟩ := rowS_mem h
   simp at hi
   subst hi
   exact ⟨h1, h2⟩
  ·have key : ∀ l : List Pcl, (∀ u ∈ l, ∀ i ∈ u.2, i < often.length ∧ 0 < often.getD i 0) → ∀ u ∈ pairsF l, ∀ i ∈ u.2, i < often.length ∧ 0 < often.getD i 0 := by
    intro l
    induction l using pairsF.induct with
    | case1 x y r ih =>
     intro hl u hu i hi
     rw [pairsF] at hu
     rcases List.mem_cons.1 hu with rfl | hu
     ·rcases List.mem_append.1 hi with hi | hi
      ·exact hl x (by simp) i hi
      ·exact hl y (by simp) i hi
     ·exact ih (fun u hu => hl u (by simp [hu])) u hu i hi
    | case2 l h =>
     intro hl u hu
     rw [pairsF] at hu
     ·cases hu
     ·exact h
   exact key _ ih u h i hi
theorem limC_mem {often : List Nat} {most i : Nat} (h : i ∈ limC often most) : i < often.length ∧ 0 < often.getD i 0 := by
 obtain ⟨u, hu, hi⟩ := List.mem_flatMap.1 h
 exact lv_ids most u (List.mem_of_mem_take hu) i hi
theorem limL_get {often : List Nat} {most i : Nat} (h : i < often.length) : (limL often most).getD i 0 = (limC often most).count i := by
 rw [limL, List.getD_eq_getElem?_getD, List.getElem?_map, List.getElem?_range h]; rfl
theorem limL_ok {often : List Nat} {most : Nat} (h2 : 2 ≤ comes often) (hm : comes often ≤ 2 ^ most) (h1 : 1 ≤ most) (h30 : most ≤ 30) : LimOk often most (limL often most) := by
 obtain ⟨k, rfl⟩ : ∃ k, most = k + 1 := ⟨most - 1, by omega⟩
 have hS := rowS_single often
 have hl := rowS_len often
 obtain ⟨q1, q2, q3⟩ := kraft hS (by rw [hl]; exact h2) k (by rw [hl]; exact hm)
 rw [hl] at q1 q2 q3
 have hc : ∀ j, j < comes often → (limC often (k + 1)).count (idS often j) = cnt (rowS often) (idS often) (k + 1) (2 * comes often - 2) j := fun j hj => rfl
 refine ⟨by simp [limL], fun i hi => ?_, fun n hn => ?_, fun _ => ?_, fun h => by omega⟩
 ·rw [limL_get hi]
  constructor
  ·intro h
   exact (limC_mem (List.count_pos_iff.1 h)).2
  ·intro h
   obtain ⟨j, hj, rfl⟩ := idS_at hi h
   rw [hl] at hj
   rw [hc j hj]
   have := (q2 j hj).1
   omega
 ·obtain ⟨i, hi, rfl⟩ := List.mem_map.1 hn
  have hi := List.mem_range.1 hi
  by_cases h : 0 < often.getD i 0
  ·obtain ⟨j, hj, rfl⟩ := idS_at hi h
   rw [hl] at hj
   rw [hc j hj]
   exact (q2 j hj).2
  ·rw [List.count_eq_zero.2 fun hm => h (limC_mem hm).2]
   omega
 ·have e : krS 31 (limL often (k + 1)) = ((List.range often.length).map fun i => krT 31 ((limC often (k + 1)).count i)).sum := by
   rw [krS, limL, List.map_map]; rfl
  rw [e, sum_over (fun i => krT 31 ((limC often (k + 1)).count i)) often.length ((rowS often).map hd1) (idS_nodup often) (fun i hi => (idS_mem.1 hi).1) (fun i hi hn => by
   rw [List.count_eq_zero.2 fun hm => hn (idS_mem.2 (limC_mem hm))]; rfl)]
  have e2 : (rowS often).map hd1 = (List.range (comes often)).map (idS often) := by
   refine List.ext_getElem (by simp [hl]) fun j h1 h2 => ?_
   rw [List.getElem_map (f := idS often), List.getElem_range, idS, List.getD_eq_getElem?_getD, List.getElem?_eq_getElem h1]
   rfl
  rw [e2, List.map_map]
  have e3 : ((List.range (comes often)).map ((fun i => krT 31 ((limC often (k + 1)).count i)) ∘ idS often)).sum = sumR (comes often) fun j => 2 ^ (30 - k) * 2 ^ (k + 1 - cnt (rowS often) (idS often) (k + 1) (2 * comes often - 2) j) := by
   rw [sumR]
   congr 1
   refine List.map_congr_left fun j hj => ?_
   have hj := List.mem_range.1 hj
   obtain ⟨b1, b2⟩ := q2 j hj
   simp only [Function.comp_apply, hc j hj]
   rw [krT, if_pos (by omega), ← Nat.pow_add]
   congr 1; omega
  rw [e3]
  have e4 : ∀ (n c : Nat) (f : Nat → Nat), sumR n (fun j => c * f j) = c * sumR n f := by
   intro n c f
   induction n with
   | zero => rfl
   | succ n ih => rw [sumR_succ, sumR_succ, ih, Nat.mul_add]
  rw [e4, q3, ← Nat.pow_add]
  congr 1; omega
end Go.Mz
