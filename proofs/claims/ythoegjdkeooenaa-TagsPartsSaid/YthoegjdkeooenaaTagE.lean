/-
  Layer 23, the document: known tags, schemes, the same numbers, how many parts, sizes, samples (package mezzotintref23).
-/
import Derived.Test.YthoegjdkeooenaaTagD
namespace Go.Proofs.Ythoegjdkeooenaa
open Go.RowKit Go.Mz
set_option linter.unusedVariables false
set_option linter.unusedSimpArgs false
set_option maxRecDepth 100000

set_option maxHeartbeats 40000000 in
theorem rknown_any {w0 w : World} {F : SProp} (h : St w0 w F) (t : Nat) {j : Int} (hj : j = t) :
    Calls Try.prog 16 #[.int .i64 j] w fun r w' => r = .returned (.bool (knownL.contains t)) ∧ St w0 w' F := by
  subst hj
  have H := Lib.hid (h.lit (knownL.map fun (k : Nat) => Value.int .i64 (k : Int)).toArray 3 18 (by decide) (by decide))
  rw [← any_contains]
  obtain ⟨l, hl⟩ : ∃ l, l = knownL := ⟨_, rfl⟩
  rw [← hl]
  have HL := Lib.hid hl
  clear h hl
  go_enter Try.func16, Try.ntmps16
  go_wp2_with fail
  have HR := Lib.hid H.out.reads
  have H2 := Lib.hid H.out.right
  clear H
  simp only [knownL, List.map_cons, List.map_nil] at HR H2
  generalize w.alloc _ = w1 at *
  generalize w.heap.size = g at *
  have hlen : knownL.length = 18 := rfl
  have HRD : Hid (Reads w1 1 (.slice (some ⟨g, 0, none⟩) knownL.length 18) knownL.length (knownL.map fun (k : Nat) => Value.int .i64 (k : Int))) := HR
  clear HR
  have HC := Lib.hid (fun (k : Nat) (hk : k < 18) => (HRD.out.at_ (j := k) hk))
  rw [← HL.out] at HC hlen
  clear HRD
  go_loop [4] (fun vi => ∃ k : Nat, k ≤ 18 ∧ vi = .int .i64 k ∧ ((l.take k).any fun (k : Nat) => (k : Int) == (t : Int)) = false) (fun vi => 18 - (intOf vi).toNat)
  case atStart => exact ⟨0, by omega, rfl, rfl⟩
  case round =>
    obtain ⟨k, hk, rfl, hgood⟩ := hrel
    by_cases hkn : k < 18
    · have hkv : k < l.length := by omega
      obtain ⟨n, hn⟩ : ∃ n, l[k] = n := ⟨_, rfl⟩
      have hx := List.getElem?_eq_getElem hkv
      rw [hn] at hx
      obtain ⟨b, off, hbo, c0⟩ := HC.out k hkn
      rw [List.getElem?_map, hx] at c0
      simp only [Option.map_some, Option.some.injEq, Addr.mk.injEq, and_true] at c0 hbo
      obtain ⟨rfl, rfl⟩ := hbo
      rw [Nat.zero_add] at c0
      have hkI : (k : Int) < 18 := by omega
      have htk : l.take (k + 1) = l.take k ++ [n] := by rw [List.take_succ_eq_append_getElem hkv, hn]
      have hdrop : l = l.take k ++ n :: l.drop (k + 1) := by rw [← hn, ← List.drop_eq_getElem_cons hkv, List.take_append_drop]
      by_cases hb : (n : Int) = t
      · have hB := Lib.hid (show (l.any fun (k : Nat) => (k : Int) == (t : Int)) = true by rw [hdrop, List.any_append, List.any_cons, show ((n : Int) == (t : Int)) = true by simpa using hb]; simp)
        clear htk hdrop hgood hx hn
        obtain ⟨bb, hbb⟩ : ∃ bb, bb = (l.any fun (k : Nat) => (k : Int) == (t : Int)) := ⟨_, rfl⟩
        go_wp2_with fail
        go_ret
        exact ⟨by rw [hB.out]; rfl, H2.out⟩
      · have hg2 := Lib.hid (show ((l.take (k + 1)).any fun (k : Nat) => (k : Int) == (t : Int)) = false by rw [htk, List.any_append, hgood, List.any_cons, show ((n : Int) == (t : Int)) = false by simpa using hb]; rfl)
        clear htk hdrop hgood hx hn
        go_wp2_with fail
        exact ⟨⟨k + 1, by omega, by go_num, hg2.out⟩, by simp [intOf]; omega⟩
    · obtain rfl : k = 18 := by omega
      have hB := Lib.hid (show (l.any fun (k : Nat) => (k : Int) == (t : Int)) = false by rw [List.take_of_length_le (by omega)] at hgood; exact hgood)
      clear hgood
      go_wp2_with fail
      go_ret
      exact ⟨by rw [hB.out]; rfl, H2.out⟩
theorem rscheme_any (n : Int) (w : World) : Calls Try.prog 18 #[.int .i64 n] w fun r w' => r = .returned (.bool (schemeI n)) ∧ w' = w := by
  have hs : schemeI n = (n == 1 || n == 2 || n == 3 || n == 4 || n == 5 || n == 8 || n == 32773 || n == 32946) := by
    unfold schemeI schemeL; rw [Bool.eq_iff_iff]; simp; omega
  by_cases h1 : 1 ≤ n ∧ n ≤ 5
  · have : schemeI n = true := by rw [hs]; simp; omega
    rw [this]
    obtain ⟨a1, a2⟩ := h1
    clear this hs
    go_enter Try.func18, Try.ntmps18
    go_wp2_with fail
    go_ret
    exact ⟨rfl, rfl⟩
  · have h2 : schemeI n = (n == 8 || n == 32773 || n == 32946) := by rw [hs, Bool.eq_iff_iff]; simp; omega
    rw [h2]
    by_cases h3 : n = 8
    · subst h3
      go_enter Try.func18, Try.ntmps18
      go_wp2_with fail
      go_ret
      exact ⟨rfl, rfl⟩
    by_cases h4 : n = 32773
    · subst h4
      go_enter Try.func18, Try.ntmps18
      go_wp2_with fail
      go_ret
      exact ⟨rfl, rfl⟩
    by_cases h1a : 1 ≤ n
    · have h5 : ¬ n ≤ 5 := by omega
      clear h1 hs h2
      go_enter Try.func18, Try.ntmps18
      go_wp2_with fail
      go_ret
      exact ⟨congrArg (fun b => Ending.returned (.bool b)) (by simp [h3, h4]), rfl⟩
    · clear h1 hs h2
      go_enter Try.func18, Try.ntmps18
      go_wp2_with fail
      go_ret
      exact ⟨congrArg (fun b => Ending.returned (.bool b)) (by simp [h3, h4]), rfl⟩

set_option maxHeartbeats 40000000 in
theorem rsame_any {w : World} {va vb : Value} {la lb : List Nat} (ha : Reads w 1 va la.length (la.map u64v)) (hb : Reads w 1 vb lb.length (lb.map u64v)) (hl : la.length ≤ 100000000) :
    Calls Try.prog 34 #[va, vb] w fun r w' => r = .returned (.bool (la == lb)) ∧ ∃ m, w' = w.drewN m := by
  obtain ⟨aa, ca, rfl⟩ := ha.sub
  obtain ⟨ab, cb, rfl⟩ := hb.sub
  have HA := Lib.hid ha; have HB := Lib.hid hb
  clear ha hb
  by_cases hne : la.length = lb.length
  · have HN := Lib.hid hne
    obtain ⟨n, hn⟩ : ∃ n, la.length = n := ⟨_, rfl⟩
    have HNA := Lib.hid hn
    have HNB := Lib.hid (hne.symm.trans hn)
    obtain ⟨bb, hbb⟩ : ∃ bb, bb = (la == lb) := ⟨_, rfl⟩
    rw [← hbb]
    have HBB := Lib.hid hbb
    rw [hn] at HA hl ⊢
    rw [← hne, hn] at HB ⊢
    clear hne hn hbb
    go_enter Try.func34, Try.ntmps34
    go_wp2_with fail
    go_loopw [5] (fun vi wr => ∃ k m : Nat, k ≤ n ∧ vi = .int .i64 k ∧ wr = w.drewN m ∧ la.take k = lb.take k) (fun vi _ => n - (intOf vi).toNat)
    case atStart => exact ⟨0, 0, by omega, rfl, rfl, rfl⟩
    case round =>
      obtain ⟨k, m, hk, rfl, rfl, heq⟩ := hrel
      by_cases hkn : k < n
      · have hka : k < la.length := by rw [HNA.out]; exact hkn
        have hkb : k < lb.length := by rw [HNB.out]; exact hkn
        obtain ⟨ba, oa, rfl, ca0⟩ := HA.out.at_ hkn
        obtain ⟨bb2, ob, rfl, cb0⟩ := HB.out.at_ hkn
        rw [List.getElem?_map, List.getElem?_eq_getElem hka] at ca0
        rw [List.getElem?_map, List.getElem?_eq_getElem hkb] at cb0
        have hta : la.take (k + 1) = la.take k ++ [la[k]] := List.take_succ_eq_append_getElem hka
        have htb : lb.take (k + 1) = lb.take k ++ [lb[k]] := List.take_succ_eq_append_getElem hkb
        have hga := List.getElem?_eq_getElem hka
        have hgb := List.getElem?_eq_getElem hkb
        obtain ⟨x, hx⟩ : ∃ x, la[k] = x := ⟨_, rfl⟩
        obtain ⟨y, hy⟩ : ∃ y, lb[k] = y := ⟨_, rfl⟩
        rw [hx] at ca0 hta hga
        rw [hy] at cb0 htb hgb
        simp only [Option.map_some, u64v] at ca0 cb0
        have hkI : (k : Int) < n := by omega
        clear hx hy hka hkb
        by_cases hxy : x = y
        · subst hxy
          have HT := Lib.hid (show la.take (k + 1) = lb.take (k + 1) by rw [hta, htb, heq])
          clear hta htb hga hgb heq
          go_wp2_with fail
          go_quiet (fail)
          go_wp2_with fail
          exact ⟨⟨k + 1, m + nq, by omega, by go_num, (by first | rfl | exact World.drewN_drewN _ _ _), HT.out⟩, by simp [intOf]; omega⟩
        · have hI : ¬ ((x : Int) = y) := by omega
          obtain rfl : bb = false := by
            rw [HBB.out, beq_eq_false_iff_ne]
            rintro rfl
            rw [hga] at hgb
            exact hxy (by simpa using hgb)
          clear hta htb hga hgb heq
          go_wp2_with fail
          go_quiet (fail)
          go_wp2_with fail
          go_ret
          exact ⟨rfl, m + nq, (by first | rfl | exact World.drewN_drewN _ _ _)⟩
      · obtain rfl : k = n := by omega
        have hkI : ¬ ((k : Int) < k) := by omega
        obtain rfl : bb = true := by
          rw [List.take_of_length_le (by rw [HNA.out]; exact Nat.le_refl _), List.take_of_length_le (by rw [HNB.out]; exact Nat.le_refl _)] at heq
          rw [HBB.out, heq]; simp
        clear heq
        go_wp2_with fail
        go_ret
        exact ⟨rfl, m, rfl⟩
  · have hI : ¬ ((la.length : Int) = lb.length) := by omega
    rw [show (la == lb) = false by rw [beq_eq_false_iff_ne]; rintro rfl; exact hne rfl]
    go_enter Try.func34, Try.ntmps34
    go_wp2_with fail
    go_ret
    exact ⟨rfl, 0, rfl⟩

set_option maxHeartbeats 40000000 in
theorem rsame21_any {w : World} {va vb : Value} {la lb : List Nat} (ha : Reads w 1 va la.length (la.map u64v)) (hb : Reads w 1 vb lb.length (lb.map u64v)) (hl : la.length ≤ 100000000) :
    Calls Try.prog 44 #[va, vb] w fun r w' => r = .returned (.bool (la == lb)) ∧ ∃ m, w' = w.drewN m := by
  obtain ⟨aa, ca, rfl⟩ := ha.sub
  obtain ⟨ab, cb, rfl⟩ := hb.sub
  have HA := Lib.hid ha; have HB := Lib.hid hb
  clear ha hb
  by_cases hne : la.length = lb.length
  · have HN := Lib.hid hne
    obtain ⟨n, hn⟩ : ∃ n, la.length = n := ⟨_, rfl⟩
    have HNA := Lib.hid hn
    have HNB := Lib.hid (hne.symm.trans hn)
    obtain ⟨bb, hbb⟩ : ∃ bb, bb = (la == lb) := ⟨_, rfl⟩
    rw [← hbb]
    have HBB := Lib.hid hbb
    rw [hn] at HA hl ⊢
    rw [← hne, hn] at HB ⊢
    clear hne hn hbb
    go_enter Try.func44, Try.ntmps44
    go_wp2_with fail
    go_loopw [5] (fun vi wr => ∃ k m : Nat, k ≤ n ∧ vi = .int .i64 k ∧ wr = w.drewN m ∧ la.take k = lb.take k) (fun vi _ => n - (intOf vi).toNat)
    case atStart => exact ⟨0, 0, by omega, rfl, rfl, rfl⟩
    case round =>
      obtain ⟨k, m, hk, rfl, rfl, heq⟩ := hrel
      by_cases hkn : k < n
      · have hka : k < la.length := by rw [HNA.out]; exact hkn
        have hkb : k < lb.length := by rw [HNB.out]; exact hkn
        obtain ⟨ba, oa, rfl, ca0⟩ := HA.out.at_ hkn
        obtain ⟨bb2, ob, rfl, cb0⟩ := HB.out.at_ hkn
        rw [List.getElem?_map, List.getElem?_eq_getElem hka] at ca0
        rw [List.getElem?_map, List.getElem?_eq_getElem hkb] at cb0
        have hta : la.take (k + 1) = la.take k ++ [la[k]] := List.take_succ_eq_append_getElem hka
        have htb : lb.take (k + 1) = lb.take k ++ [lb[k]] := List.take_succ_eq_append_getElem hkb
        have hga := List.getElem?_eq_getElem hka
        have hgb := List.getElem?_eq_getElem hkb
        obtain ⟨x, hx⟩ : ∃ x, la[k] = x := ⟨_, rfl⟩
        obtain ⟨y, hy⟩ : ∃ y, lb[k] = y := ⟨_, rfl⟩
        rw [hx] at ca0 hta hga
        rw [hy] at cb0 htb hgb
        simp only [Option.map_some, u64v] at ca0 cb0
        have hkI : (k : Int) < n := by omega
        clear hx hy hka hkb
        by_cases hxy : x = y
        · subst hxy
          have HT := Lib.hid (show la.take (k + 1) = lb.take (k + 1) by rw [hta, htb, heq])
          clear hta htb hga hgb heq
          go_wp2_with fail
          go_quiet (fail)
          go_wp2_with fail
          exact ⟨⟨k + 1, m + nq, by omega, by go_num, (by first | rfl | exact World.drewN_drewN _ _ _), HT.out⟩, by simp [intOf]; omega⟩
        · have hI : ¬ ((x : Int) = y) := by omega
          obtain rfl : bb = false := by
            rw [HBB.out, beq_eq_false_iff_ne]
            rintro rfl
            rw [hga] at hgb
            exact hxy (by simpa using hgb)
          clear hta htb hga hgb heq
          go_wp2_with fail
          go_quiet (fail)
          go_wp2_with fail
          go_ret
          exact ⟨rfl, m + nq, (by first | rfl | exact World.drewN_drewN _ _ _)⟩
      · obtain rfl : k = n := by omega
        have hkI : ¬ ((k : Int) < k) := by omega
        obtain rfl : bb = true := by
          rw [List.take_of_length_le (by rw [HNA.out]; exact Nat.le_refl _), List.take_of_length_le (by rw [HNB.out]; exact Nat.le_refl _)] at heq
          rw [HBB.out, heq]; simp
        clear heq
        go_wp2_with fail
        go_ret
        exact ⟨rfl, m, rfl⟩
  · have hI : ¬ ((la.length : Int) = lb.length) := by omega
    rw [show (la == lb) = false by rw [beq_eq_false_iff_ne]; rintro rfl; exact hne rfl]
    go_enter Try.func44, Try.ntmps44
    go_wp2_with fail
    go_ret
    exact ⟨rfl, 0, rfl⟩

end Go.Proofs.Ythoegjdkeooenaa
