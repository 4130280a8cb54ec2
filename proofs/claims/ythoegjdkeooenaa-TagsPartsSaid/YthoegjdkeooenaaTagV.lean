/-
  Layer 23: bits and has of the table of fields; which tags and schemes there are; slices.Clone.
-/
import Derived.Test.YthoegjdkeooenaaTagU
namespace Go.Proofs.Ythoegjdkeooenaa
open Go.RowKit Go.Mz
set_option linter.unusedVariables false
set_option linter.unusedSimpArgs false
set_option maxRecDepth 100000

theorem enters_fn {P : Program} {f : FuncId} {fn : Func} {c : Code} (hf : P.funcs[f]? = some fn) (hname : (fn.name == "runtime.NumGoroutine") = false) (hb : fn.body = some c) (args : Array Value) (w : World) : (callFunc f args).run P w = .ok (.enter f args) w := by
  have h1 : fn.name ≠ "runtime.NumGoroutine" := by simpa using hname
  simp [callFunc, hf, h1, hb, mark]

set_option maxHeartbeats 40000000 in
theorem bits_any {w0 w : World} {F : SProp} {g e : Nat} {v : Value} {L : List FV} (h : St w0 w (tbl g v e * F)) (hv : Stb w0 F (fun w => FldsR w v L)) (hL : L.length ≤ 1000000) (per : Nat) (hper : per ≤ 1000000) (hp1 : 1 ≤ per) {j : Int} (hj : j = per) :
    Calls Try.prog 26 #[.pointer (some ⟨g, 0, none⟩), .int .i64 j] w fun r w' => r = .returned (.int .i64 (bitsV (fl L) per : Nat)) ∧ St w0 w' (tbl g v (orE e (bitsE (fl L) per)) * F) := by
  subst hj
  have HVA := Lib.hid (values_any h hv hL 258 (j := 258) rfl)
  have HFL := Lib.hid (fun (w : World) (e : Nat) (h : St w0 w (tbl g v e * F)) (x : Nat) => fail_any h x rfl)
  rcases values_cases L 258 with ⟨_, e1, e2, e3, e4⟩ | ⟨x, _, _, hw, e1, e2, e3, e4⟩ | ⟨x, _, hx, hw, e1, e2, e3, e4⟩
  · have o1 : bitsV (fl L) per = 1 := by rw [bitsV, e4]
    have o2 : bitsE (fl L) per = 0 := by rw [bitsE, e4]
    rw [o1, o2]
    rw [e1, e2, e3] at HVA
    clear e1 e2 e3 e4 o1 o2 h hv
    go_enter Try.func26, Try.ntmps26
    go_wp2_with (first | (go_at_call 48; refine HVA.out.mono ?_; rintro e w1 ⟨rfl, h1⟩; have H1 := Lib.hid h1; clear h1))
    go_ret
    exact ⟨rfl, H1.out⟩
  · have o1 : bitsV (fl L) per = 1 := by rw [bitsV, e4]; simp [hw]
    have o2 : bitsE (fl L) per = 3 := by rw [bitsE, e4]; simp [hw]
    rw [o1, o2]
    rw [e1, e2, e3] at HVA
    clear e1 e2 e3 e4 o1 o2 h hv
    go_enter Try.func26, Try.ntmps26
    go_wp2_with (first | (go_at_call 48; refine HVA.out.mono ?_; rintro e w1 ⟨rfl, h1⟩; have H1 := Lib.hid h1; clear h1))
    go_ret
    exact ⟨rfl, H1.out⟩
  · obtain ⟨ao, co, hos⟩ := ((hv w h.right).vals _ hx).sub
    have HV := Lib.hid (fun w h => (hv w h).vals _ hx)
    obtain ⟨ov, o⟩ := x
    simp only at hos e1 e4 hw HV
    subst hos
    rw [e1, e2, e3, orE_nil] at HVA
    obtain ⟨vs, hvs⟩ : ∃ vs, o.vals = vs := ⟨_, rfl⟩
    rw [hvs] at HVA HV e1
    have o1 : bitsV (fl L) per = if (vs.length == per && !badB vs) = true then vs.headD 0 else 1 := by rw [bitsV, e4]; simp [hw, hvs]
    have o2 : bitsE (fl L) per = if vs.length = per then (if badB vs then 9 else 0) else 3 := by rw [bitsE, e4]; simp [hw, hvs]
    rw [o1, o2]
    clear o1 o2 e4 hw hvs e1 e2 e3
    by_cases hl : vs.length = per
    · have hlI : (vs.length : Int) = per := by omega
      have hvl : vs.length ≤ 1000000 := by omega
      obtain ⟨rv, hrv⟩ : ∃ rv, rv = (if (vs.length == per && !badB vs) = true then vs.headD 0 else 1) := ⟨_, rfl⟩
      obtain ⟨re, hre⟩ : ∃ re, re = (if vs.length = per then (if badB vs then 9 else 0) else 3) := ⟨_, rfl⟩
      rw [← hrv, ← hre]
      rw [if_pos hl] at hre
      rw [show (vs.length == per) = true by simpa using hl, Bool.true_and] at hrv
      obtain ⟨m, hm⟩ : ∃ m, vs.headD 0 = m := ⟨_, rfl⟩
      have hm0 : vs[0]? = some m := by
        cases vs with
        | nil => simp at hl; omega
        | cons a r => simpa using hm
      rw [hm] at hrv
      have hbad : badB vs = vs.any fun n => n != m || decide (n < 1) || decide (32 < n) := by rw [badB, hm]
      have HR := Lib.hid (And.intro hrv hre)
      have HBAD := Lib.hid hbad
      have hv0 : 0 < vs.length := by omega
      obtain ⟨nn, hnn⟩ : ∃ nn, vs.length = nn := ⟨_, rfl⟩
      have HNN := Lib.hid hnn
      rw [hnn] at HVA hlI hvl hv0
      rw [hnn] at HV
      clear hrv hre hbad hl h hv hx hm hnn
      go_enter Try.func26, Try.ntmps26
      go_wp2_with (first | (go_at_call 48; apply stop))
      refine on (HVA.out.mono ?_)
      rintro e w1 ⟨rfl, h1⟩
      obtain ⟨b, off, rfl, c0⟩ := (HV.out w1 h1.right).at_ (j := 0) hv0
      rw [List.getElem?_map, hm0] at c0
      have c0 : w1.cell? ⟨b, off, none⟩ = some (.int .u64 (m : Int)) := c0
      have HC := Lib.hid (fun (k n : Nat) (hk : vs[k]? = some n) => (by
        obtain ⟨b', off', e, c⟩ := (HV.out w1 h1.right).at_ (j := k) (by rw [← HNN.out]; exact (List.getElem?_eq_some_iff.1 hk).1)
        cases e
        rw [List.getElem?_map, hk] at c
        exact c : w1.cell? ⟨b, off + k, none⟩ = some (.int .u64 (n : Int))))
      have H1 := Lib.hid h1
      clear h1 HVA HV
      have HM0 := Lib.hid hm0
      clear hm0
      go_wp2_with fail
      go_loop [26] (fun vi => ∃ k : Nat, k ≤ nn ∧ vi = .int .i64 k ∧ (vs.take k).any (fun n => n != m || decide (n < 1) || decide (32 < n)) = false) (fun vi => nn - (intOf vi).toNat)
      case atStart => exact ⟨0, by omega, rfl, rfl⟩
      case round =>
        obtain ⟨k, hk, rfl, hgood⟩ := hrel
        by_cases hkn : k < nn
        · have hkv : k < vs.length := by rw [HNN.out]; exact hkn
          have hx := List.getElem?_eq_getElem hkv
          obtain ⟨n, hn⟩ : ∃ n, vs[k] = n := ⟨_, rfl⟩
          rw [hn] at hx
          have ck := HC.out k n hx
          have hkI : (k : Int) < nn := by omega
          have htk : vs.take (k + 1) = vs.take k ++ [n] := by rw [List.take_succ_eq_append_getElem hkv, hn]
          have hdrop : vs = vs.take k ++ n :: vs.drop (k + 1) := by rw [← hn, ← List.drop_eq_getElem_cons hkv, List.take_append_drop]
          by_cases hb : (n != m || decide (n < 1) || decide (32 < n)) = true
          · have hB : badB vs = true := by rw [HBAD.out, hdrop, List.any_append, List.any_cons, hb]; simp
            have hrv : rv = 1 := by rw [HR.out.1, hB]; rfl
            have hre : re = 9 := by rw [HR.out.2, hB]; rfl
            subst hrv hre
            clear hB htk hdrop hgood hx hn
            by_cases hnm : n = m
            · subst hnm
              by_cases hn1 : n < 1
              · have hn1I : (n : Int) < 1 := by omega
                clear hb
                go_wp2_with (first | (go_at_call 25; refine (HFL.out _ _ H1.out 9).mono ?_; rintro e w2 ⟨rfl, h2⟩; have H2 := Lib.hid h2; clear h2))
                go_ret
                exact ⟨rfl, H2.out⟩
              · have hn1I : ¬ (n : Int) < 1 := by omega
                have hn2 : (32 : Int) < n := by simp at hb; omega
                clear hb
                go_wp2_with (first | (go_at_call 25; refine (HFL.out _ _ H1.out 9).mono ?_; rintro e w2 ⟨rfl, h2⟩; have H2 := Lib.hid h2; clear h2))
                go_ret
                exact ⟨rfl, H2.out⟩
            · have hnmI : ¬ (n : Int) = m := by omega
              clear hb
              go_wp2_with (first | (go_at_call 25; refine (HFL.out _ _ H1.out 9).mono ?_; rintro e w2 ⟨rfl, h2⟩; have H2 := Lib.hid h2; clear h2))
              go_ret
              exact ⟨rfl, H2.out⟩
          · have hb : (n != m || decide (n < 1) || decide (32 < n)) = false := by simpa using hb
            have hg2 : (vs.take (k + 1)).any (fun n => n != m || decide (n < 1) || decide (32 < n)) = false := by rw [htk, List.any_append, hgood, List.any_cons, hb]; rfl
            have HG := Lib.hid hg2
            simp only [Bool.or_eq_false_iff, bne_eq_false_iff_eq, decide_eq_false_iff_not] at hb
            obtain ⟨⟨rfl, hn1⟩, hn2⟩ := hb
            have hn1I : ¬ (n : Int) < 1 := by omega
            have hn2I : ¬ (32 : Int) < n := by omega
            clear hgood hg2 htk hdrop hx hn
            go_wp2_with fail
            exact ⟨⟨k + 1, by omega, by go_num, HG.out⟩, by simp [intOf]; omega⟩
        · obtain rfl : k = nn := by omega
          rw [← HNN.out, List.take_length] at hgood
          have hB : badB vs = false := by rw [HBAD.out]; exact hgood
          have hrv : rv = m := by rw [HR.out.1, hB]; rfl
          have hre : re = 0 := by rw [HR.out.2, hB]; rfl
          have hm32 : m ≤ 32 := by
            rw [List.any_eq_false] at hgood
            have := hgood m (List.mem_of_getElem? HM0.out)
            simp at this
            omega
          subst hrv hre
          clear hB hgood
          go_wp2_with fail
          go_ret
          exact ⟨rfl, by rw [orE_nil]; exact H1.out⟩
    · rw [if_neg hl, show (vs.length == per) = false by simpa using hl, Bool.false_and, if_neg (by decide)]
      have hlI : ¬ ((vs.length : Int) = per) := by omega
      generalize vs.length = nn at *
      clear HV hl h hv hx
      go_enter Try.func26, Try.ntmps26
      go_wp2_with (first | (go_at_call 25; refine (HFL.out _ _ H1.out 3).mono ?_; rintro e w2 ⟨rfl, h2⟩; have H2 := Lib.hid h2; clear h2) | (go_at_call 48; refine HVA.out.mono ?_; rintro e w1 ⟨rfl, h1⟩; have H1 := Lib.hid h1; clear h1))
      go_ret
      exact ⟨rfl, H2.out⟩

theorem index_u16 {w : World} {v : Value} {l : List Nat} (hv : Reads w 1 v l.length (l.map fun (k : Nat) => Value.int .u16 (k : Int))) (hl : l.length ≤ 1000) (x : Int) :
    Calls Try.prog 60 #[v, .int .u16 x] w fun r w' => (∃ i : Int, r = .returned (.int .i64 i) ∧ decide (0 ≤ i) = (l.any fun (k : Nat) => (k : Int) == x)) ∧ w' = w := by
  obtain ⟨a, cap, rfl⟩ := hv.sub
  have HV := Lib.hid hv
  clear hv
  obtain ⟨nn, hnn⟩ : ∃ nn, l.length = nn := ⟨_, rfl⟩
  have HNN := Lib.hid hnn
  rw [hnn] at hl HV ⊢
  clear hnn
  go_enter Try.func60, Try.ntmps60
  go_wp2_with fail
  go_loop [8] (fun vi => ∃ k : Nat, k ≤ nn ∧ vi = .int .i64 k ∧ ((l.take k).any fun (k : Nat) => (k : Int) == x) = false) (fun vi => nn - (intOf vi).toNat)
  case atStart => exact ⟨0, by omega, rfl, rfl⟩
  case round =>
    obtain ⟨k, hk, rfl, hgood⟩ := hrel
    by_cases hkn : k < nn
    · have hkv : k < l.length := by rw [HNN.out]; exact hkn
      obtain ⟨n, hn⟩ : ∃ n, l[k] = n := ⟨_, rfl⟩
      have hx := List.getElem?_eq_getElem hkv
      rw [hn] at hx
      obtain ⟨b, off, rfl, c0⟩ := HV.out.at_ hkn
      rw [List.getElem?_map, hx] at c0
      simp only [Option.map_some] at c0
      have hkI : (k : Int) < nn := by omega
      have htk : l.take (k + 1) = l.take k ++ [n] := by rw [List.take_succ_eq_append_getElem hkv, hn]
      have hdrop : l = l.take k ++ n :: l.drop (k + 1) := by rw [← hn, ← List.drop_eq_getElem_cons hkv, List.take_append_drop]
      by_cases hb : (n : Int) = x
      · have hB := Lib.hid (show (l.any fun (k : Nat) => (k : Int) == x) = true by rw [hdrop, List.any_append, List.any_cons, show ((n : Int) == x) = true by simpa using hb]; simp)
        subst hb
        clear htk hdrop hgood hx hn
        go_wp2_with fail
        go_ret
        exact ⟨⟨k, rfl, by rw [hB.out]; simp⟩, rfl⟩
      · have hb2 : ¬ x = (n : Int) := fun h => hb h.symm
        have hg2 := Lib.hid (show ((l.take (k + 1)).any fun (k : Nat) => (k : Int) == x) = false by rw [htk, List.any_append, hgood, List.any_cons, show ((n : Int) == x) = false by simpa using hb]; rfl)
        clear htk hdrop hgood hx hn
        go_wp2_with fail
        exact ⟨⟨k + 1, by omega, by go_num, hg2.out⟩, by simp [intOf]; omega⟩
    · obtain rfl : k = nn := by omega
      have hB := Lib.hid (show (l.any fun (k : Nat) => (k : Int) == x) = false by rw [← HNN.out, List.take_length] at hgood; exact hgood)
      clear hgood
      go_wp2_with fail
      go_ret
      exact ⟨⟨-1, rfl, by rw [hB.out]; rfl⟩, rfl⟩
theorem contains_u16 {w : World} {v : Value} {l : List Nat} (hv : Reads w 1 v l.length (l.map fun (k : Nat) => Value.int .u16 (k : Int))) (hl : l.length ≤ 1000) (x : Int) :
    Calls Try.prog 46 #[v, .int .u16 x] w fun r w' => r = .returned (.bool (l.any fun (k : Nat) => (k : Int) == x)) ∧ w' = w := by
  have HI := Lib.hid (index_u16 hv hl x)
  obtain ⟨a, cap, rfl⟩ := hv.sub
  obtain ⟨bb, hbb⟩ : ∃ bb, bb = (l.any fun (k : Nat) => (k : Int) == x) := ⟨_, rfl⟩
  rw [← hbb] at HI ⊢
  clear hbb hv
  go_enter Try.func46, Try.ntmps46
  go_wp2_with (go_at_call 60; apply stop)
  refine on (HI.out.mono ?_)
  rintro e w1 ⟨⟨i, rfl, hi⟩, rfl⟩
  have HI2 := Lib.hid hi
  clear hi
  go_wp2_with fail
  go_ret
  exact ⟨congrArg (fun b => Ending.returned (.bool b)) HI2.out, rfl⟩

theorem index_int {w : World} {v : Value} {l : List Nat} (hv : Reads w 1 v l.length (l.map fun (k : Nat) => Value.int .i64 (k : Int))) (hl : l.length ≤ 1000) (x : Int) :
    Calls Try.prog 61 #[v, .int .i64 x] w fun r w' => (∃ i : Int, r = .returned (.int .i64 i) ∧ decide (0 ≤ i) = (l.any fun (k : Nat) => (k : Int) == x)) ∧ w' = w := by
  obtain ⟨a, cap, rfl⟩ := hv.sub
  have HV := Lib.hid hv
  clear hv
  obtain ⟨nn, hnn⟩ : ∃ nn, l.length = nn := ⟨_, rfl⟩
  have HNN := Lib.hid hnn
  rw [hnn] at hl HV ⊢
  clear hnn
  go_enter Try.func61, Try.ntmps61
  go_wp2_with fail
  go_loop [8] (fun vi => ∃ k : Nat, k ≤ nn ∧ vi = .int .i64 k ∧ ((l.take k).any fun (k : Nat) => (k : Int) == x) = false) (fun vi => nn - (intOf vi).toNat)
  case atStart => exact ⟨0, by omega, rfl, rfl⟩
  case round =>
    obtain ⟨k, hk, rfl, hgood⟩ := hrel
    by_cases hkn : k < nn
    · have hkv : k < l.length := by rw [HNN.out]; exact hkn
      obtain ⟨n, hn⟩ : ∃ n, l[k] = n := ⟨_, rfl⟩
      have hx := List.getElem?_eq_getElem hkv
      rw [hn] at hx
      obtain ⟨b, off, rfl, c0⟩ := HV.out.at_ hkn
      rw [List.getElem?_map, hx] at c0
      simp only [Option.map_some] at c0
      have hkI : (k : Int) < nn := by omega
      have htk : l.take (k + 1) = l.take k ++ [n] := by rw [List.take_succ_eq_append_getElem hkv, hn]
      have hdrop : l = l.take k ++ n :: l.drop (k + 1) := by rw [← hn, ← List.drop_eq_getElem_cons hkv, List.take_append_drop]
      by_cases hb : (n : Int) = x
      · have hB := Lib.hid (show (l.any fun (k : Nat) => (k : Int) == x) = true by rw [hdrop, List.any_append, List.any_cons, show ((n : Int) == x) = true by simpa using hb]; simp)
        subst hb
        clear htk hdrop hgood hx hn
        go_wp2_with fail
        go_ret
        exact ⟨⟨k, rfl, by rw [hB.out]; simp⟩, rfl⟩
      · have hb2 : ¬ x = (n : Int) := fun h => hb h.symm
        have hg2 := Lib.hid (show ((l.take (k + 1)).any fun (k : Nat) => (k : Int) == x) = false by rw [htk, List.any_append, hgood, List.any_cons, show ((n : Int) == x) = false by simpa using hb]; rfl)
        clear htk hdrop hgood hx hn
        go_wp2_with fail
        exact ⟨⟨k + 1, by omega, by go_num, hg2.out⟩, by simp [intOf]; omega⟩
    · obtain rfl : k = nn := by omega
      have hB := Lib.hid (show (l.any fun (k : Nat) => (k : Int) == x) = false by rw [← HNN.out, List.take_length] at hgood; exact hgood)
      clear hgood
      go_wp2_with fail
      go_ret
      exact ⟨⟨-1, rfl, by rw [hB.out]; rfl⟩, rfl⟩
theorem contains_int {w : World} {v : Value} {l : List Nat} (hv : Reads w 1 v l.length (l.map fun (k : Nat) => Value.int .i64 (k : Int))) (hl : l.length ≤ 1000) (x : Int) :
    Calls Try.prog 47 #[v, .int .i64 x] w fun r w' => r = .returned (.bool (l.any fun (k : Nat) => (k : Int) == x)) ∧ w' = w := by
  have HI := Lib.hid (index_int hv hl x)
  obtain ⟨a, cap, rfl⟩ := hv.sub
  obtain ⟨bb, hbb⟩ : ∃ bb, bb = (l.any fun (k : Nat) => (k : Int) == x) := ⟨_, rfl⟩
  rw [← hbb] at HI ⊢
  clear hbb hv
  go_enter Try.func47, Try.ntmps47
  go_wp2_with (go_at_call 61; apply stop)
  refine on (HI.out.mono ?_)
  rintro e w1 ⟨⟨i, rfl, hi⟩, rfl⟩
  have HI2 := Lib.hid hi
  clear hi
  go_wp2_with fail
  go_ret
  exact ⟨congrArg (fun b => Ending.returned (.bool b)) HI2.out, rfl⟩

theorem any_contains (l : List Nat) (t : Nat) : (l.any fun (k : Nat) => (k : Int) == (t : Int)) = l.contains t := by
  induction l with
  | nil => rfl
  | cons a l ih =>
    rw [List.any_cons, List.contains_cons, ih]
    congr 1
    rw [Bool.eq_iff_iff]; simp; omega
def schemeI (n : Int) : Bool := schemeL.any fun (k : Nat) => (k : Int) == n
theorem known_any {w0 w : World} {F : SProp} (h : St w0 w F) (t : Nat) {j : Int} (hj : j = t) :
    Calls Try.prog 15 #[.int .u16 j] w fun r w' => r = .returned (.bool (knownL.contains t)) ∧ St w0 w' F := by
  subst hj
  have H := Lib.hid (h.lit (knownL.map fun (k : Nat) => Value.int .u16 (k : Int)).toArray 43 18 (by decide) (by decide))
  rw [← any_contains]
  clear h
  go_enter Try.func15, Try.ntmps15
  go_wp2_with (first | (go_at_call 46; refine (contains_u16 (l := knownL) H.out.reads (by decide) t).mono ?_; rintro e w1 ⟨rfl, rfl⟩))
  go_ret
  exact ⟨rfl, H.out.right⟩
theorem scheme_any {w0 w : World} {F : SProp} (h : St w0 w F) (n : Int) :
    Calls Try.prog 17 #[.int .i64 n] w fun r w' => r = .returned (.bool (schemeI n)) ∧ St w0 w' F := by
  have H := Lib.hid (h.lit (schemeL.map fun (k : Nat) => Value.int .i64 (k : Int)).toArray 3 8 (by decide) (by decide))
  clear h
  go_enter Try.func17, Try.ntmps17
  go_wp2_with (first | (go_at_call 47; refine (contains_int (l := schemeL) H.out.reads (by decide) n).mono ?_; rintro e w1 ⟨rfl, rfl⟩))
  go_ret
  exact ⟨rfl, H.out.right⟩
theorem fax_any (n : Int) (w : World) : Calls Try.prog 19 #[.int .i64 n] w fun r w' => r = .returned (.bool (faxN n)) ∧ w' = w := by
  by_cases h2 : n = 2
  · subst h2; go_enter Try.func19, Try.ntmps19; go_wp2_with fail; go_ret; exact ⟨rfl, rfl⟩
  by_cases h3 : n = 3
  · subst h3; go_enter Try.func19, Try.ntmps19; go_wp2_with fail; go_ret; exact ⟨rfl, rfl⟩
  go_enter Try.func19, Try.ntmps19
  go_wp2_with fail
  go_ret
  exact ⟨by simp [faxN, h2, h3], rfl⟩
theorem predicts_any (n b : Int) (w : World) : Calls Try.prog 49 #[.int .i64 n, .int .i64 b] w fun r w' => r = .returned (.bool (predB n b)) ∧ w' = w := by
  have key : ∀ bb, predB n b = bb → Calls Try.prog 49 #[.int .i64 n, .int .i64 b] w fun r w' => r = .returned (.bool bb) ∧ w' = w := by
    intro bb hbb
    have HB := Lib.hid hbb
    clear hbb
    by_cases hn : n = 5 ∨ n = 8 ∨ n = 32946
    · by_cases hb : b = 8 ∨ b = 16 ∨ b = 32
      · obtain rfl : bb = true := by rw [← HB.out]; rcases hn with rfl | rfl | rfl <;> rcases hb with rfl | rfl | rfl <;> rfl
        rcases hn with rfl | rfl | rfl <;> rcases hb with rfl | rfl | rfl
        all_goals
          go_enter Try.func49, Try.ntmps49
          go_wp2_with fail
          go_ret
          exact ⟨rfl, rfl⟩
      · simp only [not_or] at hb
        obtain ⟨b1, b2, b3⟩ := hb
        obtain rfl : bb = false := by rw [← HB.out]; simp [predB, b1, b2, b3]
        have HF := Lib.hid (show (b == 8 || b == 16 || b == 32) = false by simp [b1, b2, b3])
        rcases hn with rfl | rfl | rfl
        all_goals
          go_enter Try.func49, Try.ntmps49
          go_wp2_with fail
          go_ret
          exact ⟨congrArg (fun b => Ending.returned (.bool b)) HF.out, rfl⟩
    · simp only [not_or] at hn
      obtain ⟨b1, b2, b3⟩ := hn
      obtain rfl : bb = false := by rw [← HB.out]; simp [predB, b1, b2, b3]
      go_enter Try.func49, Try.ntmps49
      go_wp2_with fail
      go_ret
      exact ⟨rfl, rfl⟩
  exact key _ rfl
theorem elemU64 : ElemT Try.prog 28 27 1 8 (.int .u64 0) :=
  ⟨Try.underlying28, info_parts (by kernel_rfl), rfl, by decide⟩
theorem u64_one (l : List Nat) : ∀ u ∈ l.map u64v, u.oneCell' = true := by
  intro u hu; obtain ⟨k, _, rfl⟩ := List.mem_map.1 hu; rfl
theorem clone_any {w0 w : World} {F : SProp} (h : St w0 w F) {v : Value} {l : List Nat} (hv : Stb w0 F (fun w => Reads w 1 v l.length (l.map u64v))) (hl : l.length ≤ 10000000) :
    Calls Try.prog 29 #[v] w fun r w' => ∃ v', r = .returned v' ∧ St w0 w' (own 27 1 v' l.length (l.map u64v) * F) := by
  have T := elemU64
  obtain ⟨hlx, hx⟩ := hv w h
  rcases hx with ⟨rfl, hl0⟩ | ⟨x, cap, rfl, h1, h2, h3⟩
  · have H := Lib.hid (h.own_nil 27 1)
    have hnil : l = [] := List.eq_nil_of_length_eq_zero hl0
    subst hnil
    clear h hv
    have hq : (binOp .eql 28 (.slice none 0 0) (.slice none 0 0)).run Try.prog w = .ok (.bool true) w := by kernel_rfl
    go_enter Try.func29, Try.ntmps29
    go_wp2_with fail
    go_ret
    exact ⟨_, rfl, H.out⟩
  · have hA := h.lit #[] 27 0 rfl (Nat.zero_le _)
    have HA := Lib.hid hA
    have HR := Lib.hid (hv _ hA.right)
    have hq : (binOp .eql 28 (.slice (some x) l.length cap) (.slice none 0 0)).run Try.prog w = .ok (.bool false) w := by
      have := run_equal_slice_nil (P := Try.prog) w 28 27 (some x) l.length cap Try.underlying28
      simp [binOp, this]
    clear h hv hA hlx h1 h2 h3
    go_enter Try.func29, Try.ntmps29
    go_wp2_with (at_builtin; apply stop)
    refine on (wpList_append_sep T rfl _ _ rfl rfl HA.out rfl HR.out (u64_one l) (by unfold maxLen; omega) (by omega) ?_)
    intro v7 w7 h7 _
    rw [Nat.zero_add] at h7
    have H7 := Lib.hid h7
    obtain ⟨a7, c7, rfl⟩ := h7.reads.sub
    clear h7
    go_wp2_with fail
    go_ret
    exact ⟨_, rfl, H7.out⟩
end Go.Proofs.Ythoegjdkeooenaa
