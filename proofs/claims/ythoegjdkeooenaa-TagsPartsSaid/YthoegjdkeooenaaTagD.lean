/-
  Layer 23, the document: fields by their tags, need, one, known tags, schemes (package mezzotintref23).
-/
import Derived.Test.YthoegjdkeooenaaTagZ
namespace Go.Proofs.Ythoegjdkeooenaa
open Go.RowKit Go.Mz
set_option linter.unusedVariables false
set_option linter.unusedSimpArgs false
set_option maxRecDepth 100000

/-- Where the first field with a tag is. -/
def findR (L : List FV) (t : Nat) (i : Int) : Prop := match findV L t with
  | none => i = -1
  | some x => ∃ k : Nat, i = k ∧ k < L.length ∧ L[k]? = some x
set_option maxHeartbeats 40000000 in
theorem rfind_any {w : World} {v : Value} {L : List FV} (hv : FldsR w v L) (hL : L.length ≤ 1000000) (hT : ∀ x ∈ L, x.2.tag < 65536) (t : Nat) {j : Int} (hj : j = t) :
    Calls Try.prog 53 #[v, .int .i64 j] w fun r w' => (∃ i : Int, r = .returned (.int .i64 i) ∧ findR L t i) ∧ w' = w := by
  subst hj
  obtain ⟨a, cap, rfl⟩ := hv.row.sub
  have HV := Lib.hid hv; clear hv
  go_enter Try.func53, Try.ntmps53
  go_wp2_with fail
  go_loop [5] (fun vi => ∃ k : Nat, k ≤ L.length ∧ vi = .int .i64 k ∧ findV L t = findV (L.drop k) t) (fun vi => L.length - (intOf vi).toNat)
  case atStart => exact ⟨0, by omega, rfl, rfl⟩
  case round =>
    obtain ⟨k, hk, rfl, hfd⟩ := hrel
    by_cases hkn : k < L.length
    · have hx := List.getElem?_eq_getElem hkn
      obtain ⟨b, off, rfl, c0, c1, c2⟩ := reads_fld HV.out.row hx
      have hd : L.drop k = L[k] :: L.drop (k + 1) := List.drop_eq_getElem_cons hkn
      have hkI : (k : Int) < L.length := by omega
      have htg := hT _ (List.getElem_mem hkn)
      rw [hd] at hfd
      clear hd
      generalize L[k] = o at *
      by_cases ht : o.2.tag = t
      · have htI : (o.2.tag : Int) = t := by omega
        have HF := Lib.hid (show findR L t (k : Nat) by rw [findR, hfd, findV_hit ht]; exact ⟨k, rfl, hkn, hx⟩)
        clear hfd hx
        go_wp2_with fail
        go_ret
        exact ⟨⟨k, rfl, HF.out⟩, rfl⟩
      · have htI : ¬ ((o.2.tag : Int) = t) := by omega
        have HFD := Lib.hid (hfd.trans (findV_miss ht))
        clear hfd hx
        go_wp2_with fail
        exact ⟨⟨k + 1, by omega, by go_num, HFD.out⟩, by simp [intOf]; omega⟩
    · obtain rfl : k = L.length := by omega
      have hkI : ¬ ((L.length : Int) < L.length) := by omega
      have HF := Lib.hid (show findR L t (-1) by rw [findR, hfd, List.drop_length]; rfl)
      clear hfd
      go_wp2_with fail
      go_ret
      exact ⟨⟨-1, rfl, HF.out⟩, rfl⟩
theorem rwhole_any (k : Int) (w : World) : Calls Try.prog 64 #[.int .i64 k] w fun e w' => e = .returned (.bool (wholeK k)) ∧ w' = w := by
  by_cases h1 : k = 1
  · subst h1; go_enter Try.func64, Try.ntmps64; go_wp2_with fail; go_ret; exact ⟨rfl, rfl⟩
  by_cases h2 : k = 3
  · subst h2; go_enter Try.func64, Try.ntmps64; go_wp2_with fail; go_ret; exact ⟨rfl, rfl⟩
  by_cases h3 : k = 4
  · subst h3; go_enter Try.func64, Try.ntmps64; go_wp2_with fail; go_ret; exact ⟨rfl, rfl⟩
  by_cases h4 : k = 13
  · subst h4; go_enter Try.func64, Try.ntmps64; go_wp2_with fail; go_ret; exact ⟨rfl, rfl⟩
  by_cases h5 : k = 16
  · subst h5; go_enter Try.func64, Try.ntmps64; go_wp2_with fail; go_ret; exact ⟨rfl, rfl⟩
  go_enter Try.func64, Try.ntmps64
  go_wp2_with fail
  go_ret
  exact ⟨congrArg (fun b => Ending.returned (.bool b)) (by simp [wholeK, *]), rfl⟩
theorem needE_cases (L : List FV) (t : Nat) : needE (fl L) t = match findV L t with
  | none => 12
  | some x => if wholeK x.2.kind then 0 else 3 := by
  rw [needE, findV_snd]; cases findV L t <;> rfl
set_option maxHeartbeats 40000000 in
theorem rneed_any {w : World} {v : Value} {L : List FV} (hv : FldsR w v L) (hL : L.length ≤ 1000000) (hT : ∀ x ∈ L, x.2.tag < 65536) (t : Nat) {j : Int} (hj : j = t) :
    Calls Try.prog 51 #[v, .int .i64 j] w fun r w' => r = .returned (.tuple #[valuesV L t, .int .i64 (needE (fl L) t : Nat)]) ∧ w' = w := by
  subst hj
  have HF := Lib.hid (rfind_any hv hL hT t rfl)
  obtain ⟨a, cap, rfl⟩ := hv.row.sub
  have HV := Lib.hid hv; clear hv
  obtain ⟨rv, hrv⟩ : ∃ rv, rv = valuesV L t := ⟨_, rfl⟩
  obtain ⟨re, hre⟩ : ∃ re, re = needE (fl L) t := ⟨_, rfl⟩
  rw [← hrv, ← hre]
  rw [needE_cases] at hre
  rw [valuesV] at hrv
  have HR := Lib.hid (And.intro hrv hre); clear hrv hre
  go_enter Try.func51, Try.ntmps51
  go_wp2_with (go_at_call 53; apply stop)
  refine on (HF.out.mono ?_)
  rintro r w' ⟨⟨i, rfl, hi⟩, rfl⟩
  rw [findR] at hi
  have hR := HR.out
  cases hf : findV L t with
  | none =>
    rw [hf] at hi hR
    simp only at hi hR
    obtain ⟨rfl, rfl⟩ := hR
    subst hi
    clear hf
    go_wp2_with fail
    go_ret2
    exact ⟨rfl, rfl⟩
  | some x =>
    rw [hf] at hi hR
    simp only at hi hR
    obtain ⟨k, rfl, hk, hx⟩ := hi
    obtain ⟨b, off, rfl, c0, c1, c2⟩ := reads_fld HV.out.row hx
    obtain ⟨ao, co, hos⟩ := (HV.out.vals _ (List.mem_of_getElem? hx)).sub
    have hkI : (k : Int) < L.length := by omega
    have hk0 : ¬ (k : Int) < 0 := by omega
    obtain ⟨ov, o⟩ := x
    simp only at hos hR c1 c2
    subst hos
    have HW := Lib.hid (fun w => rwhole_any o.kind w)
    clear hf hx
    cases hw : wholeK o.kind
    · rw [hw] at hR HW
      obtain ⟨rfl, rfl⟩ : rv = .slice none 0 0 ∧ re = 3 := by simpa using hR
      clear hR hw
      go_wp2_with (go_at_call 64; refine (HW.out _).mono ?_; rintro r w2 ⟨rfl, rfl⟩)
      go_ret2
      exact ⟨rfl, rfl⟩
    · rw [hw] at hR HW
      obtain ⟨rfl, rfl⟩ : rv = .slice ao o.vals.length co ∧ re = 0 := by simpa using hR
      clear hR hw
      go_wp2_with (go_at_call 64; refine (HW.out _).mono ?_; rintro r w2 ⟨rfl, rfl⟩)
      go_ret2
      exact ⟨rfl, rfl⟩
/-- The number that 'one' gives: none beside an error. -/
def oneR (l : List Fld) (t least most without : Nat) : Nat := if oneE l t least most = 0 then oneV l t least most without else 0
set_option maxHeartbeats 40000000 in
theorem rone_any {w : World} {v : Value} {L : List FV} (hv : FldsR w v L) (hL : L.length ≤ 1000000) (hT : ∀ x ∈ L, x.2.tag < 65536) (t least most without : Nat) {j jl jm jw : Int} (hj : j = t) (hjl : jl = least) (hjm : jm = most) (hjw : jw = without) :
    Calls Try.prog 52 #[v, .int .i64 j, .int .u64 jl, .int .u64 jm, .int .u64 jw] w fun r w' => r = .returned (.tuple #[.int .u64 (oneR (fl L) t least most without : Nat), .int .i64 (oneE (fl L) t least most : Nat)]) ∧ w' = w := by
  subst hj hjl hjm hjw
  have HF := Lib.hid (rfind_any hv hL hT t rfl)
  have HN := Lib.hid (rneed_any hv hL hT t rfl)
  have HV := Lib.hid hv
  obtain ⟨a, cap, rfl⟩ := hv.row.sub
  clear hv
  rcases values_cases L t with ⟨e0, e1, e2, e3, e4⟩ | ⟨x, e0, hx, hw, e1, e2, e3, e4⟩ | ⟨x, e0, hx, hw, e1, e2, e3, e4⟩
  · have o2 : oneE (fl L) t least most = 0 := by rw [oneE, e4]
    have o1 : oneR (fl L) t least most without = without := by rw [oneR, o2, if_pos rfl, oneV, e4]
    rw [o1, o2]
    have HE := Lib.hid e0
    clear e0 e1 e2 e3 e4 o1 o2 HN
    go_enter Try.func52, Try.ntmps52
    go_wp2_with (go_at_call 53; apply stop)
    refine on (HF.out.mono ?_)
    rintro r w' ⟨⟨i, rfl, hi⟩, rfl⟩
    rw [findR, HE.out] at hi
    subst hi
    go_wp2_with fail
    go_ret2
    exact ⟨rfl, rfl⟩
  · have o2 : oneE (fl L) t least most = 3 := by rw [oneE, e4]; simp [hw]
    have o1 : oneR (fl L) t least most without = 0 := by rw [oneR, o2]; rfl
    have o3 : needE (fl L) t = 3 := by rw [needE, e4]; simp [hw]
    rw [o1, o2]
    rw [e1, o3] at HN
    have HE := Lib.hid e0
    clear e0 e1 e2 e3 e4 o1 o2 o3 hx hw
    go_enter Try.func52, Try.ntmps52
    go_wp2_with (go_at_call 53; apply stop)
    refine on (HF.out.mono ?_)
    rintro r w' ⟨⟨i, rfl, hi⟩, rfl⟩
    rw [findR, HE.out] at hi
    obtain ⟨k, rfl, hk, hxk⟩ := hi
    have hk0 : ¬ (k : Int) < 0 := by omega
    clear hxk
    go_wp2_with (go_at_call 51; refine HN.out.mono ?_; rintro r w2 ⟨rfl, rfl⟩)
    go_ret2
    exact ⟨rfl, rfl⟩
  · have hvr := HV.out.vals x hx
    obtain ⟨ao, co, hos⟩ := hvr.sub
    obtain ⟨ov, o⟩ := x
    simp only at hos e1 e4 hw hvr
    subst hos
    have o3 : needE (fl L) t = 0 := by rw [needE, e4]; simp [hw]
    rw [e1, o3] at HN
    obtain ⟨rv, hrv⟩ : ∃ rv, rv = oneR (fl L) t least most without := ⟨_, rfl⟩
    obtain ⟨re, hre⟩ : ∃ re, re = oneE (fl L) t least most := ⟨_, rfl⟩
    rw [← hrv, ← hre]
    have o2 : re = if fitsV least most o.vals then 0 else 3 := by rw [hre, oneE, e4]; simp [hw]
    have o1 : rv = if fitsV least most o.vals then o.vals.headD 0 else 0 := by
      rw [hrv, oneR, ← hre, o2, oneV, e4]; simp only [hw, Bool.true_and]
      cases fitsV least most o.vals <;> rfl
    have HO := Lib.hid (And.intro o1 o2)
    have HVR := Lib.hid hvr
    have HE := Lib.hid e0
    clear e0 e1 e2 e3 e4 o1 o2 o3 hx hw hrv hre hvr
    generalize o.vals = vs at *
    go_enter Try.func52, Try.ntmps52
    go_wp2_with (go_at_call 53; apply stop)
    refine on (HF.out.mono ?_)
    rintro r w' ⟨⟨i, rfl, hi⟩, rfl⟩
    rw [findR, HE.out] at hi
    obtain ⟨k, rfl, hk, hxk⟩ := hi
    have hk0 : ¬ (k : Int) < 0 := by omega
    clear hxk
    by_cases h1 : vs.length = 1
    · obtain ⟨n, rfl⟩ : ∃ n, vs = [n] := List.length_eq_one_iff.1 h1
      obtain ⟨b, off, rfl, c0⟩ := HVR.out.at_ (j := 0) (Nat.one_pos)
      have c0 : w'.cell? ⟨b, off, none⟩ = some (.int .u64 (n : Int)) := c0
      have hf : fitsV least most [n] = (decide (least ≤ n) && decide (n ≤ most)) := rfl
      have ho := HO.out
      rw [hf] at ho
      simp only [List.length_cons, List.length_nil, Nat.zero_add] at HN
      clear hf h1
      by_cases hl : n < least
      · have hlI : (n : Int) < least := by omega
        rw [show (decide (least ≤ n) && decide (n ≤ most)) = false by simp; omega] at ho
        obtain ⟨rfl, rfl⟩ := ho
        go_wp2_with (go_at_call 51; refine HN.out.mono ?_; rintro r w2 ⟨rfl, rfl⟩)
        go_ret2
        exact ⟨rfl, rfl⟩
      · have hlI : ¬ (n : Int) < least := by omega
        by_cases hm : most < n
        · have hmI : (most : Int) < n := by omega
          rw [show (decide (least ≤ n) && decide (n ≤ most)) = false by simp; omega] at ho
          obtain ⟨rfl, rfl⟩ := ho
          go_wp2_with (go_at_call 51; refine HN.out.mono ?_; rintro r w2 ⟨rfl, rfl⟩)
          go_ret2
          exact ⟨rfl, rfl⟩
        · have hmI : ¬ (most : Int) < n := by omega
          rw [show (decide (least ≤ n) && decide (n ≤ most)) = true by simp; omega] at ho
          obtain ⟨rfl, rfl⟩ := ho
          go_wp2_with (go_at_call 51; refine HN.out.mono ?_; rintro r w2 ⟨rfl, rfl⟩)
          go_ret2
          exact ⟨rfl, rfl⟩
    · have hf : fitsV least most vs = false := by
        unfold fitsV
        rw [show (vs.length == 1) = false by simpa using h1]; rfl
      have ho := HO.out
      rw [hf] at ho
      obtain ⟨rfl, rfl⟩ := ho
      have hlI : ¬ ((vs.length : Int) = 1) := by omega
      generalize vs.length = nn at *
      clear hf h1
      go_wp2_with (go_at_call 51; refine HN.out.mono ?_; rintro r w2 ⟨rfl, rfl⟩)
      go_ret2
      exact ⟨rfl, rfl⟩
end Go.Proofs.Ythoegjdkeooenaa
