/-
  Layer 23: the same fields (package mezzotintref22); pages as they come in; the fields that tell of any page (TagsFields).
-/
import Derived.Test.YthoegjdkeooenaaTagAb
import Derived.Deep.QuietTactic
import Derived.BigQuiet
namespace Go.Proofs.Ythoegjdkeooenaa
open Go.RowKit Go.Mz Go.ChangeShapes
set_option linter.unusedVariables false
set_option linter.unusedSimpArgs false
set_option maxRecDepth 100000

set_option maxHeartbeats 40000000 in
theorem same22_any {w0 w : World} {F : SProp} (h : St w0 w F) {va vb : Value} {R S : List FV} (hA : Stb w0 F (fun w => FldsR w va R)) (hB : Stb w0 F (fun w => FldsR w vb S)) (hRS : fl R = fl S) (hlr : R.length ≤ 100000) (hlv : ∀ y ∈ R, y.2.vals.length ≤ 1000000) :
    Calls Try.prog 13 #[va, vb] w fun r w' => r = .returned (.bool true) ∧ St w0 w' F := by
  obtain ⟨aa, ca, rfl⟩ := (hA w h).row.sub
  obtain ⟨ab, cb, rfl⟩ := (hB w h).row.sub
  have hn : S.length = R.length := by have := congrArg List.length hRS; rw [fl, fl, List.length_map, List.length_map] at this; exact this.symm
  have HA := Lib.hid hA; have HB := Lib.hid hB; have H := Lib.hid h; have HRS := Lib.hid hRS; have HLV := Lib.hid hlv
  clear hA hB h hRS hlv
  obtain ⟨nr, hnr⟩ : ∃ nr, R.length = nr := ⟨_, rfl⟩
  rw [hn, hnr] at HB
  rw [hnr] at HA hlr
  rw [hn, hnr]
  have HRL := Lib.hid hnr; have HSL := Lib.hid (hn.trans hnr)
  clear hn hnr
  go_enter Try.func13, Try.ntmps13
  go_wp2_with fail
  go_loopw [5] (fun vi wr => ∃ (k : Nat), k ≤ nr ∧ vi = .int .i64 k ∧ St w0 wr F) (fun vi _ => nr - (intOf vi).toNat)
  case atStart => exact ⟨0, by omega, rfl, H.out⟩
  case round =>
    clear H
    obtain ⟨k, hk, rfl, hst⟩ := hrel
    have HF := Lib.hid hst
    clear hst
    by_cases hkn : k < nr
    · have hkI : (k : Int) < nr := by omega
      have hkR : k < R.length := by rw [HRL.out]; exact hkn
      have hkS : k < S.length := by rw [HSL.out]; exact hkn
      have hxR := List.getElem?_eq_getElem hkR
      have hxS := List.getElem?_eq_getElem hkS
      have hmR := List.getElem_mem hkR
      have hmS := List.getElem_mem hkS
      have hoo : R[k].2 = S[k].2 := by
        have h1 : (fl R)[k]? = (fl S)[k]? := by rw [HRS.out]
        rw [List.getElem?_map, List.getElem?_map, hxR, hxS] at h1
        simpa using h1
      have hRr := HA.out _ HF.out
      have hSr := HB.out _ HF.out
      have hRw := hRr.row
      have hSw := hSr.row
      rw [HRL.out] at hRw
      rw [HSL.out] at hSw
      obtain ⟨b1', o1', rfl, x0, x1, x2⟩ := reads_fld hRw hxR
      obtain ⟨b2', o2', rfl, y0, y1, y2⟩ := reads_fld hSw hxS
      obtain ⟨av, cv, hav⟩ := (hRr.vals _ hmR).sub
      obtain ⟨bv', dv, hbv⟩ := (hSr.vals _ hmS).sub
      have HVA := Lib.hid (fun (W : World) (h : St w0 W F) => (HA.out _ h).vals _ hmR)
      have HVB := Lib.hid (fun (W : World) (h : St w0 W F) => (HB.out _ h).vals _ hmS)
      have hvl := HLV.out _ hmR
      generalize R[k] = r1 at *
      generalize S[k] = s1 at *
      obtain ⟨rv, o⟩ := r1
      obtain ⟨sv, o'⟩ := s1
      simp only at hav hbv hoo x0 x1 x2 y0 y1 y2 hvl
      subst hoo hav hbv
      have hvv : (o.vals == o.vals) = true := by simp
      have HSV := Lib.hid (fun (W : World) (h : St w0 W F) => (by have := rsame21_any (HVA.out _ h) (HVB.out _ h) (Nat.le_trans hvl (by decide)); simp only at this; rw [hvv] at this; exact this : Calls Try.prog 44 #[.slice av o.vals.length cv, .slice bv' o.vals.length dv] W fun r w' => r = .returned (.bool true) ∧ ∃ m, w' = W.drewN m))
      have ht : ((o.tag : Int) != (o.tag : Int)) = false := by simp
      have hkd : (o.kind != o.kind) = false := by simp
      clear hxR hxS hmR hmS hvv hvl HVA HVB hRr hSr hRw hSw hkR hkS
      go_wp2_with fail
      go_quiet (first | (go_at_call 44; exact Calls.quiet_of (HSV.out _ (HF.out.drewN _))))
      go_wp2_with fail
      exact ⟨⟨k + 1, by omega, by go_num, HF.out.drewN _⟩, by simp [intOf]; omega⟩
    · obtain rfl : k = nr := by omega
      have hkI : ¬ ((k : Int) < k) := by omega
      go_wp2_with fail
      go_ret
      exact ⟨rfl, HF.out⟩
end Go.Proofs.Ythoegjdkeooenaa
