/-
  Layer 14 (mh): widths, and changes, that can't be, and what is nil.
-/
import Derived.Test.YtljdohfdafnnaaaDoorMhR
namespace Go.Proofs.YtljdohfdafnnaaaDoor
open Go.RowKit Go.Mz
set_option linter.unusedVariables false
set_option linter.unusedSimpArgs false
set_option maxRecDepth 100000

def okW (width : Int) : Prop := 1 ≤ width ∧ width ≤ 32768

theorem lengths_bad {w : World} {l : List Int} {v : Value} {width : Int} (hr : Reads w 1 v l.length (l.map iv)) (hw : okW width) (hb : rightI (-1) width l = false) :
    Calls Tryd.prog 43 #[v, .int .i64 width] w fun e w' => e = .returned (.tuple #[.slice none 0 0, .int .i64 1]) ∧ w' = w := by
  have HR := Lib.hid (right_any width hr)
  rw [hb] at HR
  have h1 : ¬ width < 0 := by have := hw.1; omega
  have h2 : ¬ 32768 < width := by have := hw.2; omega
  clear hb hw
  go_enter Tryd.func43, Tryd.ntmps43
  go_wp2_with fail
  refine HR.out.mono ?_
  rintro e w2 ⟨rfl, rfl⟩
  go_wp2_with fail
  go_ret2
  exact ⟨rfl, rfl⟩
theorem writeRow_nilw {w : World} (x v : Value) (width : Int) :
    Calls Tryd.prog 18 #[.pointer none, x, v, .int .i64 width] w fun e w' => e = .returned (.int .i64 1) ∧ w' = w := by
  go_enter Tryd.func18, Tryd.ntmps18
  go_wp2_with fail
  go_ret
  exact ⟨rfl, rfl⟩
theorem writeRow_nilc {w : World} (Wb : Nat) (v : Value) (width : Int) :
    Calls Tryd.prog 18 #[.pointer (some ⟨Wb, 0, none⟩), .pointer none, v, .int .i64 width] w fun e w' => e = .returned (.int .i64 1) ∧ w' = w := by
  go_enter Tryd.func18, Tryd.ntmps18
  go_wp2_with fail
  go_ret
  exact ⟨rfl, rfl⟩
theorem fits_no (w : World) {width : Int} (h : ¬ okW width) : Calls Tryd.prog 34 #[.int .i64 width] w fun e w' => e = .returned (.bool false) ∧ w' = w := by
  have := fits_any w width
  rw [decide_eq_false (show ¬ (1 ≤ width ∧ width ≤ 32768) from h)] at this
  exact this
theorem fits_yes (w : World) {width : Int} (h : okW width) : Calls Tryd.prog 34 #[.int .i64 width] w fun e w' => e = .returned (.bool true) ∧ w' = w := by
  have := fits_any w width
  rw [decide_eq_true (show 1 ≤ width ∧ width ≤ 32768 from h)] at this
  exact this
theorem writeRow_wide {w : World} (Wb C : Nat) (v : Value) {width : Int} (h : ¬ okW width) :
    Calls Tryd.prog 18 #[.pointer (some ⟨Wb, 0, none⟩), .pointer (some ⟨C, 0, none⟩), v, .int .i64 width] w fun e w' => e = .returned (.int .i64 1) ∧ w' = w := by
  have HF := Lib.hid (fun w => fits_no w h)
  clear h
  go_enter Tryd.func18, Tryd.ntmps18
  go_wp2_with fail
  refine (HF.out _).mono ?_
  rintro e w2 ⟨rfl, rfl⟩
  go_wp2_with fail
  go_ret
  exact ⟨rfl, rfl⟩
theorem writeRow_wrong {w : World} (Wb C : Nat) {l : List Int} {v : Value} {width : Int} (hr : Reads w 1 v l.length (l.map iv)) (hw : okW width) (hb : rightI (-1) width l = false) :
    Calls Tryd.prog 18 #[.pointer (some ⟨Wb, 0, none⟩), .pointer (some ⟨C, 0, none⟩), v, .int .i64 width] w fun e w' => e = .returned (.int .i64 1) ∧ w' = w := by
  have HF := Lib.hid (fun w => fits_yes w hw)
  have HL := Lib.hid (lengths_bad hr hw hb)
  clear hr hw hb
  go_enter Tryd.func18, Tryd.ntmps18
  go_wp2_with fail
  refine (HF.out _).mono ?_
  rintro e w2 ⟨rfl, rfl⟩
  go_wp2_with fail
  refine HL.out.mono ?_
  rintro e w2 ⟨rfl, rfl⟩
  go_wp2_with fail
  go_loopw [10, 32] (fun ve vi wr => ve = .int .i64 1 ∧ vi = .int .i64 0 ∧ wr = w2) (fun _ _ _ => 0)
  case atStart => exact ⟨rfl, rfl, rfl⟩
  case round =>
    obtain ⟨rfl, rfl, rfl⟩ := hrel
    go_wp2_with fail
    go_ret
    exact ⟨rfl, rfl⟩
theorem writeAg_nilw {w : World} (x v u : Value) (width : Int) :
    Calls Tryd.prog 19 #[.pointer none, x, v, u, .int .i64 width] w fun e w' => e = .returned (.int .i64 1) ∧ w' = w := by
  go_enter Tryd.func19, Tryd.ntmps19
  go_wp2_with fail
  go_ret
  exact ⟨rfl, rfl⟩
theorem writeAg_nilc {w : World} (Wb : Nat) (v u : Value) (width : Int) :
    Calls Tryd.prog 19 #[.pointer (some ⟨Wb, 0, none⟩), .pointer none, v, u, .int .i64 width] w fun e w' => e = .returned (.int .i64 1) ∧ w' = w := by
  go_enter Tryd.func19, Tryd.ntmps19
  go_wp2_with fail
  go_ret
  exact ⟨rfl, rfl⟩
theorem writeAg_bad {w : World} (Wb C : Nat) {l m : List Int} {v u : Value} {width : Int} (hr : Reads w 1 v l.length (l.map iv)) (hm : Reads w 1 u m.length (m.map iv)) (hb : ¬ (okW width ∧ rightI (-1) width l = true ∧ rightI (-1) width m = true)) :
    Calls Tryd.prog 19 #[.pointer (some ⟨Wb, 0, none⟩), .pointer (some ⟨C, 0, none⟩), v, u, .int .i64 width] w fun e w' => e = .returned (.int .i64 1) ∧ w' = w := by
  have HR := Lib.hid (right_any width hr)
  have HM := Lib.hid (right_any width hm)
  clear hr hm
  by_cases hw : okW width
  · have HF := Lib.hid (fun w => fits_yes w hw)
    cases h1 : rightI (-1) width l with
    | false =>
      rw [h1] at HR
      clear hb h1 hw
      go_enter Tryd.func19, Tryd.ntmps19
      go_wp2_with fail
      refine (HF.out _).mono ?_
      rintro e w2 ⟨rfl, rfl⟩
      go_wp2_with fail
      refine HR.out.mono ?_
      rintro e w2 ⟨rfl, rfl⟩
      go_wp2_with fail
      go_ret
      exact ⟨rfl, rfl⟩
    | true =>
      have h2 : rightI (-1) width m = false := by
        cases h : rightI (-1) width m with
        | false => rfl
        | true => exact absurd ⟨hw, h1, h⟩ hb
      rw [h1] at HR
      rw [h2] at HM
      clear hb h1 h2 hw
      go_enter Tryd.func19, Tryd.ntmps19
      go_wp2_with fail
      refine (HF.out _).mono ?_
      rintro e w2 ⟨rfl, rfl⟩
      go_wp2_with fail
      refine HR.out.mono ?_
      rintro e w2 ⟨rfl, rfl⟩
      go_wp2_with fail
      refine HM.out.mono ?_
      rintro e w2 ⟨rfl, rfl⟩
      go_wp2_with fail
      go_ret
      exact ⟨rfl, rfl⟩
  · have HF := Lib.hid (fun w => fits_no w hw)
    clear hb hw HR HM
    go_enter Tryd.func19, Tryd.ntmps19
    go_wp2_with fail
    refine (HF.out _).mono ?_
    rintro e w2 ⟨rfl, rfl⟩
    go_wp2_with fail
    go_ret
    exact ⟨rfl, rfl⟩
theorem readRow_bad {w : World} (Rb C : Nat) {width : Int} (h : ¬ okW width) :
    Calls Tryd.prog 27 #[.pointer (some ⟨Rb, 0, none⟩), .pointer (some ⟨C, 0, none⟩), .int .i64 width] w fun e w' => e = .returned (.tuple #[.slice none 0 0, .int .i64 1]) ∧ w' = w := by
  have HF := Lib.hid (fun w => fits_no w h)
  clear h
  go_enter Tryd.func27, Tryd.ntmps27
  go_wp2_with fail
  refine (HF.out _).mono ?_
  rintro e w2 ⟨rfl, rfl⟩
  go_wp2_with fail
  go_ret2
  exact ⟨rfl, rfl⟩
theorem readAg_bad {w : World} (Rb C : Nat) {m : List Int} {u : Value} {width : Int} (hm : Reads w 1 u m.length (m.map iv)) (hb : ¬ (okW width ∧ rightI (-1) width m = true)) :
    Calls Tryd.prog 31 #[.pointer (some ⟨Rb, 0, none⟩), .pointer (some ⟨C, 0, none⟩), u, .int .i64 width] w fun e w' => e = .returned (.tuple #[.slice none 0 0, .int .i64 1]) ∧ w' = w := by
  have HM := Lib.hid (right_any width hm)
  clear hm
  by_cases hw : okW width
  · have HF := Lib.hid (fun w => fits_yes w hw)
    have h2 : rightI (-1) width m = false := by
      cases h : rightI (-1) width m with
      | false => rfl
      | true => exact absurd ⟨hw, h⟩ hb
    rw [h2] at HM
    clear hb h2 hw
    go_enter Tryd.func31, Tryd.ntmps31
    go_wp2_with fail
    refine (HF.out _).mono ?_
    rintro e w2 ⟨rfl, rfl⟩
    go_wp2_with fail
    refine HM.out.mono ?_
    rintro e w2 ⟨rfl, rfl⟩
    go_wp2_with fail
    go_ret2
    exact ⟨rfl, rfl⟩
  · have HF := Lib.hid (fun w => fits_no w hw)
    clear hb hw HM
    go_enter Tryd.func31, Tryd.ntmps31
    go_wp2_with fail
    refine (HF.out _).mono ?_
    rintro e w2 ⟨rfl, rfl⟩
    go_wp2_with fail
    go_ret2
    exact ⟨rfl, rfl⟩

set_option maxHeartbeats 4000000 in
theorem rright_any {w : World} {l : List Int} {v : Value} (width : Int) (hr : Reads w 1 v l.length (l.map iv)) :
    Calls Tryd.prog 33 #[v, .int .i64 width] w fun e w' => e = .returned (.bool (rightI (-1) width l)) ∧ ∃ n, w' = w.drewN n := by
  obtain ⟨al, c, rfl⟩ := hr.sub
  have hm := hr.len_le
  unfold maxLen at hm
  have HR := Lib.hid hr; clear hr
  obtain ⟨res, hres⟩ : ∃ res, rightI (-1) width l = res := ⟨_, rfl⟩
  rw [hres]
  have HRES := Lib.hid hres; clear hres
  go_enter Tryd.func33, Tryd.ntmps33
  go_wp2_with fail
  go_loopw [5] (fun vi wr => ∃ (k : Nat) (was : Int), k ≤ l.length ∧ vi = .int .i64 k ∧ -1 ≤ was ∧ (k = 0 → was = -1) ∧ (∀ j, k = j + 1 → l[j]? = some was) ∧ rightI was width (l.drop k) = res ∧ ∃ n, wr = w.drewN n) (fun vi _ => l.length - (intOf vi).toNat)
  case atStart => exact ⟨0, -1, by omega, rfl, by omega, fun _ => rfl, (fun j h => by omega), HRES.out, 0, rfl⟩
  case round =>
    obtain ⟨k, was, hk, rfl, hw1, hw0, hwj, hst, n, rfl⟩ := hrel
    by_cases hkn : k < l.length
    · obtain ⟨g, o, rfl, e1⟩ := HR.out.at_ hkn
      have hx := List.getElem?_eq_getElem hkn
      rw [List.getElem?_map, hx] at e1
      simp only [Option.map_some, iv] at e1
      rw [List.drop_eq_getElem_cons hkn, rightI] at hst
      have HX := Lib.hid hx
      clear hx
      generalize l[k] = x at *
      have e1 : (w.drewN n).cell? ⟨g, o + k, none⟩ = some (.int .i64 x) := e1
      have hkl : (k : Int) < l.length := by omega
      have HP := Lib.hid (fun j (hj : k = j + 1) => (by
        obtain ⟨g', o', he, e2⟩ := HR.out.at_ (show j < l.length by omega)
        cases he
        rw [List.getElem?_map, hwj j hj] at e2
        exact e2 : (w.drewN n).cell? ⟨g, o + j, none⟩ = some (.int .i64 was)))
      clear hwj
      generalize hW : w.drewN n = W at *
      have HW := Lib.hid hW; clear hW
      by_cases h0 : x < 0
      · rw [if_pos (.inl (by omega))] at hst
        have HST := Lib.hid hst; clear hst hw0 HP
        have h0d : decide (x < 0) = true := decide_eq_true h0
        go_upto_region 4 with (fail)
        go_quiet (fail)
        go_wp2_with fail
        go_ret
        exact ⟨by rw [← HST.out]; rfl, n + nq, by rw [← HW.out, World.drewN_drewN]⟩
      · have h0d : decide (x < 0) = false := decide_eq_false h0
        by_cases h2 : width ≤ x
        · rw [if_pos (.inr h2)] at hst
          have HST := Lib.hid hst; clear hst hw0 HP
          have h2d : decide (width ≤ x) = true := decide_eq_true h2
          go_upto_region 4 with (fail)
          go_quiet (fail)
          go_wp2_with fail
          go_ret
          exact ⟨by rw [← HST.out]; rfl, n + nq, by rw [← HW.out, World.drewN_drewN]⟩
        · have h2d : decide (width ≤ x) = false := decide_eq_false h2
          by_cases hk0 : k = 0
          · rw [if_neg (by have := hw0 hk0; omega)] at hst
            have HST := Lib.hid hst; clear hst hw0 HP
            have hk0d : decide ((0 : Int) < (k : Int)) = false := decide_eq_false (by omega)
            have hk0i : ¬ (0 : Int) < (k : Int) := by omega
            have hk0e : decide (0 < k) = false := decide_eq_false (by omega)
            have HK := Lib.hid hk0; clear hk0
            go_upto_region 4 with (fail)
            go_quiet (fail)
            go_wp2_with fail
            refine ⟨⟨k + 1, x, by omega, by go_num, by omega, by omega, fun j hj => ?_, HST.out, n + nq, by rw [← HW.out, World.drewN_drewN]⟩, by simp [intOf]; omega⟩
            obtain rfl : j = k := by omega
            exact HX.out
          · obtain ⟨j, rfl⟩ : ∃ j, k = j + 1 := ⟨k - 1, by omega⟩
            have e2 := HP.out j rfl
            clear HP hw0
            have hs : IntKind.i64.wrap (((j + 1 : Nat) : Int) - 1) = (j : Int) := by rw [IntWalk.i64_in _ (by omega)]; omega
            have hj0 : (0 : Int) < ((j + 1 : Nat) : Int) := by omega
            have hj0d : decide ((0 : Int) < ((j + 1 : Nat) : Int)) = true := decide_eq_true hj0
            have hj1 : (0 : Int) ≤ j := by omega
            have hj2 : (j : Int) < l.length := by omega
            by_cases h3 : x ≤ was
            · rw [if_pos (.inl h3)] at hst
              have HST := Lib.hid hst; clear hst
              go_upto_region 4 with (fail)
              go_quiet (fail)
              go_wp2_with fail
              go_ret
              exact ⟨by rw [← HST.out]; rfl, n + nq, by rw [← HW.out, World.drewN_drewN]⟩
            · rw [if_neg (by omega)] at hst
              have HST := Lib.hid hst; clear hst
              go_upto_region 4 with (fail)
              go_quiet (fail)
              go_wp2_with fail
              refine ⟨⟨j + 1 + 1, x, by omega, by go_num, by omega, by omega, fun i hi => ?_, HST.out, n + nq, by rw [← HW.out, World.drewN_drewN]⟩, by simp [intOf]; omega⟩
              obtain rfl : i = j + 1 := by omega
              exact HX.out
    · obtain rfl : k = l.length := by omega
      rw [List.drop_length, rightI] at hst
      subst hst
      clear hwj hw0
      go_wp2_with fail
      go_ret
      exact ⟨rfl, _, rfl⟩
end Go.Proofs.YtljdohfdafnnaaaDoor
