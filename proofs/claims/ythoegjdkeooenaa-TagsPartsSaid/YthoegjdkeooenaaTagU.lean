/-
  Layer 23: need, one, bits, has of the table of fields; which tags and schemes there are.
-/
import Derived.Test.YthoegjdkeooenaaTagT
import Derived.Test.YthoegjdkeooenaaSep
import Derived.BigQuiet
namespace Go.Proofs.Ythoegjdkeooenaa
open Go.RowKit Go.Mz
set_option linter.unusedVariables false
set_option linter.unusedSimpArgs false
set_option maxRecDepth 100000

abbrev fl (L : List FV) : List Fld := L.map Prod.snd
theorem needE_eq (L : List FV) (t : Nat) : needE (fl L) t = if valuesB L t then 0 else orE (valuesE L t) 12 := by
  unfold needE valuesB valuesE
  rw [findV_snd]
  cases findV L t with
  | none => rfl
  | some x => simp only [Option.map_some]; cases wholeK x.2.kind <;> rfl
theorem orE_assoc (a b c : Nat) : orE (orE a b) c = orE a (orE b c) := by
  unfold orE; split <;> (try split) <;> (try split) <;> first | rfl | omega | (simp_all)

theorem need_any {w0 w : World} {F : SProp} {g e : Nat} {v : Value} {L : List FV} (h : St w0 w (tbl g v e * F)) (hv : Stb w0 F (fun w => FldsR w v L)) (hL : L.length ≤ 1000000) (t : Nat) {j : Int} (hj : j = t) :
    Calls Try.prog 23 #[.pointer (some ⟨g, 0, none⟩), .int .u16 j] w fun r w' => r = .returned (valuesV L t) ∧ St w0 w' (tbl g v (orE e (needE (fl L) t)) * F) := by
  subst hj
  have HVA := Lib.hid (values_any h hv hL t rfl)
  rw [needE_eq]
  cases hb : valuesB L t
  · rw [hb] at HVA
    rw [if_neg (by decide), ← orE_assoc]
    clear h hv
    go_enter Try.func23, Try.ntmps23
    go_wp2_with (first | (go_at_call 25; refine (fail_any H1.out 12 (j := 12) rfl).mono ?_; rintro e w2 ⟨rfl, h2⟩; have H2 := Lib.hid h2; clear h2) | (go_at_call 48; refine HVA.out.mono ?_; rintro e w1 ⟨rfl, h1⟩; have H1 := Lib.hid h1; clear h1))
    go_ret
    exact ⟨rfl, H2.out⟩
  · rw [hb] at HVA
    have hE : valuesE L t = 0 := by
      unfold valuesB at hb; unfold valuesE
      cases h : findV L t with
      | none => rfl
      | some x => rw [h] at hb; simp only at hb ⊢; simp [hb]
    rw [if_pos rfl]
    rw [hE] at HVA
    clear h hv hE
    go_enter Try.func23, Try.ntmps23
    go_wp2_with (first | (go_at_call 48; refine HVA.out.mono ?_; rintro e w1 ⟨rfl, h1⟩; have H1 := Lib.hid h1; clear h1))
    go_ret
    exact ⟨rfl, H1.out⟩

/-- What 'values' gives, by cases. -/
theorem values_cases (L : List FV) (t : Nat) :
    (findV L t = none ∧ valuesV L t = .slice none 0 0 ∧ valuesB L t = false ∧ valuesE L t = 0 ∧ findF (fl L) t = none) ∨
    (∃ x, findV L t = some x ∧ x ∈ L ∧ wholeK x.2.kind = false ∧ valuesV L t = .slice none 0 0 ∧ valuesB L t = false ∧ valuesE L t = 3 ∧ findF (fl L) t = some x.2) ∨
    (∃ x, findV L t = some x ∧ x ∈ L ∧ wholeK x.2.kind = true ∧ valuesV L t = x.1 ∧ valuesB L t = true ∧ valuesE L t = 0 ∧ findF (fl L) t = some x.2) := by
  rw [findV_snd]
  unfold valuesV valuesB valuesE
  cases h : findV L t with
  | none => exact .inl ⟨rfl, rfl, rfl, rfl, rfl⟩
  | some x =>
    cases hw : wholeK x.2.kind
    · exact .inr (.inl ⟨x, rfl, findV_mem h, hw, by simp [hw], hw, by simp [hw], rfl⟩)
    · exact .inr (.inr ⟨x, rfl, findV_mem h, hw, by simp [hw], hw, by simp [hw], rfl⟩)

set_option maxHeartbeats 40000000 in
theorem one_any {w0 w : World} {F : SProp} {g e : Nat} {v : Value} {L : List FV} (h : St w0 w (tbl g v e * F)) (hv : Stb w0 F (fun w => FldsR w v L)) (hL : L.length ≤ 1000000) (t least most without : Nat) {j jl jm jw : Int} (hj : j = t) (hjl : jl = least) (hjm : jm = most) (hjw : jw = without) :
    Calls Try.prog 24 #[.pointer (some ⟨g, 0, none⟩), .int .u16 j, .int .u64 jl, .int .u64 jm, .int .u64 jw] w fun r w' => r = .returned (.int .u64 (oneV (fl L) t least most without : Nat)) ∧ St w0 w' (tbl g v (orE e (oneE (fl L) t least most)) * F) := by
  subst hj hjl hjm hjw
  have HVA := Lib.hid (values_any h hv hL t rfl)
  have HFL := Lib.hid (fun (w : World) (e : Nat) (h : St w0 w (tbl g v e * F)) => fail_any h 3 (j := 3) rfl)
  rcases values_cases L t with ⟨_, e1, e2, e3, e4⟩ | ⟨x, _, _, hw, e1, e2, e3, e4⟩ | ⟨x, _, hx, hw, e1, e2, e3, e4⟩
  · have o1 : oneV (fl L) t least most without = without := by rw [oneV, e4]
    have o2 : oneE (fl L) t least most = 0 := by rw [oneE, e4]
    rw [o1, o2]
    rw [e1, e2, e3] at HVA
    clear e1 e2 e3 e4 o1 o2 h hv
    go_enter Try.func24, Try.ntmps24
    go_wp2_with (first | (go_at_call 48; refine HVA.out.mono ?_; rintro e w1 ⟨rfl, h1⟩; have H1 := Lib.hid h1; clear h1))
    go_ret
    exact ⟨rfl, H1.out⟩
  · have o1 : oneV (fl L) t least most without = without := by rw [oneV, e4]; simp [hw]
    have o2 : oneE (fl L) t least most = 3 := by rw [oneE, e4]; simp [hw]
    rw [o1, o2]
    rw [e1, e2, e3] at HVA
    clear e1 e2 e3 e4 o1 o2 h hv
    go_enter Try.func24, Try.ntmps24
    go_wp2_with (first | (go_at_call 48; refine HVA.out.mono ?_; rintro e w1 ⟨rfl, h1⟩; have H1 := Lib.hid h1; clear h1))
    go_ret
    exact ⟨rfl, H1.out⟩
  · obtain ⟨ao, co, hos⟩ := ((hv w h.right).vals _ hx).sub
    have HV := Lib.hid (fun w h => (hv w h).vals _ hx)
    obtain ⟨ov, o⟩ := x
    simp only at hos e1 e4 hw HV
    subst hos
    rw [e1, e2, e3, orE_nil] at HVA
    have o1 : oneV (fl L) t least most without = if fitsV least most o.vals then o.vals.headD 0 else without := by rw [oneV, e4]; simp [hw]
    have o2 : oneE (fl L) t least most = if fitsV least most o.vals then 0 else 3 := by rw [oneE, e4]; simp [hw]
    rw [o1, o2]
    clear e1 e2 e3 e4 o1 o2 h hv hw hx
    generalize o.vals = vs at *
    by_cases h1 : vs.length = 1
    · obtain ⟨n, rfl⟩ : ∃ n, vs = [n] := List.length_eq_one_iff.1 h1
      have hf : fitsV least most [n] = (decide (least ≤ n) && decide (n ≤ most)) := rfl
      rw [hf]
      obtain ⟨bb, hbb⟩ : ∃ bb, bb = (decide (least ≤ n) && decide (n ≤ most)) := ⟨_, rfl⟩
      rw [← hbb]
      have HBB := Lib.hid hbb
      clear hf h1 hbb
      simp only [List.length_cons, List.length_nil, Nat.zero_add, List.map_cons, List.map_nil, List.headD_cons] at *
      have HC := Lib.hid (fun (w : World) (hw : St w0 w F) => (HV.out w hw).at_ (j := 0) (by decide))
      clear HV
      go_enter Try.func24, Try.ntmps24
      go_wp2_with (first | (go_at_call 48; apply stop))
      refine on (HVA.out.mono ?_)
      rintro e w1 ⟨rfl, h1⟩
      obtain ⟨b, off, rfl, c0⟩ := HC.out w1 h1.right
      have c0 : w1.cell? ⟨b, off, none⟩ = some (.int .u64 (n : Int)) := c0
      have H1 := Lib.hid h1
      clear h1 HC
      by_cases hl : n < least
      · have hlI : (n : Int) < least := by omega
        obtain rfl : bb = false := by rw [HBB.out]; simp; omega
        go_wp2_with (first | (go_at_call 25; refine (HFL.out _ _ H1.out).mono ?_; rintro e w2 ⟨rfl, h2⟩; have H2 := Lib.hid h2; clear h2))
        go_ret
        exact ⟨rfl, H2.out⟩
      · have hlI : ¬ (n : Int) < least := by omega
        by_cases hm : most < n
        · have hmI : (most : Int) < n := by omega
          obtain rfl : bb = false := by rw [HBB.out]; simp; omega
          go_wp2_with (first | (go_at_call 25; refine (HFL.out _ _ H1.out).mono ?_; rintro e w2 ⟨rfl, h2⟩; have H2 := Lib.hid h2; clear h2))
          go_ret
          exact ⟨rfl, H2.out⟩
        · have hmI : ¬ (most : Int) < n := by omega
          obtain rfl : bb = true := by rw [HBB.out]; simp; omega
          go_wp2_with fail
          go_ret
          exact ⟨rfl, by rw [orE_nil]; exact H1.out⟩
    · have hf : fitsV least most vs = false := by
        unfold fitsV
        rw [show (vs.length == 1) = false by simpa using h1]; rfl
      rw [hf]
      have hlI : ¬ ((vs.length : Int) = 1) := by omega
      generalize vs.length = nn at *
      clear hf HV h1
      go_enter Try.func24, Try.ntmps24
      go_wp2_with (first | (go_at_call 25; refine (HFL.out _ _ H1.out).mono ?_; rintro e w2 ⟨rfl, h2⟩; have H2 := Lib.hid h2; clear h2) | (go_at_call 48; refine HVA.out.mono ?_; rintro e w1 ⟨rfl, h1⟩; have H1 := Lib.hid h1; clear h1))
      go_ret
      exact ⟨rfl, H2.out⟩
end Go.Proofs.Ythoegjdkeooenaa
