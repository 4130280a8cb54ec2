/-
  Layer 23: has of the table of fields; layouts (package chunks).
-/
import Derived.Test.YthoegjdkeooenaaTagV
namespace Go.Proofs.Ythoegjdkeooenaa
open Go.RowKit Go.Mz
set_option linter.unusedVariables false
set_option linter.unusedSimpArgs false
set_option maxRecDepth 100000

/-- A question that a function value with one captured place answers of fields. -/
structure PredG (w0 : World) (B : SProp) (g : Nat) (c : Value) (p : Fld → Bool) : Prop where
  ent : ∀ args w, (callFunc g args).run Try.prog w = .ok (.enter g args) w
  call : ∀ (W : World) (h : St w0 W B) (a : Option Addr) (n cap : Nat) (o : Fld), Calls Try.prog g #[.agg #[.int .u16 (o.tag : Int), .int .i64 o.kind, .slice a n cap], c] W fun e w' => e = .returned (.bool (p o)) ∧ St w0 w' B

set_option maxHeartbeats 40000000 in
theorem indexF_any {w0 w : World} {F : SProp} (h : St w0 w F) {v : Value} {L : List FV} (hv : Stb w0 F (fun w => FldsR w v L)) (hL : L.length ≤ 1000000) {g : Nat} {c : Value} {p : Fld → Bool} (hp : PredG w0 F g c p) :
    Calls Try.prog 54 #[v, .func (.func g) #[] #[c]] w fun r w' => (∃ i : Int, r = .returned (.int .i64 i) ∧ decide (0 ≤ i) = (fl L).any p) ∧ St w0 w' F := by
  obtain ⟨a, cap, rfl⟩ := (hv w h).row.sub
  have HV := Lib.hid hv; clear hv
  have H := Lib.hid h; clear h
  have hent := hp.ent
  have HP := Lib.hid hp.call; clear hp
  obtain ⟨nn, hnn⟩ : ∃ nn, L.length = nn := ⟨_, rfl⟩
  have HNN := Lib.hid hnn
  rw [hnn] at hL HV ⊢
  clear hnn
  go_enter Try.func54, Try.ntmps54
  go_wp2_with fail
  go_loopw [8] (fun vi wr => ∃ k : Nat, k ≤ nn ∧ vi = .int .i64 k ∧ ((fl L).take k).any p = false ∧ St w0 wr F) (fun vi _ => nn - (intOf vi).toNat)
  case atStart => exact ⟨0, by omega, rfl, rfl, H.out⟩
  case round =>
    clear H
    obtain ⟨k, hk, rfl, hgood, hst⟩ := hrel
    by_cases hkn : k < nn
    · have hkv : k < L.length := by rw [HNN.out]; exact hkn
      have hx := List.getElem?_eq_getElem hkv
      have hr := (HV.out _ hst).row
      rw [HNN.out] at hr
      obtain ⟨b, off, rfl, c0, c1, c2⟩ := reads_fld hr hx
      obtain ⟨ao, co, hos⟩ := ((HV.out _ hst).vals _ (List.getElem_mem hkv)).sub
      have hkI : (k : Int) < nn := by omega
      have htk : (fl L).take (k + 1) = (fl L).take k ++ [L[k].2] := by rw [List.take_succ_eq_append_getElem (by simpa using hkv), List.getElem_map]
      have hdrop : fl L = (fl L).take k ++ L[k].2 :: (fl L).drop (k + 1) := by
        have := List.drop_eq_getElem_cons (l := fl L) (i := k) (by simpa using hkv)
        rw [List.getElem_map] at this
        rw [← this, List.take_append_drop]
      generalize L[k] = o at *
      obtain ⟨ov, o⟩ := o
      simp only at hos
      subst hos
      generalize o.vals.length = no at *
      simp only at c0 c1 c2 htk hdrop
      have HC := Lib.hid (HP.out _ hst ao no co o)
      have HTK := Lib.hid htk; have HDR := Lib.hid hdrop; have HG := Lib.hid hgood
      clear hx hr htk hdrop hst hgood
      go_wp2_with fail
      refine HC.out.mono ?_
      rintro e w1 ⟨rfl, h1⟩
      have H1 := Lib.hid h1
      clear h1
      cases hpo : p o
      · have hg2 := Lib.hid (show ((fl L).take (k + 1)).any p = false by rw [HTK.out, List.any_append, HG.out, List.any_cons, hpo]; rfl)
        clear hpo
        go_wp2_with fail
        exact ⟨⟨k + 1, by omega, by go_num, hg2.out, H1.out⟩, by simp [intOf]; omega⟩
      · have hB := Lib.hid (show (fl L).any p = true by rw [HDR.out, List.any_append, List.any_cons, hpo]; simp)
        clear hpo
        go_wp2_with fail
        go_ret
        exact ⟨⟨k, rfl, by rw [hB.out]; simp⟩, H1.out⟩
    · obtain rfl : k = nn := by omega
      have hB := Lib.hid (show (fl L).any p = false by rw [← HNN.out, List.take_of_length_le (by simp)] at hgood; exact hgood)
      have HS := Lib.hid hst
      clear hgood hst
      go_wp2_with fail
      go_ret
      exact ⟨⟨-1, rfl, by rw [hB.out]; rfl⟩, HS.out⟩
theorem containsF_any {w0 w : World} {F : SProp} (h : St w0 w F) {v : Value} {L : List FV} (hv : Stb w0 F (fun w => FldsR w v L)) (hL : L.length ≤ 1000000) {g : Nat} {c : Value} {p : Fld → Bool} (hp : PredG w0 F g c p) :
    Calls Try.prog 37 #[v, .func (.func g) #[] #[c]] w fun r w' => r = .returned (.bool ((fl L).any p)) ∧ St w0 w' F := by
  have HI := Lib.hid (indexF_any h hv hL hp)
  obtain ⟨a, cap, rfl⟩ := (hv w h).row.sub
  obtain ⟨bb, hbb⟩ : ∃ bb, bb = (fl L).any p := ⟨_, rfl⟩
  rw [← hbb] at HI ⊢
  clear hbb hv h hp
  go_enter Try.func37, Try.ntmps37
  go_wp2_with (go_at_call 54; apply stop)
  refine on (HI.out.mono ?_)
  rintro e w1 ⟨⟨i, rfl, hi⟩, h1⟩
  have HI2 := Lib.hid hi
  have H1 := Lib.hid h1
  clear hi h1
  go_wp2_with fail
  go_ret
  exact ⟨congrArg (fun b => Ending.returned (.bool b)) HI2.out, H1.out⟩
theorem cast_beq (a b : Nat) : ((a : Int) == (b : Int)) = (a == b) := by
  rw [Bool.eq_iff_iff]; simp; omega
theorem hasT_any (l : List Fld) (t : Nat) : (l.any fun f => f.tag == t) = hasT l t := by
  unfold hasT findF
  rw [Bool.eq_iff_iff, List.find?_isSome, List.any_eq_true]
/-- The question 'is this its tag?', of a tag that lies in block b. -/
theorem pred_has {w0 : World} {F : SProp} {b t : Nat} {e : TypeId} {fr : Nat × Nat} : PredG w0 (blk b (.cells #[.int .u16 (t : Int)] e fr) * F) 63 (.pointer (some ⟨b, 0, none⟩)) (fun f => f.tag == t) := by
  refine ⟨enters_fn Try.func63 (by kernel_rfl) rfl, fun W h a n cap o => ?_⟩
  have hA := (h.alloc (.cells #[.int .u16 (o.tag : Int), .int .i64 o.kind, .slice a n cap] 53))
  have c0 := hA.right.cell 0 rfl
  have HA := Lib.hid hA; clear hA
  clear h
  go_enter Try.func63, Try.ntmps63
  go_wp2_with fail
  go_ret
  exact ⟨congrArg (fun b => Ending.returned (.bool b)) (cast_beq _ _), HA.out.right⟩
theorem has_any {w0 w : World} {F : SProp} {g e : Nat} {v : Value} {L : List FV} (h : St w0 w (tbl g v e * F)) (hv : Stb w0 F (fun w => FldsR w v L)) (hL : L.length ≤ 1000000) (t : Nat) {j : Int} (hj : j = t) :
    Calls Try.prog 50 #[.pointer (some ⟨g, 0, none⟩), .int .u16 j] w fun r w' => r = .returned (.bool (hasT (fl L) t)) ∧ St w0 w' (tbl g v e * F) := by
  subst hj
  have hA := h.alloc (.cells #[.int .u16 (t : Int)] 43)
  have HC := Lib.hid (containsF_any hA (v := v) (L := L) (fun w h => hv w h.right.right) hL pred_has)
  rw [hasT_any] at HC
  have c0 := hA.right.cell 0 rfl
  obtain ⟨a, cap, rfl⟩ := (hv w h.right).row.sub
  clear h hA hv
  go_enter Try.func50, Try.ntmps50
  go_wp2_with (go_at_call 37; apply stop)
  refine on (HC.out.mono ?_)
  rintro e w1 ⟨rfl, h1⟩
  have H1 := Lib.hid h1.right
  clear h1 c0
  go_wp2_with fail
  go_ret
  exact ⟨rfl, H1.out⟩
end Go.Proofs.Ythoegjdkeooenaa
