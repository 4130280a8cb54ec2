/-
  Layer 16: any page, as the document tells it.
-/
import Derived.Test.YtdjoigobmmaaiaaDoorG4V
import Derived.Test.YtdjoigobmmaaiaaDoorG4D
import Derived.Deep.RegionWith
namespace Go.Proofs.YtdjoigobmmaaiaaDoor.gtells
open Go.RowKit Go.Mz
set_option linter.unusedVariables false
set_option linter.unusedSimpArgs false
set_option maxRecDepth 100000

set_option maxHeartbeats 40000000 in
theorem walk (vL : Value) (L : List (Value × List UInt8)) (wid : Int) (w : World) (hL : Reads w 1 vL L.length (L.map Prod.fst)) (hLs : textsIn w L) (htab : Lib.TabIs Tryd.prog w "strings.asciiSpace" .u8 Lib.asciiSpaceTab) :
    Calls Tryd.prog 3 #[vL, .int .i64 wid] w fun e w' => e = .returned (.bool true) ∧ Below w.heap.size w w' := by
  have HT := Lib.hid (tab_old htab); clear htab
  have HL := Lib.hid (Stb.of_old hL)
  have HX := Lib.hid (fun x hx => Stb.of_old (hLs x hx))
  obtain ⟨a0, c0, rfl⟩ := hL.sub
  have hm := hL.len_le
  unfold maxLen at hm
  clear hL hLs
  have H := Lib.hid (St.init w)
  have fin : ∀ w', St w w' (Mz.old w) → Below w.heap.size w w' := fun w' h => (h.perm ((emp_star _).symm.trans (star_comm _ _))).below
  have FIN := Lib.hid fin; clear fin
  go_enter Tryd.func3, Tryd.ntmps3
  go_wp2_with fail
  refine (lives16 H.out HT.out).mono ?_
  rintro e w1 ⟨rfl, h2⟩
  have H2 := Lib.hid h2; clear h2 H
  by_cases hbad : 12 < L.length ∨ 300 < wid
  · have hd : (12 : Int) < L.length ∨ (¬ (12 : Int) < L.length ∧ 300 < wid) := by omega
    clear hbad
    rcases hd with h1 | ⟨h1, h2⟩
    · go_wp2_with fail
      refine (lives16 H2.out HT.out).mono ?_
      rintro e w2 ⟨rfl, h3⟩
      have H3 := Lib.hid h3; clear h3
      go_wp2_with fail
      go_ret
      exact ⟨rfl, FIN.out _ H3.out⟩
    · have h1d : decide ((12 : Int) < L.length) = false := decide_eq_false h1
      have h2d : decide (300 < wid) = true := decide_eq_true h2
      go_wp2_with fail
      refine (lives16 H2.out HT.out).mono ?_
      rintro e w2 ⟨rfl, h3⟩
      have H3 := Lib.hid h3; clear h3
      go_wp2_with fail
      go_ret
      exact ⟨rfl, FIN.out _ H3.out⟩
  have h1 : ¬ (12 : Int) < L.length := by omega
  have h2 : ¬ 300 < wid := by omega
  have h1d : decide ((12 : Int) < L.length) = false := decide_eq_false h1
  have h2d : decide (300 < wid) = false := decide_eq_false h2
  have hL12 : L.length ≤ 12 := by omega
  clear hbad
  obtain ⟨width, hwd⟩ : ∃ width : Nat, width = (max wid 0).toNat := ⟨_, rfl⟩
  have hwm : max wid 0 = (width : Int) := by omega
  have hw3 : width ≤ 300 := by omega
  have HC := Lib.hid (texts16_any H2.out HL.out HX.out (by omega) (width := width) (by omega))
  rw [← hwm] at HC
  have HWD := Lib.hid hwd
  clear H2 hwd hwm
  go_wp2_with fail
  refine HC.out.mono ?_
  clear h1d h2d h1 HC
  rintro e w2 (⟨rfl, h3⟩ | ⟨vs, vl, Ps, R, rfl, hPl, hRP, hPs, h3⟩)
  · have HF := Lib.hid (FIN.out _ h3); clear h3
    go_wp2_with fail
    go_ret
    exact ⟨rfl, HF.out⟩
  obtain ⟨aS, cS, rfl⟩ := h3.reads.sub
  obtain ⟨al, cl, rfl⟩ := h3.right.reads.sub
  have hRl : R.length = Ps.length := by have := congrArg List.length hRP; simpa using this
  have hRl2 : R.length ≤ 12 := by omega
  have hPl2 : Ps.length ≤ 12 := by omega
  by_cases hw1 : wid < 1
  · have hw1d : decide (wid < 1) = true := decide_eq_true hw1
    have HE := Lib.hid (fun w => encode16_bad w (.slice al R.length cl) hw1)
    have HF := Lib.hid (FIN.out _ h3.right.right.right)
    clear h3 hRP hPs hPl hRl
    go_wp2_with fail
    refine (HE.out _).mono ?_
    rintro e w3 ⟨rfl, rfl⟩
    go_wp2_with fail
    go_ret
    exact ⟨rfl, HF.out⟩
  · have hw1d : decide (wid < 1) = false := decide_eq_false hw1
    obtain rfl : wid = (width : Int) := by have := HWD.out; omega
    have hro : ∀ x ∈ R, RowOk width x.2 := fun x hx => by
      have h1 : x.2 ∈ R.map Prod.snd := List.mem_map_of_mem hx
      rw [hRP] at h1
      obtain ⟨P, hP, e⟩ := List.mem_map.1 h1
      rw [← e]
      exact rowOk_chg (hPs P hP).1 (by omega)
    have HE := Lib.hid (encode16_any (width := width) h3 (fun w h => HT.out w h.right.right.right) (v := .slice al R.length cl) (fun w h => h.right.reads) (fun w h => rowsP_reads R _ h.right.right) (by omega) (by omega) hro (by omega))
    rw [hRP] at HE
    have HRE := Lib.hid (fun (w' : World) (G : SProp) (h : St w w' G) (hv : Stb w G (fun w => Reads w 1 (.slice aS Ps.length cS) Ps.length (Ps.map txv))) => rencode16_any h hv (by omega) (by omega) hPs (by omega))
    generalize bytesB false (enc4 width (Ps.map chg)) = B at *
    clear h3 hRP hPs hro hPl hRl HWD
    go_wp2_with fail
    refine HE.out.mono ?_
    rintro e w5 ⟨v5, rfl, h5⟩
    obtain ⟨a5, c5, rfl⟩ := h5.reads.sub
    have K := fun (W : World) (v : Value) (n : Nat) (bs : List UInt8) (hr : Reads W 1 v n (bs.map bv)) => run_b2s (P := Tryd.prog) Tryd.underlying28 Tryd.underlying5 Tryd.underlying9 hr
    have q0 := K _ _ _ _ h5.drew.reads
    have HK := Lib.hid K; clear K
    have HR2 := Lib.hid (HRE.out _ _ h5.drew (fun w' h => h.right.reads))
    clear HRE HE h5
    go_wp2_with fail
    go_upto_region 9 with (fail)
    go_region_with (go_at_call 13; refine HR2.out.mono ?_; rintro e w6 ⟨rfl, h6⟩; have q1 := HK.out _ _ _ _ h6.reads; have H6 := Lib.hid h6.right.right.right.right; clear h6)
    all_goals
      go_wp2_with fail
      go_ret
      exact ⟨rfl, FIN.out _ H6.out⟩
end Go.Proofs.YtdjoigobmmaaiaaDoor.gtells
