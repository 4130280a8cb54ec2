/-
  Layer 13 (faxcode): the document's look whether words can be a book's (mezzotintref06.New).
-/
import Derived.Test.YtbpikbdebffnjaaDoorRefH
import Derived.Deep.LoopGhost
import Derived.Deep.QuietTactic
import Derived.BigQuiet
namespace Go.Proofs.YtbpikbdebffnjaaDoor
open Go.RowKit Go.Mz
set_option linter.unusedVariables false
set_option linter.unusedSimpArgs false
set_option maxRecDepth 100000

theorem laid_no {w : World} {W : List (List Nat)} {s : List Nat} {vw : Value} (hr : Reads w 1 vw W.length (W.map txv)) (hb : ∀ v ∈ W, Bit v) (hs : Bit s) (hno : ∀ v ∈ W, v ≠ s) (hW : W.length ≤ 100000) {sb : ByteArray} (hsb : sb = ⟨(tx s).toArray⟩) :
    Calls Tryd.prog 46 #[vw, .string sb] w fun e w' => e = .returned (.bool false) ∧ w' = w := by
  subst hsb
  obtain ⟨aw, cw, rfl⟩ := hr.sub
  have HR := Lib.hid hr; clear hr
  go_enter Tryd.func46, Tryd.ntmps46
  go_wp2_with fail
  go_loop [5] (fun vi => ∃ k : Nat, k ≤ W.length ∧ vi = .int .i64 k) (fun vi => W.length - (intOf vi).toNat)
  case atStart => exact ⟨0, by omega, rfl⟩
  case round =>
    obtain ⟨k, hk, rfl⟩ := hrel
    by_cases hkn : k < W.length
    · obtain ⟨g, o, rfl, e1⟩ := HR.out.at_ hkn
      have hx := List.getElem?_eq_getElem hkn
      have hbv := hb W[k] (List.getElem_mem _)
      have hvs := hno W[k] (List.getElem_mem _)
      rw [List.getElem?_map, hx] at e1
      simp only [Option.map_some, txv] at e1
      have hk2 : (k : Int) < W.length := by omega
      clear hx
      generalize W[k] = v at *
      have hne : ¬ tx v = tx s := fun h => hvs (tx_inj hbv hs h)
      have hneb : (tx v == tx s) = false := by rw [beq_eq_false_iff_ne]; exact hne
      go_wp2_with fail
      exact ⟨⟨k + 1, by omega, by go_num⟩, by simp [intOf]; omega⟩
    · obtain rfl : k = W.length := by omega
      go_wp2_with fail
      go_ret
      exact ⟨rfl, rfl⟩

set_option maxHeartbeats 4000000 in
theorem rlay_ok {w : World} {W : List (List Nat)} {v : List Nat} {vw : Value} (hr : Reads w 1 vw W.length (W.map txv)) (hb : ∀ u ∈ W, Bit u) (hv : Bit v) (hvn : v ≠ []) (hno : ∀ u ∈ W, ¬ u <+: v ∧ ¬ v <+: u) (hW : W.length ≤ 100000) (hvl : v.length ≤ 1000) {sb : ByteArray} (hsb : sb = ⟨(tx v).toArray⟩) :
    Calls Tryd.prog 32 #[vw, .string sb] w fun e w' => e = .returned (.int .i64 0) ∧ w' = w := by
  subst hsb
  have HLD := Lib.hid (fun i => laid_no (s := v.take i) hr hb (hv.take i) (fun u hu he => (hno u hu).1 (by rw [he]; exact List.take_prefix _ _)) hW rfl)
  obtain ⟨aw, cw, rfl⟩ := hr.sub
  have HR := Lib.hid hr; clear hr
  have HNO := Lib.hid hno; clear hno
  have hvx : (tx v).length = v.length := by simp
  have hvt : ¬ tx v = [] := fun h => hvn (by simpa [tx] using h)
  have hvt2 : (tx v).isEmpty = false := by
    cases hq : tx v with
    | nil => exact absurd hq hvt
    | cons _ _ => rfl
  have HVB := Lib.hid hv; clear hv
  go_enter Tryd.func32, Tryd.ntmps32
  go_wp2_with fail
  go_loop [5] (fun vi => ∃ k : Nat, k ≤ v.length ∧ vi = .int .i64 k) (fun vi => v.length - (intOf vi).toNat)
  case atStart => exact ⟨0, by omega, rfl⟩
  case round =>
    obtain ⟨k, hk, rfl⟩ := hrel
    by_cases hkn : k < v.length
    · have hg : (tx v)[k]? = some (dg v[k]) := by rw [tx, List.getElem?_map, List.getElem?_eq_getElem hkn]; rfl
      have G := fun h => ba_get hg h
      have hc : v[k] ≤ 1 := HVB.out _ (List.getElem_mem _)
      have hk2 : (k : Int) < v.length := by omega
      have hext : ByteArray.extract ⟨(tx v).toArray⟩ 0 k = ⟨(tx (v.take k)).toArray⟩ := by
        rw [ByteArray.extract_mk, List.drop_zero, Nat.sub_zero, ← tx_take]
      have HC := HLD.out k
      rw [← hext] at HC
      have HC := Lib.hid HC
      clear hg hext
      generalize v[k] = c at *
      rcases (show c = 0 ∨ c = 1 by omega) with rfl | rfl
      · go_wp2_with fail
        refine HC.out.mono ?_
        rintro e w2 ⟨rfl, rfl⟩
        go_wp2_with fail
        exact ⟨⟨k + 1, by omega, by go_num⟩, by simp [intOf]; omega⟩
      · go_wp2_with fail
        refine HC.out.mono ?_
        rintro e w2 ⟨rfl, rfl⟩
        go_wp2_with fail
        exact ⟨⟨k + 1, by omega, by go_num⟩, by simp [intOf]; omega⟩
    · obtain rfl : k = v.length := by omega
      clear HLD
      go_wp2_with fail
      go_loop [6] (fun vi => ∃ i : Nat, i ≤ W.length ∧ vi = .int .i64 i) (fun vi => W.length - (intOf vi).toNat)
      case atStart => exact ⟨0, by omega, rfl⟩
      case round =>
        obtain ⟨i, hi, rfl⟩ := hrel
        by_cases hiW : i < W.length
        · obtain ⟨g, o, rfl, e1⟩ := HR.out.at_ hiW
          have hx := List.getElem?_eq_getElem hiW
          have hbu := hb W[i] (List.getElem_mem _)
          have hpu := HNO.out W[i] (List.getElem_mem _)
          rw [List.getElem?_map, hx] at e1
          simp only [Option.map_some, txv] at e1
          have hi2 : (i : Int) < W.length := by omega
          clear hx
          generalize W[i] = u at *
          have hun : u ≠ [] := fun h => hpu.1 (by rw [h]; exact List.nil_prefix)
          have hut : ¬ tx u = [] := fun h => hun (by simpa [tx] using h)
          have hut2 : (tx u).isEmpty = false := by
            cases hq : tx u with
            | nil => exact absurd hq hut
            | cons _ _ => rfl
          have hpf : Lib.hasPrefix (tx u) (tx v) = false := by
            rw [tx_pre_iff HVB.out hbu]
            cases hq : v.isPrefixOf u with
            | false => rfl
            | true => exact absurd (List.isPrefixOf_iff_prefix.1 hq) hpu.2
          have HB := Lib.hid (fun w => (by
            have C := begins_any ⟨(tx v).toArray⟩ ⟨(tx u).toArray⟩ w
            rw [show (ByteArray.mk (tx u).toArray).data.toList = tx u from rfl, show (ByteArray.mk (tx v).toArray).data.toList = tx v from rfl, hpf] at C; exact C :
              Calls Tryd.prog 47 #[.string ⟨(tx v).toArray⟩, .string ⟨(tx u).toArray⟩] w fun e w' => e = .returned (.bool false) ∧ w' = w))
          clear hpf hpu
          go_wp2_with fail
          refine (HB.out _).mono ?_
          rintro e w2 ⟨rfl, rfl⟩
          go_wp2_with fail
          exact ⟨⟨i + 1, by omega, by go_num⟩, by simp [intOf]; omega⟩
        · obtain rfl : i = W.length := by omega
          go_wp2_with fail
          go_ret
          exact ⟨rfl, rfl⟩
theorem Reads.takeO {w : World} {g o n cap : Nat} {xs : List Value} (h : Reads w 1 (.slice (some ⟨g, o, none⟩) n cap) n xs) {k : Nat} (hk : k ≤ n) : Reads w 1 (.slice (some ⟨g, o, none⟩) k cap) k (xs.take k) := by
  obtain ⟨hl, ⟨h0, _⟩ | ⟨x, c, h1, h2, h3, h4⟩⟩ := h
  · cases h0
  · cases h1
    refine ⟨by rw [List.length_take, hl]; omega, .inr ⟨_, _, rfl, by omega, h3, fun j u hu => h4 j u ?_⟩⟩
    rw [List.getElem?_take] at hu
    split at hu
    · exact hu
    · cases hu

set_option maxHeartbeats 4000000 in
theorem rnew_ok {w0 w : World} {F : SProp} (h : St w0 w F) {W : List (List Nat)} {vw : Value} (hr : Stb w0 F (fun w => Reads w 1 vw W.length (W.map txv))) (hb : ∀ v ∈ W, Bit v) (hn : ∀ v ∈ W, v ≠ [] ∧ v.length ≤ 1000) (pf : PF W) (hW : W.length ≤ 100000) :
    Calls Tryd.prog 13 #[vw] w fun e w' => e = .returned (.int .i64 0) ∧ St w0 w' F := by
  obtain ⟨aw, cw, rfl⟩ := (hr w h).sub
  have HR := Lib.hid hr; clear hr
  have HB := Lib.hid hb; clear hb
  have HN := Lib.hid hn; clear hn
  have PFH := Lib.hid pf; clear pf
  have H := Lib.hid h; clear h
  go_enter Tryd.func13, Tryd.ntmps13
  go_wp2_with fail
  go_loopw [3] (fun vi wr => ∃ k : Nat, k ≤ W.length ∧ vi = .int .i64 k ∧ St w0 wr F) (fun vi _ => W.length - (intOf vi).toNat)
  case atStart => exact ⟨0, by omega, rfl, H.out⟩
  case round =>
    clear H
    obtain ⟨k, hk, rfl, hst⟩ := hrel
    by_cases hkn : k < W.length
    · have hrd := HR.out wr hst
      obtain ⟨g, o, rfl, e1⟩ := hrd.at_ hkn
      have hx := List.getElem?_eq_getElem hkn
      rw [List.getElem?_map, hx] at e1
      simp only [Option.map_some, txv] at e1
      have hcw : W.length ≤ cw := by
        obtain ⟨_, ⟨h0, _⟩ | ⟨x, c, h1, h2, _, _⟩⟩ := hrd
        · cases h0
        · cases h1; exact h2
      have hbk := HB.out W[k] (List.getElem_mem _)
      have hnk := HN.out W[k] (List.getElem_mem _)
      have hno : ∀ u ∈ W.take k, ¬ u <+: W[k] ∧ ¬ W[k] <+: u := fun u hu => by
        obtain ⟨i, hi⟩ := List.mem_iff_getElem?.1 hu
        rw [List.getElem?_take] at hi
        split at hi
        · rename_i hik
          have hum := HN.out u (List.mem_of_getElem? hi)
          exact ⟨PFH.out i k u _ (by omega) hi hx hum.1, PFH.out k i _ u (by omega) hx hi hnk.1⟩
        · cases hi
      have hlt : (W.take k).length = k := by rw [List.length_take]; omega
      have hrt : ∀ w, St w0 w F → Reads w 1 (.slice (some ⟨g, o, none⟩) k cw) (W.take k).length ((W.take k).map txv) := fun w hw => by
        rw [hlt, List.map_take]
        exact Reads.takeO (HR.out w hw) hk
      generalize W[k] = v at *
      have HLY := Lib.hid (fun w (hw : St w0 w F) => rlay_ok (hrt w hw) (fun u hu => HB.out u (List.mem_of_mem_take hu)) hbk hnk.1 hno (by omega) hnk.2 rfl)
      have hkl : (k : Int) < W.length := by omega
      have hkc : k ≤ cw := by omega
      have hkc2 : (k : Int) ≤ cw := by omega
      have HST := Lib.hid hst
      clear hrt hno hnk hbk hx hrd hst hlt
      go_upto_region 4 with (fail)
      go_quiet (first | (go_at_call 32; exact Calls.quiet_of_same (HLY.out _ (HST.out.drewN _))))
      have h2 := HST.out.drewN nq
      have H2 := Lib.hid h2; clear h2
      go_wp2_with fail
      exact ⟨⟨k + 1, by omega, by go_num, H2.out⟩, by simp [intOf]; omega⟩
    · obtain rfl : k = W.length := by omega
      have HST := Lib.hid hst; clear hst
      go_wp2_with fail
      go_ret
      exact ⟨rfl, HST.out⟩
#print axioms laid_no
#print axioms rlay_ok
#print axioms rnew_ok
end Go.Proofs.YtbpikbdebffnjaaDoor
