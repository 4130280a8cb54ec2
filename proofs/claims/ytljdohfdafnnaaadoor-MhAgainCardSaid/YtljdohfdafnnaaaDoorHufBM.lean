/-
  Layer 6 (huff): a book of words.
-/
import Derived.Test.YtljdohfdafnnaaaDoorHufK
import Derived.Test.YtljdohfdafnnaaaDoorHufKM
import Derived.Test.YtljdohfdafnnaaaDoorHufLM
namespace Go.Proofs.YtljdohfdafnnaaaDoor
open Go.RowKit Go.Mz
set_option linter.unusedVariables false
set_option linter.unusedSimpArgs false
set_option maxRecDepth 100000

def bookM (B : Nat) (N : List Nd) (ms : List Int) (ws : List (List UInt8)) : SProp := sEx fun x : Value × Value × Value =>
  blk B (.cells #[x.1, x.2.1, x.2.2] 125) * (own 116 3 x.1 N.length (flatN N) * (own 84 1 x.2.1 ms.length (ms.map iv) * own 9 1 x.2.2 ws.length (ws.map svB)))

set_option maxHeartbeats 40000000 in
theorem new_anyM {w0 w : World} {F : SProp} (h : St w0 w F) (ws : List (List UInt8)) (ms : List Int) (hlen : ms.length = ws.length) (hl : ws.length ≤ 900) (hsz : ∀ (i : Nat) (t : List UInt8), ws[i]? = some t → t.length ≤ 1000) {vw vm : Value}
    (hvw : Stb w0 F (fun w => Reads w 1 vw ws.length (ws.map svB))) (hvm : Stb w0 F (fun w => Reads w 1 vm ms.length (ms.map iv))) {N : List Nd} {er : Nat} (hR : layAll [nd0] 0 ws = (N, er)) :
    Calls Tryd.prog 42 #[vw, vm] w fun e w' => (er = 0 → ∃ B, e = .returned (.tuple #[.pointer (some ⟨B, 0, none⟩), .int .i64 0]) ∧ St w0 w' (bookM B N ms ws * F) ∧ NOk N) ∧
      (er ≠ 0 → e = .returned (.tuple #[.pointer none, .int .i64 er]) ∧ St w0 w' F) := by
  obtain ⟨aw, cw, rfl⟩ := (hvw w h).sub
  obtain ⟨am, cm, rfl⟩ := (hvm w h).sub
  have HVW := Lib.hid hvw; clear hvw
  have HVM := Lib.hid hvm; clear hvm
  have HSZ := Lib.hid hsz; clear hsz
  have HR := Lib.hid hR; clear hR
  have hA := h.alloc (.cells #[.int .i64 0, .int .i64 0, .int .i64 (-1)] 116)
  have hA1 : St w0 _ (own 116 3 (.slice (some ⟨w.heap.size, 0, none⟩) 1 1) 1 (flatN [nd0]) * _) := hA.own_blk (Nat.le_refl _) (by unfold maxLen; omega) rfl rfl
  have H1 := Lib.hid hA1; clear hA hA1 h
  have hln : ((ws.length : Int) != ms.length) = false := by rw [hlen]; simp
  have hml : ms.length ≤ 900 := by omega
  have HLEN := Lib.hid hlen; clear hlen
  go_enter Tryd.func42, Tryd.ntmps42
  go_wp2_with fail
  generalize hbn : w.heap.size = bn at *
  have C1 := clone_anyM H1.out ms (by omega) (v := .slice am ms.length cm) (fun w h => HVM.out w h.right)
  have HC1 := Lib.hid C1; clear C1
  refine HC1.out.mono ?_
  rintro e w2 ⟨v2, rfl, h2⟩
  obtain ⟨a2, c2, rfl⟩ := h2.reads.sub
  have H2 := Lib.hid h2; clear h2 HC1
  go_wp2_with fail
  refine (clone_anyS H2.out ws (by omega) (fun w h => HVW.out w h.right.right)).mono ?_
  rintro e w3 ⟨v3, rfl, h3⟩
  obtain ⟨a3, c3, rfl⟩ := h3.reads.sub
  have h4 := h3.alloc (.cells #[.slice (some ⟨bn, 0, none⟩) 1 1, .slice a2 ms.length c2, .slice a3 ws.length c3] 125)
  have H4 := Lib.hid h4; clear h4 h3
  go_wp2_with fail
  generalize hB : w3.heap.size = B at *
  have h5 := H4.out.perm (show _ = blk B (.cells #[.slice (some ⟨bn, 0, none⟩) 1 1, .slice a2 ms.length c2, .slice a3 ws.length c3] 125) * (own 116 3 (.slice (some ⟨bn, 0, none⟩) 1 1) 1 (flatN [nd0]) * (own 84 1 (.slice a2 ms.length c2) ms.length (ms.map iv) * (own 9 1 (.slice a3 ws.length c3) ws.length (ws.map svB) * F))) by ac_rfl)
  have H5 := Lib.hid h5; clear h5
  clear H4 H2 H1 hbn hB
  go_loopw [25] (fun vi wr => ∃ (k : Nat) (N1 : List Nd) (vn1 : Value), k ≤ ws.length ∧ vi = .int .i64 k ∧ NOk N1 ∧ N1.length ≤ 1 + 1000 * k ∧ layAll N1 k (ws.drop k) = (N, er) ∧
    St w0 wr (blk B (.cells #[vn1, .slice a2 ms.length c2, .slice a3 ws.length c3] 125) * (own 116 3 vn1 N1.length (flatN N1) * (own 84 1 (.slice a2 ms.length c2) ms.length (ms.map iv) * (own 9 1 (.slice a3 ws.length c3) ws.length (ws.map svB) * F))))) (fun vi _ => ws.length - (intOf vi).toNat)
  case atStart => exact ⟨0, [nd0], _, by omega, rfl, NOk.one, by simp, HR.out, H5.out⟩
  case round =>
    clear H5 HR
    obtain ⟨k, N1, vn1, hk, rfl, hN1, hlN, hlay, hst⟩ := hrel
    by_cases hkn : k < ws.length
    · obtain ⟨g, off, rfl, hc⟩ := (HVW.out wr hst.right.right.right.right).at_ hkn
      have hx := List.getElem?_eq_getElem hkn
      have hdrop : ws.drop k = ws[k] :: ws.drop (k + 1) := List.drop_eq_getElem_cons hkn
      have hs1 := HSZ.out k _ hx
      generalize ws[k] = t at *
      have hc' : (ws.map svB)[k]? = some (.string ⟨t.toArray⟩) := by simp [hx, svB]
      rw [hc'] at hc
      rw [hdrop, layAll] at hlay
      clear hc' hx hdrop
      have HLAY := Lib.hid hlay; clear hlay
      have C := Lib.hid (lay_anyM hst hN1 (by omega) t (by omega) k (by omega))
      have HST := Lib.hid hst; clear hst
      generalize ByteArray.mk t.toArray = tb at *
      have hk1 : (k : Int) < ws.length := by omega
      go_wp2_with fail
      refine C.out.mono ?_
      rintro e w5 ⟨vn', rfl, h5, hN', hl'⟩
      generalize lay N1 t k = LL at *
      obtain ⟨N', er'⟩ := LL
      simp only at h5 hN' hl' HLAY
      by_cases her : er' = 0
      · subst her
        have hlay := HLAY.out
        rw [if_pos rfl] at hlay
        have H5 := Lib.hid h5; clear h5
        have HL := Lib.hid hlay; clear hlay
        go_wp2_with fail
        exact ⟨⟨k + 1, N', vn', by omega, by go_num, hN', by omega, HL.out, H5.out⟩, by simp [intOf]; omega⟩
      · have hlay := HLAY.out
        rw [if_neg her] at hlay
        have hlay2 : N = N' ∧ er = er' := by
          cases hlay; exact ⟨rfl, rfl⟩
        have HLL := Lib.hid hlay2; clear hlay hlay2 HLAY
        have H5 := Lib.hid h5; clear h5
        have he1 : ¬ (er' : Int) = 0 := by omega
        go_wp2_with fail
        go_ret2
        refine ⟨fun e0 => absurd (HLL.out.2 ▸ e0) her, fun _ => ⟨by rw [HLL.out.2]; rfl, H5.out.right.right.right.right⟩⟩
    · obtain rfl : k = ws.length := by omega
      rw [List.drop_length, layAll] at hlay
      have hlay2 : N = N1 ∧ er = 0 := by
        cases hlay; exact ⟨rfl, rfl⟩
      obtain ⟨rfl, rfl⟩ := hlay2
      have HST := Lib.hid hst; clear hst hlay
      go_wp2_with fail
      go_ret2
      have hfin : St w0 wr (bookM B N ms ws * F) := St.mk_ex_l (vn1, .slice a2 ms.length c2, .slice a3 ws.length c3) (HST.out.perm (by ac_rfl))
      refine ⟨B, ?_, hfin⟩
      rfl
#print axioms new_anyM
end Go.Proofs.YtljdohfdafnnaaaDoor
