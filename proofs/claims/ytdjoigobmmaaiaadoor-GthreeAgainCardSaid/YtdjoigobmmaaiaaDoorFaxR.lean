/-
  Layer 13 (faxcode): the document's tables of words (package mezzotintref13).
-/
import Derived.Test.YtdjoigobmmaaiaaDoorFaxS
namespace Go.Proofs.YtdjoigobmmaaiaaDoor
open Go.RowKit Go.Mz
set_option linter.unusedVariables false
set_option linter.unusedSimpArgs false
set_option maxRecDepth 1000000

def splitF : List UInt8 → List UInt8 → List (List UInt8)
  | w, [] => [w]
  | w, c :: r => if c = 32 then w :: splitF [] r else splitF (w ++ [c]) r
theorem ba_eq {a b : ByteArray} (h : a.data.toList = b.data.toList) : a = b := by
  obtain ⟨⟨a⟩⟩ := a
  obtain ⟨⟨b⟩⟩ := b
  cases h
  rfl
theorem elemT9 : ElemT Tryd.prog 24 9 1 16 (.string ByteArray.empty) :=
  ⟨Tryd.underlying24, info_parts (by kernel_rfl), rfl, by decide⟩
theorem reads_str1 (w : World) (x : List UInt8) : Reads (w.alloc (.cells #[.string ⟨x.toArray⟩] 9)) 1 (.slice (some ⟨w.heap.size, 0, none⟩) 1 1) 1 ([x].map svB) :=
  (St.own_blk (e := 9) (size := 1) (n := 1) (cap := 1) (xs := [x].map svB) ((St.init w).alloc _) (Nat.le_refl _) (by decide) rfl rfl).reads
theorem one_svB (l : List (List UInt8)) : ∀ u ∈ l.map svB, u.oneCell' = true := by
  intro u hu
  rw [List.mem_map] at hu
  obtain ⟨x, _, rfl⟩ := hu
  rfl

set_option maxHeartbeats 40000000 in
theorem split_any {w0 w : World} {F : SProp} (h : St w0 w F) (s : List UInt8) (hs : s.length ≤ 100000) {sb : ByteArray} (hsb : sb = ⟨s.toArray⟩) :
    Calls Tryd.prog 89 #[.string sb] w fun e w' => ∃ v, e = .returned v ∧ St w0 w' (own 9 1 v (splitF [] s).length ((splitF [] s).map svB) * F) := by
  subst hsb
  have H := Lib.hid (St.own_nil 9 1 h); clear h
  have T := elemT9
  generalize hRES : splitF [] s = RES at *
  have HRES := Lib.hid hRES; clear hRES
  go_enter Tryd.func89, Tryd.ntmps89
  go_wp2_with fail
  go_loopw [3, 4, 5] (fun vo vs vi wr => ∃ (k : Nat) (ws : List (List UInt8)) (x : List UInt8) (a : Option Addr) (c : Nat), k ≤ s.length ∧ vi = .int .i64 k ∧ vo = .slice a ws.length c ∧ vs = .string ⟨x.toArray⟩ ∧ ws.length ≤ k ∧ x.length ≤ k ∧ ws ++ splitF x (s.drop k) = RES ∧
    St w0 wr (own 9 1 (.slice a ws.length c) ws.length (ws.map svB) * F)) (fun _ _ vi _ => s.length - (intOf vi).toNat)
  case atStart => exact ⟨0, [], [], none, 0, by omega, rfl, rfl, rfl, by simp, by simp, HRES.out, H.out⟩
  case round =>
    clear H HRES
    obtain ⟨k, ws, x, a, c, hk, rfl, rfl, rfl, hwk, hxk, hres, hst⟩ := hrel
    have HST := Lib.hid hst; clear hst
    by_cases hkn : k < s.length
    · have hg := List.getElem?_eq_getElem hkn
      rw [List.drop_eq_getElem_cons hkn, splitF] at hres
      have hkz : (k : Int) < s.length := by omega
      have G := fun h => ba_get hg h
      have hext : ByteArray.extract ⟨s.toArray⟩ k (k + 1) = ⟨#[s[k]]⟩ := by
        rw [ByteArray.extract_mk, Nat.add_sub_cancel_left, List.drop_eq_getElem_cons hkn]
        rfl
      have HEXT := Lib.hid hext; clear hext hg
      generalize s[k] = ch at *
      by_cases h32 : ch = 32
      · rw [if_pos h32] at hres
        have n1 : ((ch.toNat : Int) != 32) = false := by rw [h32]; rfl
        have HR := Lib.hid hres; clear hres h32 HEXT
        go_wp2_with (at_builtin; apply stop)
        refine on (wpList_append_sep T rfl _ _ rfl rfl (HST.out.drop_alloc (.cells #[.string ⟨x.toArray⟩] 9)) rfl (reads_str1 wr x) (one_svB [x]) ?_ ?_ ?_)
        · unfold maxLen; omega
        · omega
        intro v' w7 h9 _
        rw [← List.map_append] at h9
        obtain ⟨aN, cN, rfl⟩ := h9.reads.sub
        have e1 : (ws ++ [x]).length = ws.length + 1 := by simp
        rw [← e1] at h9
        have H9 := Lib.hid h9; clear h9
        go_wp2_with fail
        exact ⟨⟨k + 1, ws ++ [x], [], aN, cN, by omega, by go_num, by rw [e1], rfl, by rw [e1]; omega, by simp, by rw [List.append_assoc]; exact HR.out, H9.out⟩, by simp [intOf]; omega⟩
      · rw [if_neg h32] at hres
        have n1 : ((ch.toNat : Int) != 32) = true := byte_ne (d := 32) h32
        have HR := Lib.hid hres; clear hres h32
        obtain ⟨k1, hk1⟩ : ∃ k1, k1 = k + 1 := ⟨_, rfl⟩
        rw [← hk1] at HR HEXT
        have hk1i : (k : Int) + 1 = (k1 : Int) := by omega
        have hk1s : k1 ≤ s.length := by omega
        have hk1z : (k1 : Int) ≤ s.length := by omega
        have hkk1 : k ≤ k1 := by omega
        have hkk2 : (k : Int) ≤ k1 := by omega
        have hx9 : x.length ≤ 100000 := by omega
        have HK1 := Lib.hid hk1; clear hk1
        have hsz : s.toArray.size = s.length := by simp
        go_wp2_with fail
        have hk1 := HK1.out
        refine ⟨⟨k1, ws, x ++ [ch], a, c, by omega, ?_, rfl, ?_, by omega, by simp; omega, HR.out, HST.out⟩, by simp [intOf]; omega⟩
        · first | rfl | (rw [hk1i]) | go_num
        · rw [HEXT.out]
          exact congrArg Value.string (ByteArray.mk_append_mk x [ch])
    · obtain rfl : k = s.length := by omega
      rw [List.drop_length, splitF] at hres
      have HR := Lib.hid hres; clear hres
      go_wp2_with (at_builtin; apply stop)
      refine on (wpList_append_sep T rfl _ _ rfl rfl (HST.out.drop_alloc (.cells #[.string ⟨x.toArray⟩] 9)) rfl (reads_str1 wr x) (one_svB [x]) ?_ ?_ ?_)
      · unfold maxLen; omega
      · omega
      intro v' w7 h9 _
      rw [← List.map_append] at h9
      have e1 : (ws ++ [x]).length = ws.length + 1 := by simp
      rw [← e1, HR.out] at h9
      have H9 := Lib.hid h9; clear h9
      go_wp2_with fail
      go_ret
      exact ⟨_, rfl, H9.out⟩

set_option maxHeartbeats 40000000 in
theorem rmodes13_any {w0 w : World} {F : SProp} (h : St w0 w F) :
    Calls Tryd.prog 60 #[] w fun e w' => ∃ v, e = .returned v ∧ St w0 w' (own 9 1 v 10 (modW.map txv) * F) := by
  have e2 : (modW.map tx).map svB = modW.map txv := by rw [List.map_map]; rfl
  have H := Lib.hid h; clear h
  go_enter Tryd.func60, Tryd.ntmps60
  go_wp2_with fail
  refine (split_any H.out (joinB (modW.map tx)) (by decide +kernel) (ba_eq (by decide +kernel))).mono ?_
  rintro e w2 ⟨v2, rfl, h2⟩
  have e3 : splitF [] (joinB (modW.map tx)) = modW.map tx := by decide +kernel
  rw [e3, e2] at h2
  have H2 := Lib.hid h2; clear h2 e2 e3
  go_wp2_with fail
  go_ret
  exact ⟨_, rfl, H2.out⟩
set_option maxHeartbeats 40000000 in
theorem rwords13_any {w0 w : World} {F : SProp} (h : St w0 w F) (black : Bool) :
    Calls Tryd.prog 70 #[.bool black] w fun e w' => ∃ v, e = .returned v ∧ St w0 w' (own 9 1 v 104 ((faxW black).map txv) * F) := by
  have H := Lib.hid h; clear h
  cases black
  · go_enter Tryd.func70, Tryd.ntmps70
    go_wp2_with fail
    refine (split_any H.out (joinB ((faxW false).map tx)) (by decide +kernel) (ba_eq (by decide +kernel))).mono ?_
    rintro e w2 ⟨v2, rfl, h2⟩
    have e2 : ((faxW false).map tx).map svB = (faxW false).map txv := by rw [List.map_map]; rfl
    have e3 : splitF [] (joinB ((faxW false).map tx)) = (faxW false).map tx := by decide +kernel
    rw [e3, e2, List.length_map, len_fax] at h2
    have H2 := Lib.hid h2; clear h2 e2 e3
    go_wp2_with fail
    go_ret
    exact ⟨_, rfl, H2.out⟩
  · go_enter Tryd.func70, Tryd.ntmps70
    go_wp2_with fail
    refine (split_any H.out (joinB ((faxW true).map tx)) (by decide +kernel) (ba_eq (by decide +kernel))).mono ?_
    rintro e w2 ⟨v2, rfl, h2⟩
    have e2 : ((faxW true).map tx).map svB = (faxW true).map txv := by rw [List.map_map]; rfl
    have e3 : splitF [] (joinB ((faxW true).map tx)) = (faxW true).map tx := by decide +kernel
    rw [e3, e2, List.length_map, len_fax] at h2
    have H2 := Lib.hid h2; clear h2 e2 e3
    go_wp2_with fail
    go_ret
    exact ⟨_, rfl, H2.out⟩
theorem rlength13_any (k : Nat) (hk : k ≤ 1000) (w : World) {j : Int} (hj : j = k) :
    Calls Tryd.prog 93 #[.int .i64 j] w fun e w' => e = .returned (.int .i64 (faxL k : Nat)) ∧ w = w' := by
  subst hj
  by_cases h64 : k < 64
  · have HL := Lib.hid (show faxL k = k by rw [faxL, if_pos h64])
    have h64' : (k : Int) < 64 := by omega
    go_enter Tryd.func93, Tryd.ntmps93
    go_wp2_with fail
    go_ret
    exact ⟨by rw [HL.out]; rfl, rfl⟩
  · have h64' : ¬ (k : Int) < 64 := by omega
    have HL := Lib.hid (show faxL k = 64 * (k - 63) by rw [faxL, if_neg h64])
    have hs1 : (k : Int) - 63 = ((k - 63 : Nat) : Int) := by omega
    obtain ⟨m, hm⟩ : ∃ m, m = 64 * (k - 63) := ⟨_, rfl⟩
    have hs2 : (64 : Int) * ((k - 63 : Nat) : Int) = (m : Int) := by omega
    have hm9 : m ≤ 64000 := by omega
    rw [← hm] at HL
    clear hm
    generalize k - 63 = j at *
    go_enter Tryd.func93, Tryd.ntmps93
    go_wp2_with fail
    go_ret
    exact ⟨by rw [HL.out]; rfl, rfl⟩
#print axioms rwords13_any
end Go.Proofs.YtdjoigobmmaaiaaDoor
