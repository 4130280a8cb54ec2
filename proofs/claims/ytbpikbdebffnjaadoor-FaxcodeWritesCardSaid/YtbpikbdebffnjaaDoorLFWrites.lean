/-
  Layer 13: any length, and any mode, as it is told.
-/
import Derived.Test.YtbpikbdebffnjaaDoorFaxE
import Derived.Test.YtbpikbdebffnjaaDoorFaxV
import Derived.Test.YtbpikbdebffnjaaDoorRef02b
import Derived.Below
import Derived.Deep.RegionWith
namespace Go.Proofs.YtbpikbdebffnjaaDoor
open Go.RowKit Go.Mz
set_option linter.unusedVariables false
set_option linter.unusedSimpArgs false

theorem tab_old {w : World} (h : Lib.TabIs Tryd.prog w "strings.asciiSpace" .u8 Lib.asciiSpaceTab) : Tab w (Mz.old w) := fun w' s => by
  have B : Below w.heap.size w w' := (s.perm ((emp_star _).symm.trans (star_comm _ _))).below
  unfold Lib.TabIs World.var? at h ⊢
  cases hg : Tryd.prog.globalNamed "strings.asciiSpace" with
  | none => rw [hg] at h; simp at h
  | some g =>
    rw [hg] at h
    simp only [Option.bind_some] at h ⊢
    have hlt : g < w.heap.size := by
      rcases Nat.lt_or_ge g w.heap.size with h' | h'
      · exact h'
      · simp [Array.getElem?_eq_none h'] at h
    rw [B.block g hlt]
    exact h
end Go.Proofs.YtbpikbdebffnjaaDoor
namespace Go.Proofs.YtbpikbdebffnjaaDoor.fwrites
open Go.RowKit Go.Mz
set_option linter.unusedVariables false
set_option linter.unusedSimpArgs false

theorem tell_len (black : Bool) (n : Nat) (hn : n ≤ 32768) : (tellB black n).length ≤ 300 := by
  have h : ∀ K : List Nat, (kbits (faxW black) K).length ≤ 13 * K.length := by
    intro K
    induction K with
    | nil => simp [kbits]
    | cons i K ih =>
      rw [kbits_cons, List.length_append, List.length_cons]
      have := getD_le black i
      omega
  have h2 := h (placesL n)
  have h3 : (placesL n).length ≤ 20 := by
    rw [placesL]
    simp only [List.length_append, List.length_replicate, List.length_singleton]
    split
    · simp; omega
    · simp; omega
  rw [tellB]
  omega

set_option maxRecDepth 100000 in
set_option maxHeartbeats 40000000 in
theorem walk (n : Int) (black : Bool) (mode : Int) (w : World) (htab : Lib.TabIs Tryd.prog w "strings.asciiSpace" .u8 Lib.asciiSpaceTab) :
    Calls Tryd.prog 4 #[.int .i64 n, .bool black, .int .i64 mode] w fun e w' => e = .returned (.bool true) ∧ Below w.heap.size w w' := by
  have HT := Lib.hid (tab_old htab); clear htab
  have H := Lib.hid (St.init w)
  have fin : ∀ w', St w w' (Mz.old w) → Below w.heap.size w w' := fun w' h => (h.perm ((emp_star _).symm.trans (star_comm _ _))).below
  have FIN := Lib.hid fin; clear fin
  go_enter Tryd.func4, Tryd.ntmps4
  go_wp2_with fail
  refine (lives13 H.out HT.out).mono ?_
  rintro e w1 ⟨rfl, h2⟩
  have H2 := Lib.hid h2; clear h2
  go_wp2_with fail
  refine (newCodes_any H2.out HT.out).mono ?_
  rintro e w2 ⟨C, rfl, h3⟩
  have H3 := Lib.hid h3; clear h3
  go_wp2_with fail
  refine (newWriter_any (low := false) H3.out).mono ?_
  rintro e w3 ⟨Wb, rfl, h4⟩
  have h4 := h4.perm (show _ = codes C * (wrt Wb [] false * Mz.old w) by ac_rfl)
  have H4 := Lib.hid h4; clear h4 H3 H2
  by_cases hb0 : n < 0
  · have hb0d : decide (n < 0) = true := by simpa using hb0
    go_wp2_with fail
    refine (cwrite_bad H4.out _ n (by omega) black).mono ?_
    rintro e w4 ⟨rfl, h5⟩
    have HL := Lib.hid (len_any (h5.perm (star_left_comm _ _ _)))
    have HA := Lib.hid h5; clear h5 H4
    go_wp2_with fail
    refine HL.out.mono ?_
    rintro e w5 ⟨rfl, rfl⟩
    clear HL
    go_wp2_with fail
    refine (newWriter_any (low := false) HA.out).mono ?_
    rintro e w7 ⟨Xb, rfl, h7⟩
    have h7 := h7.perm (show _ = codes C * (wrt Xb [] false * (wrt Wb [] false * Mz.old w)) by ac_rfl)
    have H7 := Lib.hid h7; clear h7
    by_cases hmd : mode < -3 ∨ 5 < mode
    · by_cases hmd3 : mode < -3
      · have hd3 : decide (mode < -3) = true := by simpa using hmd3
        go_wp2_with fail
        refine (cmode_bad H7.out _ mode hmd).mono ?_
        rintro e w8 ⟨rfl, h8⟩
        have HL := Lib.hid (len_any (h8.perm (star_left_comm _ _ _)))
        have H8 := Lib.hid h8; clear h8 H7
        go_wp2_with fail
        refine HL.out.mono ?_
        rintro e w9 ⟨rfl, rfl⟩
        go_wp2_with fail
        go_ret
        exact ⟨rfl, FIN.out _ H8.out.right.right.right⟩
      · have hd5 : 5 < mode := by omega
        go_wp2_with fail
        refine (cmode_bad H7.out _ mode hmd).mono ?_
        rintro e w8 ⟨rfl, h8⟩
        have HL := Lib.hid (len_any (h8.perm (star_left_comm _ _ _)))
        have H8 := Lib.hid h8; clear h8 H7
        go_wp2_with fail
        refine HL.out.mono ?_
        rintro e w9 ⟨rfl, rfl⟩
        go_wp2_with fail
        go_ret
        exact ⟨rfl, FIN.out _ H8.out.right.right.right⟩
    · obtain ⟨i, hi⟩ : ∃ i : Nat, mode + 3 = i := ⟨(mode + 3).toNat, by omega⟩
      have hi8 : i ≤ 8 := by omega
      have hm3 : ¬ mode < -3 := by omega
      have hm3d : decide (mode < -3) = false := by simpa using hm3
      have hm5 : ¬ 5 < mode := by omega
      go_wp2_with fail
      refine (cwriteMode_any H7.out i hi8 (by simp) (j := mode) (by omega)).mono ?_
      rintro e w8 ⟨rfl, h8⟩
      rw [List.nil_append] at h8
      obtain ⟨v, hv, hvn⟩ := ne_mod (i := i) (by omega)
      have hvl := le_mod v (List.mem_of_getElem? hv)
      have hvb := bit_mod v (List.mem_of_getElem? hv)
      have hvg : modW.getD i [] = v := by rw [List.getD_eq_getElem?_getD, hv]; rfl
      rw [hvg] at h8
      have h8 := h8.perm (show _ = wrt Xb v false * (codes C * (wrt Wb [] false * Mz.old w)) by ac_rfl)
      have H8 := Lib.hid h8; clear h8 H7
      go_wp2_with fail
      refine (rmodes13_any H8.out).mono ?_
      rintro e w9 ⟨v9, rfl, h9⟩
      obtain ⟨a9, c9, rfl⟩ := h9.reads.sub
      obtain ⟨g9, rfl⟩ := own_at h9 (by omega)
      have x9 := h9.own_cell (i := i) (u := .string ⟨(tx v).toArray⟩) (by rw [List.getElem?_map, hv]; rfl)
      have hi10 : (i : Int) < 10 := by omega
      have h9 := h9.right
      have HW := Lib.hid h9; clear h9 H8 hmd hm3 hm3d hv
      have HB2 := Lib.hid hvb; clear hvb
      go_upto_region 17 with (fail)
      clear x9
      all_goals
        have hml : (tx v).length = v.length := by simp
        have K := fun (W : World) (v : Value) (n : Nat) (bs : List UInt8) (hr : Reads W 1 v n (bs.map bv)) => run_b2s (P := Tryd.prog) Tryd.underlying44 Tryd.underlying5 Tryd.underlying9 hr
        have HK := Lib.hid K; clear K
        go_region_with (first | (go_at_call 17; refine (len_any HW.out.drew).mono ?_; rintro e wl ⟨rfl, rfl⟩) | (go_at_call 19; refine (bytes_any HW.out.drew).mono ?_; rintro e wb ⟨vb, rfl, hb5⟩; have q5 := HK.out _ _ _ _ hb5.reads; obtain ⟨ab, cb, rfl⟩ := hb5.reads.sub; have H5 := Lib.hid hb5; clear hb5) | (go_at_call 20; refine (rbytes_any HB2.out false H5.out (by omega) rfl).mono ?_; rintro e wc ⟨rfl, h6⟩; have q6 := HK.out _ _ _ _ h6.reads; have H6 := Lib.hid h6; clear h6))
        all_goals
          go_wp2_with fail
          go_ret
          exact ⟨rfl, FIN.out _ H6.out.right.right.right.right⟩
  by_cases hb1 : 32768 < n
  · have hb0d : decide (n < 0) = false := by simpa using hb0
    go_wp2_with fail
    refine (cwrite_bad H4.out _ n (by omega) black).mono ?_
    rintro e w4 ⟨rfl, h5⟩
    have HL := Lib.hid (len_any (h5.perm (star_left_comm _ _ _)))
    have HA := Lib.hid h5; clear h5 H4
    go_wp2_with fail
    refine HL.out.mono ?_
    rintro e w5 ⟨rfl, rfl⟩
    clear HL
    go_wp2_with fail
    refine (newWriter_any (low := false) HA.out).mono ?_
    rintro e w7 ⟨Xb, rfl, h7⟩
    have h7 := h7.perm (show _ = codes C * (wrt Xb [] false * (wrt Wb [] false * Mz.old w)) by ac_rfl)
    have H7 := Lib.hid h7; clear h7
    by_cases hmd : mode < -3 ∨ 5 < mode
    · by_cases hmd3 : mode < -3
      · have hd3 : decide (mode < -3) = true := by simpa using hmd3
        go_wp2_with fail
        refine (cmode_bad H7.out _ mode hmd).mono ?_
        rintro e w8 ⟨rfl, h8⟩
        have HL := Lib.hid (len_any (h8.perm (star_left_comm _ _ _)))
        have H8 := Lib.hid h8; clear h8 H7
        go_wp2_with fail
        refine HL.out.mono ?_
        rintro e w9 ⟨rfl, rfl⟩
        go_wp2_with fail
        go_ret
        exact ⟨rfl, FIN.out _ H8.out.right.right.right⟩
      · have hd5 : 5 < mode := by omega
        go_wp2_with fail
        refine (cmode_bad H7.out _ mode hmd).mono ?_
        rintro e w8 ⟨rfl, h8⟩
        have HL := Lib.hid (len_any (h8.perm (star_left_comm _ _ _)))
        have H8 := Lib.hid h8; clear h8 H7
        go_wp2_with fail
        refine HL.out.mono ?_
        rintro e w9 ⟨rfl, rfl⟩
        go_wp2_with fail
        go_ret
        exact ⟨rfl, FIN.out _ H8.out.right.right.right⟩
    · obtain ⟨i, hi⟩ : ∃ i : Nat, mode + 3 = i := ⟨(mode + 3).toNat, by omega⟩
      have hi8 : i ≤ 8 := by omega
      have hm3 : ¬ mode < -3 := by omega
      have hm3d : decide (mode < -3) = false := by simpa using hm3
      have hm5 : ¬ 5 < mode := by omega
      go_wp2_with fail
      refine (cwriteMode_any H7.out i hi8 (by simp) (j := mode) (by omega)).mono ?_
      rintro e w8 ⟨rfl, h8⟩
      rw [List.nil_append] at h8
      obtain ⟨v, hv, hvn⟩ := ne_mod (i := i) (by omega)
      have hvl := le_mod v (List.mem_of_getElem? hv)
      have hvb := bit_mod v (List.mem_of_getElem? hv)
      have hvg : modW.getD i [] = v := by rw [List.getD_eq_getElem?_getD, hv]; rfl
      rw [hvg] at h8
      have h8 := h8.perm (show _ = wrt Xb v false * (codes C * (wrt Wb [] false * Mz.old w)) by ac_rfl)
      have H8 := Lib.hid h8; clear h8 H7
      go_wp2_with fail
      refine (rmodes13_any H8.out).mono ?_
      rintro e w9 ⟨v9, rfl, h9⟩
      obtain ⟨a9, c9, rfl⟩ := h9.reads.sub
      obtain ⟨g9, rfl⟩ := own_at h9 (by omega)
      have x9 := h9.own_cell (i := i) (u := .string ⟨(tx v).toArray⟩) (by rw [List.getElem?_map, hv]; rfl)
      have hi10 : (i : Int) < 10 := by omega
      have h9 := h9.right
      have HW := Lib.hid h9; clear h9 H8 hmd hm3 hm3d hv
      have HB2 := Lib.hid hvb; clear hvb
      go_upto_region 17 with (fail)
      clear x9
      all_goals
        have hml : (tx v).length = v.length := by simp
        have K := fun (W : World) (v : Value) (n : Nat) (bs : List UInt8) (hr : Reads W 1 v n (bs.map bv)) => run_b2s (P := Tryd.prog) Tryd.underlying44 Tryd.underlying5 Tryd.underlying9 hr
        have HK := Lib.hid K; clear K
        go_region_with (first | (go_at_call 17; refine (len_any HW.out.drew).mono ?_; rintro e wl ⟨rfl, rfl⟩) | (go_at_call 19; refine (bytes_any HW.out.drew).mono ?_; rintro e wb ⟨vb, rfl, hb5⟩; have q5 := HK.out _ _ _ _ hb5.reads; obtain ⟨ab, cb, rfl⟩ := hb5.reads.sub; have H5 := Lib.hid hb5; clear hb5) | (go_at_call 20; refine (rbytes_any HB2.out false H5.out (by omega) rfl).mono ?_; rintro e wc ⟨rfl, h6⟩; have q6 := HK.out _ _ _ _ h6.reads; have H6 := Lib.hid h6; clear h6))
        all_goals
          go_wp2_with fail
          go_ret
          exact ⟨rfl, FIN.out _ H6.out.right.right.right.right⟩
  obtain ⟨k, rfl⟩ : ∃ k : Nat, n = k := ⟨n.toNat, by omega⟩
  have hk9 : k ≤ 32768 := by omega
  have hk0 : ¬ (k : Int) < 0 := by omega
  have hkd : decide ((k : Int) < 0) = false := by simp
  have hk2 : ¬ 32768 < (k : Int) := by omega
  go_wp2_with fail
  refine (cwrite_any H4.out k hk9 black (by simp) rfl).mono ?_
  rintro e w4 ⟨rfl, h5⟩
  rw [List.nil_append] at h5
  have htl := tell_len black k hk9
  have htb := bit_tellB black k
  have HRT := Lib.hid (fun (w' : World) (G : SProp) (h : St w w' G) => rtell_any h k hk9 black (j := (k : Int)) rfl)
  generalize tellB black k = l at *
  have h5 := h5.perm (show _ = wrt Wb l false * (codes C * Mz.old w) by ac_rfl)
  have H5' := Lib.hid h5; clear h5 H4
  go_wp2_with fail
  refine (HRT.out _ _ H5'.out).mono ?_
  rintro e w5 ⟨rfl, h6⟩
  have HW := Lib.hid h6; clear h6 H5'
  have HB2 := Lib.hid htb; clear htb
  have hml : (tx l).length = l.length := by simp
  have K := fun (W : World) (v : Value) (n : Nat) (bs : List UInt8) (hr : Reads W 1 v n (bs.map bv)) => run_b2s (P := Tryd.prog) Tryd.underlying44 Tryd.underlying5 Tryd.underlying9 hr
  have HK := Lib.hid K; clear K
  go_upto_region 10 with (fail)
  go_region_with (first | (go_at_call 17; refine (len_any HW.out.drew).mono ?_; rintro e wl ⟨rfl, rfl⟩) | (go_at_call 19; refine (bytes_any HW.out.drew).mono ?_; rintro e wb ⟨vb, rfl, hb5⟩; have q5 := HK.out _ _ _ _ hb5.reads; obtain ⟨ab, cb, rfl⟩ := hb5.reads.sub; have H5 := Lib.hid hb5; clear hb5) | (go_at_call 20; refine (rbytes_any HB2.out false H5.out (by omega) rfl).mono ?_; rintro e wc ⟨rfl, h6⟩; have q6 := HK.out _ _ _ _ h6.reads; have H6 := Lib.hid h6; clear h6))
  all_goals
    clear q5 q6
    have HA := Lib.hid (H6.out.right.perm (show _ = codes C * (wrt Wb l false * Mz.old w) by ac_rfl))
    clear H6 HW HB2 HK H5
    go_wp2_with fail
    refine (newWriter_any (low := false) HA.out).mono ?_
    rintro e w7 ⟨Xb, rfl, h7⟩
    have h7 := h7.perm (show _ = codes C * (wrt Xb [] false * (wrt Wb l false * Mz.old w)) by ac_rfl)
    have H7 := Lib.hid h7; clear h7
    by_cases hmd : mode < -3 ∨ 5 < mode
    · by_cases hmd3 : mode < -3
      · have hd3 : decide (mode < -3) = true := by simpa using hmd3
        go_wp2_with fail
        refine (cmode_bad H7.out _ mode hmd).mono ?_
        rintro e w8 ⟨rfl, h8⟩
        have HL := Lib.hid (len_any (h8.perm (star_left_comm _ _ _)))
        have H8 := Lib.hid h8; clear h8 H7
        go_wp2_with fail
        refine HL.out.mono ?_
        rintro e w9 ⟨rfl, rfl⟩
        go_wp2_with fail
        go_ret
        exact ⟨rfl, FIN.out _ H8.out.right.right.right⟩
      · have hd5 : 5 < mode := by omega
        go_wp2_with fail
        refine (cmode_bad H7.out _ mode hmd).mono ?_
        rintro e w8 ⟨rfl, h8⟩
        have HL := Lib.hid (len_any (h8.perm (star_left_comm _ _ _)))
        have H8 := Lib.hid h8; clear h8 H7
        go_wp2_with fail
        refine HL.out.mono ?_
        rintro e w9 ⟨rfl, rfl⟩
        go_wp2_with fail
        go_ret
        exact ⟨rfl, FIN.out _ H8.out.right.right.right⟩
    · obtain ⟨i, hi⟩ : ∃ i : Nat, mode + 3 = i := ⟨(mode + 3).toNat, by omega⟩
      have hi8 : i ≤ 8 := by omega
      have hm3 : ¬ mode < -3 := by omega
      have hm3d : decide (mode < -3) = false := by simpa using hm3
      have hm5 : ¬ 5 < mode := by omega
      go_wp2_with fail
      refine (cwriteMode_any H7.out i hi8 (by simp) (j := mode) (by omega)).mono ?_
      rintro e w8 ⟨rfl, h8⟩
      rw [List.nil_append] at h8
      obtain ⟨v, hv, hvn⟩ := ne_mod (i := i) (by omega)
      have hvl := le_mod v (List.mem_of_getElem? hv)
      have hvb := bit_mod v (List.mem_of_getElem? hv)
      have hvg : modW.getD i [] = v := by rw [List.getD_eq_getElem?_getD, hv]; rfl
      rw [hvg] at h8
      have h8 := h8.perm (show _ = wrt Xb v false * (codes C * (wrt Wb l false * Mz.old w)) by ac_rfl)
      have H8 := Lib.hid h8; clear h8 H7
      go_wp2_with fail
      refine (rmodes13_any H8.out).mono ?_
      rintro e w9 ⟨v9, rfl, h9⟩
      obtain ⟨a9, c9, rfl⟩ := h9.reads.sub
      obtain ⟨g9, rfl⟩ := own_at h9 (by omega)
      have x9 := h9.own_cell (i := i) (u := .string ⟨(tx v).toArray⟩) (by rw [List.getElem?_map, hv]; rfl)
      have hi10 : (i : Int) < 10 := by omega
      have h9 := h9.right
      have HW := Lib.hid h9; clear h9 H8 hmd hm3 hm3d hv
      have HB2 := Lib.hid hvb; clear hvb
      go_upto_region 17 with (fail)
      clear x9
      all_goals
        have hml : (tx v).length = v.length := by simp
        have K := fun (W : World) (v : Value) (n : Nat) (bs : List UInt8) (hr : Reads W 1 v n (bs.map bv)) => run_b2s (P := Tryd.prog) Tryd.underlying44 Tryd.underlying5 Tryd.underlying9 hr
        have HK := Lib.hid K; clear K
        go_region_with (first | (go_at_call 17; refine (len_any HW.out.drew).mono ?_; rintro e wl ⟨rfl, rfl⟩) | (go_at_call 19; refine (bytes_any HW.out.drew).mono ?_; rintro e wb ⟨vb, rfl, hb5⟩; have q5 := HK.out _ _ _ _ hb5.reads; obtain ⟨ab, cb, rfl⟩ := hb5.reads.sub; have H5 := Lib.hid hb5; clear hb5) | (go_at_call 20; refine (rbytes_any HB2.out false H5.out (by omega) rfl).mono ?_; rintro e wc ⟨rfl, h6⟩; have q6 := HK.out _ _ _ _ h6.reads; have H6 := Lib.hid h6; clear h6))
        all_goals
          go_wp2_with fail
          go_ret
          exact ⟨rfl, FIN.out _ H6.out.right.right.right.right⟩
#print axioms walk
end Go.Proofs.YtbpikbdebffnjaaDoor.fwrites
