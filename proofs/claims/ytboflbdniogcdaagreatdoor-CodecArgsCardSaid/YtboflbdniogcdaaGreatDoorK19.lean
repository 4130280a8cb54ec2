/-
  Parts of a proof.
-/
import Derived.Test.YtboflbdniogcdaaGreatDoorK16
import Derived.Test.YtboflbdniogcdaaGreatDoorFld
import Derived.Test.YtboflbdniogcdaaGreatDoorK17
import Derived.Test.YtboflbdniogcdaaGreatDoorK18
import Derived.RegionTactic
import Derived.BigRegion
namespace Go.Proofs.YtboflbdniogcdaaGreatDoor
open Go.RowKit Go.Mz
set_option linter.unusedVariables false
set_option linter.unusedSimpArgs false
set_option maxRecDepth 1000000
theorem reads_int1F (w : World) (x : Int) : Reads (w.alloc (.cells #[.int .i64 x] 3)) 1 (.slice (some ⟨w.heap.size, 0, none⟩) 1 1) 1 ([x].map iv) :=
 (St.own_blk (e := 3) (size := 1) (n := 1) (cap := 1) (xs := [x].map iv) ((St.init w).alloc _) (Nat.le_refl _) (by decide) rfl rfl).reads
def Tab (w0 : World) (F : SProp) : Prop := Stb w0 F (fun w => Lib.TabIs Tryz.prog w "strings.asciiSpace" .u8 Lib.asciiSpaceTab)
theorem fields_any {w0 w : World} {F : SProp} (h : St w0 w F) (ht : Tab w0 F) (s : ByteArray) (ls : List (List UInt8)) (hf : Lib.fields s.data.toList = ls) (hs : s.size < 4294967281) (ha : ∀ b ∈ s.data.toList, b.toNat < 128) (hl : ls.length ≤ 100000) :
  Calls Tryz.prog 174 #[.string s] w fun e w' => ∃ v, e = .returned v ∧ St w0 w' (own 9 1 v ls.length (ls.map svB) * F) := by
 refine (Tryz.strings_Fields s w hs (fun j b hb => ha b (List.mem_of_getElem? hb)) (ht w h)).mono ?_
 rintro e w' ⟨rfl, rfl⟩
 rw [hf]
 refine ⟨_, rfl, ?_⟩
 exact St.own_blk (h.alloc _) (Nat.le_refl _) (by unfold maxLen; omega) (by simp) (by
  simp only [Nat.mul_one]
  rw [List.take_of_length_le (by simp)]
  rfl)
set_option maxHeartbeats 40000000 in
theorem modes_any {w0 w : World} {F : SProp} (h : St w0 w F) (ht : Tab w0 F) :
  Calls Tryz.prog 139 #[] w fun e w' => ∃ vw vm, e = .returned (.tuple #[vw, vm]) ∧ St w0 w' (own 9 1 vw 10 (modW.map txv) * (own 196 1 vm 10 (modI.map iv) * F)) := by
 have H := Lib.hid h; clear h
 have HT := Lib.hid ht; clear ht
 go_enter Tryz.func139, Tryz.ntmps139
 go_wp2_with fail
 refine (fields_any H.out HT.out _ (modW.map tx) (by decide +kernel) (by decide +kernel) (by decide +kernel) (by decide)).mono ?_
 rintro e w2 ⟨v2, rfl, h2⟩
 obtain ⟨a2, c2, rfl⟩ := h2.reads.sub
 have h3 := h2.lit #[.int .i64 (-3), .int .i64 (-2), .int .i64 (-1), .int .i64 0, .int .i64 1, .int .i64 2, .int .i64 3, .int .i64 4, .int .i64 5, .int .i64 6] 196 10 rfl (by decide)
 have H3 := Lib.hid h3; clear h2 h3
 go_wp2_with fail
 go_ret2
 refine ⟨_, _, rfl, ?_⟩
 have h4 := H3.out.perm (star_left_comm _ _ _)
 have e : (modW.map tx).map svB = modW.map txv := by rw [List.map_map]; rfl
 rw [e] at h4
 exact h4
theorem fax_step {k : Nat} (h : k < 104) : (faxI.take (k + 1)).map iv = (faxI.take k).map iv ++ [((faxL k : Nat) : Int)].map iv := by
 have hx : faxI[k]? = some ((faxL k : Nat) : Int) := by rw [faxI, List.getElem?_map, List.getElem?_range h]; rfl
 rw [List.take_add_one, hx, ← List.map_append]; rfl
set_option maxHeartbeats 40000000 in
theorem words_any {w0 w : World} {F : SProp} (h : St w0 w F) (ht : Tab w0 F) (black : Bool) :
  Calls Tryz.prog 137 #[.bool black] w fun e w' => ∃ vw vl, e = .returned (.tuple #[vw, vl]) ∧ St w0 w' (own 3 1 vl 104 (faxI.map iv) * (own 9 1 vw 104 ((faxW black).map txv) * F)) := by
 have H := Lib.hid h; clear h
 have HT := Lib.hid ht; clear ht
 cases black
 ·go_enter Tryz.func137, Tryz.ntmps137
  go_wp2_with fail
  refine (fields_any H.out HT.out _ ((faxW false).map tx) (by decide +kernel) (by decide +kernel) (by decide +kernel) (by decide +kernel)).mono ?_
  rintro e w2 ⟨v2, rfl, h2⟩
  have e2 : ((faxW false).map tx).map svB = (faxW false).map txv := by rw [List.map_map]; rfl
  have l2 : ((faxW false).map tx).length = 104 := by rw [List.length_map, len_fax]
  rw [e2, l2] at h2
  obtain ⟨a2, c2, rfl⟩ := h2.reads.sub
  have H2 := Lib.hid (St.own_nil 3 1 h2); clear h2 e2 l2
  obtain ⟨FW, hFW⟩ : ∃ FW, FW = faxW false := ⟨_, rfl⟩
  rw [← hFW] at H2
  have HFW := Lib.hid hFW; clear hFW
  have T := elemI
  go_wp2_with fail
  go_loopw [7, 19] (fun vo vi wr => ∃ (k : Nat) (ao : Option Addr) (co : Nat), k ≤ 104 ∧ vi = .int .i64 k ∧ vo = .slice ao k co ∧ St w0 wr (own 3 1 (.slice ao k co) k ((faxI.take k).map iv) * (own 9 1 (.slice a2 104 c2) 104 (FW.map txv) * F))) (fun _ vi _ => 104 - (intOf vi).toNat)
  case atStart => exact ⟨0, none, 0, by omega, rfl, rfl, H2.out⟩
  case round =>
   clear H2
   obtain ⟨k, ao, co, hk, rfl, rfl, hst⟩ := hrel
   by_cases hk4 : k < 104
   ·have hk5 : (k : Int) < 104 := by omega
    have HX := Lib.hid (fax_step hk4)
    have HST := Lib.hid hst; clear hst
    by_cases h64 : k < 64
    ·have h64' : (k : Int) < 64 := by omega
     have HL := Lib.hid (show faxL k = k by rw [faxL, if_pos h64])
     go_wp2_with (at_builtin; apply stop)
     refine on (wpList_append_sep T rfl _ _ rfl rfl (HST.out.drop_alloc (.cells #[.int .i64 (k : Int)] 3)) rfl (reads_int1F wr k) (iv_oneCell [(k : Int)]) ?_ ?_ ?_)
     ·unfold maxLen; omega
     ·omega
     intro v' w7 h9 _
     rw [HL.out] at HX
     rw [← HX.out] at h9
     obtain ⟨aN, cN, rfl⟩ := h9.reads.sub
     have H9 := Lib.hid h9; clear h9
     go_wp2_with fail
     exact ⟨⟨k + 1, aN, cN, by omega, by go_num, rfl, H9.out⟩, by simp [intOf]; omega⟩
    ·have h64' : ¬ (k : Int) < 64 := by omega
     have HL := Lib.hid (show faxL k = 64 * (k - 63) by rw [faxL, if_neg h64])
     have hs1 : (k : Int) - 63 = ((k - 63 : Nat) : Int) := by omega
     obtain ⟨m, hm⟩ : ∃ m, m = 64 * (k - 63) := ⟨_, rfl⟩
     have hs2 : (64 : Int) * ((k - 63 : Nat) : Int) = (m : Int) := by omega
     have hm9 : m ≤ 3000 := by omega
     rw [HL.out, ← hm] at HX
     clear hm HL
     generalize k - 63 = j at *
     go_wp2_with (at_builtin; apply stop)
     refine on (wpList_append_sep T rfl _ _ rfl rfl (HST.out.drop_alloc (.cells #[.int .i64 (m : Int)] 3)) rfl (reads_int1F wr m) (iv_oneCell [(m : Int)]) ?_ ?_ ?_)
     ·unfold maxLen; omega
     ·omega
     intro v' w7 h9 _
     rw [← HX.out] at h9
     obtain ⟨aN, cN, rfl⟩ := h9.reads.sub
     have H9 := Lib.hid h9; clear h9
     go_wp2_with fail
     exact ⟨⟨k + 1, aN, cN, by omega, by go_num, rfl, H9.out⟩, by simp [intOf]; omega⟩
   ·obtain rfl : k = 104 := by omega
    have e : faxI.take 104 = faxI := List.take_of_length_le (by rw [length_faxI]; omega)
    rw [e] at hst
    have HST := Lib.hid hst; clear hst
    go_wp2_with fail
    go_ret2
    exact ⟨.slice a2 104 c2, .slice ao 104 co, rfl, by rw [← HFW.out]; exact HST.out⟩
 ·go_enter Tryz.func137, Tryz.ntmps137
  go_wp2_with fail
  refine (fields_any H.out HT.out _ ((faxW true).map tx) (by decide +kernel) (by decide +kernel) (by decide +kernel) (by decide +kernel)).mono ?_
  rintro e w2 ⟨v2, rfl, h2⟩
  have e2 : ((faxW true).map tx).map svB = (faxW true).map txv := by rw [List.map_map]; rfl
  have l2 : ((faxW true).map tx).length = 104 := by rw [List.length_map, len_fax]
  rw [e2, l2] at h2
  obtain ⟨a2, c2, rfl⟩ := h2.reads.sub
  have H2 := Lib.hid (St.own_nil 3 1 h2); clear h2 e2 l2
  obtain ⟨FW, hFW⟩ : ∃ FW, FW = faxW true := ⟨_, rfl⟩
  rw [← hFW] at H2
  have HFW := Lib.hid hFW; clear hFW
  have T := elemI
  go_wp2_with fail
  go_loopw [7, 19] (fun vo vi wr => ∃ (k : Nat) (ao : Option Addr) (co : Nat), k ≤ 104 ∧ vi = .int .i64 k ∧ vo = .slice ao k co ∧ St w0 wr (own 3 1 (.slice ao k co) k ((faxI.take k).map iv) * (own 9 1 (.slice a2 104 c2) 104 (FW.map txv) * F))) (fun _ vi _ => 104 - (intOf vi).toNat)
  case atStart => exact ⟨0, none, 0, by omega, rfl, rfl, H2.out⟩
  case round =>
   clear H2
   obtain ⟨k, ao, co, hk, rfl, rfl, hst⟩ := hrel
   by_cases hk4 : k < 104
   ·have hk5 : (k : Int) < 104 := by omega
    have HX := Lib.hid (fax_step hk4)
    have HST := Lib.hid hst; clear hst
    by_cases h64 : k < 64
    ·have h64' : (k : Int) < 64 := by omega
     have HL := Lib.hid (show faxL k = k by rw [faxL, if_pos h64])
     go_wp2_with (at_builtin; apply stop)
     refine on (wpList_append_sep T rfl _ _ rfl rfl (HST.out.drop_alloc (.cells #[.int .i64 (k : Int)] 3)) rfl (reads_int1F wr k) (iv_oneCell [(k : Int)]) ?_ ?_ ?_)
     ·unfold maxLen; omega
     ·omega
     intro v' w7 h9 _
     rw [HL.out] at HX
     rw [← HX.out] at h9
     obtain ⟨aN, cN, rfl⟩ := h9.reads.sub
     have H9 := Lib.hid h9; clear h9
     go_wp2_with fail
     exact ⟨⟨k + 1, aN, cN, by omega, by go_num, rfl, H9.out⟩, by simp [intOf]; omega⟩
    ·have h64' : ¬ (k : Int) < 64 := by omega
     have HL := Lib.hid (show faxL k = 64 * (k - 63) by rw [faxL, if_neg h64])
     have hs1 : (k : Int) - 63 = ((k - 63 : Nat) : Int) := by omega
     obtain ⟨m, hm⟩ : ∃ m, m = 64 * (k - 63) := ⟨_, rfl⟩
     have hs2 : (64 : Int) * ((k - 63 : Nat) : Int) = (m : Int) := by omega
     have hm9 : m ≤ 3000 := by omega
     rw [HL.out, ← hm] at HX
     clear hm HL
     generalize k - 63 = j at *
     go_wp2_with (at_builtin; apply stop)
     refine on (wpList_append_sep T rfl _ _ rfl rfl (HST.out.drop_alloc (.cells #[.int .i64 (m : Int)] 3)) rfl (reads_int1F wr m) (iv_oneCell [(m : Int)]) ?_ ?_ ?_)
     ·unfold maxLen; omega
     ·omega
     intro v' w7 h9 _
     rw [← HX.out] at h9
     obtain ⟨aN, cN, rfl⟩ := h9.reads.sub
     have H9 := Lib.hid h9; clear h9
     go_wp2_with fail
     exact ⟨⟨k + 1, aN, cN, by omega, by go_num, rfl, H9.out⟩, by simp [intOf]; omega⟩
   ·obtain rfl : k = 104 := by omega
    have e : faxI.take 104 = faxI := List.take_of_length_le (by rw [length_faxI]; omega)
    rw [e] at hst
    have HST := Lib.hid hst; clear hst
    go_wp2_with fail
    go_ret2
    exact ⟨.slice a2 104 c2, .slice ao 104 co, rfl, by rw [← HFW.out]; exact HST.out⟩
end Go.Proofs.YtboflbdniogcdaaGreatDoor
namespace Go.Proofs.YtboflbdniogcdaaGreatDoor
open Go.RowKit Go.Mz
set_option linter.unusedVariables false
set_option linter.unusedSimpArgs false
set_option maxRecDepth 100000
def codes (C : Nat) : SProp := sEx fun x : Nat × Nat × Nat =>
 blk C (.cells #[.pointer (some ⟨x.1, 0, none⟩), .pointer (some ⟨x.2.1, 0, none⟩), .pointer (some ⟨x.2.2, 0, none⟩)] 186) * (bkI x.1 (faxW false) faxI * (bkI x.2.1 (faxW true) faxI * bkM x.2.2 modW modI))
theorem codes_open {w0 w : World} {C : Nat} {F : SProp} (h : St w0 w (codes C * F)) : ∃ B0 B1 Bm : Nat,
  St w0 w (blk C (.cells #[.pointer (some ⟨B0, 0, none⟩), .pointer (some ⟨B1, 0, none⟩), .pointer (some ⟨Bm, 0, none⟩)] 186) * (bkI B0 (faxW false) faxI * (bkI B1 (faxW true) faxI * (bkM Bm modW modI * F)))) := by
 obtain ⟨⟨B0, B1, Bm⟩, h⟩ := h.ex_l
 exact ⟨B0, B1, Bm, h.perm (by simp only; ac_rfl)⟩
theorem codes_shut {w0 w : World} {C B0 B1 Bm : Nat} {F : SProp}
  (h : St w0 w (blk C (.cells #[.pointer (some ⟨B0, 0, none⟩), .pointer (some ⟨B1, 0, none⟩), .pointer (some ⟨Bm, 0, none⟩)] 186) * (bkI B0 (faxW false) faxI * (bkI B1 (faxW true) faxI * (bkM Bm modW modI * F))))) : St w0 w (codes C * F) :=
 St.mk_ex_l (B0, B1, Bm) (h.perm (by simp only; ac_rfl))
theorem newI_fax {w0 w : World} {F : SProp} (black : Bool) {vm vw : Value} (h : St w0 w (own 3 1 vm 104 (faxI.map iv) * (own 9 1 vw 104 ((faxW black).map txv) * F))) :
  Calls Tryz.prog 138 #[vw, vm] w fun e w' => ∃ B, e = .returned (.tuple #[.pointer (some ⟨B, 0, none⟩), .int .i64 0]) ∧ St w0 w' (bkI B (faxW black) faxI * F) :=
 bkI_new h (by rw [len_fax]) (by rw [length_faxI, len_fax]) (bit_fax black) (pf_fax black) (by rw [len_fax]; decide) (fun w hw => by have := (le_fax black w hw).2; omega)
theorem newM_fax {w0 w : World} {F : SProp} {vm vw : Value} (h : St w0 w (own 196 1 vm 10 (modI.map iv) * (own 9 1 vw 10 (modW.map txv) * F))) :
  Calls Tryz.prog 140 #[vw, vm] w fun e w' => ∃ B, e = .returned (.tuple #[.pointer (some ⟨B, 0, none⟩), .int .i64 0]) ∧ St w0 w' (bkM B modW modI * F) :=
 bkM_new h (by rw [len_mod]) (by rw [length_modI, len_mod]) bit_mod pf_mod (by rw [len_mod]; decide) (fun w hw => by have := (le_mod w hw).2; omega)
set_option maxHeartbeats 40000000 in
theorem newCodes_any {w0 w : World} {F : SProp} (h : St w0 w F) (ht : Tab w0 F) :
  Calls Tryz.prog 92 #[] w fun e w' => ∃ C, e = .returned (.pointer (some ⟨C, 0, none⟩)) ∧ St w0 w' (codes C * F) := by
 have h1 := h.alloc (.cells #[.pointer none, .pointer none, .pointer none] 186)
 have H1 := Lib.hid h1; clear h h1
 have HT := Lib.hid ht; clear ht
 go_enter Tryz.func92, Tryz.ntmps92
 go_upto_region 2 with (fail)
 generalize w.heap.size = C at *
 generalize w.alloc (.cells #[.pointer none, .pointer none, .pointer none] 186) = w1 at *
 go_wp2_with fail
 go_loopw [9] (fun vi wr => (vi = .int .i64 0 ∧ St w0 wr (blk C (.cells #[.pointer none, .pointer none, .pointer none] 186) * F)) ∨
  (vi = .int .i64 1 ∧ ∃ B0 : Nat, St w0 wr (blk C (.cells #[.pointer (some ⟨B0, 0, none⟩), .pointer none, .pointer none] 186) * (bkI B0 (faxW false) faxI * F))) ∨
  (vi = .int .i64 2 ∧ ∃ B0 B1 : Nat, St w0 wr (blk C (.cells #[.pointer (some ⟨B0, 0, none⟩), .pointer (some ⟨B1, 0, none⟩), .pointer none] 186) * (bkI B1 (faxW true) faxI * (bkI B0 (faxW false) faxI * F))))) (fun vi _ => 2 - (intOf vi).toNat)
 case atStart => exact .inl ⟨rfl, H1.out⟩
 case round =>
  clear H1
  rcases hrel with ⟨rfl, hst⟩ | ⟨rfl, B0, hst⟩ | ⟨rfl, B0, B1, hst⟩
  ·have HW := Lib.hid (words_any hst (fun w h => HT.out w h.right) false); clear hst
   go_wp2_with fail
   refine HW.out.mono ?_
   rintro e w2 ⟨vw, vl, rfl, h2⟩
   obtain ⟨aw, cw, rfl⟩ := h2.right.reads.sub
   obtain ⟨al, cl, rfl⟩ := h2.reads.sub
   have HN := Lib.hid (newI_fax false h2.drew)
   clear h2 HW
   go_upto_region 6 with (fail)
   go_region_with (first | (go_at_call 138; refine HN.out.mono ?_; rintro e w3 ⟨B0, rfl, h3⟩; have h3 := h3.perm (star_left_comm _ _ _); have f0 := h3.free 0; have c0 := h3.cell 0 rfl; have H4 := Lib.hid (h3.set 0 (.pointer (some ⟨B0, 0, none⟩))); clear h3))
   all_goals
    clear f0 c0 HN
    generalize w3.setCell ⟨C, 0, none⟩ (.pointer (some ⟨B0, 0, none⟩)) = w4 at *
    go_wp2_with fail
    exact ⟨.inr (.inl ⟨by go_num, B0, H4.out⟩), by simp [intOf]⟩
  ·have HW := Lib.hid (words_any hst (fun w h => HT.out w h.right.right) true); clear hst
   go_wp2_with fail
   refine HW.out.mono ?_
   rintro e w2 ⟨vw, vl, rfl, h2⟩
   obtain ⟨aw, cw, rfl⟩ := h2.right.reads.sub
   obtain ⟨al, cl, rfl⟩ := h2.reads.sub
   have HN := Lib.hid (newI_fax true h2.drew)
   clear h2 HW
   go_upto_region 6 with (fail)
   go_region_with (first | (go_at_call 138; refine HN.out.mono ?_; rintro e w3 ⟨B1, rfl, h3⟩; have h3 := h3.perm (star_left_comm _ _ _); have f0 := h3.free 1; have c0 := h3.cell 1 rfl; have H4 := Lib.hid (h3.set 1 (.pointer (some ⟨B1, 0, none⟩))); clear h3))
   all_goals
    clear f0 c0 HN
    generalize w3.setCell ⟨C, 1, none⟩ (.pointer (some ⟨B1, 0, none⟩)) = w4 at *
    go_wp2_with fail
    exact ⟨.inr (.inr ⟨by go_num, B0, B1, H4.out⟩), by simp [intOf]⟩
  ·have HM := Lib.hid (modes_any hst (fun w h => HT.out w h.right.right.right)); clear hst
   go_wp2_with fail
   refine HM.out.mono ?_
   rintro e w2 ⟨vw, vm, rfl, h2⟩
   have h2 := h2.perm (star_left_comm _ _ _)
   obtain ⟨aw, cw, rfl⟩ := h2.right.reads.sub
   obtain ⟨am, cm, rfl⟩ := h2.reads.sub
   have HN := Lib.hid (newM_fax h2)
   clear h2 HM
   go_wp2_with fail
   refine HN.out.mono ?_
   rintro e w3 ⟨Bm, rfl, h3⟩
   have h3 := h3.perm (star_left_comm _ _ _)
   have f0 := h3.free 2
   have c0 := h3.cell 2 rfl
   have H4 := Lib.hid (h3.set 2 (.pointer (some ⟨Bm, 0, none⟩))); clear h3
   go_wp2_with fail
   go_ret
   refine ⟨C, rfl, codes_shut (B0 := B0) (B1 := B1) (Bm := Bm) ?_⟩
   exact H4.out.perm (show _ = blk C (.cells #[.pointer (some ⟨B0, 0, none⟩), .pointer (some ⟨B1, 0, none⟩), .pointer (some ⟨Bm, 0, none⟩)] 186) * (bkI B0 (faxW false) faxI * (bkI B1 (faxW true) faxI * (bkM Bm modW modI * F))) by
    show blk C (.cells #[.pointer (some ⟨B0, 0, none⟩), .pointer (some ⟨B1, 0, none⟩), .pointer (some ⟨Bm, 0, none⟩)] 186) * (bkM Bm modW modI * (bkI B1 (faxW true) faxI * (bkI B0 (faxW false) faxI * F))) = _
    ac_rfl)
end Go.Proofs.YtboflbdniogcdaaGreatDoor
