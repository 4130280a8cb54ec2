/-
  Layer 5: what stands behind the codes doesn't matter; fewer bytes are their beginning, or are refused.
-/
import Derived.Test.YtpjonjiofaaccaaLzwI
import Derived.Test.YtpjonjiofaaccaaLzwX
namespace Go.Proofs.Ytpjonjiofaaccaa.ltail
open Go.RowKit Go.Mz
set_option linter.unusedVariables false
set_option linter.unusedSimpArgs false

theorem reads_take {w : World} {a : Option Addr} {n c k : Nat} {bs : List UInt8} (h : Reads w 1 (.slice a n c) n (bs.map bv)) (hk : k ≤ n) : Reads w 1 (.slice a k c) k ((bs.take k).map bv) := by
  obtain ⟨hl, ⟨e1, e2⟩ | ⟨x, cap, e1, h1, h2, h3⟩⟩ := h
  · subst e2
    cases e1
    obtain rfl : k = 0 := by omega
    exact ⟨by simp, .inl ⟨rfl, rfl⟩⟩
  · cases e1
    refine ⟨by simp at hl ⊢; omega, .inr ⟨x, c, rfl, by omega, h2, fun j u hu => h3 j u ?_⟩⟩
    rw [List.map_take, List.getElem?_take] at hu
    split at hu
    · exact hu
    · cases hu

theorem kmod (n : Int) (len : Nat) (h : len ≤ 1000000000) : ∃ K : Nat, wrap64 ((IntKind.u64.wrap n).tmod ((len : Int) + 1)) = K ∧ K ≤ len := by
  have h0 : 0 ≤ IntKind.u64.wrap n := by
    simp [IntKind.wrap, IntKind.bits, IntKind.signed]
    exact Int.emod_nonneg _ (by decide)
  rw [Int.tmod_eq_emod_of_nonneg h0]
  have h1 := Int.emod_nonneg (IntKind.u64.wrap n) (show (len : Int) + 1 ≠ 0 by omega)
  have h2 := Int.emod_lt_of_pos (IntKind.u64.wrap n) (show (0 : Int) < (len : Int) + 1 by omega)
  generalize IntKind.u64.wrap n % ((len : Int) + 1) = x at *
  refine ⟨x.toNat, ?_, by omega⟩
  rw [wrap64]
  omega
theorem reads_cap {w : World} {a : Option Addr} {n c : Nat} {xs : List Value} (h : Reads w 1 (.slice a n c) n xs) : n ≤ c := by
  obtain ⟨hl, ⟨e1, e2⟩ | ⟨x, cap, e1, h1, h2, h3⟩⟩ := h
  · omega
  · cases e1; exact h1

set_option maxRecDepth 100000 in
set_option maxHeartbeats 40000000 in
theorem walk (vb : Value) (bs : List UInt8) (vt : Value) (ts : List UInt8) (n : Int) (w : World) (hb : Reads w 1 vb bs.length (bs.map bv)) (ht : Reads w 1 vt ts.length (ts.map bv)) :
    Calls Try.prog 7 #[vb, vt, .int .i64 n] w fun e w' => e = .returned (.bool true) ∧ Below w.heap.size w w' := by
  have HB := Lib.hid (Stb.of_old hb)
  have HT := Lib.hid (Stb.of_old ht)
  obtain ⟨a1, c1, rfl⟩ := hb.sub
  obtain ⟨a2, c2, rfl⟩ := ht.sub
  have hm := hb.len_le
  have hm2 := ht.len_le
  unfold maxLen at hm hm2
  clear hb ht
  have H := Lib.hid (St.init w)
  have fin : ∀ w', St w w' (Mz.old w) → Below w.heap.size w w' := fun w' h => (h.perm ((emp_star _).symm.trans (star_comm _ _))).below
  have FIN := Lib.hid fin; clear fin
  by_cases hl6 : 1500 < bs.length
  · have hl7 : 1500 < (bs.length : Int) := by omega
    go_enter Try.func7, Try.ntmps7
    go_wp2_with fail
    refine (lives05 H.out).mono ?_
    rintro e w1 ⟨rfl, h2⟩
    have H2 := Lib.hid h2; clear h2
    go_wp2_with fail
    refine (lives05 H2.out).mono ?_
    rintro e w2 ⟨rfl, h3⟩
    have H3 := Lib.hid h3; clear h3
    go_wp2_with fail
    go_ret
    exact ⟨rfl, FIN.out _ H3.out⟩
  have hl7 : ¬ 1500 < (bs.length : Int) := by omega
  by_cases hl8 : 100 < ts.length
  · have hl9 : 100 < (ts.length : Int) := by omega
    go_enter Try.func7, Try.ntmps7
    go_wp2_with fail
    refine (lives05 H.out).mono ?_
    rintro e w1 ⟨rfl, h2⟩
    have H2 := Lib.hid h2; clear h2
    go_wp2_with fail
    refine (lives05 H2.out).mono ?_
    rintro e w2 ⟨rfl, h3⟩
    have H3 := Lib.hid h3; clear h3
    go_wp2_with fail
    go_ret
    exact ⟨rfl, FIN.out _ H3.out⟩
  have hl9 : ¬ 100 < (ts.length : Int) := by omega
  have T := elemBytes
  go_enter Try.func7, Try.ntmps7
  go_wp2_with fail
  refine (lives05 H.out).mono ?_
  rintro e w1 ⟨rfl, h2⟩
  have H2 := Lib.hid h2; clear h2
  go_wp2_with fail
  refine (encode_any H2.out bs HB.out (by omega)).mono ?_
  rintro e w2 ⟨v2, rfl, h3⟩
  have hx5 : (bytesB false (encB bs)).length ≤ 5000 := by rw [length_bytesB]; have := length_encB bs; omega
  have hD := fun tail m => dec_encB bs (agree_encB bs tail) m
  have HD := Lib.hid hD; clear hD
  generalize hX : bytesB false (encB bs) = X at *
  obtain ⟨a3, c3, rfl⟩ := h3.reads.sub
  have H3 := Lib.hid h3; clear h3
  clear hX
  go_wp2_with (at_builtin; apply stop)
  refine on (wpList_append_sep T rfl _ _ rfl rfl (St.own_blk (e := 5) (size := 1) (n := 0) (cap := 0) (xs := []) (H3.out.alloc (.cells #[] 5)) (Nat.le_refl _) (Nat.zero_le _) rfl rfl) rfl ((H3.out.drop_alloc _).reads) (bv_oneCell X) ?_ ?_ ?_)
  · unfold maxLen; omega
  · omega
  intro v4 w4 h4 _
  simp only [Nat.zero_add, List.nil_append] at h4
  obtain ⟨a4, c4, rfl⟩ := h4.reads.sub
  have H4 := Lib.hid h4; clear h4
  go_wp2_with (at_builtin; apply stop)
  refine on (wpList_append_sep T rfl _ _ rfl rfl H4.out rfl (HT.out _ H4.out.right.right) (bv_oneCell ts) ?_ ?_ ?_)
  · unfold maxLen; omega
  · omega
  intro v5 w5 h5 _
  rw [← List.map_append, ← List.length_append] at h5
  obtain ⟨a5, c5, rfl⟩ := h5.reads.sub
  have H5 := Lib.hid h5; clear h5
  have C := lDecode_all H5.out (X ++ ts) Stb.of_own (by rw [List.length_append]; omega) bs.length (by omega)
  rw [(HD.out ts bs.length).2.2 rfl] at C
  have HC := Lib.hid C; clear C
  have hlen : (X ++ ts).length = X.length + ts.length := List.length_append
  have HLEN := Lib.hid hlen; clear hlen
  generalize (X ++ ts).length = XT at *
  go_wp2_with fail
  refine HC.out.mono ?_
  rintro e w6 ⟨v6, rfl, h6⟩
  obtain ⟨a6, c6, rfl⟩ := h6.reads.sub
  have q1 : (convert 22 9 (.slice a6 bs.length c6)).run Try.prog w6 = .ok (.string ⟨(bs).toArray⟩) w6 := run_b2s (P := Try.prog) Try.underlying22 Try.underlying5 Try.underlying9 h6.reads
  have q2 : (convert 22 9 (.slice a1 bs.length c1)).run Try.prog w6 = .ok (.string ⟨(bs).toArray⟩) w6 := run_b2s (P := Try.prog) Try.underlying22 Try.underlying5 Try.underlying9 (HB.out _ h6.right.right.right)
  have H6 := Lib.hid (h6.right.right); clear h6 HC
  go_wp2_with fail
  obtain ⟨K, hK, hK2⟩ := kmod n bs.length (by omega)
  rw [hK]
  have hKc := reads_cap (HB.out _ H6.out.right)
  have C := lDecode_all H6.out X Stb.of_own (by omega) K (by omega)
  have hcase := (HD.out [] K).2.1 hK2
  have hend := (HD.out [] (bs.length + 1)).1 (by omega)
  rw [List.append_nil] at hcase hend
  have HEND := Lib.hid (show dec (bitsL false X) false ((bs.length : Int) + 1) = ([], 2) from hend); clear hend
  have HK := Lib.hid hK; clear hK
  have hK0 : (0 : Int) ≤ K := by omega
  have hK3 : (K : Int) ≤ bs.length := by omega
  have hK4 : (K : Int) ≤ c1 := by omega
  have hs1 : IntKind.i64.wrap ((bs.length : Int) + 1) = (bs.length : Int) + 1 := IntWalk.i64_in _ (by omega)
  rcases hcase with hcase | hcase
  · rw [hcase] at C
    have HC := Lib.hid C; clear C hcase
    refine HC.out.mono ?_
    rintro e w7 ⟨v7, rfl, h7⟩
    simp only at h7
    have hlt : (bs.take K).length = K := by rw [List.length_take]; omega
    rw [hlt] at h7
    obtain ⟨a7, c7, rfl⟩ := h7.reads.sub
    have q3 : ∀ m, (convert 22 9 (.slice a7 K c7)).run Try.prog (w7.drewN m) = .ok (.string ⟨(bs.take K).toArray⟩) (w7.drewN m) := fun m => run_b2s (P := Try.prog) Try.underlying22 Try.underlying5 Try.underlying9 (h7.drewN m).reads
    have q4 : ∀ m, (convert 22 9 (.slice a1 K c1)).run Try.prog (w7.drewN m) = .ok (.string ⟨(bs.take K).toArray⟩) (w7.drewN m) := fun m => run_b2s (P := Try.prog) Try.underlying22 Try.underlying5 Try.underlying9 (reads_take (HB.out _ (h7.drewN m).right.right) hK2)
    have H7 := Lib.hid h7.right; clear h7 HC
    generalize hstr : (ByteArray.mk (bs.take K).toArray) = str at *
    clear hstr
    go_upto_region 9 with (fail)
    go_quiet (fail)
    have h8 := H7.out.drewN nq
    generalize w7.drewN nq = w8 at *
    have C := lDecode_all h8 X Stb.of_own (by omega) (bs.length + 1) (by omega)
    rw [HEND.out] at C
    have HC := Lib.hid C; clear C
    go_wp2_with fail
    refine HC.out.mono ?_
    rintro e w9 ⟨v9, rfl, h9⟩
    obtain ⟨a9, c9, rfl⟩ := h9.reads.sub
    have H9 := Lib.hid h9; clear h9
    go_wp2_with fail
    go_ret
    exact ⟨rfl, FIN.out _ H9.out.right.right⟩
  · rw [hcase] at C
    have HC := Lib.hid C; clear C hcase
    refine HC.out.mono ?_
    rintro e w7 ⟨v7, rfl, h7⟩
    obtain ⟨a7, c7, rfl⟩ := h7.reads.sub
    have H7 := Lib.hid h7.right; clear h7 HC
    go_upto_region 9 with (fail)
    go_quiet (fail)
    have h8 := H7.out.drewN nq
    generalize w7.drewN nq = w8 at *
    have C := lDecode_all h8 X Stb.of_own (by omega) (bs.length + 1) (by omega)
    rw [HEND.out] at C
    have HC := Lib.hid C; clear C
    go_wp2_with fail
    refine HC.out.mono ?_
    rintro e w9 ⟨v9, rfl, h9⟩
    obtain ⟨a9, c9, rfl⟩ := h9.reads.sub
    have H9 := Lib.hid h9; clear h9
    go_wp2_with fail
    go_ret
    exact ⟨rfl, FIN.out _ H9.out.right.right⟩
#print axioms walk
end Go.Proofs.Ytpjonjiofaaccaa.ltail
