/-
  Layer 10: one byte, again and again, takes few bytes by words.
-/
import Derived.Test.YtddifndfppilkaaDefN
import Derived.Test.YtddifndfppilkaaInfH
namespace Go.Proofs.Ytddifndfppilkaa.dshort
open Go.RowKit Go.Mz
set_option linter.unusedVariables false
set_option linter.unusedSimpArgs false
set_option maxRecDepth 100000

theorem kmodc (n : Int) (m : Nat) (hm : 0 < m) : ∃ K : Nat, (IntKind.u64.wrap n).tmod (m : Int) = K ∧ K < m := by
  have h0 : 0 ≤ IntKind.u64.wrap n := by
    simp [IntKind.wrap, IntKind.bits, IntKind.signed]
    exact Int.emod_nonneg _ (by decide)
  rw [Int.tmod_eq_emod_of_nonneg h0]
  have h1 := Int.emod_nonneg (IntKind.u64.wrap n) (show (m : Int) ≠ 0 by omega)
  have h2 := Int.emod_lt_of_pos (IntKind.u64.wrap n) (show (0 : Int) < (m : Int) by omega)
  generalize IntKind.u64.wrap n % (m : Int) = x at *
  exact ⟨x.toNat, by omega, by omega⟩
theorem set_rep (c : UInt8) (n k : Nat) (h : k < n) : (List.replicate k (bv c) ++ List.replicate (n - k) (Value.int .u8 0)).set k (bv c) = List.replicate (k + 1) (bv c) ++ List.replicate (n - (k + 1)) (Value.int .u8 0) := by
  rw [List.set_append_right _ _ (by simp), List.length_replicate, Nat.sub_self]
  obtain ⟨m, hm⟩ : ∃ m, n - k = m + 1 := ⟨n - k - 1, by omega⟩
  rw [hm, show n - (k + 1) = m by omega, List.replicate_succ, List.set_cons_zero, List.replicate_succ' (n := k), List.append_assoc]
  rfl

set_option maxHeartbeats 40000000 in
theorem walk (c : UInt8) (n : Int) (ow : Bool) (w : World) :
    Calls Try.prog 6 #[.int .u8 (c.toNat : Int), .int .i64 n, .bool ow] w fun e w' => e = .returned (.bool true) ∧ Below w.heap.size w w' := by
  have H := Lib.hid (St.init w)
  have fin : ∀ w', St w w' (Mz.old w) → Below w.heap.size w w' := fun w' h => (h.perm ((emp_star _).symm.trans (star_comm _ _))).below
  have FIN := Lib.hid fin; clear fin
  have T := elemBytes
  obtain ⟨K0, hK0, hK1⟩ := kmodc n 100000 (by omega)
  replace hK0 : (IntKind.u64.wrap n).tmod 100000 = K0 := hK0
  obtain ⟨N, hN⟩ : ∃ N, 1 + K0 = N := ⟨_, rfl⟩
  have hNI : (1 : Int) + (K0 : Int) = (N : Int) := by omega
  have hN1 : 1 ≤ N := by omega
  have hN2 : N ≤ 100000 := by omega
  clear hN hK1
  go_enter Try.func6, Try.ntmps6
  go_wp2_with fail
  refine (lives10 H.out).mono ?_
  rintro e w1 ⟨rfl, h2⟩
  have H2 := Lib.hid h2; clear h2 H
  go_wp2_with (at_make; apply stop)
  refine on (wpList_make_sep T rfl _ _ rfl N rfl rfl rfl rfl H2.out (by unfold maxLen; omega) (by omega) ?_)
  intro v3 w3 h3
  rw [show (madeCells (Value.int .u8 0).cells (N * 1)).toList = List.replicate 0 (bv c) ++ List.replicate (N - 0) (Value.int .u8 0) by rw [Nat.mul_one]; simp [Value.cells, toList_madeCells_one]] at h3
  obtain ⟨a3, c3, rfl⟩ := h3.reads.sub
  have H3 := Lib.hid h3; clear h3 H2
  go_wp2_with fail
  go_loopw [27] (fun vi wr => ∃ k : Nat, k ≤ N ∧ vi = .int .i64 k ∧ St w wr (own 5 1 (.slice a3 N c3) N (List.replicate k (bv c) ++ List.replicate (N - k) (Value.int .u8 0)) * Mz.old w)) (fun vi _ => N - (intOf vi).toNat)
  case atStart => exact ⟨0, by omega, rfl, H3.out⟩
  case round =>
    clear H3
    obtain ⟨k, hk, rfl, hst⟩ := hrel
    by_cases hkn : k < N
    · have hkI : (k : Int) < N := by omega
      obtain ⟨g, rfl⟩ := own_at hst (by omega)
      have hfz := hst.own_free k
      have hcc := hst.own_cell (i := k) (u := .int .u8 0) (by rw [List.getElem?_append_right (by simp), List.length_replicate, Nat.sub_self, List.getElem?_replicate, if_pos (by omega)])
      have hst2 := hst.own_set k (bv c)
      rw [set_rep c N k hkn] at hst2
      have HST := Lib.hid hst2
      clear hst hst2
      go_wp2_with fail
      exact ⟨⟨k + 1, by omega, by go_num, HST.out⟩, by simp [intOf]; omega⟩
    · obtain rfl : N = k := by omega
      rw [Nat.sub_self, List.replicate_zero, List.append_nil] at hst
      cases ow
      · have HD := Lib.hid (deflate_any hst (b := List.replicate N c) (by rw [List.length_replicate]; omega) (v := .slice a3 N c3) (by rw [List.length_replicate, List.map_replicate]; exact Stb.of_own) (how := 1) (by omega))
        clear hst
        go_wp2_with (go_at_call 11; apply stop)
        refine on ?_
        refine HD.out.mono ?_
        rintro e w4 ⟨v4, x, rfl, hx, hxl, h4⟩
        have hsh := hx.short hN1 hN2 (by omega)
        rw [if_neg (by decide)] at hsh
        obtain ⟨nn, hdone⟩ := hx.done
        have hinf := hdone.infl [] (N : Int)
        have hXl := length_bytesB' true x
        obtain ⟨X, hX⟩ : ∃ X, bytesB true x = X := ⟨_, rfl⟩
        rw [hX, List.append_nil] at hinf
        rw [hX] at h4 hXl
        rw [← hXl] at h4 hsh
        rw [if_neg (by omega), List.length_replicate, if_neg (by omega)] at hinf
        obtain ⟨nX, hnX⟩ : ∃ nX, X.length = nX := ⟨_, rfl⟩
        rw [hnX] at h4 hsh hinf
        have hle : (nX : Int) ≤ 40 + (N : Int) / 32 := by omega
        obtain ⟨a4, c4, rfl⟩ := h4.reads.sub
        have C := inflate_any h4 X (N : Int) (by rw [hnX]; omega) (by omega) (vb := .slice a4 nX c4) (by rw [hnX]; exact Stb.of_own)
        rw [hinf] at C
        have HC := Lib.hid C
        have HNX := Lib.hid hnX
        clear C hinf hXl hX hnX hsh hx hdone hxl HD h4
        go_wp2_with (go_at_call 14; apply stop)
        refine on ?_
        refine HC.out.mono ?_
        rintro e w5 ⟨v5, n5, x5, rfl, h5⟩
        obtain ⟨hn5, rfl, h5⟩ := h5
        rw [hn5]
        clear hn5 n5
        rw [List.length_replicate] at h5
        obtain ⟨a5, c5, rfl⟩ := h5.reads.sub
        have h6 := h5.right.right
        rw [← List.map_replicate] at h6
        have q1 : (convert 22 9 (.slice a5 N c5)).run Try.prog w5 = .ok (.string ⟨(List.replicate N c).toArray⟩) w5 := run_b2s (P := Try.prog) Try.underlying22 Try.underlying5 Try.underlying9 h5.reads
        have q2 : (convert 22 9 (.slice a3 N c3)).run Try.prog w5 = .ok (.string ⟨(List.replicate N c).toArray⟩) w5 := run_b2s (P := Try.prog) Try.underlying22 Try.underlying5 Try.underlying9 h6.reads
        have HF := Lib.hid (FIN.out _ h6.right)
        clear h5 h6 HC
        generalize hCC : List.replicate N c = CC at *
        clear hCC
        go_wp2_with fail
        go_ret
        exact ⟨rfl, HF.out⟩
      · have HD := Lib.hid (deflate_any hst (b := List.replicate N c) (by rw [List.length_replicate]; omega) (v := .slice a3 N c3) (by rw [List.length_replicate, List.map_replicate]; exact Stb.of_own) (how := 2) (by omega))
        clear hst
        go_wp2_with (go_at_call 11; apply stop)
        refine on ?_
        refine HD.out.mono ?_
        rintro e w4 ⟨v4, x, rfl, hx, hxl, h4⟩
        have hsh := hx.short hN1 hN2 (by omega)
        rw [if_pos rfl] at hsh
        obtain ⟨nn, hdone⟩ := hx.done
        have hinf := hdone.infl [] (N : Int)
        have hXl := length_bytesB' true x
        obtain ⟨X, hX⟩ : ∃ X, bytesB true x = X := ⟨_, rfl⟩
        rw [hX, List.append_nil] at hinf
        rw [hX] at h4 hXl
        rw [← hXl] at h4 hsh
        rw [if_neg (by omega), List.length_replicate, if_neg (by omega)] at hinf
        obtain ⟨nX, hnX⟩ : ∃ nX, X.length = nX := ⟨_, rfl⟩
        rw [hnX] at h4 hsh hinf
        have hle : (nX : Int) ≤ 100 + (N : Int) / 32 := by omega
        obtain ⟨a4, c4, rfl⟩ := h4.reads.sub
        have C := inflate_any h4 X (N : Int) (by rw [hnX]; omega) (by omega) (vb := .slice a4 nX c4) (by rw [hnX]; exact Stb.of_own)
        rw [hinf] at C
        have HC := Lib.hid C
        have HNX := Lib.hid hnX
        clear C hinf hXl hX hnX hsh hx hdone hxl HD h4
        go_wp2_with (go_at_call 14; apply stop)
        refine on ?_
        refine HC.out.mono ?_
        rintro e w5 ⟨v5, n5, x5, rfl, h5⟩
        obtain ⟨hn5, rfl, h5⟩ := h5
        rw [hn5]
        clear hn5 n5
        rw [List.length_replicate] at h5
        obtain ⟨a5, c5, rfl⟩ := h5.reads.sub
        have h6 := h5.right.right
        rw [← List.map_replicate] at h6
        have q1 : (convert 22 9 (.slice a5 N c5)).run Try.prog w5 = .ok (.string ⟨(List.replicate N c).toArray⟩) w5 := run_b2s (P := Try.prog) Try.underlying22 Try.underlying5 Try.underlying9 h5.reads
        have q2 : (convert 22 9 (.slice a3 N c3)).run Try.prog w5 = .ok (.string ⟨(List.replicate N c).toArray⟩) w5 := run_b2s (P := Try.prog) Try.underlying22 Try.underlying5 Try.underlying9 h6.reads
        have HF := Lib.hid (FIN.out _ h6.right)
        clear h5 h6 HC
        generalize hCC : List.replicate N c = CC at *
        clear hCC
        go_wp2_with fail
        go_ret
        exact ⟨rfl, HF.out⟩
theorem walk8 (c : Int) (n : Int) (ow : Bool) (w : World) (hc : (Lit.int .u8 c).wf = true) :
    Calls Try.prog 6 #[.int .u8 c, .int .i64 n, .bool ow] w fun e w' => e = .returned (.bool true) ∧ Below w.heap.size w w' := by
  have h : 0 ≤ c ∧ c < 256 := by
    simp [Lit.wf, IntKind.min, IntKind.max, IntKind.bits, IntKind.signed] at hc
    omega
  have e : ((UInt8.ofNat c.toNat).toNat : Int) = c := by rw [UInt8.toNat_ofNat']; omega
  have := walk (UInt8.ofNat c.toNat) n ow w
  rwa [e] at this
end Go.Proofs.Ytddifndfppilkaa.dshort
