/-
  Layer 14: the chapter's example, and a text's bytes as pixels.
-/
import Derived.Test.YtljdohfdafnnaaaDoorMhR
import Derived.Test.YtljdohfdafnnaaaDoorMhA
import Derived.Below
namespace Go.Proofs.YtljdohfdafnnaaaDoor
open Go.RowKit Go.Mz
set_option linter.unusedVariables false
set_option linter.unusedSimpArgs false
set_option maxRecDepth 100000

theorem tab_old {w : World} (h : Lib.TabIs Tryd.prog w "strings.asciiSpace" .u8 Lib.asciiSpaceTab) : Tab w (Mz.old w) := fun w' s => by
  have B : Below w.heap.size w w' := (s.perm ((emp_star _).symm.trans (star_comm _ _))).below
  unfold Lib.TabIs World.var? at h ⊢
  cases hg : Tryd.prog.globalNamed "strings.asciiSpace" with
  | none => rw [hg] at h; simp at h
  | some g =>
    rw [hg] at h
    simp only [Option.bind_some] at h ⊢
    have hlt : g < w.heap.size := by
      rcases Nat.lt_or_ge g w.heap.size with h' | h'
      · exact h'
      · simp [Array.getElem?_eq_none h'] at h
    rw [B.block g hlt]
    exact h

theorem wpList_b2sW {P : Program} {src dst e : TypeId} (hs : P.underlying src = some (.slice e)) (he : P.underlying e = some (.int .u8)) (hd : P.underlying dst = some .string)
    {ops : Array Oper} {rest : List Oper} {o : Oper} {a : Act} {w : World} {Q : Exit → Act → World → Prop} (hw : Region.wanted o (yielded ops a.tmps) = true) {x : Operand} (ho : o.op = .convert src dst x)
    {n : Nat} {bs : List UInt8} (hr : Reads w 1 (a.eval x) n (bs.map bv)) (hK : wpList P ops Q rest (a.put o.dst (.string ⟨bs.toArray⟩)) w) : wpList P ops Q (o :: rest) a w := by
  refine BigFrame.wpList_want hw fun K hk => ?_
  unfold Oper.wp execOp
  simp only [ho, Sem.run_bind, run_b2s hs he hd hr, Result.andThen_ok, Sem.run_pure]
  exact hk _ _ hK

def pxL (bs : List UInt8) : List Nat := bs.map fun c => c.toNat % 2
theorem bit_pxL (bs : List UInt8) : Bit (pxL bs) := fun b hb => by
  obtain ⟨c, _, rfl⟩ := List.mem_map.1 hb
  omega
@[simp] theorem length_pxL (bs : List UInt8) : (pxL bs).length = bs.length := by simp [pxL]

theorem and1_u8 (x : Nat) (h : x < 256) : bits .and .u8 (x : Int) 1 = ((x % 2 : Nat) : Int) := by
  have := u8_and_nat x 1 h (by decide)
  rw [nat_mask1] at this; exact this

set_option maxHeartbeats 4000000 in
theorem pixels_any {w : World} {bs : List UInt8} {v : Value} (hr : Reads w 1 v bs.length (bs.map bv)) (hl : bs.length ≤ 1000000) :
    Calls Tryd.prog 12 #[v] w fun e w' => e = .returned (.string ⟨(tx (pxL bs)).toArray⟩) ∧ w' = w := by
  obtain ⟨al, c, rfl⟩ := hr.sub
  have HR := Lib.hid hr; clear hr
  go_enter Tryd.func12, Tryd.ntmps12
  go_wp2_with fail
  go_loop [3, 8] (fun vs vi => ∃ k : Nat, k ≤ bs.length ∧ vs = .string ⟨(tx (pxL (bs.take k))).toArray⟩ ∧ vi = .int .i64 k) (fun _ vi => bs.length - (intOf vi).toNat)
  case atStart => exact ⟨0, by omega, rfl, rfl⟩
  case round =>
    obtain ⟨k, hk, rfl, rfl⟩ := hrel
    have hlx : (tx (pxL (bs.take k))).length = k := by simp; omega
    by_cases hkn : k < bs.length
    · obtain ⟨g, o, rfl, e1⟩ := HR.out.at_ hkn
      have hx := List.getElem?_eq_getElem hkn
      rw [List.getElem?_map, hx] at e1
      simp only [Option.map_some, bv] at e1
      have ht : pxL (bs.take (k + 1)) = pxL (bs.take k) ++ [bs[k].toNat % 2] := by
        rw [pxL, List.take_succ_eq_append_getElem hkn, List.map_append]; rfl
      have hc := bs[k].toNat_lt
      generalize bs[k].toNat = x at *
      have hand := and1_u8 x hc
      have hk2 : (k : Int) < bs.length := by omega
      generalize pxL (bs.take k) = acc at *
      have HT := Lib.hid ht
      clear hx ht
      rcases Nat.mod_two_eq_zero_or_one x with h2 | h2
      · rw [h2] at hand
        go_wp2_with fail
        refine ⟨⟨k + 1, by omega, ?_, by go_num⟩, by simp [intOf]; omega⟩
        rw [HT.out, h2, tx_append]
        exact congrArg Value.string (ByteArray.mk_append_mk _ _)
      · rw [h2] at hand
        go_wp2_with fail
        refine ⟨⟨k + 1, by omega, ?_, by go_num⟩, by simp [intOf]; omega⟩
        rw [HT.out, h2, tx_append]
        exact congrArg Value.string (ByteArray.mk_append_mk _ _)
    · obtain rfl : k = bs.length := by omega
      rw [List.take_length]
      go_wp2_with fail
      go_ret
      exact ⟨rfl, rfl⟩

theorem liv_row : rowB false (lensF 0 [2, 4, 7] 8) = [0, 1, 1, 1, 1, 1, 1, 0, 0, 0, 0, 1, 0] := by decide +kernel
theorem liv_bytes : bytesB false [0, 1, 1, 1, 1, 1, 1, 0, 0, 0, 0, 1, 0] = [126, 16] := by decide +kernel
theorem liv_read : readRow (bitsL false [126, 16]) 8 0 = (13, .inl [0, 0, 1, 1, 0, 0, 0, 1]) := by decide +kernel
theorem liv_chg : chg [0, 0, 1, 1, 0, 0, 0, 1] = [2, 4, 7] := by decide +kernel

set_option maxHeartbeats 4000000 in
theorem lives14 {w0 w : World} {F : SProp} (h : St w0 w F) (ht : Tab w0 F) :
    Calls Tryd.prog 8 #[] w fun e w' => e = .returned (.bool true) ∧ St w0 w' F := by
  have H := Lib.hid h; clear h
  have HT := Lib.hid ht; clear ht
  have T := elemI
  go_enter Tryd.func8, Tryd.ntmps8
  go_wp2_with fail
  refine (newWriter_any (low := false) H.out).mono ?_
  rintro e w2 ⟨Wb, rfl, h2⟩
  have H2 := Lib.hid h2; clear h2
  go_wp2_with fail
  refine (newCodes_any H2.out (fun w h => HT.out w h.right)).mono ?_
  rintro e w3 ⟨C, rfl, h3⟩
  have h4 := (h3.lit #[.int .i64 2, .int .i64 4, .int .i64 7] 3 3 rfl (by decide)).perm (show _ = codes C * (wrt Wb [] false * (own 3 1 (.slice (some ⟨w3.heap.size, 0, none⟩) 3 3) 3 [.int .i64 2, .int .i64 4, .int .i64 7] * F)) by simp only; ac_rfl)
  have HW := Lib.hid (writeRow_any h4 (l := [2, 4, 7]) (width := 8) (show Stb _ _ (fun w => Reads w 1 (.slice (some ⟨w3.heap.size, 0, none⟩) 3 3) 3 [.int .i64 2, .int .i64 4, .int .i64 7]) from Stb.of_own) (by decide) (by decide) (by decide) (by decide) (by decide) (by decide))
  rw [List.nil_append, liv_row] at HW
  clear h3 h4 H2
  go_wp2_with fail
  refine HW.out.mono ?_
  rintro e w5 ⟨rfl, h5⟩
  have h6 := (h5.lit #[.int .u8 126, .int .u8 16] 5 2 rfl (by decide))
  have H6 := Lib.hid h6; clear h5 h6 HW
  go_wp2_with fail
  have HR := Lib.hid (newReader_any (low := false) (bs := [126, 16]) H6.out (show Stb _ _ (fun w => Reads w 1 (.slice (some ⟨w5.heap.size, 0, none⟩) 2 2) 2 [.int .u8 126, .int .u8 16]) from Stb.of_own) (by decide))
  clear H6
  refine HR.out.mono ?_
  rintro e w7 ⟨Rb, rfl, h7⟩
  generalize hQ : own 5 1 (.slice (some ⟨w5.heap.size, 0, none⟩) 2 2) 2 #[Value.int IntKind.u8 126, Value.int IntKind.u8 16].toList = Q7 at *
  generalize hQ2 : own 3 1 (.slice (some ⟨w3.heap.size, 0, none⟩) 3 3) 3 [.int .i64 2, .int .i64 4, .int .i64 7] = Q3 at *
  clear hQ hQ2
  have h7 := h7.perm (show _ = codes C * (rdr Rb [126, 16] 0 false * (wrt Wb [0, 1, 1, 1, 1, 1, 1, 0, 0, 0, 0, 1, 0] false * (Q7 * (Q3 * F)))) by ac_rfl)
  have HRR := Lib.hid (readRow_any h7 (width := 8) (by decide) (by decide) (by decide) (by decide))
  rw [liv_read] at HRR
  clear h7 HR
  go_wp2_with fail
  refine HRR.out.mono ?_
  rintro e w8 ⟨v8, rfl, h8'⟩
  simp only [erN]
  have h8 : St w0 w8 (own 3 1 v8 (chg [0, 0, 1, 1, 0, 0, 0, 1]).length ((chg [0, 0, 1, 1, 0, 0, 0, 1]).map nv) * (codes C * (rdr Rb [126, 16] 13 false * (wrt Wb [0, 1, 1, 1, 1, 1, 1, 0, 0, 0, 0, 1, 0] false * (Q7 * (Q3 * F)))))) := h8'
  clear h8'
  rw [liv_chg] at h8
  obtain ⟨a8, c8, rfl⟩ := h8.reads.sub
  have h8 := h8.perm (show _ = wrt Wb [0, 1, 1, 1, 1, 1, 1, 0, 0, 0, 0, 1, 0] false * (own 3 1 (.slice a8 3 c8) 3 ([2, 4, 7].map nv) * (codes C * (rdr Rb [126, 16] 13 false * (Q7 * (Q3 * F))))) by simp only [List.length]; ac_rfl)
  have HL := Lib.hid (len_any h8)
  have H8 := Lib.hid h8; clear h8 HRR
  go_wp2_with fail
  refine HL.out.mono ?_
  rintro e w9 ⟨rfl, rfl⟩
  have HB := Lib.hid (bytes_any H8.out)
  rw [liv_bytes] at HB
  go_wp2_with fail
  refine HB.out.mono ?_
  rintro e w10 ⟨v10, rfl, h10⟩
  have h10 := h10.perm (show _ = own 5 1 v10 2 (([126, 16] : List UInt8).map bv) * (wrt Wb [0, 1, 1, 1, 1, 1, 1, 0, 0, 0, 0, 1, 0] false * (own 3 1 (.slice a8 3 c8) 3 ([2, 4, 7].map nv) * (codes C * (rdr Rb [126, 16] 13 false * (Q7 * (Q3 * F)))))) from rfl)
  obtain ⟨a10, c10, rfl⟩ := h10.reads.sub
  have H10 := Lib.hid h10; clear h10 HB HL H8
  go_wp2_with (with_reducible (refine stop_conv 22 9 rfl ?_))
  refine on (wpList_b2sW Tryd.underlying22 Tryd.underlying5 Tryd.underlying9 rfl rfl (bs := [126, 16]) (n := 2) H10.out.reads ?_)
  have h11 := H10.out.right.right.lit #[.int .i64 2, .int .i64 4, .int .i64 7] 3 3 rfl (by decide)
  have HS := Lib.hid (same_any (a := [2, 4, 7]) (b := [2, 4, 7]) h11.right.reads h11.reads)
  have H11 := Lib.hid h11; clear h11 H10
  go_wp2_with fail
  refine HS.out.mono ?_
  rintro e w12 ⟨rfl, n, rfl⟩
  have H12 := Lib.hid (H11.out.drewN n); clear H11 HS
  go_wp2_with fail
  go_ret
  exact ⟨rfl, H12.out.right.right.right.right.right.right⟩
#print axioms lives14
end Go.Proofs.YtljdohfdafnnaaaDoor
