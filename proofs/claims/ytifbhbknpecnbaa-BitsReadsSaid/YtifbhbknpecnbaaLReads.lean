/-
  Layer 2: whatever is read, looked at, and passed over, of any bytes, from either end.
-/
import Derived.Test.YtifbhbknpecnbaaOps
namespace Go.Proofs.Ytifbhbknpecnbaa.reads
open Go.RowKit Go.Mz
set_option linter.unusedVariables false
set_option linter.unusedSimpArgs false

theorem own_at {w0 w : World} {e : TypeId} {size n cap : Nat} {a : Option Addr} {xs : List Value} {F : SProp} (h : St w0 w (own e size (.slice a n cap) n xs * F)) (hn : 0 < n) : ∃ g, a = some ⟨g, 0, none⟩ := by
  obtain ⟨hl, ⟨a1, h0, _⟩ | ⟨g', cap', cur, a1, _⟩⟩ := h.own_split
  · omega
  · cases a1; exact ⟨g', rfl⟩

theorem mod4 (k : Int) : IntKind.u64.wrap k % 4 = k % 4 := by
  simp [IntKind.wrap, IntKind.bits, IntKind.signed]

set_option maxRecDepth 100000 in
set_option maxHeartbeats 4000000 in
theorem walk (vb vl : Value) (bs : List UInt8) (ls : List OpD) (low : Bool) (w : World) (hb : Reads w 1 vb bs.length (bs.map bv)) (hl : Reads w 4 vl ls.length (opsCells ls))
    (hs : ∀ o ∈ ls, o.s.length ≤ maxLen ∧ o.v < 4294967296) :
    Calls Try.prog 4 #[vb, .bool low, vl] w fun e w' => e = .returned (.bool true) ∧ Below w.heap.size w w' := by
  have HB := Lib.hid (Stb.of_old hb)
  have HL := Lib.hid (Stb.of_old hl)
  obtain ⟨a1, c1, rfl⟩ := hb.sub
  obtain ⟨a2, c2, rfl⟩ := hl.sub
  have hm := hl.len_le
  unfold maxLen at hm
  clear hb hl
  have H := Lib.hid (St.init w)
  have fin : ∀ w', St w w' (old w) → Below w.heap.size w w' := fun w' h => (h.perm ((emp_star _).symm.trans (star_comm _ _))).below
  have FIN := Lib.hid fin; clear fin
  have HS := Lib.hid hs; clear hs
  by_cases hn : 200 < bs.length
  · have hn1 : 200 < (bs.length : Int) := by omega
    go_enter Try.func4, Try.ntmps4
    go_wp2_with fail
    refine (lives02 H.out).mono ?_
    rintro e w1 ⟨rfl, h2⟩
    have H2 := Lib.hid h2; clear h2
    go_wp2_with fail
    refine (lives02 H2.out).mono ?_
    rintro e w2 ⟨rfl, h3⟩
    have H3 := Lib.hid h3; clear h3
    go_wp2_with fail
    go_ret
    exact ⟨rfl, FIN.out _ H3.out⟩
  have hn1 : ¬ (200 < (bs.length : Int)) := by omega
  cases hf : FitsB ls
  · have HF := Lib.hid hf; clear hf
    go_enter Try.func4, Try.ntmps4
    go_wp2_with fail
    refine (lives02 H.out).mono ?_
    rintro e w1 ⟨rfl, h2⟩
    have H2 := Lib.hid h2; clear h2
    go_wp2_with fail
    refine (fits_any H2.out ls HL.out (fun o ho => (HS.out o ho).1)).mono ?_
    rintro e w2 ⟨rfl, h3⟩
    rw [HF.out]
    have H3 := Lib.hid h3; clear h3
    go_wp2_with fail
    refine (lives02 H3.out).mono ?_
    rintro e w3 ⟨rfl, h4⟩
    have H4 := Lib.hid h4; clear h4
    go_wp2_with fail
    go_ret
    exact ⟨rfl, FIN.out _ H4.out⟩
  have HF := Lib.hid hf; clear hf
  have T := elemBytes
  go_enter Try.func4, Try.ntmps4
  go_wp2_with fail
  refine (lives02 H.out).mono ?_
  rintro e w1 ⟨rfl, h2⟩
  have H2 := Lib.hid h2; clear h2
  go_wp2_with fail
  refine (fits_any H2.out ls HL.out (fun o ho => (HS.out o ho).1)).mono ?_
  rintro e w2 ⟨rfl, h3⟩
  rw [HF.out]
  have H3 := Lib.hid h3; clear h3
  go_wp2_with (at_builtin; apply stop)
  refine on (wpList_append_sep T rfl (.tmp 36) (.tmp 37) rfl rfl (St.own_blk (e := 5) (size := 1) (n := 0) (cap := 0) (xs := []) (H3.out.alloc (.cells #[] 5)) (Nat.le_refl _) (Nat.zero_le _) rfl rfl) rfl (HB.out _ (H3.out.drop_alloc _)) (bv_oneCell bs) ?_ ?_ ?_)
  · unfold maxLen; omega
  · omega
  intro v' w3 h4 _
  simp only [Nat.zero_add, List.nil_append] at h4
  obtain ⟨ao, co, rfl⟩ := h4.reads.sub
  have H4 := Lib.hid h4; clear h4
  go_wp2_with fail
  refine (newReader_any H4.out Stb.of_own (by omega)).mono ?_
  rintro e w4 ⟨B, rfl, h5⟩
  have H5 := Lib.hid h5; clear h5
  go_wp2_with fail
  go_loopw [44] (fun i wr => ∃ (k : Nat) (zs : List Int), k ≤ bs.length ∧ i = .int .i64 k ∧ zs.length = bs.length ∧ St w wr (own 5 1 (.slice ao bs.length co) bs.length (zs.map (Value.int .u8)) * (rdr B bs 0 low * old w))) (fun i _ => bs.length - (intOf i).toNat)
  case atStart => exact ⟨0, bs.map (fun c => (c.toNat : Int)), Nat.zero_le _, rfl, by simp, by
      rw [List.map_map]
      exact H5.out.perm (star_left_comm _ _ _)⟩
  case round =>
    obtain ⟨k, zs, hk, rfl, hz, hst⟩ := hrel
    by_cases hkn : k < bs.length
    · obtain ⟨g, rfl⟩ := own_at hst (by omega)
      obtain ⟨z, hz'⟩ : ∃ z, zs[k]? = some z := ⟨_, List.getElem?_eq_getElem (by omega)⟩
      have hc := hst.own_cell (i := k) (u := .int .u8 z) (by simp [hz'])
      have hfz := hst.own_free k
      have HST := Lib.hid hst; clear hst
      have HZ := Lib.hid hz; clear hz hz'
      go_wp2_with fail
      go_roundw
      case rel => exact ⟨k + 1, zs.set k _, by omega, by go_num, by simpa using HZ.out, by rw [List.map_set]; exact HST.out.own_set k _⟩
      case measure => simp [intOf]; omega
    · have h6 := hst.right
      have H6 := Lib.hid h6; clear h6 hst
      go_wp2_with (with_reducible (refine stop_conv 22 9 rfl ?_))
      refine on (wpList_b2s Try.underlying22 Try.underlying5 Try.underlying9 rfl rfl (HB.out _ H6.out.right) ?_)
      go_wp2_with fail
      refine (of_any bs low H6.out (by omega)).mono ?_
      rintro e w5 ⟨rfl, h7⟩
      have H7 := Lib.hid h7; clear h7
      have hlb : (tx (bitsL low bs)).length = 8 * bs.length := by simp
      have hlx : (bitsL low bs).length = 8 * bs.length := by simp
      have hbx := Lib.hid (bit_bitsL low bs)
      go_wp2_with fail
      go_loopw [11, 60] (fun q i wr => ∃ (k p : Nat), k ≤ ls.length ∧ i = .int .i64 k ∧ q = .int .i64 p ∧ p ≤ (bitsL low bs).length ∧ St w wr (rdr B bs p low * old w)) (fun _ i _ => ls.length - (intOf i).toNat)
      case atStart => exact ⟨0, 0, Nat.zero_le _, rfl, rfl, Nat.zero_le _, H7.out⟩
      case round =>
        obtain ⟨k, p, hk, rfl, rfl, hp, hst⟩ := hrel
        by_cases hkn : k < ls.length
        · have hg : ls[k]? = some ls[k] := List.getElem?_eq_getElem hkn
          obtain ⟨b, off, rfl, c0, c1, c2, c3⟩ := reads_op (HL.out _ hst.right) hg
          have HG := Lib.hid hg; clear hg
          have HST := Lib.hid hst; clear hst
          generalize ls[k] = o at *
          have hm4 := mod4 o.kind
          have hA := (HST.out.alloc (.cells #[.int .i64 o.kind, .int .i64 o.n, .int .u32 o.v, .string ⟨o.s.toArray⟩] 36)).perm (star_left_comm _ _ _)
          have HA := Lib.hid hA; clear hA
          have R := Lib.hid (fun W => rread_all (i := (p : Int)) hbx.out p o.n low W hp (by omega) rfl rfl)
          have R2 := Lib.hid (fun W => rpeek_all (i := (p : Int)) hbx.out p o.n low W hp (by omega) rfl rfl)
          have C := Lib.hid (read_all HA.out o.n)
          have C2 := Lib.hid (peek_all HA.out o.n)
          have hle := rdI_le (low := low) (n := o.n) hp
          generalize rdI (bitsL low bs) low p o.n = r at *
          generalize pkI (bitsL low bs) low p o.n = r2 at *
          obtain ⟨rv, rp, re⟩ := r
          obtain ⟨qv, qe⟩ := r2
          simp only at *
          go_wp2_with fail
          rotate_left 2
          · refine C2.out.mono ?_
            rintro e w6 ⟨rfl, h8⟩
            have d1 := h8.right.cell 1 rfl
            have H8 := Lib.hid h8; clear h8
            go_wp2_with fail
            refine (R2.out _).mono ?_
            rintro e w7 ⟨rfl, rfl⟩
            go_wp2_with fail
            refine (at_any (rdr_at H8.out)).mono ?_
            rintro e w' ⟨rfl, rfl⟩
            go_wp2_with fail
            refine (left_st H8.out).mono ?_
            rintro e w8 ⟨rfl, h9⟩
            have H9 := Lib.hid (h9.perm (star_left_comm _ _ _)).right; clear h9
            go_wp2_with fail
            go_roundw
            case rel => exact ⟨k + 1, p, by omega, by go_num, rfl, hp, H9.out⟩
            case measure => simp [intOf]; omega
          · refine (align_any HA.out).mono ?_
            rintro e w6 ⟨rfl, h8⟩
            have H8 := Lib.hid h8; clear h8
            go_wp2_with fail
            refine (at_any (rdr_at H8.out)).mono ?_
            rintro e w' ⟨rfl, rfl⟩
            go_wp2_with fail
            refine (left_st H8.out).mono ?_
            rintro e w8 ⟨rfl, h9⟩
            have H9 := Lib.hid (h9.perm (star_left_comm _ _ _)).right; clear h9
            go_wp2_with fail
            go_roundw
            case rel => exact ⟨k + 1, (p + 7) / 8 * 8, by omega, by go_num, by go_num, by omega, H9.out⟩
            case measure => simp [intOf]; omega
          all_goals
            refine C.out.mono ?_
            rintro e w6 ⟨rfl, h8⟩
            have d1 := h8.right.cell 1 rfl
            have H8 := Lib.hid h8; clear h8
            go_wp2_with fail
            refine (R.out _).mono ?_
            rintro e w7 ⟨rfl, rfl⟩
            go_wp2_with fail
            refine (at_any (rdr_at H8.out)).mono ?_
            rintro e w' ⟨rfl, rfl⟩
            go_wp2_with fail
            refine (left_st H8.out).mono ?_
            rintro e w8 ⟨rfl, h9⟩
            have H9 := Lib.hid (h9.perm (star_left_comm _ _ _)).right; clear h9
            go_wp2_with fail
            go_roundw
            case rel => exact ⟨k + 1, rp, by omega, by go_num, rfl, hle, H9.out⟩
            case measure => simp [intOf]; omega
        · obtain rfl : k = ls.length := by omega
          have H9 := Lib.hid hst.right; clear hst
          go_wp2_with fail
          go_ret
          exact ⟨rfl, FIN.out _ H9.out⟩
end Go.Proofs.Ytifbhbknpecnbaa.reads
