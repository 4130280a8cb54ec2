/-
  Layer 2, without the document's answer: a text of 0 and 1 writes what its bits do one by one; and the bytes from the other end are those of it reversed.
-/
import Derived.Test.YtifbhbknpecnbaaRev
import Derived.Test.YtifbhbknpecnbaaLBase
import Derived.Test.YtifbhbknpecnbaaStructs
import Derived.Deep.RegionWith
namespace Go.Proofs.Ytifbhbknpecnbaa.words
open Go.RowKit Go.Mz Go.WideShapes
set_option linter.unusedVariables false
set_option linter.unusedSimpArgs false

def bl (b : Bool) : Value := .bool b
def b01 (b : Bool) : Nat := cond b 1 0

/-- A slice of bools that came in. -/
theorem bools_in {H : Type} {enc : TypeId × Value → H} {w : World} {base : Nat} {spare : Nat → Bool} {held : Bool} {fuel : Nat} {a : Option Addr} {len cap : Nat} {x : DataW H × List MemPlace}
    (h : DataW.trod enc Try.prog w base spare held fuel 55 (Value.slice a len cap).cells.toList = some x) :
    ∃ l : List Bool, l.length = len ∧ Reads w 1 (.slice a len cap) len (l.map bl) ∧ True := by
  rcases Deep.open_slice Try.underlying55 h with ⟨h0, _⟩ | ⟨b, l, c, m, n, D, Pl, hcs, _, hl, hm, hmm, _, hi⟩
  · simp [Value.cells] at h0
    obtain ⟨rfl, rfl, rfl⟩ := h0
    exact ⟨[], rfl, ⟨rfl, .inl ⟨rfl, rfl⟩⟩, trivial⟩
  · simp [Value.cells] at hcs
    obtain ⟨rfl, rfl, rfl⟩ := hcs
    have hC : Try.prog.cellsOf 4 = 1 := by kernel_rfl
    obtain ⟨l, h1, h2, hx⟩ := reads_of_each (α := Bool) (fun b => [bl b]) (m := 1) (by decide) (fun _ => rfl) hl hm (fun _ => True) (fun i hil => by
      obtain ⟨cs, hc, ht⟩ := hi i (by rw [hmm]; split <;> omega)
      rw [hC] at hc
      obtain ⟨_, hlen, hat⟩ := World.cells?_some hc
      obtain ⟨z, rfl, _⟩ := DataW.trod_bool Try.underlying4 ht
      refine ⟨z, fun j u hu => ?_, trivial⟩
      cases j with
      | zero =>
        cases hu
        have := hat 0 (by decide)
        rw [Deep.add_add] at this
        exact this
      | succ j => simp at hu)
    have e : l.flatMap (fun b => [bl b]) = l.map bl := by
      clear h1 h2 hx
      induction l with
      | nil => rfl
      | cons x l ih => rw [List.flatMap_cons, ih]; rfl
    exact ⟨l, h1, e ▸ h2, trivial⟩

theorem write1 {w0 w : World} {B : Nat} {l : List Nat} {low : Bool} {F : SProp} (h : St w0 w (wrt B l low * F)) (v : Nat) (hv : v ≤ 1) (hm : l.length + 32 ≤ 100000000000000) {i : Int} (hi : i = v) :
    Calls Try.prog 22 #[.pointer (some ⟨B, 0, none⟩), .int .u32 i, .int .i64 1] w fun e w' => e = .returned (.int .i64 0) ∧ St w0 w' (wrt B (l ++ [v]) low * F) := by
  subst hi
  have e : wrN low v 1 = [v] := by
    cases low <;> simp [wrN, wordB] <;> omega
  rw [← e]
  exact write_ok h v 1 (by omega) (fun _ => by simp; omega) (by omega) hm

theorem bytesB_turn (low : Bool) {l : List Nat} (hb : Bit l) : (bytesB (!low) l).map revB = bytesB low l := by
  simp only [bytesB, List.map_map]
  refine List.map_congr_left fun i _ => ?_
  apply UInt8.toNat_inj.1
  simp only [Function.comp]
  rw [revB_toNat, toNat_byteB _ hb, toNat_byteB _ hb]
  have hf : ∀ j, (fun j => l.getD (8 * i + j) 0) j ≤ 1 := fun j => hb.getD _
  have hl : Bit ((List.range 8).map fun j => l.getD (8 * i + j) 0) := fun b hb => by obtain ⟨j, _, rfl⟩ := List.mem_map.1 hb; exact hf j
  have h2 := wordB_num _ hl
  have h3 := wordB_num _ hl.reverse
  simp only [List.length_map, List.length_range, List.length_reverse] at h2 h3
  unfold byteB
  cases low
  · simp only [Bool.not_false]; rw [numV_lo, h3, numV_hi, List.reverse_reverse]
  · simp only [Bool.not_true]; rw [numV_hi, h2, numV_lo]

set_option maxRecDepth 100000 in
set_option maxHeartbeats 4000000 in
theorem walk (vl : Value) (ls : List Bool) (low : Bool) (w : World) (hl : Reads w 1 vl ls.length (ls.map bl)) :
    Calls Try.prog 7 #[vl, .bool low] w fun e w' => e = .returned (.bool true) ∧ Below w.heap.size w w' := by
  have HL := Lib.hid (Stb.of_old hl)
  obtain ⟨a2, c2, rfl⟩ := hl.sub
  have hm := hl.len_le
  unfold maxLen at hm
  clear hl
  have H := Lib.hid (St.init w)
  have fin : ∀ w', St w w' (old w) → Below w.heap.size w w' := fun w' h => (h.perm ((emp_star _).symm.trans (star_comm _ _))).below
  have FIN := Lib.hid fin; clear fin
  by_cases hn : 2000 < ls.length
  · have hn1 : 2000 < (ls.length : Int) := by omega
    go_enter Try.func7, Try.ntmps7
    go_wp2_with fail
    refine (lives02 H.out).mono ?_
    rintro e w1 ⟨rfl, h2⟩
    have H2 := Lib.hid h2; clear h2
    go_wp2_with fail
    refine (lives02 H2.out).mono ?_
    rintro e w2 ⟨rfl, h3⟩
    have H3 := Lib.hid h3; clear h3
    go_wp2_with fail
    go_ret
    exact ⟨rfl, FIN.out _ H3.out⟩
  have hn1 : ¬ 2000 < (ls.length : Int) := by omega
  have k0 : ∀ W, (convert 21 9 (.int .i32 48)).run Try.prog W = .ok (.string ⟨#[48]⟩) W := fun W => by kernel_rfl
  have k1 : ∀ W, (convert 21 9 (.int .i32 49)).run Try.prog W = .ok (.string ⟨#[49]⟩) W := fun W => by kernel_rfl
  go_enter Try.func7, Try.ntmps7
  go_wp2_with fail
  refine (lives02 H.out).mono ?_
  rintro e w1 ⟨rfl, h2⟩
  have H2 := Lib.hid h2; clear h2
  go_wp2_with fail
  refine (newWriter_any H2.out).mono ?_
  rintro e w2 ⟨Ba, rfl, h3⟩
  have H3 := Lib.hid h3; clear h3
  go_wp2_with fail
  refine (newWriter_any H3.out).mono ?_
  rintro e w3 ⟨Bb, rfl, h4⟩
  have H4 := Lib.hid h4; clear h4
  go_wp2_with fail
  refine (newWriter_any H4.out).mono ?_
  rintro e w4 ⟨Bc, rfl, h5⟩
  have H5 := Lib.hid h5; clear h5
  go_wp2_with fail
  go_loopw [8, 29] (fun q i wr => ∃ (k : Nat), k ≤ ls.length ∧ i = .int .i64 k ∧ q = .string ⟨(tx ((ls.take k).map b01)).toArray⟩ ∧ St w wr (wrt Bc ((ls.take k).map b01) (!low) * (wrt Bb ((ls.take k).map b01) low * (wrt Ba [] low * old w)))) (fun _ i _ => ls.length - (intOf i).toNat)
  case atStart => exact ⟨0, Nat.zero_le _, rfl, rfl, H5.out⟩
  case round =>
    obtain ⟨k, hk, rfl, rfl, hst⟩ := hrel
    by_cases hkn : k < ls.length
    · obtain ⟨b, off, rfl, hc⟩ := (HL.out _ hst.right.right.right).at_ hkn
      have hc' : (ls.map bl)[k]? = some (.bool ls[k]) := by simp [hkn, bl]
      rw [hc'] at hc
      clear hc'
      have HT := Lib.hid (show (ls.take (k + 1)).map b01 = (ls.take k).map b01 ++ [b01 ls[k]] by rw [List.take_succ_eq_append_getElem hkn, List.map_append]; rfl)
      have hlen : (tx ((ls.take k).map b01)).length ≤ 2000 := by simp; omega
      have hlen2 : ((ls.take k).map b01).length ≤ 2000 := by simp; omega
      have HST := Lib.hid hst; clear hst
      generalize ls[k] = z at *
      generalize (ls.take k).map b01 = m at *
      cases z
      · go_wp2_with fail
        refine (write1 (HST.out.perm (star_left_comm _ _ _)) 0 (by omega) (by omega) rfl).mono ?_
        rintro e w6 ⟨rfl, h8⟩
        have H8 := Lib.hid (h8.perm (star_left_comm _ _ _)); clear h8
        go_wp2_with fail
        refine (write1 H8.out 0 (by omega) (by omega) rfl).mono ?_
        rintro e w7 ⟨rfl, h9⟩
        have H9 := Lib.hid h9; clear h9
        go_wp2_with fail
        go_roundw
        case rel => exact ⟨k + 1, by omega, by go_num, by rw [HT.out, tx_append]; exact congrArg Value.string (ByteArray.mk_append_mk _ _), by rw [HT.out]; exact H9.out⟩
        case measure => simp [intOf]; omega
      · go_wp2_with fail
        refine (write1 (HST.out.perm (star_left_comm _ _ _)) 1 (by omega) (by omega) rfl).mono ?_
        rintro e w6 ⟨rfl, h8⟩
        have H8 := Lib.hid (h8.perm (star_left_comm _ _ _)); clear h8
        go_wp2_with fail
        refine (write1 H8.out 1 (by omega) (by omega) rfl).mono ?_
        rintro e w7 ⟨rfl, h9⟩
        have H9 := Lib.hid h9; clear h9
        go_wp2_with fail
        go_roundw
        case rel => exact ⟨k + 1, by omega, by go_num, by rw [HT.out, tx_append]; exact congrArg Value.string (ByteArray.mk_append_mk _ _), by rw [HT.out]; exact H9.out⟩
        case measure => simp [intOf]; omega
    · obtain rfl : k = ls.length := by omega
      rw [List.take_length] at *
      have hbit : Bit (ls.map b01) := fun b hb => by obtain ⟨x, _, rfl⟩ := List.mem_map.1 hb; cases x <;> decide
      have hml : (ls.map b01).length = ls.length := by simp
      have HU := Lib.hid (show unTx (tx (ls.map b01)) = ls.map b01 by
        simp only [unTx, tx, List.map_map]
        refine List.map_congr_left fun x _ => ?_
        cases x <;> rfl)
      have HD := Lib.hid (show digB (tx (ls.map b01)) = true by
        simp only [digB, tx, List.all_eq_true]
        intro c hc
        obtain ⟨x, hx, rfl⟩ := List.mem_map.1 hc
        obtain ⟨y, _, rfl⟩ := List.mem_map.1 hx
        cases y <;> rfl)
      have htl : (tx (ls.map b01)).length = ls.length := by simp
      have HST := Lib.hid (hst.perm (show _ = wrt Ba [] low * (wrt Bb (ls.map b01) low * (wrt Bc (ls.map b01) (!low) * old w)) by ac_rfl)); clear hst
      go_wp2_with fail
      refine (word_ok HST.out (tx (ls.map b01)) (by omega) HD.out (by rw [htl]; simp; omega)).mono ?_
      rintro e w6 ⟨rfl, h8⟩
      rw [HU.out, List.nil_append] at h8
      have H8 := Lib.hid h8; clear h8
      go_wp2_with fail
      refine (len_any H8.out).mono ?_
      rintro e w' ⟨rfl, rfl⟩
      go_wp2_with fail
      have H9 := Lib.hid (H8.out.perm (star_left_comm _ _ _))
      refine (len_any H9.out).mono ?_
      rintro e w' ⟨rfl, rfl⟩
      have HB := Lib.hid (bytesB_turn low hbit)
      generalize hmm : ls.map b01 = m at *
      clear hmm
      go_wp2_with fail
      have K := fun (W : World) (v : Value) (n : Nat) (bs : List UInt8) (hr : Reads W 1 v n (bs.map bv)) => run_b2s (P := Try.prog) Try.underlying22 Try.underlying5 Try.underlying9 hr
      have HK := Lib.hid K; clear K k0 k1
      have hmb : m.length ≤ 2000 := by omega
      have HML := Lib.hid hml; clear hml htl
      go_region_with (first | (go_at_call_of 28 (Value.pointer (some ⟨Ba, 0, none⟩)); refine (bytes_any I4.out).mono ?_; rintro e w5 ⟨v5, rfl, h⟩; have q7 := HK.out _ _ _ _ h.reads; have q8 := HK.out _ _ _ _ h.right.right.reads; obtain ⟨a5, c5, rfl⟩ := h.reads.sub; have I5 := Lib.hid h; clear h) | (go_at_call 30; refine (reverseAll_any I3.out (bytesB (!low) m) (by rw [length_bytesB]; exact Stb.of_own) (by rw [length_bytesB]; omega)).mono ?_; rintro e w4 ⟨v4, rfl, h⟩; rw [HB.out, length_bytesB] at h; have q6 := HK.out _ _ _ _ h.reads; obtain ⟨a4, c4, rfl⟩ := h.reads.sub; have I4 := Lib.hid ((h.perm (star_left_comm _ _ _)).right.perm (show _ = wrt Ba m low * (own 5 1 (.slice a4 ((m.length + 7) / 8) c4) ((m.length + 7) / 8) ((bytesB low m).map bv) * (wrt Bc m (!low) * (wrt Bb m low * old w))) by ac_rfl)); clear h) | (go_at_call_of 28 (Value.pointer (some ⟨Bc, 0, none⟩)); refine (bytes_any I2.out).mono ?_; rintro e w3 ⟨v3, rfl, h⟩; obtain ⟨a3, c3, rfl⟩ := h.reads.sub; have I3 := Lib.hid h; clear h) | (go_at_call_of 28 (Value.pointer (some ⟨Bb, 0, none⟩)); refine (bytes_any I1.out).mono ?_; rintro e w2 ⟨v2, rfl, h⟩; have q2 := HK.out _ _ _ _ h.reads; have q3 := HK.out _ _ _ _ h.right.right.reads; obtain ⟨a2', c2', rfl⟩ := h.reads.sub; have I2 := Lib.hid ((h.right.perm (star_left_comm _ _ _)).right.perm (show _ = wrt Bc m (!low) * (wrt Bb m low * (wrt Ba m low * old w)) by ac_rfl)); clear h) | (go_at_call_of 28 (Value.pointer (some ⟨Ba, 0, none⟩)); refine (bytes_any H8.out.drew).mono ?_; rintro e w1 ⟨v1, rfl, h⟩; have q1 := HK.out _ _ _ _ h.reads; obtain ⟨a1, c1, rfl⟩ := h.reads.sub; have I1 := Lib.hid (h.perm (show _ = wrt Bb m low * (own 5 1 (.slice a1 ((m.length + 7) / 8) c1) ((m.length + 7) / 8) ((bytesB low m).map bv) * (wrt Ba m low * (wrt Bc m (!low) * old w))) by ac_rfl)); clear h))
      all_goals
        have HZ := Lib.hid I5.out.right.right.right.right.right
        go_wp2_with fail
        go_ret
        exact ⟨rfl, FIN.out _ HZ.out⟩
end Go.Proofs.Ytifbhbknpecnbaa.words
