/-
  Layer 5: bytes of codes; the decoders; the chapter's example.
-/
import Derived.Test.YtpjonjiofaaccaaLzwD
import Derived.Test.YtpjonjiofaaccaaLzwH
namespace Go.Proofs.Ytpjonjiofaaccaa
open Go.RowKit Go.Mz
set_option linter.unusedVariables false
set_option linter.unusedSimpArgs false
set_option maxRecDepth 100000
set_option maxHeartbeats 4000000

/-- Bits of codes of nine bits. -/
def bits9 (l : List Nat) : List Nat := l.flatMap fun c => wordB c 9
theorem length_bits9 (l : List Nat) : (bits9 l).length = 9 * l.length := by
  induction l with
  | nil => rfl
  | cons c l ih => simp only [bits9, List.flatMap_cons, List.length_append, List.length_cons] at ih ⊢; rw [ih, length_wordB]; omega
theorem bit_bits9 (l : List Nat) : Bit (bits9 l) := by
  intro b hb
  obtain ⟨c, _, hc⟩ := List.mem_flatMap.1 hb
  exact bit_wordB _ _ b hc
theorem bits9_snoc (l : List Nat) (c : Nat) : bits9 (l ++ [c]) = bits9 l ++ wordB c 9 := by simp [bits9]

theorem codes_any {w0 w : World} {F : SProp} (h : St w0 w F) (l : List Nat) (hl : l.length ≤ 100000) (h32 : ∀ (i c : Nat), l[i]? = some c → c < 4294967296) {v : Value} (hv : Stb w0 F (fun w => Reads w 1 v l.length (l.map nv))) :
    Calls Try.prog 17 #[v] w fun e w' => ∃ v', e = .returned v' ∧ St w0 w' (rdo 1 v' (bytesB false (bits9 l)).length ((bytesB false (bits9 l)).map bv) * F) := by
  obtain ⟨av, cv, rfl⟩ := (hv w h).sub
  have H := Lib.hid h; clear h
  have HV := Lib.hid hv; clear hv
  go_enter Try.func17, Try.ntmps17
  go_wp2_with fail
  go_loopw [8, 3] (fun i s wr => ∃ k : Nat, k ≤ l.length ∧ i = .int .i64 k ∧ s = .string ⟨(tx (bits9 (l.take k))).toArray⟩ ∧ St w0 wr F) (fun i _ _ => l.length - (intOf i).toNat)
  case atStart => exact ⟨0, by omega, rfl, rfl, H.out⟩
  case round =>
    obtain ⟨k, hk, rfl, rfl, hst⟩ := hrel
    by_cases hkn : k < l.length
    · obtain ⟨g, off, rfl, hc⟩ := (HV.out wr hst).at_ hkn
      have hx := List.getElem?_eq_getElem hkn
      have h32' := h32 k _ hx
      generalize hc5 : l[k] = c at *
      have hc' : (l.map nv)[k]? = some (.int .i64 (c : Int)) := by simp [hx, nv]
      rw [hc'] at hc
      have HT := Lib.hid (show l.take (k + 1) = l.take k ++ [c] by rw [List.take_succ_eq_append_getElem hkn, hc5])
      clear hc' hx hc5
      have HS := Lib.hid hst; clear hst
      have hk1 : (k : Int) < l.length := by omega
      have hw : IntKind.u32.wrap (c : Int) = c := by rw [IntKind.wrap_u32']; omega
      have hlen : (bits9 (l.take k)).length ≤ 900000 := by rw [length_bits9, List.length_take]; omega
      have HB := Lib.hid (bits9_snoc (l.take k) c)
      generalize bits9 (l.take k) = bk at *
      go_wp2_with fail
      refine (word_any c 9 HS.out rfl rfl h32' (by omega)).mono ?_
      rintro e w2 ⟨rfl, h2⟩
      have H2 := Lib.hid h2; clear h2
      have hwl : (tx (wordB c 9)).length = 9 := by simp
      have htl : (tx bk).length ≤ 900000 := by simpa using hlen
      go_wp2_with fail
      refine ⟨⟨k + 1, by omega, by go_num, ?_, H2.out⟩, by simp [intOf]; omega⟩
      rw [HT.out, HB.out, tx_append, ByteArray.mk_append_mk]
    · obtain rfl : k = l.length := by omega
      rw [List.take_length]
      have HS := Lib.hid hst; clear hst
      have hlen : (bits9 l).length ≤ 900000 := by rw [length_bits9]; omega
      have hbl : (bytesB false (bits9 l)).length ≤ 900000 := by rw [length_bytesB]; omega
      have HBB := Lib.hid (bit_bits9 l)
      generalize hbk : bits9 l = bk at *
      have HBK := Lib.hid hbk; clear hbk
      go_wp2_with fail
      refine (rbytes_any HBB.out false HS.out (by omega) rfl).mono ?_
      rintro e w2 ⟨rfl, h2⟩
      have H2 := Lib.hid h2; clear h2
      generalize hbx : bytesB false bk = bb at *
      have HBX := Lib.hid hbx; clear hbx
      go_wp2_with (with_reducible (refine stop_conv 9 22 rfl ?_))
      refine on (wpList_s2b Try.underlying9 Try.underlying5 Try.underlying22 rfl rfl rfl (by omega) H2.out fun v' w3 h3 => ?_)
      have H3 := Lib.hid h3; clear h3
      obtain ⟨a3, c3, rfl⟩ := (H3.out.rdo_reads).sub
      go_wp2_with fail
      go_ret
      refine ⟨.slice a3 bb.length c3, rfl, ?_⟩
      rw [HBK.out, HBX.out]
      exact H3.out

theorem decode_all {w0 w : World} {F : SProp} (h : St w0 w F) (bs : List UInt8) {v : Value} (hv : Stb w0 F (fun w => Reads w 1 v bs.length (bs.map bv))) (hl : bs.length ≤ 1000000000) (n : Int) (hn : n ≤ 1000000000) (old : Bool) :
    Calls Try.prog 18 #[v, .int .i64 n, .bool old] w fun e w' => ∃ v', e = .returned (.tuple #[v', .int .i64 (dec (bitsL old bs) old n).2]) ∧
      St w0 w' (own 5 1 v' (dec (bitsL old bs) old n).1.length ((dec (bitsL old bs) old n).1.map bv) * F) := by
  by_cases h0 : n < 0
  · have e : dec (bitsL old bs) old n = ([], 1) := by rw [dec, if_pos h0]
    rw [e]
    obtain ⟨av, cv, rfl⟩ := (hv w h).sub
    have H := Lib.hid h; clear h hv
    go_enter Try.func18, Try.ntmps18
    go_wp2_with fail
    go_ret2
    exact ⟨.slice none 0 0, rfl, St.own_nil _ _ H.out⟩
  · obtain ⟨m, rfl⟩ : ∃ m : Nat, n = m := ⟨n.toNat, by omega⟩
    have e : dec (bitsL old bs) old m = decF (bitsL old bs) old m (8 * bs.length + 1) ⟨start0, [], 0⟩ [] := by
      rw [dec, if_neg h0, Int.toNat_natCast, length_bitsL]
    rw [e]
    exact decode_walk h bs hv hl m (by omega) old _ rfl _ rfl

theorem rdecode_all {w0 w : World} {F : SProp} (h : St w0 w F) (bs : List UInt8) (hl : bs.length ≤ 100000000) (n : Int) (hn : n ≤ 1000000000) (old : Bool) {s : ByteArray} (hs : s = ⟨bs.toArray⟩) :
    Calls Try.prog 11 #[.string s, .int .i64 n, .bool old] w fun e w' => e = .returned (.tuple #[.string ⟨(dec (bitsL old bs) old n).1.toArray⟩, .int .i64 (dec (bitsL old bs) old n).2]) ∧ St w0 w' F := by
  by_cases h0 : n < 0
  · have e : dec (bitsL old bs) old n = ([], 1) := by rw [dec, if_pos h0]
    rw [e]
    have H := Lib.hid h; clear h
    go_enter Try.func11, Try.ntmps11
    go_wp2_with fail
    go_ret2
    exact ⟨rfl, H.out⟩
  · obtain ⟨m, rfl⟩ : ∃ m : Nat, n = m := ⟨n.toNat, by omega⟩
    have e : dec (bitsL old bs) old m = decF (bitsL old bs) old m (8 * bs.length + 1) ⟨start0, [], 0⟩ [] := by
      rw [dec, if_neg h0, Int.toNat_natCast, length_bitsL]
    rw [e]
    exact rdecode_any h bs hl m (by omega) old _ rfl hs

theorem lDecode_all {w0 w : World} {F : SProp} (h : St w0 w F) (bs : List UInt8) {v : Value} (hv : Stb w0 F (fun w => Reads w 1 v bs.length (bs.map bv))) (hl : bs.length ≤ 1000000000) (n : Int) (hn : n ≤ 1000000000) :
    Calls Try.prog 9 #[v, .int .i64 n] w fun e w' => ∃ v', e = .returned (.tuple #[v', .int .i64 (dec (bitsL false bs) false n).2]) ∧
      St w0 w' (own 5 1 v' (dec (bitsL false bs) false n).1.length ((dec (bitsL false bs) false n).1.map bv) * F) := by
  have C := Lib.hid (decode_all h bs hv hl n hn false)
  obtain ⟨av, cv, rfl⟩ := (hv w h).sub
  clear h hv
  generalize dec (bitsL false bs) false n = R at *
  go_enter Try.func9, Try.ntmps9
  go_wp2_with fail
  refine C.out.mono ?_
  rintro e w2 ⟨v', rfl, h2⟩
  obtain ⟨a2, c2, rfl⟩ := h2.reads.sub
  have H2 := Lib.hid h2; clear h2
  go_wp2_with fail
  go_ret2
  exact ⟨_, rfl, H2.out⟩
theorem lDecodeOld_all {w0 w : World} {F : SProp} (h : St w0 w F) (bs : List UInt8) {v : Value} (hv : Stb w0 F (fun w => Reads w 1 v bs.length (bs.map bv))) (hl : bs.length ≤ 1000000000) (n : Int) (hn : n ≤ 1000000000) :
    Calls Try.prog 10 #[v, .int .i64 n] w fun e w' => ∃ v', e = .returned (.tuple #[v', .int .i64 (dec (bitsL true bs) true n).2]) ∧
      St w0 w' (own 5 1 v' (dec (bitsL true bs) true n).1.length ((dec (bitsL true bs) true n).1.map bv) * F) := by
  have C := Lib.hid (decode_all h bs hv hl n hn true)
  obtain ⟨av, cv, rfl⟩ := (hv w h).sub
  clear h hv
  generalize dec (bitsL true bs) true n = R at *
  go_enter Try.func10, Try.ntmps10
  go_wp2_with fail
  refine C.out.mono ?_
  rintro e w2 ⟨v', rfl, h2⟩
  obtain ⟨a2, c2, rfl⟩ := h2.reads.sub
  have H2 := Lib.hid h2; clear h2
  go_wp2_with fail
  go_ret2
  exact ⟨_, rfl, H2.out⟩

theorem dec_live : dec (bitsL false (bytesB false (bits9 [256, 97, 258, 257]))) false 3 = ([97, 97, 97], 0) := by kernel_rfl

theorem lives05 {w0 w : World} {F : SProp} (h : St w0 w F) :
    Calls Try.prog 8 #[] w fun e w' => e = .returned (.bool true) ∧ St w0 w' F := by
  have h1 := h.lit #[.int .i64 256, .int .i64 97, .int .i64 258, .int .i64 257] 3 4 rfl (by decide)
  have H1 := Lib.hid h1; clear h1 h
  go_enter Try.func8, Try.ntmps8
  go_wp2_with fail
  refine (codes_any H1.out [256, 97, 258, 257] (by decide) (by
    intro i c hc
    have : c ∈ [256, 97, 258, 257] := List.mem_of_getElem? hc
    simp at this; omega) Stb.of_own).mono ?_
  rintro e w2 ⟨v2, rfl, h2⟩
  have H2 := Lib.hid h2; clear h2
  obtain ⟨a2, c2, rfl⟩ := (H2.out.rdo_reads).sub
  have C := lDecode_all H2.out (bytesB false (bits9 [256, 97, 258, 257])) Stb.of_rdo (by rw [length_bytesB, length_bits9]; decide) 3 (by decide)
  rw [dec_live] at C
  have HC := Lib.hid C; clear C
  generalize bytesB false (bits9 [256, 97, 258, 257]) = bb at *
  go_wp2_with fail
  refine HC.out.mono ?_
  rintro e w3 ⟨v3, rfl, h3⟩
  obtain ⟨a3, c3, rfl⟩ := h3.reads.sub
  have q : (convert 22 9 (.slice a3 3 c3)).run Try.prog w3 = .ok (.string ⟨#[97, 97, 97]⟩) w3 := run_b2s (P := Try.prog) Try.underlying22 Try.underlying5 Try.underlying9 (bs := [97, 97, 97]) h3.reads
  have H3 := Lib.hid h3; clear h3
  go_wp2_with fail
  go_ret
  exact ⟨rfl, H3.out.right.right.right⟩
#print axioms lives05
end Go.Proofs.Ytpjonjiofaaccaa
