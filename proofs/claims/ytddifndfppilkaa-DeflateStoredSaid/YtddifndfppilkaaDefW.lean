/-
  Layer 10: the document's blocks of bytes that stand as they are (mezzotintref10.Stored).
-/
import Derived.Test.YtddifndfppilkaaDefN
import Derived.RegionTactic
import Derived.BigRegion
namespace Go.Proofs.Ytddifndfppilkaa
open Go.RowKit Go.Mz
set_option linter.unusedVariables false
set_option linter.unusedSimpArgs false
set_option maxRecDepth 100000

theorem five_c (last : Bool) (m : Nat) (hm : m ≤ 65535) : Obj.cells #[Value.int .u8 (last.toNat : Int), .int .u8 ((m : Int) % 256), .int .u8 ((m : Int) / 256), .int .u8 (255 - (m : Int) % 256), .int .u8 (255 - (m : Int) / 256)] 5 = .cells ((fiveB last m).map bv).toArray 5 := by
  have hl : last.toNat ≤ 1 := by cases last <;> simp
  have t : ∀ n, n < 256 → (UInt8.ofNat n).toNat = n := fun n hn => by rw [UInt8.toNat_ofNat']; omega
  simp only [fiveB, List.map_cons, List.map_nil, bv, t _ (show last.toNat < 256 by omega), t _ (show m % 256 < 256 by omega), t _ (show m / 256 < 256 by omega), t _ (show 255 - m % 256 < 256 by omega), t _ (show 255 - m / 256 < 256 by omega)]
  congr 1
  simp only [List.cons.injEq, Array.mk.injEq, Value.int.injEq, true_and, and_true]
  omega
def strLen : Value → Nat
  | .string s => s.size
  | _ => 0
set_option maxHeartbeats 100000000 in
theorem stored10_any {w0 w : World} {F : SProp} (h : St w0 w F) {b : List UInt8} (hb : b.length ≤ 1000000) :
    Calls Try.prog 13 #[.string ⟨b.toArray⟩] w fun e w' => ∃ y, e = .returned (.string ⟨y.toArray⟩) ∧ StoredS b y ∧ St w0 w' F := by
  have H := Lib.hid h
  clear h
  go_enter Try.func13, Try.ntmps13
  go_wp2_with fail
  go_loopw [0, 3, 4, 5] (fun v0 v3 v4 v5 wr => ∃ (d : Nat) (acc : List UInt8), d ≤ b.length ∧ acc.length ≤ 9 * d ∧ v0 = .string ⟨(b.drop d).toArray⟩ ∧ v3 = .string ⟨acc.toArray⟩ ∧ (∀ z, StoredS (b.drop d) z → StoredS b (acc ++ z)) ∧ St w0 wr F) (fun v0 v3 v4 v5 _ => strLen v0)
  case atStart => exact ⟨0, [], by omega, by simp, rfl, rfl, fun z h => h, H.out⟩
  case round =>
    clear H
    obtain ⟨d, acc, hd, hacc, rfl, rfl, hmb, hst⟩ := hrel
    obtain ⟨cs, hcs⟩ : ∃ cs, b.drop d = cs := ⟨_, rfl⟩
    have hcl : cs.length = b.length - d := by rw [← hcs, List.length_drop]
    rw [hcs] at hmb ⊢
    have HMB := Lib.hid hmb; have HST := Lib.hid hst; have HCS := Lib.hid hcs
    obtain ⟨m, hm⟩ : ∃ m, min cs.length 65535 = m := ⟨_, rfl⟩
    have hm1 : (if (65535 : Int) < (cs.length : Int) then 65535 else (cs.length : Int)) = (m : Int) := by split <;> omega
    have hm3 : m ≤ 65535 := by omega
    have hmn : m ≤ cs.length := by omega
    obtain ⟨last, hlast⟩ : ∃ last, ((m : Int) == (cs.length : Int)) = last := ⟨_, rfl⟩
    have hma : (m : Int).tmod 256 = ((m % 256 : Nat) : Int) := by rw [Int.tmod_eq_emod_of_nonneg (by omega)]; omega
    have hmd : (m : Int).tdiv 256 = ((m / 256 : Nat) : Int) := by rw [Int.tdiv_eq_ediv_of_nonneg (by omega)]; omega
    have HCL := Lib.hid hcl
    clear hmb hst hcs hcl
    cases last
    · go_upto_region 6 with (fail)
      have kcv : (convert 22 9 (.slice (some ⟨wr.heap.size, 0, none⟩) 5 5)).run Try.prog ((wr.alloc (.cells #[.int .u8 0, .int .u8 ((m : Int) % 256), .int .u8 ((m : Int) / 256), .int .u8 (255 - (m : Int) % 256), .int .u8 (255 - (m : Int) / 256)] 5)).drew) = .ok (.string ⟨(fiveB false m).toArray⟩) ((wr.alloc (.cells #[.int .u8 0, .int .u8 ((m : Int) % 256), .int .u8 ((m : Int) / 256), .int .u8 (255 - (m : Int) % 256), .int .u8 (255 - (m : Int) / 256)] 5)).drew) := by
        refine run_b2s (P := Try.prog) Try.underlying22 Try.underlying5 Try.underlying9 (n := 5) (w := (wr.alloc _).drew) ?_
        rw [show Obj.cells #[Value.int .u8 0, .int .u8 ((m : Int) % 256), .int .u8 ((m : Int) / 256), .int .u8 (255 - (m : Int) % 256), .int .u8 (255 - (m : Int) / 256)] 5 = .cells ((fiveB false m).map bv).toArray 5 from five_c false m hm3]
        exact (St.own_blk (e := 5) (size := 1) (n := 5) (cap := 5) (xs := (fiveB false m).map bv) ((HST.out.alloc (.cells ((fiveB false m).map bv).toArray 5)).drew) (Nat.le_refl _) (by decide) rfl rfl).reads
      have hex1 : (⟨cs.toArray⟩ : ByteArray).extract 0 m = ⟨(cs.take m).toArray⟩ := by
        apply ByteArray.ext
        rw [ByteArray.data_extract]
        simp
      have hlt : m < cs.length := by have : (m : Int) ≠ cs.length := fun e => by rw [e] at hlast; simp at hlast
                                     omega
      have hex2 : (⟨cs.toArray⟩ : ByteArray).extract m cs.length = ⟨(cs.drop m).toArray⟩ := by
        apply ByteArray.ext
        rw [ByteArray.data_extract]
        apply Array.toList_inj.1
        rw [Array.toList_extract]
        show List.extract cs m cs.length = _
        rw [List.extract_eq_take_drop, List.take_of_length_le (by rw [List.length_drop]; omega)]
      obtain ⟨c0, r0, hcd⟩ : ∃ c0 r0, cs.drop m = c0 :: r0 := by
        cases e : cs.drop m with
        | nil => have := congrArg List.length e; rw [List.length_drop] at this; simp at this; omega
        | cons c r => exact ⟨c, r, rfl⟩
      have hrl : r0.length + 1 = cs.length - m := by have := congrArg List.length hcd; rw [List.length_drop, List.length_cons] at this; omega
      rw [hcd] at hex2
      have HCD := Lib.hid hcd; have HRL := Lib.hid hrl
      clear hcd hrl
      have hacc2 : acc.length ≤ 9000000 := by omega
      obtain ⟨f5, hf5⟩ : ∃ f5, fiveB false m = f5 := ⟨_, rfl⟩
      have l5 : f5.length = 5 := by rw [← hf5]; rfl
      obtain ⟨ct, hct⟩ : ∃ ct, cs.take m = ct := ⟨_, rfl⟩
      have lct : ct.length = m := by rw [← hct, List.length_take]; omega
      rw [hf5] at kcv
      rw [hct] at hex1
      have HF5 := Lib.hid hf5; have HCT := Lib.hid hct
      clear hf5 hct
      go_region
      have hst := (HST.out.drop_alloc (.cells #[.int .u8 0, .int .u8 ((m : Int) % 256), .int .u8 ((m : Int) / 256), .int .u8 (255 - (m : Int) % 256), .int .u8 (255 - (m : Int) / 256)] 5)).drew
      generalize World.drew _ = wq at *
      have HST2 := Lib.hid hst
      clear hst kcv HST
      go_wp2_with fail
      have hm6 : m = 65535 := by omega
      have hcl := HCL.out
      have hdr : b.drop (d + m) = c0 :: r0 := by rw [← HCD.out, ← HCS.out, List.drop_drop]
      refine ⟨⟨d + m, acc ++ (f5 ++ ct), by omega, by rw [List.length_append, List.length_append]; omega, by rw [hdr], ?_, fun z hz => ?_, HST2.out⟩, ?_⟩
      · exact congrArg Value.string (by rw [ByteArray.mk_append_mk, ByteArray.mk_append_mk])
      · rw [hdr, ← HCD.out, hm6] at hz
        rw [List.append_assoc]
        refine HMB.out _ ?_
        rw [← HF5.out, ← HCT.out, hm6]
        exact .more (by omega) hz
      · show (c0 :: r0).length < cs.length
        have := HRL.out
        rw [List.length_cons]; omega
    · have hme : m = cs.length := by have := eq_of_beq hlast; omega
      subst hme
      go_upto_region 6 with (fail)
      have kcv : (convert 22 9 (.slice (some ⟨wr.heap.size, 0, none⟩) 5 5)).run Try.prog ((wr.alloc (.cells #[.int .u8 1, .int .u8 ((cs.length : Int) % 256), .int .u8 ((cs.length : Int) / 256), .int .u8 (255 - (cs.length : Int) % 256), .int .u8 (255 - (cs.length : Int) / 256)] 5)).drew) = .ok (.string ⟨(fiveB true cs.length).toArray⟩) ((wr.alloc (.cells #[.int .u8 1, .int .u8 ((cs.length : Int) % 256), .int .u8 ((cs.length : Int) / 256), .int .u8 (255 - (cs.length : Int) % 256), .int .u8 (255 - (cs.length : Int) / 256)] 5)).drew) := by
        refine run_b2s (P := Try.prog) Try.underlying22 Try.underlying5 Try.underlying9 (n := 5) (w := (wr.alloc _).drew) ?_
        rw [show Obj.cells #[Value.int .u8 1, .int .u8 ((cs.length : Int) % 256), .int .u8 ((cs.length : Int) / 256), .int .u8 (255 - (cs.length : Int) % 256), .int .u8 (255 - (cs.length : Int) / 256)] 5 = .cells ((fiveB true cs.length).map bv).toArray 5 from five_c true cs.length hm3]
        exact (St.own_blk (e := 5) (size := 1) (n := 5) (cap := 5) (xs := (fiveB true cs.length).map bv) ((HST.out.alloc (.cells ((fiveB true cs.length).map bv).toArray 5)).drew) (Nat.le_refl _) (by decide) rfl rfl).reads
      have hex1 : (⟨cs.toArray⟩ : ByteArray).extract 0 cs.length = ⟨cs.toArray⟩ := by
        apply ByteArray.ext
        rw [ByteArray.data_extract]
        simp
      have hex2 : (⟨cs.toArray⟩ : ByteArray).extract cs.length cs.length = ⟨#[]⟩ := by
        apply ByteArray.ext
        rw [ByteArray.data_extract]
        simp
      have hacc2 : acc.length ≤ 9000000 := by omega
      obtain ⟨f5, hf5⟩ : ∃ f5, fiveB true cs.length = f5 := ⟨_, rfl⟩
      have l5 : f5.length = 5 := by rw [← hf5]; rfl
      rw [hf5] at kcv
      have HF5 := Lib.hid hf5
      clear hf5
      go_region
      have hst := (HST.out.drop_alloc (.cells #[.int .u8 1, .int .u8 ((cs.length : Int) % 256), .int .u8 ((cs.length : Int) / 256), .int .u8 (255 - (cs.length : Int) % 256), .int .u8 (255 - (cs.length : Int) / 256)] 5)).drew
      generalize World.drew _ = wq at *
      have HST2 := Lib.hid hst
      clear hst kcv HST
      go_wp2_with fail
      go_ret
      have hz := HMB.out _ (.last hm3)
      rw [HF5.out] at hz
      have he : (⟨acc.toArray⟩ : ByteArray) ++ (⟨f5.toArray⟩ ++ ⟨cs.toArray⟩) = ⟨(acc ++ (f5 ++ cs)).toArray⟩ := by rw [ByteArray.mk_append_mk, ByteArray.mk_append_mk]
      exact ⟨acc ++ (f5 ++ cs), congrArg (fun z => Ending.returned (Value.string z)) he, hz, HST2.out⟩
end Go.Proofs.Ytddifndfppilkaa
