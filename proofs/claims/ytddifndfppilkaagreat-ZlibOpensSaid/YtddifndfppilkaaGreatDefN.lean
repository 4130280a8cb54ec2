/-
  Layer 10 (deflate): tokens told by blocks, the walk (package deflate, told).
  Layer 10 (deflate): bytes as they stand (package deflate, plain).
  Layer 10 (deflate): Deflate.
  Layer 10 (deflate): lives.
  Layer 10: the bytes of blocks that stand as they are; plain Lean.
  Layer 10: how few bits one byte takes, told again and again; plain Lean.
-/
import Derived.Test.YtddifndfppilkaaGreatDefF
import Derived.Test.YtddifndfppilkaaGreatDefH
import Derived.Test.YtddifndfppilkaaGreatLzK
import Derived.Test.YtddifndfppilkaaGreatInfD
import Derived.Lib.SlBytesConst
import Derived.RegionTactic
import Derived.BigRegion
namespace Go.Proofs.YtddifndfppilkaaGreat
open Go.RowKit Go.Mz
set_option linter.unusedVariables false
set_option linter.unusedSimpArgs false
set_option maxRecDepth 100000

theorem Reads.takeS {w : World} {size n cap : Nat} {x : Addr} {xs : List Value} (h : Reads w size (.slice (some x) n cap) n xs) {k : Nat} (hk : k ≤ n) : Reads w size (.slice (some x) k cap) k (xs.take (k * size)) := by
  obtain ⟨hl, ⟨h0, _⟩ | ⟨x, c, h1, h2, h3, h4⟩⟩ := h
  · cases h0
  · cases h1
    have := Nat.mul_le_mul_right size hk
    refine ⟨by rw [List.length_take, hl]; omega, .inr ⟨_, _, rfl, by omega, h3, fun j u hu => h4 j u ?_⟩⟩
    rw [List.getElem?_take] at hu
    split at hu
    · exact hu
    · cases hu
theorem Reads.dropS {w : World} {size n cap : Nat} {x : Addr} {xs : List Value} (h : Reads w size (.slice (some x) n cap) n xs) {k : Nat} (hk : k ≤ n) : Reads w size (.slice (some (x.add (k * size))) (n - k) (cap - k)) (n - k) (xs.drop (k * size)) := by
  obtain ⟨hl, ⟨h0, _⟩ | ⟨x, c, h1, h2, h3, h4⟩⟩ := h
  · cases h0
  · cases h1
    refine ⟨by rw [List.length_drop, hl, Nat.sub_mul], .inr ⟨_, _, rfl, by omega, by omega, fun j u hu => ?_⟩⟩
    rw [List.getElem?_drop] at hu
    have := h4 (k * size + j) u hu
    rw [Addr.add_add]
    exact this
theorem star_tn (A B W F : SProp) : A * (B * (W * F)) = W * (A * (B * F)) := by ac_rfl
theorem reads_cap3 {w : World} {a : Addr} {n cap size : Nat} {xs : List Value} (h : Reads w size (.slice (some a) n cap) n xs) : n ≤ cap ∧ cap ≤ maxLen := by
  obtain ⟨_, ⟨e, _⟩ | ⟨x, c, e, h1, h2, _⟩⟩ := h
  · cases e
  · cases e; exact ⟨h1, h2⟩
theorem toksC_take : ∀ (l : List TokD) (k : Nat), (toksC l).take (k * 3) = toksC (l.take k) := by
  intro l
  induction l with
  | nil => intro k; simp [toksC]
  | cons a l ih =>
    intro k
    cases k with
    | zero => simp [toksC]
    | succ k =>
      rw [show toksC (a :: l) = tokC a ++ toksC l from rfl, show (k + 1) * 3 = (tokC a).length + k * 3 by show (k + 1) * 3 = 3 + k * 3; omega, List.take_length_add_append, ih]
      rfl
theorem toksC_drop : ∀ (l : List TokD) (k : Nat), (toksC l).drop (k * 3) = toksC (l.drop k) := by
  intro l
  induction l with
  | nil => intro k; simp [toksC]
  | cons a l ih =>
    intro k
    cases k with
    | zero => simp [toksC]
    | succ k =>
      rw [show toksC (a :: l) = tokC a ++ toksC l from rfl, show (k + 1) * 3 = (tokC a).length + k * 3 by show (k + 1) * 3 = 3 + k * 3; omega, List.drop_length_add_append, ih]
      rfl
def slLen : Value → Nat
  | .slice _ n _ => n
  | _ => 0
theorem usedF' {k : TokD} (h : okS' k) : usedW FA FB k := by
  unfold usedW
  by_cases h0 : k.len = 0
  · rw [if_pos h0]; exact goodF.la _ (by have := UInt8.toNat_lt k.lit; omega)
  · rw [if_neg h0]
    obtain ⟨h1, h2, h3, h4⟩ := h.resolve_left h0
    exact ⟨goodF.la _ (by have := (plF_lens (n := k.len.toNat) (by omega) (by omega)).1; omega), goodF.lb _ (by have := (plF_dists (n := k.dist.toNat) (by omega) (by omega)).1; omega)⟩
theorem star_tm (W A B F : SProp) : W * (A * (B * F)) = (A * B) * (W * F) := by ac_rfl
theorem star_tp (W P Q A B F : SProp) : W * (P * (Q * (A * (B * F)))) = (P * (Q * (A * B))) * (W * F) := by ac_rfl
set_option maxHeartbeats 100000000 in
theorem told_blocks {w0 w : World} {F : SProp} {B : Nat} (h : St w0 w (wrt B [] true * F)) {T : List TokD} (hT : T.length ≤ 1000000) (hok : ∀ k ∈ T, okS' k) {how : Nat} (hhow : how = 1 ∨ how = 2)
    {vt : Value} (ht : Stb w0 F (fun w => Reads w 3 vt T.length (toksC T))) :
    Calls Tryz.prog 42 #[.pointer (some ⟨B, 0, none⟩), vt, .int .i64 (how : Int)] w fun e w' => ∃ x, e = .returned (.int .i64 0) ∧ ManyB how T x ∧ x.length ≤ 100000000 ∧ St w0 w' (wrt B x true * F) := by
  have H := Lib.hid h; have HT := Lib.hid ht; have HOK := Lib.hid hok
  clear h ht hok
  go_enter Tryz.func42, Tryz.ntmps42
  go_wp2_with fail
  go_loopw [1, 7, 8, 9, 10, 11] (fun v1 v7 v8 v9 v10 v11 wr => ∃ (d : Nat) (acc : List Nat), d ≤ T.length ∧ acc.length ≤ 60 * d + 5000 * d / 16384 ∧ (d = 0 ∨ d < T.length) ∧ Stb w0 F (fun w => Reads w 3 v1 (T.drop d).length (toksC (T.drop d))) ∧ (∀ z, ManyB how (T.drop d) z → ManyB how T (acc ++ z)) ∧ St w0 wr (wrt B acc true * F)) (fun v1 v7 v8 v9 v10 v11 _ => slLen v1)
  case atStart => exact ⟨0, [], by omega, by simp, .inl rfl, HT.out, fun z h => h, H.out⟩
  case round =>
    clear H HT
    obtain ⟨d, acc, hd, hacc, hd0, hrd, hmb, hst⟩ := hrel
    obtain ⟨n, hn⟩ : ∃ n, (T.drop d).length = n := ⟨_, rfl⟩
    rw [hn] at hrd
    have hnd : n = T.length - d := by rw [← hn, List.length_drop]
    obtain ⟨ax, cx, rfl⟩ := (hrd wr hst.right).sub
    have hnil : ax = none → n = 0 ∧ cx = 0 := fun e => by
      subst e
      obtain ⟨_, ⟨e, h0⟩ | ⟨x, c, e, _⟩⟩ := hrd wr hst.right
      · cases e; exact ⟨h0, rfl⟩
      · cases e
    obtain ⟨m, hm⟩ : ∃ m, min n 16384 = m := ⟨_, rfl⟩
    have hmn : m ≤ n := by omega
    have hm1 : (if (16384 : Int) < (n : Int) then 16384 else (n : Int)) = (m : Int) := by split <;> omega
    obtain ⟨last, hlast⟩ : ∃ last, ((m : Int) == (n : Int)) = last := ⟨_, rfl⟩
    obtain ⟨Tr, hTr⟩ : ∃ Tr, T.drop d = Tr := ⟨_, rfl⟩
    rw [hTr] at hn hrd hmb
    have hokr : ∀ k ∈ Tr, okS' k := fun k hk => HOK.out k (by rw [← hTr] at hk; exact List.mem_of_mem_drop hk)
    have HND := Lib.hid hnd; have HMB := Lib.hid hmb; have HTR := Lib.hid hTr; have HNR := Lib.hid hn; have HM := Lib.hid hm
    have HOKR : Hid (∀ k ∈ Tr.take m, okS' k) := Lib.hid fun k hk => hokr k (List.mem_of_mem_take hk)
    have htl : (Tr.take m).length = m := by rw [List.length_take, hn]; omega
    have hacc2 : acc.length ≤ 90000000 := by omega
    have HLL := Lib.hid (⟨htl, hacc, hd0, hd⟩ : (Tr.take m).length = m ∧ acc.length ≤ 60 * d + 5000 * d / 16384 ∧ (d = 0 ∨ d < T.length) ∧ d ≤ T.length)
    have hn1 : n ≤ 1000000 := by omega
    have hm3 : m ≤ 16384 := by omega
    have HST := Lib.hid hst
    have hww : IntKind.u32.wrap (how : Int) = (how : Int) := IntWalk.u32_in _ (by omega)
    clear hnd hmb hTr hm hokr htl hacc hd0 hd hn hst
    rcases ax with _ | x -- WALK
    · obtain ⟨rfl, rfl⟩ := hnil rfl
      obtain rfl : m = 0 := by omega
      obtain rfl : true = last := hlast
      have HS : Hid (Stb w0 F (fun w => Reads w 3 (.slice none 0 0) 0 (toksC (Tr.take 0)))) := Lib.hid fun w h => ⟨rfl, .inl ⟨rfl, rfl⟩⟩
      go_upto_region 2 with (fail)
      go_wp2_with (go_at_call 67; apply stop)
      refine on ?_
      refine (head_any HST.out _ how (by omega) (by omega)).mono ?_
      rintro e w2 ⟨rfl, h2⟩
      have H2 := Lib.hid h2
      clear h2 HST
      go_wp2_with (go_at_call 24; apply stop)
      refine on ?_
      refine (fixed_any H2.out).mono ?_
      rintro e w3 ⟨va, vb, rfl, h3⟩
      have H3 := Lib.hid (h3.perm (star_tn _ _ _ _))
      clear h3 H2
      rcases hhow with rfl | rfl
      · go_upto_region 9 with (fail)
        go_wp2_with (go_at_call 72; apply stop)
        refine on ?_
        have hB := block_any' H3.out (by rw [List.length_append, length_headL]; omega) okA okB fixA_30 fixB_30 (by rw [fixA_len]; omega) (by rw [fixB_len]; omega) (by rw [fixA_len]; omega) (by rw [fixB_len]; omega) (T := Tr.take 0) (by rw [HLL.out.1]; omega) HOKR.out (fun k hk => usedF' (HOKR.out k hk)) (goodF.la 256 (by omega)) (vt := .slice none 0 0) (va := va) (vb := vb) (by rw [HLL.out.1]; exact (HS.out.more _).more _) (by rw [fixA_len]; exact Stb.of_own) (by rw [fixB_len]; exact Stb.of_own.more _)
        refine hB.mono ?_
        rintro e w7 ⟨rfl, h7⟩
        have h7 := (h7.perm (star_tm _ _ _ _)).right
        obtain ⟨y, hy⟩ : ∃ y, y = headL true 1 ++ toldB (wordsC fixA) (wordsC fixB) (Tr.take 0) := ⟨_, rfl⟩
        rw [List.append_assoc, ← hy] at h7
        have HONE : Hid (OneB 1 true (Tr.take 0) y) := Lib.hid (.inl ⟨rfl, hy⟩)
        have H7 := Lib.hid h7
        clear hB h7 hy H3
        go_wp2_with fail
        go_ret
        refine ⟨acc ++ y, rfl, HMB.out y (.last (by rw [HNR.out]; omega) (by have h := HONE.out; rwa [show Tr.take 0 = Tr from List.take_of_length_le (by rw [HNR.out]; omega)] at h)), ?_, H7.out⟩
        have h1 := HONE.out.len HOKR.out
        rw [HLL.out.1] at h1
        rw [List.length_append]; omega

      · go_upto_region 5 with (fail)
        go_wp2_with (go_at_call 70; apply stop)
        refine on ?_
        refine (own_any H3.out (T := Tr.take 0) (by rw [HLL.out.1]; omega) HOKR.out (vt := .slice none 0 0) (by rw [HLL.out.1]; exact ((HS.out.more _).more _).more _)).mono ?_
        rintro e w4 ⟨va', vb', la, lb, rfl, hla, hlb, h4⟩
        obtain ⟨oo, us⟩ := own_ok HOKR.out hla hlb
        have h4 := h4.perm (star_tn _ _ _ _)
        rw [oo.l1, oo.l2] at h4
        have hL := lens_told h4 (by rw [List.length_append, length_headL]; omega) oo.l1 oo.l2 oo.a30 oo.b30 (va := va') (vb := vb') Stb.of_own (Stb.of_own.more _)
        have HLT := Lib.hid hL
        have HOO := Lib.hid (⟨oo, us, hla, hlb⟩ : OwnOk la lb ∧ (∀ k ∈ Tr.take 0, usedW (wordsC la) (wordsC lb) k) ∧ LimOk (litC (Tr.take 0)) 15 la ∧ LimOk (distN (Tr.take 0)) 15 lb)
        clear hL h4 hla hlb oo us H3
        go_wp2_with (go_at_call 71; apply stop)
        refine on ?_
        refine HLT.out.mono ?_
        rintro e w5 ⟨me, R, rfl, hme, hR, h5⟩
        have hmm := metaH_len hme fun r hr => ((hR.rn (fun n hn => (List.mem_append.1 hn).elim (HOO.out.1.a30 n) (HOO.out.1.b30 n))).facts r hr).2.2
        have hrl := ((hR.rn (fun n hn => (List.mem_append.1 hn).elim (HOO.out.1.a30 n) (HOO.out.1.b30 n))).le (Nat.zero_le _)).2.2
        have hB := block_any' h5 (by rw [List.length_append, List.length_append, length_headL]; omega) HOO.out.1.oa HOO.out.1.ob (fun n hn => by have := HOO.out.1.a30 n hn; omega) (fun n hn => by have := HOO.out.1.b30 n hn; omega) (by rw [HOO.out.1.l1]; omega) (by rw [HOO.out.1.l2]; omega) (by rw [HOO.out.1.l1]; omega) (by rw [HOO.out.1.l2]; omega) (T := Tr.take 0) (by rw [HLL.out.1]; omega) HOKR.out HOO.out.2.1 (word_there (by rw [HOO.out.1.l1]; omega) HOO.out.1.eob) (vt := .slice none 0 0) (va := va') (vb := vb') (by rw [HLL.out.1]; exact (((HS.out.more _).more _).more _).more _) (by rw [HOO.out.1.l1]; exact Stb.of_own) (by rw [HOO.out.1.l2]; exact Stb.of_own.more _)
        have HBB := Lib.hid hB
        have HMR := Lib.hid (⟨hme, hR⟩ : MetaOk me R ∧ RunsBy (la ++ lb) 0 R 316)
        clear hB h5 hme hR hmm hrl HLT
        go_wp2_with (go_at_call 72; apply stop)
        refine on ?_
        refine HBB.out.mono ?_
        rintro e w7 ⟨rfl, h7⟩
        have h7 := (h7.perm (star_tp _ _ _ _ _ _)).right
        obtain ⟨y, hy⟩ : ∃ y, y = headL true 2 ++ (metaH me R ++ toldB (wordsC la) (wordsC lb) (Tr.take 0)) := ⟨_, rfl⟩
        rw [List.append_assoc, List.append_assoc, ← hy] at h7
        have HONE : Hid (OneB 2 true (Tr.take 0) y) := Lib.hid (.inr ⟨rfl, la, lb, me, R, HOO.out.2.2.1, HOO.out.2.2.2, HMR.out.1, HMR.out.2, hy⟩)
        have H7 := Lib.hid h7
        clear h7 hy HBB
        go_wp2_with fail
        go_ret
        refine ⟨acc ++ y, rfl, HMB.out y (.last (by rw [HNR.out]; omega) (by have h := HONE.out; rwa [show Tr.take 0 = Tr from List.take_of_length_le (by rw [HNR.out]; omega)] at h)), ?_, H7.out⟩
        have h1 := HONE.out.len HOKR.out
        rw [HLL.out.1] at h1
        rw [List.length_append]; omega

    · have hcap := reads_cap3 (hrd wr HST.out.right)
      have HS : Hid (Stb w0 F (fun w => Reads w 3 (.slice (some x) m cx) m (toksC (Tr.take m)))) := Lib.hid fun w h => by
        have := Reads.takeS (hrd w h) hmn
        rw [toksC_take] at this
        exact this
      have HR : Hid (Stb w0 F (fun w => Reads w 3 (.slice (some (x.add (m * 3))) (n - m) (cx - m)) (n - m) (toksC (Tr.drop m)))) := Lib.hid fun w h => by
        have := Reads.dropS (hrd w h) hmn
        rw [toksC_drop] at this
        exact this
      go_upto_region 2 with (fail)
      go_wp2_with (go_at_call 67; apply stop)
      refine on ?_
      refine (head_any HST.out _ how (by omega) (by omega)).mono ?_
      rintro e w2 ⟨rfl, h2⟩
      have H2 := Lib.hid h2
      clear h2 HST
      go_wp2_with (go_at_call 24; apply stop)
      refine on ?_
      refine (fixed_any H2.out).mono ?_
      rintro e w3 ⟨va, vb, rfl, h3⟩
      have H3 := Lib.hid (h3.perm (star_tn _ _ _ _))
      clear h3 H2
      rcases hhow with rfl | rfl
      · go_upto_region 9 with (fail)
        go_wp2_with (go_at_call 72; apply stop)
        refine on ?_
        have hB := block_any' H3.out (by rw [List.length_append, length_headL]; omega) okA okB fixA_30 fixB_30 (by rw [fixA_len]; omega) (by rw [fixB_len]; omega) (by rw [fixA_len]; omega) (by rw [fixB_len]; omega) (T := Tr.take m) (by rw [HLL.out.1]; omega) HOKR.out (fun k hk => usedF' (HOKR.out k hk)) (goodF.la 256 (by omega)) (vt := .slice (some x) m cx) (va := va) (vb := vb) (by rw [HLL.out.1]; exact (HS.out.more _).more _) (by rw [fixA_len]; exact Stb.of_own) (by rw [fixB_len]; exact Stb.of_own.more _)
        refine hB.mono ?_
        rintro e w7 ⟨rfl, h7⟩
        have h7 := (h7.perm (star_tm _ _ _ _)).right
        obtain ⟨y, hy⟩ : ∃ y, y = headL last 1 ++ toldB (wordsC fixA) (wordsC fixB) (Tr.take m) := ⟨_, rfl⟩
        rw [List.append_assoc, ← hy] at h7
        have HONE : Hid (OneB 1 last (Tr.take m) y) := Lib.hid (.inl ⟨rfl, hy⟩)
        have H7 := Lib.hid h7
        clear hB h7 hy H3
        cases last with
        | true =>
          obtain rfl : m = n := by have := eq_of_beq hlast; omega
          have htt : Tr.take m = Tr := List.take_of_length_le (by rw [HNR.out]; omega)
          rw [htt] at HONE
          have HTT := Lib.hid htt
          clear htt
          go_wp2_with fail
          all_goals
            go_ret
            first
            | refine ⟨acc ++ y, rfl, HMB.out y (.last (by rw [HNR.out]; omega) HONE.out), ?_, H7.out⟩
            | refine ⟨rfl, acc ++ y, HMB.out y (.last (by rw [HNR.out]; omega) HONE.out), ?_, H7.out⟩
            have h1 := HONE.out.len (by have h := HOKR.out; rwa [HTT.out] at h)
            rw [HNR.out] at h1
            rw [List.length_append]; omega
        | false =>
          have hlt : m < n := by have : m ≠ n := fun e => by rw [e] at hlast; simp at hlast
                                 omega
          have HLT2 := Lib.hid hlt
          go_wp2_with fail
          refine ⟨⟨_, _, _, _, _, _, _, _, _, _, _, _, _, _, _, _, _, _, _, _, _, _, _, _, _, _, _, _, _, _, _, _, _, _, _, _, _, _, _, _, _, _, _, _, _, _, _, _, _, _, _, _, _, _, ?_, by rfl⟩, by show n - m < n; have := HLT2.out; have := HM.out; omega⟩
          have hm6 : m = 16384 := by have := HM.out; omega
          have hdr : T.drop (d + m) = Tr.drop m := by rw [← HTR.out, List.drop_drop]
          have hl2 := HONE.out.len HOKR.out
          rw [HLL.out.1] at hl2
          have hl3 := HLL.out.2.1
          have hdl : (Tr.drop m).length = n - m := by rw [List.length_drop, HNR.out]
          refine ⟨d + m, acc ++ y, by have := HND.out; omega, by rw [List.length_append]; omega, .inr (by have := HND.out; omega), by rw [hdr, hdl]; exact HR.out, fun z hz => ?_, H7.out⟩
          rw [hdr] at hz
          rw [List.append_assoc]
          refine HMB.out _ (.more (by rw [HNR.out]; omega) ?_ ?_)
          · have h := HONE.out; rwa [hm6] at h
          · rwa [hm6] at hz

      · go_upto_region 5 with (fail)
        go_wp2_with (go_at_call 70; apply stop)
        refine on ?_
        refine (own_any H3.out (T := Tr.take m) (by rw [HLL.out.1]; omega) HOKR.out (vt := .slice (some x) m cx) (by rw [HLL.out.1]; exact ((HS.out.more _).more _).more _)).mono ?_
        rintro e w4 ⟨va', vb', la, lb, rfl, hla, hlb, h4⟩
        obtain ⟨oo, us⟩ := own_ok HOKR.out hla hlb
        have h4 := h4.perm (star_tn _ _ _ _)
        rw [oo.l1, oo.l2] at h4
        have hL := lens_told h4 (by rw [List.length_append, length_headL]; omega) oo.l1 oo.l2 oo.a30 oo.b30 (va := va') (vb := vb') Stb.of_own (Stb.of_own.more _)
        have HLT := Lib.hid hL
        have HOO := Lib.hid (⟨oo, us, hla, hlb⟩ : OwnOk la lb ∧ (∀ k ∈ Tr.take m, usedW (wordsC la) (wordsC lb) k) ∧ LimOk (litC (Tr.take m)) 15 la ∧ LimOk (distN (Tr.take m)) 15 lb)
        clear hL h4 hla hlb oo us H3
        go_wp2_with (go_at_call 71; apply stop)
        refine on ?_
        refine HLT.out.mono ?_
        rintro e w5 ⟨me, R, rfl, hme, hR, h5⟩
        have hmm := metaH_len hme fun r hr => ((hR.rn (fun n hn => (List.mem_append.1 hn).elim (HOO.out.1.a30 n) (HOO.out.1.b30 n))).facts r hr).2.2
        have hrl := ((hR.rn (fun n hn => (List.mem_append.1 hn).elim (HOO.out.1.a30 n) (HOO.out.1.b30 n))).le (Nat.zero_le _)).2.2
        have hB := block_any' h5 (by rw [List.length_append, List.length_append, length_headL]; omega) HOO.out.1.oa HOO.out.1.ob (fun n hn => by have := HOO.out.1.a30 n hn; omega) (fun n hn => by have := HOO.out.1.b30 n hn; omega) (by rw [HOO.out.1.l1]; omega) (by rw [HOO.out.1.l2]; omega) (by rw [HOO.out.1.l1]; omega) (by rw [HOO.out.1.l2]; omega) (T := Tr.take m) (by rw [HLL.out.1]; omega) HOKR.out HOO.out.2.1 (word_there (by rw [HOO.out.1.l1]; omega) HOO.out.1.eob) (vt := .slice (some x) m cx) (va := va') (vb := vb') (by rw [HLL.out.1]; exact (((HS.out.more _).more _).more _).more _) (by rw [HOO.out.1.l1]; exact Stb.of_own) (by rw [HOO.out.1.l2]; exact Stb.of_own.more _)
        have HBB := Lib.hid hB
        have HMR := Lib.hid (⟨hme, hR⟩ : MetaOk me R ∧ RunsBy (la ++ lb) 0 R 316)
        clear hB h5 hme hR hmm hrl HLT
        go_wp2_with (go_at_call 72; apply stop)
        refine on ?_
        refine HBB.out.mono ?_
        rintro e w7 ⟨rfl, h7⟩
        have h7 := (h7.perm (star_tp _ _ _ _ _ _)).right
        obtain ⟨y, hy⟩ : ∃ y, y = headL last 2 ++ (metaH me R ++ toldB (wordsC la) (wordsC lb) (Tr.take m)) := ⟨_, rfl⟩
        rw [List.append_assoc, List.append_assoc, ← hy] at h7
        have HONE : Hid (OneB 2 last (Tr.take m) y) := Lib.hid (.inr ⟨rfl, la, lb, me, R, HOO.out.2.2.1, HOO.out.2.2.2, HMR.out.1, HMR.out.2, hy⟩)
        have H7 := Lib.hid h7
        clear h7 hy HBB
        cases last with
        | true =>
          obtain rfl : m = n := by have := eq_of_beq hlast; omega
          have htt : Tr.take m = Tr := List.take_of_length_le (by rw [HNR.out]; omega)
          rw [htt] at HONE
          have HTT := Lib.hid htt
          clear htt
          go_wp2_with fail
          all_goals
            go_ret
            first
            | refine ⟨acc ++ y, rfl, HMB.out y (.last (by rw [HNR.out]; omega) HONE.out), ?_, H7.out⟩
            | refine ⟨rfl, acc ++ y, HMB.out y (.last (by rw [HNR.out]; omega) HONE.out), ?_, H7.out⟩
            have h1 := HONE.out.len (by have h := HOKR.out; rwa [HTT.out] at h)
            rw [HNR.out] at h1
            rw [List.length_append]; omega
        | false =>
          have hlt : m < n := by have : m ≠ n := fun e => by rw [e] at hlast; simp at hlast
                                 omega
          have HLT2 := Lib.hid hlt
          go_wp2_with fail
          refine ⟨⟨_, _, _, _, _, _, _, _, _, _, _, _, _, _, _, _, _, _, _, _, _, _, _, _, _, _, _, _, _, _, _, _, _, _, _, _, _, _, _, _, _, _, _, _, _, _, _, _, _, _, _, _, _, _, ?_, by rfl⟩, by show n - m < n; have := HLT2.out; have := HM.out; omega⟩
          have hm6 : m = 16384 := by have := HM.out; omega
          have hdr : T.drop (d + m) = Tr.drop m := by rw [← HTR.out, List.drop_drop]
          have hl2 := HONE.out.len HOKR.out
          rw [HLL.out.1] at hl2
          have hl3 := HLL.out.2.1
          have hdl : (Tr.drop m).length = n - m := by rw [List.length_drop, HNR.out]
          refine ⟨d + m, acc ++ y, by have := HND.out; omega, by rw [List.length_append]; omega, .inr (by have := HND.out; omega), by rw [hdr, hdl]; exact HR.out, fun z hz => ?_, H7.out⟩
          rw [hdr] at hz
          rw [List.append_assoc]
          refine HMB.out _ (.more (by rw [HNR.out]; omega) ?_ ?_)
          · have h := HONE.out; rwa [hm6] at h
          · rwa [hm6] at hz
end Go.Proofs.YtddifndfppilkaaGreat

namespace Go.Proofs.YtddifndfppilkaaGreat
open Go.RowKit Go.Mz
set_option linter.unusedVariables false
set_option linter.unusedSimpArgs false
set_option maxRecDepth 100000

/-- All blocks of bytes as they stand, the first at bit p. -/
inductive ManyP : Nat → List UInt8 → List Nat → Prop
  | last {p : Nat} {b : List UInt8} : b.length ≤ 65535 → ManyP p b (headL true 0 ++ storedL (p + 3) b)
  | more {p : Nat} {b : List UInt8} {y z : List Nat} : 65535 < b.length → y = headL false 0 ++ storedL (p + 3) (b.take 65535) → ManyP (p + y.length) (b.drop 65535) z → ManyP p b (y ++ z)
theorem ManyP.done {b : List UInt8} {p : Nat} {c : List UInt8} {z : List Nat} (h : ManyP p c z) : ∀ {x : List Nat} {i n : Nat}, PreS b x i n → p = x.length → c = b.drop i → i ≤ b.length → ∃ m, DoneS b (x ++ z) m := by
  induction h with
  | @last p c hl =>
    rintro x i n hp rfl rfl hi
    have hlen : (b.drop i).length = b.length - i := List.length_drop
    have hk := stored_blk (b := b) (p := x.length) (last := true) hi (Nat.le_refl _) (by omega)
    rw [List.take_of_length_le (by omega)] at hk
    exact ⟨_, hp.last hk rfl⟩
  | @more p c y z hl hy _ ih =>
    rintro x i n hp rfl rfl hi
    have hlen : (b.drop i).length = b.length - i := List.length_drop
    have hk := stored_blk (b := b) (i := i) (j := i + 65535) (p := x.length) (last := false) (by omega) (by omega) (by omega)
    rw [show i + 65535 - i = 65535 by omega, ← hy] at hk
    obtain ⟨m, hm⟩ := ih (hp.more hk) (by rw [List.length_append]) (by rw [List.drop_drop]) (by omega)
    exact ⟨m, by rw [← List.append_assoc]; exact hm⟩
theorem ManyP.head {p : Nat} {b : List UInt8} {y : List Nat} (h : ManyP p b y) : ∃ last z, y = headL last 0 ++ z := by
  cases h with
  | last _ => exact ⟨_, _, rfl⟩
  | more _ hy _ => subst hy; exact ⟨_, _, List.append_assoc _ _ _⟩

set_option maxHeartbeats 100000000 in
theorem plain_blocks {w0 w : World} {F : SProp} {B : Nat} (h : St w0 w (wrt B [] true * F)) {b : List UInt8} (hb : b.length ≤ 1000000) {vb : Value} (hv : Stb w0 F (fun w => Reads w 1 vb b.length (b.map bv))) :
    Calls Tryz.prog 41 #[.pointer (some ⟨B, 0, none⟩), vb] w fun e w' => ∃ x, e = .returned (.int .i64 0) ∧ ManyP 0 b x ∧ x.length ≤ 100000000 ∧ St w0 w' (wrt B x true * F) := by
  have H := Lib.hid h; have HT := Lib.hid hv
  clear h hv
  go_enter Tryz.func41, Tryz.ntmps41
  go_wp2_with fail
  go_loopw [1, 5, 7] (fun v1 v5 v7 wr => ∃ (d : Nat) (acc : List Nat), d ≤ b.length ∧ acc.length ≤ 9 * d ∧ (d = 0 ∨ d < b.length) ∧ Stb w0 F (fun w => Reads w 1 v1 (b.drop d).length ((b.drop d).map bv)) ∧ (∀ z, ManyP acc.length (b.drop d) z → ManyP 0 b (acc ++ z)) ∧ St w0 wr (wrt B acc true * F)) (fun v1 v5 v7 _ => slLen v1)
  case atStart => exact ⟨0, [], by omega, by simp, .inl rfl, HT.out, fun z h => h, H.out⟩
  case round =>
    clear H HT
    obtain ⟨d, acc, hd, hacc, hd0, hrd, hmb, hst⟩ := hrel
    obtain ⟨n, hn⟩ : ∃ n, (b.drop d).length = n := ⟨_, rfl⟩
    rw [hn] at hrd
    have hnd : n = b.length - d := by rw [← hn, List.length_drop]
    obtain ⟨ax, cx, rfl⟩ := (hrd wr hst.right).sub
    have hnil : ax = none → n = 0 ∧ cx = 0 := fun e => by
      subst e
      obtain ⟨_, ⟨e, h0⟩ | ⟨x, c, e, _⟩⟩ := hrd wr hst.right
      · cases e; exact ⟨h0, rfl⟩
      · cases e
    obtain ⟨m, hm⟩ : ∃ m, min n 65535 = m := ⟨_, rfl⟩
    have hmn : m ≤ n := by omega
    have hm1 : (if (65535 : Int) < (n : Int) then 65535 else (n : Int)) = (m : Int) := by split <;> omega
    obtain ⟨last, hlast⟩ : ∃ last, ((m : Int) == (n : Int)) = last := ⟨_, rfl⟩
    obtain ⟨Tr, hTr⟩ : ∃ Tr, b.drop d = Tr := ⟨_, rfl⟩
    rw [hTr] at hn hrd hmb
    have HND := Lib.hid hnd; have HMB := Lib.hid hmb; have HTR := Lib.hid hTr; have HNR := Lib.hid hn; have HM := Lib.hid hm
    have htl : (Tr.take m).length = m := by rw [List.length_take, hn]; omega
    have hacc2 : acc.length ≤ 9000000 := by omega
    have HLL := Lib.hid (⟨htl, hacc, hd0, hd⟩ : (Tr.take m).length = m ∧ acc.length ≤ 9 * d ∧ (d = 0 ∨ d < b.length) ∧ d ≤ b.length)
    have hn1 : n ≤ 1000000 := by omega
    have hm3 : m ≤ 65535 := by omega
    have HST := Lib.hid hst
    have hw32 : IntKind.u32.wrap (m : Int) = (m : Int) := IntWalk.u32_in _ (by omega)
    have hxor := xor_u32 (m := m)
    clear hnd hmb hTr hm htl hacc hd0 hd hn hst
    rcases ax with _ | x -- WALK
    · obtain ⟨rfl, rfl⟩ := hnil rfl
      obtain rfl : m = 0 := by omega
      obtain rfl : true = last := hlast
      have HS : Hid (Stb w0 F (fun w => Reads w 1 (.slice none 0 0) 0 ((Tr.take 0).map bv))) := Lib.hid fun w h => ⟨rfl, .inl ⟨rfl, rfl⟩⟩
      go_upto_region 2 with (fail)
      go_wp2_with (go_at_call 67; apply stop)
      refine on ?_
      refine (head_any HST.out _ 0 (by omega) (by omega)).mono ?_
      rintro e w2 ⟨rfl, h2⟩
      have H2 := Lib.hid h2
      clear h2 HST
      go_wp2_with (go_at_call 68; apply stop)
      refine on ?_
      refine (walign_any H2.out (by rw [List.length_append, length_headL]; omega)).mono ?_
      rintro e w3 ⟨rfl, h3⟩
      have e3 : alignL (acc ++ headL true 0) = acc ++ (headL true 0 ++ List.replicate ((8 - (acc.length + 3) % 8) % 8) 0) := by rw [alignL, List.length_append, length_headL, List.append_assoc]
      rw [e3] at h3
      obtain ⟨c1, hc1⟩ : ∃ c1, headL true 0 ++ List.replicate ((8 - (acc.length + 3) % 8) % 8) 0 = c1 := ⟨_, rfl⟩
      have hc1l : c1.length ≤ 10 := by rw [← hc1, List.length_append, length_headL, List.length_replicate]; omega
      rw [hc1] at h3
      have HC1 := Lib.hid hc1
      have H3 := Lib.hid h3
      clear h3 e3 H2 hc1
      go_wp2_with (go_at_call 69; apply stop)
      refine on ?_
      refine (write_ok H3.out 0 16 (by omega) (fun _ => Nat.div_eq_of_lt (by omega)) (by omega) (by rw [List.length_append]; omega)).mono ?_
      rintro e w4 ⟨rfl, h4⟩
      have H4 := Lib.hid h4
      clear h4 H3
      go_wp2_with (go_at_call 69; apply stop)
      refine on ?_
      rw [show bits BinOp.xor .u32 0 65535 = ((65535 - 0 : Nat) : Int) from xor_u32 (m := 0) (by omega)]
      refine (write_ok H4.out (65535 - 0) 16 (by omega) (fun _ => Nat.div_eq_of_lt (by omega)) (by omega) (by rw [List.length_append, length_wrN, List.length_append]; omega)).mono ?_
      rintro e w5 ⟨rfl, h5⟩
      obtain ⟨c2, hc2⟩ : ∃ c2, c1 ++ wrN true 0 16 ++ wrN true (65535 - 0) 16 = c2 := ⟨_, rfl⟩
      have hc2l : c2.length ≤ 42 := by rw [← hc2, List.length_append, length_wrN, List.length_append, length_wrN]; omega
      rw [List.append_assoc, List.append_assoc, ← List.append_assoc c1, hc2] at h5
      have HC2 := Lib.hid hc2
      have H5 := Lib.hid h5
      clear h5 H4 hc2
      go_wp2_with fail
      go_loopw [7, 32] (fun x7 vi wr => ∃ (j : Nat), j ≤ 0 ∧ vi = .int .i64 j ∧ St w0 wr (wrt B (acc ++ (c2 ++ bitsL true ((Tr.take 0).take j))) true * F)) (fun x7 vi _ => 0 - (intOf vi).toNat)
      case atStart => exact ⟨0, by omega, rfl, by simpa [bitsL] using H5.out⟩
      case round =>
        clear H5
        obtain ⟨j, hj, rfl, hst⟩ := hrel
        by_cases hjm : j < 0
        · exact absurd hjm (by omega)
        · obtain rfl : j = 0 := by omega
          rw [List.take_of_length_le (by rw [HLL.out.1]; omega)] at hst
          obtain ⟨y, hy⟩ : ∃ y, c2 ++ bitsL true (Tr.take 0) = y := ⟨_, rfl⟩
          have hone : y = headL true 0 ++ storedL (acc.length + 3) (Tr.take 0) := by
            rw [← hy, ← HC2.out, ← HC1.out, storedL, HLL.out.1]
            simp only [List.append_assoc]
            rfl
          have HONE := Lib.hid hone
          have HYL : Hid (y.length ≤ 42 + 8 * 0) := Lib.hid (by rw [← hy, List.length_append, length_bitsL, HLL.out.1]; omega)
          rw [hy] at hst
          have H7 := Lib.hid hst
          clear hst hy hone
          go_wp2_with fail
          go_ret
          have htt : Tr.take 0 = Tr := List.take_of_length_le (by rw [HNR.out]; omega)
          have hone := HONE.out
          rw [htt] at hone
          refine ⟨acc ++ y, rfl, by rw [hone]; exact HMB.out _ (.last (by rw [HNR.out]; omega)), by rw [List.length_append]; have := HYL.out; omega, H7.out⟩

    · have hcap := reads_cap3 (hrd wr HST.out.right)
      have HS : Hid (Stb w0 F (fun w => Reads w 1 (.slice (some x) m cx) m ((Tr.take m).map bv))) := Lib.hid fun w h => by
        have := Reads.takeS (hrd w h) hmn
        rw [Nat.mul_one, ← List.map_take] at this
        exact this
      have HR : Hid (Stb w0 F (fun w => Reads w 1 (.slice (some (x.add m)) (n - m) (cx - m)) (n - m) ((Tr.drop m).map bv))) := Lib.hid fun w h => by
        have := Reads.dropS (hrd w h) hmn
        rw [Nat.mul_one, ← List.map_drop] at this
        exact this
      go_upto_region 2 with (fail)
      go_wp2_with (go_at_call 67; apply stop)
      refine on ?_
      refine (head_any HST.out _ 0 (by omega) (by omega)).mono ?_
      rintro e w2 ⟨rfl, h2⟩
      have H2 := Lib.hid h2
      clear h2 HST
      go_wp2_with (go_at_call 68; apply stop)
      refine on ?_
      refine (walign_any H2.out (by rw [List.length_append, length_headL]; omega)).mono ?_
      rintro e w3 ⟨rfl, h3⟩
      have e3 : alignL (acc ++ headL last 0) = acc ++ (headL last 0 ++ List.replicate ((8 - (acc.length + 3) % 8) % 8) 0) := by rw [alignL, List.length_append, length_headL, List.append_assoc]
      rw [e3] at h3
      obtain ⟨c1, hc1⟩ : ∃ c1, headL last 0 ++ List.replicate ((8 - (acc.length + 3) % 8) % 8) 0 = c1 := ⟨_, rfl⟩
      have hc1l : c1.length ≤ 10 := by rw [← hc1, List.length_append, length_headL, List.length_replicate]; omega
      rw [hc1] at h3
      have HC1 := Lib.hid hc1
      have H3 := Lib.hid h3
      clear h3 e3 H2 hc1
      go_wp2_with (go_at_call 69; apply stop)
      refine on ?_
      refine (write_ok H3.out m 16 (by omega) (fun _ => Nat.div_eq_of_lt (by omega)) (by omega) (by rw [List.length_append]; omega)).mono ?_
      rintro e w4 ⟨rfl, h4⟩
      have H4 := Lib.hid h4
      clear h4 H3
      go_wp2_with (go_at_call 69; apply stop)
      refine on ?_
      rw [hxor (by omega)]
      refine (write_ok H4.out (65535 - m) 16 (by omega) (fun _ => Nat.div_eq_of_lt (by omega)) (by omega) (by rw [List.length_append, length_wrN, List.length_append]; omega)).mono ?_
      rintro e w5 ⟨rfl, h5⟩
      obtain ⟨c2, hc2⟩ : ∃ c2, c1 ++ wrN true m 16 ++ wrN true (65535 - m) 16 = c2 := ⟨_, rfl⟩
      have hc2l : c2.length ≤ 42 := by rw [← hc2, List.length_append, length_wrN, List.length_append, length_wrN]; omega
      rw [List.append_assoc, List.append_assoc, ← List.append_assoc c1, hc2] at h5
      have HC2 := Lib.hid hc2
      have H5 := Lib.hid h5
      clear h5 H4 hc2
      go_wp2_with fail
      go_loopw [7, 32] (fun x7 vi wr => ∃ (j : Nat), j ≤ m ∧ vi = .int .i64 j ∧ St w0 wr (wrt B (acc ++ (c2 ++ bitsL true ((Tr.take m).take j))) true * F)) (fun x7 vi _ => m - (intOf vi).toNat)
      case atStart => exact ⟨0, by omega, rfl, by simpa [bitsL] using H5.out⟩
      case round =>
        clear H5
        obtain ⟨j, hj, rfl, hst⟩ := hrel
        by_cases hjm : j < m
        · have hjT : j < (Tr.take m).length := by rw [HLL.out.1]; exact hjm
          obtain ⟨b1, o1, hx1, d0⟩ := (HS.out _ hst.right).at_ (j := j) hjm
          cases hx1
          rw [List.getElem?_map, List.getElem?_eq_getElem hjT] at d0
          have htk : (Tr.take m).take (j + 1) = (Tr.take m).take j ++ [(Tr.take m)[j]] := List.take_succ_eq_append_getElem hjT
          have hjl : ((Tr.take m).take j).length ≤ j := by rw [List.length_take]; omega
          obtain ⟨ch, hch⟩ : ∃ ch, (Tr.take m)[j] = ch := ⟨_, rfl⟩
          rw [hch] at d0 htk
          have hcl : ch.toNat < 256 := UInt8.toNat_lt ch
          replace d0 : wr.cell? ⟨b1, o1 + j, none⟩ = some (.int .u8 (ch.toNat : Int)) := d0
          have hjI : (j : Int) < m := by omega
          have hw8 : IntKind.u32.wrap (ch.toNat : Int) = (ch.toNat : Int) := IntWalk.u32_in _ (by omega)
          have htb : bitsL true ((Tr.take m).take (j + 1)) = bitsL true ((Tr.take m).take j) ++ wrN true ch.toNat 8 := by rw [htk, bitsL_append, bitsL_cons]; simp [bitsL, wrN]
          have hbl : (bitsL true ((Tr.take m).take j)).length ≤ 8 * 65535 := by rw [length_bitsL]; omega
          have HTB := Lib.hid htb
          clear htk htb hch hjT hjl
          generalize bitsL true ((Tr.take m).take j) = bl at *
          have HST := Lib.hid hst
          clear hst
          generalize ch.toNat = cn at *
          go_wp2_with fail
          refine (write_ok HST.out cn 8 (by omega) (fun _ => Nat.div_eq_of_lt (by omega)) (by omega) (by rw [List.length_append, List.length_append]; omega)).mono ?_
          rintro e w6 ⟨rfl, h6⟩
          have H6 := Lib.hid h6
          clear h6 HST d0
          go_wp2_with fail
          refine ⟨⟨j + 1, by omega, by go_num, ?_⟩, by simp [intOf]; omega⟩
          rw [HTB.out]; simpa only [List.append_assoc] using H6.out
        · obtain rfl : j = m := by omega
          rw [List.take_of_length_le (by rw [HLL.out.1]; omega)] at hst
          obtain ⟨y, hy⟩ : ∃ y, c2 ++ bitsL true (Tr.take j) = y := ⟨_, rfl⟩
          have hone : y = headL last 0 ++ storedL (acc.length + 3) (Tr.take j) := by
            rw [← hy, ← HC2.out, ← HC1.out, storedL, HLL.out.1]
            simp only [List.append_assoc]
            rfl
          have HONE := Lib.hid hone
          have HYL : Hid (y.length ≤ 42 + 8 * j) := Lib.hid (by rw [← hy, List.length_append, length_bitsL, HLL.out.1]; omega)
          rw [hy] at hst
          have H7 := Lib.hid hst
          clear hst hy hone
          cases last with
          | true =>
            obtain rfl : j = n := by have := eq_of_beq hlast; omega
            have htt : Tr.take j = Tr := List.take_of_length_le (by rw [HNR.out]; omega)
            rw [htt] at HONE
            clear htt
            go_wp2_with fail
            all_goals
              go_ret
              first
              | refine ⟨acc ++ y, rfl, by rw [HONE.out]; exact HMB.out _ (.last (by rw [HNR.out]; omega)), by rw [List.length_append]; have := HYL.out; omega, H7.out⟩
              | refine ⟨rfl, acc ++ y, by rw [HONE.out]; exact HMB.out _ (.last (by rw [HNR.out]; omega)), by rw [List.length_append]; have := HYL.out; omega, H7.out⟩
          | false =>
            have hlt : j < n := by have : j ≠ n := fun e => by rw [e] at hlast; simp at hlast
                                   omega
            have HLT2 := Lib.hid hlt
            go_wp2_with fail
            refine ⟨?_, by show n - j < n; have := HLT2.out; have := HM.out; omega⟩
            have hm6 : j = 65535 := by have := HM.out; omega
            have hdr : b.drop (d + j) = Tr.drop j := by rw [← HTR.out, List.drop_drop]
            have hl3 := HLL.out.2.1
            have hyl := HYL.out
            have hdl : (Tr.drop j).length = n - j := by rw [List.length_drop, HNR.out]
            refine ⟨d + j, acc ++ y, by have := HND.out; omega, by rw [List.length_append]; omega, .inr (by have := HND.out; omega), by rw [hdr, hdl]; exact HR.out, fun z hz => ?_, H7.out⟩
            rw [hdr, List.length_append] at hz
            rw [List.append_assoc]
            refine HMB.out _ (.more (by rw [HNR.out]; omega) ?_ ?_)
            · have h := HONE.out; rwa [hm6] at h
            · rwa [hm6] at hz
end Go.Proofs.YtddifndfppilkaaGreat

namespace Go.Proofs.YtddifndfppilkaaGreat
open Go.RowKit Go.Mz
set_option linter.unusedVariables false
set_option linter.unusedSimpArgs false
set_option maxRecDepth 100000

/-- What Deflate's bits are. -/
def DefS (b : List UInt8) (how : Nat) (x : List Nat) : Prop :=
  (how = 0 ∧ ManyP 0 b x) ∨ ((how = 1 ∨ how = 2) ∧ ∃ T, ChnT b 0 T b.length ∧ ManyB how T x)
theorem DefS.done {b : List UInt8} {how : Nat} {x : List Nat} (h : DefS b how x) : ∃ n, DoneS b x n := by
  rcases h with ⟨_, h⟩ | ⟨_, T, ht, h⟩
  · exact h.done (PreS.nil b) rfl rfl (Nat.zero_le _)
  · exact h.done (PreS.nil b) ht.tells
theorem DefS.head {b : List UInt8} {how : Nat} {x : List Nat} (h : DefS b how x) : ∃ last z, x = headL last how ++ z := by
  rcases h with ⟨rfl, h⟩ | ⟨_, T, ht, h⟩
  · exact h.head
  · exact h.head

theorem star_p1 (A B C : SProp) : A * (B * C) = B * (A * C) := by ac_rfl
set_option maxHeartbeats 40000000 in
theorem deflate_bad {w0 w : World} {F : SProp} (h : St w0 w F) {v : Value} {j : Int} (hj : j < 0 ∨ 2 < j) :
    Calls Tryz.prog 17 #[v, .int .i64 j] w fun e w' => e = .returned (.tuple #[.slice none 0 0, .int .i64 1]) ∧ St w0 w' F := by
  have H := Lib.hid h
  clear h
  have d0 : (j == 0) = false := by simp; omega
  have d1 : (j == 1) = false := by simp; omega
  have d2 : (j == 2) = false := by simp; omega
  clear hj
  go_enter Tryz.func17, Tryz.ntmps17
  go_wp2_with (go_at_call 40; apply stop)
  refine on ?_
  refine (newWriter_any H.out).mono ?_
  rintro e w2 ⟨B, rfl, h2⟩
  have H2 := Lib.hid h2
  clear h2
  go_wp2_with fail
  go_ret2
  exact ⟨rfl, H2.out.right⟩
set_option maxHeartbeats 40000000 in
theorem deflate_any {w0 w : World} {F : SProp} (h : St w0 w F) {b : List UInt8} (hb : b.length ≤ 1000000) {v : Value} (hv : Stb w0 F (fun w => Reads w 1 v b.length (b.map bv))) {how : Nat} (hh : how ≤ 2) :
    Calls Tryz.prog 17 #[v, .int .i64 (how : Int)] w fun e w' => ∃ v' x, e = .returned (.tuple #[v', .int .i64 0]) ∧ DefS b how x ∧ x.length ≤ 100000000 ∧ St w0 w' (own 5 1 v' ((x.length + 7) / 8) ((bytesB true x).map bv) * F) := by
  have H := Lib.hid h; have HV := Lib.hid hv
  clear h hv
  have hcases : how = 0 ∨ how = 1 ∨ how = 2 := by omega
  clear hh
  go_enter Tryz.func17, Tryz.ntmps17
  go_wp2_with (go_at_call 40; apply stop)
  refine on ?_
  refine (newWriter_any H.out).mono ?_
  rintro e w2 ⟨B, rfl, h2⟩
  have H2 := Lib.hid h2
  clear h2
  rcases hcases with rfl | rfl | rfl
  · go_wp2_with (go_at_call 41; apply stop)
    refine on ?_
    refine (plain_blocks H2.out hb HV.out).mono ?_
    rintro e w3 ⟨x, rfl, hx, hxl, h3⟩
    have HX := Lib.hid hx
    have H3 := Lib.hid h3
    clear h3 hx H2
    have HEND := H3
    go_wp2_with (go_at_call 44; apply stop)
    refine on ?_
    refine (bytes_any HEND.out).mono ?_
    rintro e w9 ⟨v9, rfl, h9⟩
    have H9 := Lib.hid ((h9.perm (star_left_comm _ _ _)).right)
    clear h9
    go_wp2_with fail
    go_ret2
    exact ⟨v9, x, rfl, .inl ⟨rfl, HX.out⟩, hxl, H9.out⟩
  · go_wp2_with (go_at_call 43; apply stop)
    refine on ?_
    refine (tokens_any H2.out (HV.out.more _) hb).mono ?_
    rintro e w3 ⟨vt, T, rfl, ht, h3⟩
    have h3 := h3.perm (star_left_comm _ _ _)
    have htl := (ht.tells.le (Nat.zero_le _)).2.2
    have HTB := Lib.hid (told_blocks h3 (T := T) (by omega) (okS_tells ht.tells) (how := 1) (by omega) (vt := vt) Stb.of_own)
    have HT := Lib.hid ht
    clear h3 ht htl H2
    go_wp2_with (go_at_call 42; apply stop)
    refine on ?_
    refine HTB.out.mono ?_
    rintro e w4 ⟨x, rfl, hx, hxl, h4⟩
    have HX := Lib.hid hx
    have HEND := Lib.hid ((h4.perm (star_left_comm _ _ _)).right)
    clear h4 hx HTB
    go_wp2_with (go_at_call 44; apply stop)
    refine on ?_
    refine (bytes_any HEND.out).mono ?_
    rintro e w9 ⟨v9, rfl, h9⟩
    have H9 := Lib.hid ((h9.perm (star_left_comm _ _ _)).right)
    clear h9
    go_wp2_with fail
    go_ret2
    exact ⟨v9, x, rfl, .inr ⟨.inl rfl, T, HT.out, HX.out⟩, hxl, H9.out⟩
  · go_wp2_with (go_at_call 43; apply stop)
    refine on ?_
    refine (tokens_any H2.out (HV.out.more _) hb).mono ?_
    rintro e w3 ⟨vt, T, rfl, ht, h3⟩
    have h3 := h3.perm (star_left_comm _ _ _)
    have htl := (ht.tells.le (Nat.zero_le _)).2.2
    have HTB := Lib.hid (told_blocks h3 (T := T) (by omega) (okS_tells ht.tells) (how := 2) (by omega) (vt := vt) Stb.of_own)
    have HT := Lib.hid ht
    clear h3 ht htl H2
    go_wp2_with (go_at_call 42; apply stop)
    refine on ?_
    refine HTB.out.mono ?_
    rintro e w4 ⟨x, rfl, hx, hxl, h4⟩
    have HX := Lib.hid hx
    have HEND := Lib.hid ((h4.perm (star_left_comm _ _ _)).right)
    clear h4 hx HTB
    go_wp2_with (go_at_call 44; apply stop)
    refine on ?_
    refine (bytes_any HEND.out).mono ?_
    rintro e w9 ⟨v9, rfl, h9⟩
    have H9 := Lib.hid ((h9.perm (star_left_comm _ _ _)).right)
    clear h9
    go_wp2_with fail
    go_ret2
    exact ⟨v9, x, rfl, .inr ⟨.inr rfl, T, HT.out, HX.out⟩, hxl, H9.out⟩
end Go.Proofs.YtddifndfppilkaaGreat

namespace Go.Proofs.YtddifndfppilkaaGreat
open Go.RowKit Go.Mz
set_option linter.unusedVariables false
set_option linter.unusedSimpArgs false
set_option maxRecDepth 100000

theorem stored_nil {x : List Nat} (h : DefS [] 0 x) : x = headL true 0 ++ storedL 3 [] := by
  rcases h with ⟨_, h⟩ | ⟨h, _⟩
  · cases h with
    | last _ => rfl
    | more hl _ _ => exact absurd hl (by decide)
  · omega

end Go.Proofs.YtddifndfppilkaaGreat

namespace Go.Proofs.YtddifndfppilkaaGreat
open Go.RowKit Go.Mz
set_option linter.unusedVariables false
set_option linter.unusedSimpArgs false

def fiveB (last : Bool) (n : Nat) : List UInt8 := [UInt8.ofNat last.toNat, UInt8.ofNat (n % 256), UInt8.ofNat (n / 256), UInt8.ofNat (255 - n % 256), UInt8.ofNat (255 - n / 256)]
theorem word16 {n : Nat} (h : n < 65536) : (wordB n 16).reverse = (wordB (n % 256) 8).reverse ++ (wordB (n / 256) 8).reverse := by
  refine List.ext_getElem? fun i => ?_
  have g16 := fun i (hi : i < 16) => wrN_get true n 16 i hi
  have ga := fun i (hi : i < 8) => wrN_get true (n % 256) 8 i hi
  have gb := fun i (hi : i < 8) => wrN_get true (n / 256) 8 i hi
  simp only [wrN, cond] at g16 ga gb
  have la : (wordB (n % 256) 8).reverse.length = 8 := by simp
  have lb : (wordB (n / 256) 8).reverse.length = 8 := by simp
  have l16 : (wordB n 16).reverse.length = 16 := by simp
  rcases Nat.lt_or_ge i 16 with hi | hi
  · rw [g16 i hi]
    rcases Nat.lt_or_ge i 8 with h8 | h8
    · rw [List.getElem?_append_left (by omega), ga i h8]
      congr 1
      have : i = 0 ∨ i = 1 ∨ i = 2 ∨ i = 3 ∨ i = 4 ∨ i = 5 ∨ i = 6 ∨ i = 7 := by omega
      rcases this with rfl | rfl | rfl | rfl | rfl | rfl | rfl | rfl <;> omega
    · rw [List.getElem?_append_right (by omega), la, gb (i - 8) (by omega)]
      congr 1
      obtain ⟨j, rfl⟩ : ∃ j, i = 8 + j := ⟨i - 8, by omega⟩
      rw [Nat.add_sub_cancel_left, Nat.pow_add, ← Nat.div_div_eq_div_mul]
  · rw [List.getElem?_eq_none (by omega), List.getElem?_eq_none (by rw [List.length_append]; omega)]
theorem head_bits (last : Bool) : headL last 0 ++ List.replicate 5 0 = (wordB last.toNat 8).reverse := by cases last <;> decide
/-- The bits of a block that begins at a byte. -/
theorem block_bits {p : Nat} (hp : p % 8 = 0) (last : Bool) {c : List UInt8} (hc : c.length ≤ 65535) : headL last 0 ++ storedL (p + 3) c = bitsL true (fiveB last c.length ++ c) := by
  have e5 : (8 - (p + 3) % 8) % 8 = 5 := by omega
  have hl : last.toNat ≤ 1 := by cases last <;> simp
  rw [storedL, e5, ← List.append_assoc, head_bits, word16 (by omega), word16 (by omega), bitsL_append]
  have t : ∀ n, n < 256 → (UInt8.ofNat n).toNat = n := fun n hn => by rw [UInt8.toNat_ofNat']; omega
  simp only [fiveB, bitsL_cons, t _ (show last.toNat < 256 by omega), t _ (show c.length % 256 < 256 by omega), t _ (show c.length / 256 < 256 by omega), t _ (show 255 - c.length % 256 < 256 by omega), t _ (show 255 - c.length / 256 < 256 by omega)]
  rw [show (65535 - c.length) % 256 = 255 - c.length % 256 by omega, show (65535 - c.length) / 256 = 255 - c.length / 256 by omega]
  simp only [List.append_assoc, bitsL, List.flatMap_nil, List.nil_append]
/-- What the document says. -/
inductive StoredS : List UInt8 → List UInt8 → Prop
  | last {b : List UInt8} : b.length ≤ 65535 → StoredS b (fiveB true b.length ++ b)
  | more {b z : List UInt8} : 65535 < b.length → StoredS (b.drop 65535) z → StoredS b (fiveB false 65535 ++ b.take 65535 ++ z)
theorem StoredS.same {b y : List UInt8} (h : StoredS b y) : ∀ {z : List UInt8}, StoredS b z → y = z := by
  induction h with
  | last hl =>
    intro z hz
    cases hz with
    | last _ => rfl
    | more h _ => omega
  | more hl _ ih =>
    intro z hz
    cases hz with
    | last h => omega
    | more _ h => rw [ih h]
theorem ManyP.bytes {p : Nat} {b : List UInt8} {x : List Nat} (h : ManyP p b x) : p % 8 = 0 → ∃ y, StoredS b y ∧ x = bitsL true y := by
  induction h with
  | @last p b hl => intro hp; exact ⟨_, .last hl, block_bits hp true hl⟩
  | @more p b y z hl hy _ ih =>
    intro hp
    have ht : (b.take 65535).length = 65535 := by rw [List.length_take]; omega
    have e := block_bits hp false (c := b.take 65535) (by omega)
    rw [ht] at e
    rw [e] at hy
    have hy8 : y.length % 8 = 0 := by rw [hy, length_bitsL]; omega
    obtain ⟨u, hu, rfl⟩ := ih (by omega)
    exact ⟨_, .more hl hu, by rw [hy, bitsL_append true (fiveB false 65535 ++ b.take 65535) u]⟩
theorem bits8_inj : ∀ {a b : List UInt8}, bitsL true a = bitsL true b → a = b := by
  intro a
  induction a with
  | nil =>
    intro b h
    have := congrArg List.length h
    rw [length_bitsL, length_bitsL] at this
    exact (List.eq_nil_of_length_eq_zero (by simp at this; omega)).symm
  | cons c a ih =>
    intro b h
    cases b with
    | nil => have := congrArg List.length h; rw [length_bitsL, length_bitsL] at this; simp at this
    | cons d b =>
      rw [bitsL_cons, bitsL_cons] at h
      obtain ⟨h1, h2⟩ := List.append_inj h (by simp)
      have hcd : c.toNat = d.toNat := by
        have e1 := numB_wordB c.toNat 8
        have e2 := numB_wordB d.toNat 8
        have l1 : c.toNat < 256 := UInt8.toNat_lt c
        have l2 : d.toNat < 256 := UInt8.toNat_lt d
        rw [List.reverse_inj.1 h1, e2] at e1
        omega
      rw [UInt8.toNat_inj.1 hcd, ih h2]
theorem bytes_of_bits (y : List UInt8) : bytesB true (bitsL true y) = y := by
  obtain ⟨z, hz⟩ := bitsL_bytes true (bit_bitsL true y)
  have hl := congrArg List.length hz
  rw [length_bitsL, length_bytesB', List.length_append, length_bitsL] at hl
  have : z = [] := List.eq_nil_of_length_eq_zero (by omega)
  rw [this, List.append_nil] at hz
  exact bits8_inj hz
end Go.Proofs.YtddifndfppilkaaGreat

namespace Go.Proofs.YtddifndfppilkaaGreat
open Go.RowKit Go.Mz
set_option linter.unusedVariables false
set_option linter.unusedSimpArgs false
set_option maxRecDepth 10000

/-! ### How many runs there are, where few lengths aren't nought -/
def aboveP (P : List Nat) (i : Nat) : Nat := (P.filter fun p => decide (i ≤ p)).length
theorem above_mono (P : List Nat) {i j : Nat} (h : i ≤ j) : aboveP P j ≤ aboveP P i := by
  unfold aboveP
  induction P with
  | nil => simp
  | cons p P ih =>
    simp only [List.filter_cons, decide_eq_true_eq]
    split
    · rw [if_pos (by omega)]; simpa using ih
    · split
      · simp only [List.length_cons]; omega
      · exact ih
theorem above_lt {P : List Nat} {i j : Nat} (hi : i ∈ P) (h : i < j) : aboveP P j + 1 ≤ aboveP P i := by
  induction P with
  | nil => cases hi
  | cons p P ih =>
    have hm := above_mono P (show i ≤ j by omega)
    unfold aboveP at *
    simp only [List.filter_cons, decide_eq_true_eq]
    rcases List.mem_cons.1 hi with rfl | hi
    · rw [if_neg (by omega), if_pos (by omega), List.length_cons]; omega
    · have := ih hi
      split
      · rw [if_pos (by omega)]; simp only [List.length_cons]; omega
      · split
        · simp only [List.length_cons]; omega
        · exact this
/-- What is left of a stretch of noughts. -/
def leftS (all : List Nat) (i : Nat) : Nat :=
  if all.length ≤ i ∨ all.getD i 0 ≠ 0 then 0 else if all.length ≤ i + 1 ∨ all.getD (i + 1) 0 ≠ 0 then 1 else 2
theorem leftS_le (all : List Nat) (i : Nat) : leftS all i ≤ 2 := by unfold leftS; split <;> (try split) <;> omega
theorem leftS_end {all : List Nat} {i : Nat} (h : all.length ≤ i ∨ all.getD i 0 ≠ 0) : leftS all i = 0 := by unfold leftS; rw [if_pos h]
theorem runs_few {all P : List Nat} (hP : ∀ i, all.getD i 0 ≠ 0 → i ∈ P) : ∀ (R : List (Nat × Nat × Nat)) (i : Nat), i ≤ all.length → RunsBy all i R all.length → R.length ≤ 3 * aboveP P i + (all.length - i) / 138 + leftS all i := by
  intro R
  induction R with
  | nil => intro i _ _; simp
  | cons r R ih =>
    rintro i hi ⟨j, ⟨n, ⟨n1, n2, n3, n4⟩, hs, hij⟩, hr⟩
    have hjl : i < j ∧ j ≤ all.length ∧ j ≤ i + n ∧ (all.getD i 0 = 0 → (j = i + n) ∨ (138 < n ∧ j = i + 138) ∨ (n ≤ 2 ∧ j = i + 1)) := by
      unfold shapeR at hs
      by_cases g1 : all.getD i 0 = 0 ∧ 11 ≤ n
      · rw [if_pos g1, Prod.mk.injEq] at hs
        have hj := hs.2
        exact ⟨by omega, by omega, by omega, fun _ => by omega⟩
      · rw [if_neg g1] at hs
        by_cases g2 : all.getD i 0 = 0 ∧ 3 ≤ n
        · rw [if_pos g2, Prod.mk.injEq] at hs
          have hj := hs.2
          exact ⟨by omega, by omega, by omega, fun _ => by omega⟩
        · rw [if_neg g2] at hs
          have g4 : all.getD i 0 = 0 → n ≤ 2 := fun h0 => by
            have : ¬ 3 ≤ n := fun h => g2 ⟨h0, h⟩
            omega
          by_cases g3 : 0 < i ∧ all.getD (i - 1) 0 = all.getD i 0 ∧ 3 ≤ n
          · rw [if_pos g3, Prod.mk.injEq] at hs
            have hj := hs.2
            exact ⟨by omega, by omega, by omega, fun h0 => by have := g4 h0; omega⟩
          · rw [if_neg g3, Prod.mk.injEq] at hs
            have hj := hs.2
            exact ⟨by omega, by omega, by omega, fun h0 => by have := g4 h0; omega⟩
    obtain ⟨h1, h2, h3, h4⟩ := hjl
    have hb := ih j h2 hr
    rw [List.length_cons]
    by_cases h0 : all.getD i 0 = 0
    · have hm := above_mono P (show i ≤ j by omega)
      have hend : ∀ t, i + n = t → leftS all t = 0 := fun t ht => leftS_end (by
        rcases Nat.lt_or_ge t all.length with h | h
        · right; rw [← ht]; intro h'; exact n4 (by omega) (by rw [h', h0])
        · exact .inl h)
      have hSi : leftS all i = if all.length ≤ i + 1 ∨ all.getD (i + 1) 0 ≠ 0 then 1 else 2 := by
        unfold leftS
        rw [if_neg (by rintro (h | h); · omega
                       · exact h h0)]
      have hSi1 : 1 ≤ leftS all i := by rw [hSi]; split <;> omega
      have hSi2 : 2 ≤ n → leftS all i = 2 := fun h => by
        rw [hSi, if_neg]
        rintro (g | g)
        · omega
        · exact g (by rw [n3 (i + 1) (by omega) (by omega), h0])
      have hd : (all.length - j) / 138 ≤ (all.length - i) / 138 := Nat.div_le_div_right (by omega)
      rcases h4 h0 with h | ⟨h, h'⟩ | ⟨h, h'⟩
      · rw [hend j h.symm] at hb
        omega
      · have := leftS_le all j
        have := hSi2 (by omega)
        omega
      · rcases Nat.lt_or_ge n 2 with g | g
        · rw [hend j (by omega)] at hb
          omega
        · have hS2 := hSi2 g
          have hj0 : all.getD j 0 = 0 := by rw [n3 j (by omega) (by omega), h0]
          have hj1 : leftS all j ≤ 1 := by
            unfold leftS
            split
            · omega
            · rw [if_pos]
              · omega
              · rcases Nat.lt_or_ge (j + 1) all.length with q | q
                · right; rw [show j + 1 = i + n by omega]; intro h'; exact n4 (by omega) (by rw [h', h0])
                · exact .inl q
          omega
    · have hm := above_lt (hP i h0) h1
      have := leftS_le all j
      have hd : (all.length - j) / 138 ≤ (all.length - i) / 138 := Nat.div_le_div_right (by omega)
      omega

/-! ### The tokens of one byte, again and again -/
theorem StepT.len {b : List UInt8} {i : Nat} {k : TokD} {m : Nat} (h : StepT b i k m) : (k.len = 0 ∧ m = i + 1 ∧ b[i]? = some k.lit) ∨ (3 ≤ k.len ∧ k.len ≤ 258 ∧ 1 ≤ k.dist ∧ k.dist ≤ i ∧ m = i + k.len.toNat) := by
  have h1 := h.lt; have h2 := h.le
  have hl : (b.take i).length = i := by rw [List.length_take]; omega
  have hp := h.put
  rcases h.ok with h0 | ⟨a, c, d, e, f⟩
  · rw [putT, if_pos h0] at hp
    have hm := congrArg List.length hp
    rw [List.length_append, hl, List.length_take] at hm
    simp at hm
    have : m = i + 1 := by omega
    subst this
    have hi : i < b.length := by omega
    rw [List.take_succ_eq_append_getElem hi] at hp
    have := List.append_cancel_left hp
    simp at this
    exact .inl ⟨h0, rfl, by rw [List.getElem?_eq_getElem hi, this]⟩
  · rw [putT, if_neg (by omega)] at hp
    have hm := congrArg List.length hp
    rw [copyF_len, hl, List.length_take] at hm
    rw [hl] at e
    exact .inr ⟨a, c, d, e, by omega⟩
theorem alike_const {n i k m : Nat} {c : UInt8} (hi : k ≤ i) (h : Alike (List.replicate n c) i k m) : m = min 258 (n - i) := by
  have hg : ∀ t, t < n → (List.replicate n c).getD t 0 = c := fun t ht => by
    rw [List.getD_eq_getElem?_getD, List.getElem?_replicate, if_pos ht]; rfl
  have h1 := h.le; have h2 := h.fit
  rw [List.length_replicate] at h2
  rcases h.end_ with e | e | e
  · omega
  · rw [List.length_replicate] at e; omega
  · rcases Nat.lt_or_ge (i + m) n with g | g
    · rw [hg _ g, hg _ (by omega)] at e; exact absurd rfl e
    · omega
def KindC (c : UInt8) (q : Nat) (k : TokD) : Prop := (k.len = 0 ∧ k.lit = c) ∨ (k.len = 258 ∧ k.dist = 1) ∨ (k.len = (q : Nat) ∧ 3 ≤ q ∧ k.dist = 1)
theorem const_chn {n : Nat} {c : UInt8} : ∀ (T : List TokD) (i : Nat), 1 ≤ i → i ≤ n → ((i - 1) % 258 = 0 ∨ n - i < 3) → ChnT (List.replicate n c) i T n →
    T.length ≤ (n - i) / 258 + 2 ∧ (n - i < 3 → T.length ≤ n - i) ∧ ∀ k ∈ T, KindC c ((n - 1) % 258) k := by
  intro T
  induction T with
  | nil => intro i _ _ _ h; exact ⟨by simp, by simp, fun k hk => by cases hk⟩
  | cons k T ih =>
    rintro i h1 hin hmod ⟨m, hst, hnr, hch⟩
    have hle := hst.le; have hlt := hst.lt
    rw [List.length_replicate] at hle
    have hL : (List.replicate n c).length = n := List.length_replicate
    by_cases h3 : i + 3 ≤ n
    · have hm0 : (i - 1) % 258 = 0 := by omega
      have hk3 : key3 (List.replicate n c) (i - 1) = key3 (List.replicate n c) i := by
        have hg : ∀ t, t < n → (List.replicate n c).getD t 0 = c := fun t ht => by
          rw [List.getD_eq_getElem?_getD, List.getElem?_replicate, if_pos ht]; rfl
        unfold key3
        rw [hg _ (by omega), hg _ (by omega), hg _ (by omega), hg _ (by omega), hg _ (by omega), hg _ (by omega)]
      obtain ⟨u, hal, hul, hud⟩ := hnr h1 (by rw [hL]; exact h3) hk3
      have hu := alike_const (by omega) hal
      rcases hst.len with ⟨h0, _, _⟩ | ⟨a, b', d, e, hm⟩
      · omega
      · have hlen : k.len = u := by omega
        have hdist : k.dist = 1 := hud (by omega) hlen
        obtain ⟨i1, i2, i3⟩ := ih m (by omega) hle (by omega) hch
        refine ⟨?_, by omega, fun x hx => ?_⟩
        · rw [List.length_cons]
          by_cases h258 : 258 ≤ n - i
          · have : m = i + 258 := by omega
            subst this
            have e : (n - (i + 258)) / 258 + 1 = (n - i) / 258 := by omega
            omega
          · have : m = n := by omega
            subst this
            have := i2 (by omega)
            omega
        · rcases List.mem_cons.1 hx with rfl | hx
          · by_cases h258 : 258 ≤ n - i
            · exact .inr (.inl ⟨by omega, hdist⟩)
            · exact .inr (.inr ⟨by omega, by omega, hdist⟩)
          · exact i3 x hx
    · rcases hst.len with ⟨h0, hm, hb⟩ | ⟨a, b', d, e, hm⟩
      · obtain ⟨i1, i2, i3⟩ := ih m (by omega) hle (by omega) hch
        have := i2 (by omega)
        refine ⟨by rw [List.length_cons]; omega, fun _ => by rw [List.length_cons]; omega, fun x hx => ?_⟩
        rcases List.mem_cons.1 hx with rfl | hx
        · rw [List.getElem?_replicate, if_pos (by omega)] at hb
          exact .inl ⟨h0, (Option.some.inj hb).symm⟩
        · exact i3 x hx
      · omega
theorem const_toks {n : Nat} (hn : 1 ≤ n) {c : UInt8} {T : List TokD} (h : ChnT (List.replicate n c) 0 T n) : T.length ≤ n / 258 + 3 ∧ ∀ k ∈ T, KindC c ((n - 1) % 258) k := by
  cases T with
  | nil => have h : 0 = n := h; omega
  | cons k T =>
    obtain ⟨m, hst, hnr, hch⟩ := h
    rcases hst.len with ⟨h0, hm, hb⟩ | ⟨a, b', d, e, hm⟩
    · obtain ⟨i1, i2, i3⟩ := const_chn T m (by omega) (by omega) (by omega) hch
      refine ⟨?_, fun x hx => ?_⟩
      · have : (n - m) / 258 ≤ n / 258 := Nat.div_le_div_right (by omega)
        rw [List.length_cons]; omega
      · rcases List.mem_cons.1 hx with rfl | hx
        · rw [List.getElem?_replicate, if_pos (by omega)] at hb
          exact .inl ⟨h0, (Option.some.inj hb).symm⟩
        · exact i3 x hx
    · omega

/-! ### How many bits -/
theorem const_lits {T : List TokD} {c : UInt8} {q : Nat} (hok : ∀ k ∈ T, okS' k) (h : ∀ k ∈ T, KindC c q k) (hT : T.length ≠ 0) {la lb : List Nat} (ha : LimOk (litC T) 15 la) (hb : LimOk (distN T) 15 lb) :
    ∀ i, (la ++ lb).getD i 0 ≠ 0 → i ∈ [c.toNat, 256, 257 + plF false 258, 257 + plF false q, 286 + plF true 1] := by
  have hla : la.length = 286 := by rw [ha.len, length_litC]
  have hlb : lb.length = 30 := by rw [hb.len, length_distN]
  intro i hi
  rcases Nat.lt_or_ge i 286 with g | g
  · rw [List.getD_eq_getElem?_getD, List.getElem?_append_left (by omega), ← List.getD_eq_getElem?_getD] at hi
    have hp := (ha.pos i (by rw [length_litC]; exact g)).1 (by omega)
    rw [litC, if_neg hT, litN_at T hok] at hp
    by_cases h256 : i = 256
    · subst h256; simp
    · rw [if_neg h256, Nat.zero_add, List.length_pos_iff] at hp
      obtain ⟨k, hk⟩ := List.exists_mem_of_ne_nil _ hp
      obtain ⟨hk, he⟩ := List.mem_filter.1 hk
      have he : litP k = i := by simpa using he
      unfold litP at he
      rcases h k hk with ⟨k0, kl⟩ | ⟨k0, kd⟩ | ⟨k0, k3, kd⟩
      · rw [if_pos k0, kl] at he; rw [← he]; simp
      · rw [if_neg (by omega), k0] at he; rw [← he]; simp
      · rw [if_neg (by omega), k0] at he; rw [← he]; simp
  · rw [List.getD_eq_getElem?_getD, List.getElem?_append_right (by omega), hla, ← List.getD_eq_getElem?_getD] at hi
    have g2 : i - 286 < 30 := by
      rcases Nat.lt_or_ge (i - 286) 30 with q | q
      · exact q
      · rw [List.getD_eq_getElem?_getD, List.getElem?_eq_none (by omega)] at hi; exact absurd rfl hi
    have hp := (hb.pos (i - 286) (by rw [length_distN]; exact g2)).1 (by omega)
    rw [distN_at T hok, List.length_pos_iff] at hp
    obtain ⟨k, hk⟩ := List.exists_mem_of_ne_nil _ hp
    obtain ⟨hk, he⟩ := List.mem_filter.1 hk
    have he : k.len ≠ 0 ∧ plF true k.dist.toNat = i - 286 := by simpa using he
    rcases h k hk with ⟨k0, _⟩ | ⟨_, kd⟩ | ⟨_, _, kd⟩
    · exact absurd k0 he.1
    · rw [kd] at he
      have : i = 286 + plF true 1 := by have := he.2; simp only [Int.toNat_one] at this; omega
      rw [this]; simp
    · rw [kd] at he
      have : i = 286 + plF true 1 := by have := he.2; simp only [Int.toNat_one] at this; omega
      rw [this]; simp
theorem above_len (P : List Nat) (i : Nat) : aboveP P i ≤ P.length := List.length_filter_le _ _
theorem DefS.short {n : Nat} (hn : 1 ≤ n) (hn2 : n ≤ 100000) {c : UInt8} {how : Nat} {x : List Nat} (h : DefS (List.replicate n c) how x) (h1 : how = 1 ∨ how = 2) :
    (x.length + 7) / 8 ≤ (if how = 2 then 100 else 40) + n / 32 := by
  rcases h with ⟨h0, _⟩ | ⟨_, T, ht, hm⟩
  · omega
  rw [List.length_replicate] at ht
  obtain ⟨hTl, hK⟩ := const_toks hn ht
  have hok : ∀ k ∈ T, okS' k := okS_tells ht.tells
  have hT0 : T.length ≠ 0 := by
    intro h
    have := List.eq_nil_of_length_eq_zero h
    subst this
    have h : 0 = n := ht
    omega
  cases hm with
  | more hl _ _ => omega
  | last hl ho =>
    rcases ho with ⟨rfl, rfl⟩ | ⟨rfl, la, lb, me, R, ha, hb, mo, hr, rfl⟩
    · have := toldB_len FA_len FB_len T
      rw [List.length_append, length_headL, if_neg (by omega)]
      omega
    · obtain ⟨oo, us⟩ := own_ok hok ha hb
      have hall : (la ++ lb).length = 316 := by rw [List.length_append, oo.l1, oo.l2]
      have h15 : ∀ n ∈ la ++ lb, n ≤ 15 := fun n hn => (List.mem_append.1 hn).elim (oo.a30 n) (oo.b30 n)
      have hR := hr.rn h15
      have hfew := runs_few (const_lits hok hK hT0 ha hb) R 0 (Nat.zero_le _) (by rw [hall]; exact hr)
      have hab := above_len [c.toNat, 256, 257 + plF false 258, 257 + plF false ((n - 1) % 258), 286 + plF true 1] 0
      have hls := leftS_le (la ++ lb) 0
      rw [hall] at hfew
      simp only [List.length_cons, List.length_nil] at hab
      have hR19 : R.length ≤ 19 := by omega
      have h1 := metaH_len mo fun r hx => (hR.facts r hx).2.2
      have h2 := toldB_len (wordsC_len oo.a30) (wordsC_len oo.b30) T
      rw [List.length_append, length_headL, List.length_append, if_pos rfl]
      omega
end Go.Proofs.YtddifndfppilkaaGreat
