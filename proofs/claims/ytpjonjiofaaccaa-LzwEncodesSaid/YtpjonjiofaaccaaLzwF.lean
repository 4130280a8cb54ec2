/-
  Layer 5, the document's answer: the next code.
-/
import Derived.Test.YtpjonjiofaaccaaLzwE
import Derived.Test.YtpjonjiofaaccaaLzwN
import Derived.Test.YtpjonjiofaaccaaReg3
import Derived.Test.YtpjonjiofaaccaaRef02
import Derived.Deep.QuietTactic
import Derived.BigQuiet
import Derived.Laws.Rows
namespace Go.Proofs.Ytpjonjiofaaccaa
open Go.RowKit Go.Mz
set_option linter.unusedVariables false
set_option linter.unusedSimpArgs false

theorem bodyPost_ret4c {P : Program} {fn : Func} {R : Ending → World → Prop} {x u v s : Nat} {ty e : TypeId} {cs : Array Value} {fr : Nat × Nat} {b : Nat} {a : Act} {w : World} {d : TypeDesc} (h : fn.results = #[.cell x ty, .tmp u, .tmp v, .tmp s])
    (hx : a.tmps.getD x undef = .pointer (some ⟨b, 0, none⟩)) (hg : w.heap[b]? = some (.cells cs e fr)) (hu : P.underlying ty = some d) (hd : (match d with | .struct _ | .array _ _ => true | _ => false) = true) (hi : (P.info? ty).map (·.size) = some cs.size)
    (hf : a.defers = []) (hR : R (.returned (.tuple #[.agg cs, a.tmps.getD u undef, a.tmps.getD v undef, a.tmps.getD s undef])) w) : bodyPost P fn R .ret a w := by
  refine ⟨hf, _, ?_, hR⟩
  have hx' : a.tmps[x]?.getD undef = .pointer (some ⟨b, 0, none⟩) := by simpa using hx
  simp [results, h, hx', asAddr, run_loadVar_row w b e ty cs fr d hg hu hd hi]

set_option maxRecDepth 100000 in
set_option maxHeartbeats 40000000 in
theorem rcode_any {w0 w : World} {F : SProp} {L : List Txt} {a : Txt} {p : Nat} {vL : Value} (h : St w0 w (own 9 1 vL L.length (L.map sv) * F)) {bits : List Nat} (hb : Bit bits) (hbl : bits.length ≤ 1000000000) (hp : p ≤ bits.length) (old : Bool)
    (hL1 : 258 ≤ L.length) (hL2 : L.length ≤ 4096) (hLt : ∀ (i : Nat) (t : Txt), L[i]? = some t → t ≠ [] ∧ t.length ≤ 5000) (ha : a.length ≤ 5000)
    {L' : List Txt} {a' : Txt} {p' : Nat} {t : Txt} {en : Bool} {er : Nat} (hR : codeS bits old ⟨L, a, p⟩ = (⟨L', a', p'⟩, t, en, er)) {i : Int} (hi : i = p) :
    Calls Try.prog 21 #[.agg #[vL, .string ⟨a.toArray⟩, .int .i64 i], .string ⟨(tx bits).toArray⟩, .bool old] w fun e w' => ∃ vL',
      e = .returned (.tuple #[.agg #[vL', .string ⟨a'.toArray⟩, .int .i64 p'], .string ⟨t.toArray⟩, .bool en, .int .i64 er]) ∧ St w0 w' (own 9 1 vL' L'.length (L'.map sv) * F) := by
  subst hi
  obtain ⟨al, cl, rfl⟩ := h.reads.sub
  have H := Lib.hid h; clear h
  have T := elemStrs
  have HR := Lib.hid hR; clear hR
  generalize hN : L.length = N at *
  have HN := Lib.hid hN; clear hN
  generalize hsb : (ByteArray.mk (tx bits).toArray) = sb at *
  have HSB := Lib.hid hsb; clear hsb
  generalize hsa : (ByteArray.mk a.toArray) = sa at *
  have HSA := Lib.hid hsa; clear hsa
  go_enter Try.func21, Try.ntmps21
  go_upto_region 1 with (fail)
  have h1 := (H.out.alloc (.cells #[.slice al N cl, .string sa, .int .i64 (p : Int)] 47)).alloc (.cells #[.slice none 0 0, .string ⟨#[]⟩, .int .i64 0] 47)
  have hsz : (w.alloc (.cells #[.slice al N cl, .string sa, .int .i64 (p : Int)] 47)).heap.size = w.heap.size + 1 := by simp
  rw [hsz] at h1
  clear hsz
  generalize hb0 : w.heap.size = b0 at *
  generalize hb1 : b0 + 1 = b1 at *
  generalize hW : (w.alloc (.cells #[.slice al N cl, .string sa, .int .i64 (p : Int)] 47)).alloc (.cells #[.slice none 0 0, .string ⟨#[]⟩, .int .i64 0] 47) = W at *
  have hne : ¬ b0 = b1 := by omega
  have hne' : ¬ b1 = b0 := by omega
  clear hb0 hb1 hW
  have c0 : W.cell? ⟨b0, 0, none⟩ = some (.slice al N cl) := h1.right.cell 0 rfl
  have c1 : W.cell? ⟨b0, 1, none⟩ = some (.string sa) := h1.right.cell 1 rfl
  have c2 : W.cell? ⟨b0, 2, none⟩ = some (.int .i64 p) := h1.right.cell 2 rfl
  have H1 := Lib.hid h1; clear h1 H
  obtain ⟨x, y, z, hrd⟩ : ∃ x y z, rdI bits old p (widthL N old : Nat) = (x, y, z) := ⟨_, _, _, rfl⟩
  have HRD := Lib.hid (fun w => ((rread_all hb p (widthL N old : Nat) old w hp hbl rfl HSB.out.symm).mono fun e w' h => (⟨by rw [hrd] at h; exact h.1, h.2.symm⟩ : e = .returned (.tuple #[.int .u32 (x : Int), .int .i64 (y : Int), .int .i64 (z : Int)]) ∧ w' = w)))
  have HRW := Lib.hid (fun w => ((rwidth_any (w := w) N rfl old (by omega)).mono fun e w' h => (⟨h.1, h.2.symm⟩ : e = .returned (.int .i64 (widthL N old : Nat)) ∧ w' = w)))
  have hbd := widthL_bd N old
  generalize hwl : widthL N old = wl at *
  have HWL := Lib.hid hwl; clear hwl
  have HRI := Lib.hid hrd; clear hrd
  go_quiet (first | (go_at_call 34; exact Calls.quiet_of_same (HRW.out _)) | (go_at_call 33; exact Calls.quiet_of_same (HRD.out _)))
  have h2 := H1.out.drewN nq
  generalize W.drewN nq = W1 at *
  clear H1 HRD HRW c0 c1 c2
  have g2 := h2.right.free 2
  have c2 := h2.right.cell 2 rfl
  have h3 := (h2.perm (star_left_comm _ _ _)).set 2 (.int .i64 (y : Int))
  have HQ := Lib.hid (h3.perm (star_left_comm _ _ _)); clear h2 h3
  go_upto_region 3 with (fail)
  generalize W1.setCell ⟨b0, 2, none⟩ (.int .i64 (y : Int)) = W2 at *
  clear c2 g2
  have h4 : St w0 W2 (blk b1 (.cells #[.slice none 0 0, .string ⟨#[]⟩, .int .i64 0] 47) * (blk b0 (.cells #[.slice al N cl, .string sa, .int .i64 y] 47) * (own 9 1 (.slice al N cl) N (L.map sv) * F))) := HQ.out
  clear HQ
  have c0 := h4.right.cell 0 rfl
  have c1 := h4.right.cell 1 rfl
  have c2 := h4.right.cell 2 rfl
  have g0 := h4.right.free 0
  have g1 := h4.right.free 1
  have g2 := h4.right.free 2
  have r0 := h4.cell 0 rfl
  have r1 := h4.cell 1 rfl
  have r2 := h4.cell 2 rfl
  have s0 := h4.free 0
  have s1 := h4.free 1
  have s2 := h4.free 2
  have hset := fun (a b c : Value) => ((h4.set 0 a).set 1 b).set 2 c
  have H4 := Lib.hid h4; clear h4
  have HSET := Lib.hid hset; clear hset
  by_cases hcut : bits.length < p + wl
  · have e1 : (x, y, z) = (0, p, 2) := by rw [← HRI.out]; unfold rdI; rw [if_neg (by omega), if_pos (by simpa using hcut)]
    obtain ⟨rfl, rfl, rfl⟩ : x = 0 ∧ y = p ∧ z = 2 := by simpa using e1
    have hres := codeS_cut (bits := bits) (old := old) (s := ⟨L, a, y⟩) (by simp only; rw [HN.out, HWL.out]; exact hcut)
    rw [HR.out] at hres
    go_wp2_with fail
    have HF := Lib.hid (HSET.out (.slice al N cl) (.string sa) (.int .i64 y))
    obtain ⟨⟨rfl, rfl, rfl⟩, rfl, rfl, rfl⟩ : (L' = L ∧ a' = a ∧ p' = y) ∧ t = [] ∧ en = false ∧ er = 2 := by simpa using hres
    refine bodyPost_ret4c rfl rfl HF.out.at_ Try.underlying47 rfl (by show _ = some 3; kernel_rfl) rfl ?_
    refine ⟨.slice al N cl, ?_, ?_⟩
    · rw [HSA.out]; rfl
    · rw [HN.out]; exact HF.out.right.right
  have hcut' : ¬ bits.length < p + widthL N old := by rw [HWL.out]; exact hcut
  have e1 : (x, y, z) = (codeAt bits old ⟨L, a, p⟩, p + wl, 0) := by
    rw [← HRI.out]; unfold rdI; rw [if_neg (by omega), if_neg (by simpa using hcut)]
    simp only [codeAt, Int.toNat_natCast]
    rw [HN.out, HWL.out]
  obtain ⟨hx, hy, rfl⟩ : x = codeAt bits old ⟨L, a, p⟩ ∧ y = p + wl ∧ z = 0 := by simpa using e1
  have hxl : x < 4096 := by
    have : codeAt bits old ⟨L, a, p⟩ < 2 ^ wl := by
      rw [codeAt]
      simp only
      rw [HN.out, HWL.out]
      exact numV_lt _ _ (fun i => hb.getD _) _
    rw [← hx] at this
    exact Nat.lt_of_lt_of_le this (Nat.pow_le_pow_right (n := 2) (by decide) hbd.2)
  have HX := Lib.hid hx; clear hx e1
  have HY := Lib.hid hy; clear hy
  have HC0 := Lib.hid (show ¬ bits.length < p + wl from hcut)
  have HWL2 := Lib.hid (show widthL L.length old = wl by rw [HN.out, HWL.out])
  have x0 : (0 : Int) ≤ x := by omega
  have hxw : IntKind.i64.wrap (x : Int) = x := IntWalk.i64_in _ (by omega)
  have hsal : sa.toList = a := by rw [← HSA.out, ByteArray.toList_eq]
  have HSAL := Lib.hid hsal; clear hsal
  by_cases k1 : x = 256
  · have HRES := Lib.hid (by have := codeS_clear HWL2.out HC0.out HX.out.symm k1; rwa [← HY.out] at this : codeS bits old ⟨L, a, p⟩ = (⟨start0, [], y⟩, [], false, 0))
    have i1 : (x : Int) = 256 := by omega
    go_wp2_with fail
    refine (rstart_any H4.out).mono ?_
    rintro e W3 ⟨v3, rfl, h5⟩
    obtain ⟨a3, n3, rfl⟩ := h5.reads.sub
    clear c0 c1 c2 g0 g1 g2 r0 r1 r2 s0 s1 s2
    have h6 := h5.perm (show _ = blk b0 (.cells #[.slice al N cl, .string sa, .int .i64 y] 47) * (own 9 1 (.slice a3 start0.length n3) start0.length (start0.map sv) * (blk b1 (.cells #[.slice none 0 0, .string ⟨#[]⟩, .int .i64 0] 47) * (own 9 1 (.slice al N cl) N (L.map sv) * F))) by ac_rfl)
    have h7 := h5.perm (show _ = blk b1 (.cells #[.slice none 0 0, .string ⟨#[]⟩, .int .i64 0] 47) * (own 9 1 (.slice a3 start0.length n3) start0.length (start0.map sv) * (blk b0 (.cells #[.slice al N cl, .string sa, .int .i64 y] 47) * (own 9 1 (.slice al N cl) N (L.map sv) * F))) by ac_rfl)
    have c0 := h6.cell 0 rfl
    have g0 := h6.free 0
    have r0 := h7.cell 0 rfl
    have s0 := h7.free 0
    have c1 := h6.cell 1 rfl
    have g1 := h6.free 1
    have r1 := h7.cell 1 rfl
    have s1 := h7.free 1
    have c2 := h6.cell 2 rfl
    have g2 := h6.free 2
    have r2 := h7.cell 2 rfl
    have s2 := h7.free 2
    have h8 := ((h6.set 0 (.slice a3 start0.length n3)).set 1 (.string ⟨#[]⟩)).perm (star_left_comm _ _ _)
    have h9 := h8.perm (show _ = blk b1 (.cells #[.slice none 0 0, .string ⟨#[]⟩, .int .i64 0] 47) * (own 9 1 (.slice a3 start0.length n3) start0.length (start0.map sv) * (_ * (own 9 1 (.slice al N cl) N (L.map sv) * F))) by ac_rfl)
    have H9 := Lib.hid h9; clear h5 h6 h7 h8 h9
    generalize hn0 : start0.length = n0 at *
    have HN0 := Lib.hid hn0; clear hn0
    go_wp2_with fail
    have HF := Lib.hid (((H9.out.set 0 (.slice a3 n0 n3)).set 1 (.string ⟨#[]⟩)).set 2 (.int .i64 (y : Int)))
    obtain ⟨⟨rfl, rfl, rfl⟩, rfl, rfl, rfl⟩ : (L' = start0 ∧ a' = [] ∧ p' = y) ∧ t = [] ∧ en = false ∧ er = 0 := by
      have := HR.out.symm.trans HRES.out
      simpa using this
    refine bodyPost_ret4c rfl rfl HF.out.at_ Try.underlying47 rfl (by show _ = some 3; kernel_rfl) rfl ?_
    refine ⟨.slice a3 n0 n3, ?_, ?_⟩
    · rfl
    · rw [HN0.out]; exact (HF.out.right.perm (show _ = (_ * own 9 1 (.slice al N cl) N (L.map sv)) * (own 9 1 (.slice a3 n0 n3) n0 (start0.map sv) * F) by ac_rfl)).right
  by_cases k2 : x = 257
  · have HRES := Lib.hid (by have := codeS_end HWL2.out HC0.out HX.out.symm k2; rwa [← HY.out] at this : codeS bits old ⟨L, a, p⟩ = (⟨L, a, y⟩, [], true, 0))
    have i1 : ¬ (x : Int) = 256 := by omega
    have i2 : (x : Int) = 257 := by omega
    go_wp2_with fail
    have HF := Lib.hid (((H4.out.set 0 (.slice al N cl)).set 1 (.string sa)).set 2 (.int .i64 (y : Int)))
    obtain ⟨⟨rfl, rfl, rfl⟩, rfl, rfl, rfl⟩ : (L' = L ∧ a' = a ∧ p' = y) ∧ t = [] ∧ en = true ∧ er = 0 := by
      have := HR.out.symm.trans HRES.out
      simpa using this
    refine bodyPost_ret4c rfl rfl HF.out.at_ Try.underlying47 rfl (by show _ = some 3; kernel_rfl) rfl ?_
    refine ⟨.slice al N cl, ?_, ?_⟩
    · rw [HSA.out]; rfl
    · rw [HN.out]; exact HF.out.right.right
  have i1 : ¬ (x : Int) = 256 := by omega
  have i2 : ¬ (x : Int) = 257 := by omega
  by_cases hae : a = []
  · have u1 : sa.toList = [] := by rw [HSAL.out]; exact hae
    have u2 : sa.toList.isEmpty = true := by rw [u1]; rfl
    by_cases k3 : 255 < x
    · have i3 : (255 : Int) < x := by omega
      have HRES := Lib.hid (by have := codeS_bad0 HWL2.out HC0.out HX.out.symm k1 k2 hae k3; rwa [← HY.out] at this : codeS bits old ⟨L, a, p⟩ = (⟨L, a, y⟩, [], false, 6))
      go_wp2_with fail
      have HF := Lib.hid (((H4.out.set 0 (.slice al N cl)).set 1 (.string sa)).set 2 (.int .i64 (y : Int)))
      obtain ⟨⟨rfl, rfl, rfl⟩, rfl, rfl, rfl⟩ : (L' = L ∧ a' = a ∧ p' = y) ∧ t = [] ∧ en = false ∧ er = 6 := by
        have := HR.out.symm.trans HRES.out
        simpa using this
      refine bodyPost_ret4c rfl rfl HF.out.at_ Try.underlying47 rfl (by show _ = some 3; kernel_rfl) rfl ?_
      refine ⟨.slice al N cl, ?_, ?_⟩
      · rw [HSA.out]; rfl
      · rw [HN.out]; exact HF.out.right.right
    · have i3 : ¬ (255 : Int) < x := by omega
      obtain ⟨t5, ht5⟩ : ∃ t5, L[x]? = some t5 := ⟨L[x]'(by rw [HN.out]; omega), by simp⟩
      have HRES := Lib.hid (by have := codeS_lit HWL2.out HC0.out HX.out.symm k1 k2 hae k3 ht5; rwa [← HY.out] at this : codeS bits old ⟨L, a, p⟩ = (⟨L, t5, y⟩, t5, false, 0))
      have hxN : (x : Int) < N := by omega
      obtain ⟨gl, ol, rfl, el⟩ := (H4.out.right.right.reads).at_ (j := x) (by omega)
      generalize hst5 : (ByteArray.mk t5.toArray) = st at *
      have el' : (L.map sv)[x]? = some (.string st) := by simp [ht5, sv, hst5]
      rw [el'] at el
      clear el'
      have HST5 := Lib.hid hst5; clear hst5
      clear ht5
      go_upto_region 15 with (fail)
      go_region
      go_wp2_with fail
      have HL1 := Lib.hid (((H4.out.perm (star_left_comm _ _ _)).set 1 (.string st)).perm (star_left_comm _ _ _))
      have HF := Lib.hid (((HL1.out.set 0 (.slice (some ⟨gl, ol, none⟩) N cl)).set 1 (.string st)).set 2 (.int .i64 (y : Int)))
      obtain ⟨⟨rfl, rfl, rfl⟩, rfl, rfl, rfl⟩ : (L' = L ∧ a' = t5 ∧ p' = y) ∧ t = t5 ∧ en = false ∧ er = 0 := by
        have := HR.out.symm.trans HRES.out
        simpa using this
      refine bodyPost_ret4c rfl rfl HF.out.at_ Try.underlying47 rfl (by show _ = some 3; kernel_rfl) rfl ?_
      refine ⟨.slice (some ⟨gl, ol, none⟩) N cl, ?_, ?_⟩
      · rw [HST5.out]; rfl
      · rw [HN.out]; exact HF.out.right.right.drew
  have u1 : ¬ sa.toList = [] := by rw [HSAL.out]; exact hae
  have u2 : sa.toList.isEmpty = false := by
    cases hq : sa.toList with
    | nil => exact absurd hq u1
    | cons _ _ => rfl
  by_cases k3 : N < x
  · have HRES := Lib.hid (by have := codeS_bad HWL2.out HC0.out HX.out.symm k1 k2 hae (.inl (by rw [HN.out]; exact k3)); rwa [← HY.out] at this : codeS bits old ⟨L, a, p⟩ = (⟨L, a, y⟩, [], false, 6))
    have i3 : ¬ x < N := by omega
    have i4 : ¬ (x : Int) = N := by omega
    go_wp2_with fail
    have HF := Lib.hid (((H4.out.set 0 (.slice al N cl)).set 1 (.string sa)).set 2 (.int .i64 (y : Int)))
    obtain ⟨⟨rfl, rfl, rfl⟩, rfl, rfl, rfl⟩ : (L' = L ∧ a' = a ∧ p' = y) ∧ t = [] ∧ en = false ∧ er = 6 := by
      have := HR.out.symm.trans HRES.out
      simpa using this
    refine bodyPost_ret4c rfl rfl HF.out.at_ Try.underlying47 rfl (by show _ = some 3; kernel_rfl) rfl ?_
    refine ⟨.slice al N cl, ?_, ?_⟩
    · rw [HSA.out]; rfl
    · rw [HN.out]; exact HF.out.right.right
  by_cases k4 : x < N
  · have i3 : (x : Int) < N := by omega
    obtain ⟨d, t5, ht5⟩ : ∃ d t5, L[x]? = some (d :: t5) := by
      have e := (show L[x]? = some (L[x]'(by rw [HN.out]; omega)) by simp)
      cases hq : L[x]'(by rw [HN.out]; omega) with
      | nil => exact absurd hq (hLt x _ e).1
      | cons d t => exact ⟨d, t, by rw [e, hq]⟩
    obtain ⟨gl, ol, rfl, el⟩ := (H4.out.right.right.reads).at_ (j := x) k4
    generalize hst5 : (ByteArray.mk (d :: t5).toArray) = st at *
    have el' : (L.map sv)[x]? = some (.string st) := by simp [ht5, sv, hst5]
    rw [el'] at el
    clear el'
    have hzS : st.size = (d :: t5).length := by rw [← hst5]; rfl
    have hzA : sa.size = a.length := by rw [← HSA.out]; rfl
    have hL5 := hLt x (d :: t5) ht5
    have ht0 : 0 < (d :: t5).length := List.length_pos_iff.2 hL5.1
    have j1 : (1 : Int) ≤ st.size := by omega
    have j2 : 1 ≤ st.size := by omega
    have j3 : st.size ≤ 5000 := by omega
    have j4 : sa.size ≤ 5000 := by omega
    have j5 : ¬ 9223372036854775807 < sa.size + 1 := by omega
    clear hzS hzA hL5 ht0
    have HST5 := Lib.hid hst5; clear hst5
    by_cases k5 : N < 4096
    · have i5 : (N : Int) < 4096 := by omega
      have HRES := Lib.hid (by have := codeS_old HWL2.out HC0.out HX.out.symm k1 k2 hae (by rw [HN.out]; exact k4) (by rw [HN.out]; exact k5) ht5; rwa [← HY.out] at this : codeS bits old ⟨L, a, p⟩ = (⟨L ++ [a ++ [d]], d :: t5, y⟩, d :: t5, false, 0))
      clear ht5
      go_wp2_with (at_builtin; apply stop)
      refine on (wpList_append_sep T rfl _ _ rfl rfl (St.own_blk (e := 9) (size := 1) (n := 0) (cap := 0) (xs := []) (H4.out.alloc (.cells #[] 9)) (Nat.le_refl _) (Nat.zero_le _) rfl rfl) rfl ((H4.out.drop_alloc _).right.right.reads) (sv_oneCell L) ?_ ?_ ?_)
      · unfold maxLen; omega
      · omega
      intro vm W5 h5 _
      simp only [Nat.zero_add, List.nil_append] at h5
      obtain ⟨am, cm, rfl⟩ := h5.reads.sub
      clear c0 c1 c2 g0 g1 g2 r0 r1 r2 s0 s1 s2
      have hL5 : StL w0 W5 [own 9 1 (.slice am N cm) N (L.map sv), blk b0 (.cells #[.slice (some ⟨gl, ol, none⟩) N cl, .string sa, .int .i64 y] 47), blk b1 (.cells #[.slice none 0 0, .string ⟨#[]⟩, .int .i64 0] 47), own 9 1 (.slice (some ⟨gl, ol, none⟩) N cl) N (L.map sv), F] := h5.perm (by simp only [prodL]; rw [star_comm F emp, emp_star]; ac_rfl)
      have c1 := hL5.cell (i := 1) rfl 1 rfl
      have HL5 := Lib.hid hL5; clear hL5 h5
      go_upto_region 25 with (fail)
      refine wp_region_noPanic ?_
      refine region_till (S := fun w' : World => w'.cell? ⟨b0, 1, none⟩ = some (.string sa)) (k := 5) (by kernel_rfl) ?_
      have hS : (fun w' : World => w'.cell? ⟨b0, 1, none⟩ = some (.string sa)) W5.drew := c1
      refine till_take0 (i := 0) (oi := ?_) (v := ?_) ?_ (by kernel_rfl) (by kernel_rfl) (by kernel_rfl) (by decide) (fun _ _ _ h => h.elim) (by assumption) (.inl ⟨?_, fun w => ?_⟩) ?_
      rotate_left 2
      · (simp only [List.getElem?_toArray, List.getElem?_cons_succ, List.getElem?_cons_zero]; rfl)
      · rfl
      · (go_simp; try with_reducible rfl)
      simp only [Act.put, List.setIfInBounds_toArray, List.set_cons_zero, List.set_cons_succ]
      refine till_take0 (i := 1) (oi := ?_) (v := ?_) ?_ (by kernel_rfl) (by kernel_rfl) (by kernel_rfl) (by decide) (fun _ _ _ h => h.elim) (by assumption) (.inl ⟨?_, fun w => ?_⟩) ?_
      rotate_left 2
      · (simp only [List.getElem?_toArray, List.getElem?_cons_succ, List.getElem?_cons_zero]; rfl)
      · rfl
      · (go_simp; try with_reducible rfl)
      simp only [Act.put, List.setIfInBounds_toArray, List.set_cons_zero, List.set_cons_succ]
      refine till_take (i := 2) (oi := ?_) (v := ?_) ?_ (by kernel_rfl) (by kernel_rfl) (by kernel_rfl) (by kernel_rfl) (by kernel_rfl) (fun _ _ _ h => h.elim) (by assumption) (.inl ⟨?_, fun w hSw => ?_⟩) ?_
      rotate_left 2
      · (simp only [List.getElem?_toArray, List.getElem?_cons_succ, List.getElem?_cons_zero]; rfl)
      · rfl
      · ((try dsimp only at hSw); go_simp; try with_reducible rfl)
      simp only [Act.put, List.setIfInBounds_toArray, List.set_cons_zero, List.set_cons_succ]
      refine till_take0 (i := 3) (oi := ?_) (v := ?_) ?_ (by kernel_rfl) (by kernel_rfl) (by kernel_rfl) (by decide) (fun _ _ _ h => h.elim) (by assumption) (.inl ⟨?_, fun w => ?_⟩) ?_
      rotate_left 2
      · (simp only [List.getElem?_toArray, List.getElem?_cons_succ, List.getElem?_cons_zero]; rfl)
      · rfl
      · (go_simp; try with_reducible rfl)
      simp only [Act.put, List.setIfInBounds_toArray, List.set_cons_zero, List.set_cons_succ]
      refine till_take0 (i := 4) (oi := ?_) (v := ?_) ?_ (by kernel_rfl) (by kernel_rfl) (by kernel_rfl) (by decide) (fun _ _ _ h => h.elim) (by assumption) (.inl ⟨?_, fun w => ?_⟩) ?_
      rotate_left 2
      · (simp only [List.getElem?_toArray, List.getElem?_cons_succ, List.getElem?_cons_zero]; rfl)
      · rfl
      · (go_simp; try with_reducible rfl)
      simp only [Act.put, List.setIfInBounds_toArray, List.set_cons_zero, List.set_cons_succ]
      refine till_one (i := 5) (by kernel_rfl) ?_
      refine wpOp_step (by rfl) fun K hK => ?_
      go_simp
      refine hK _ _ ⟨fun e => (by cases e), ?_⟩
      clear hK K
      refine till_one (i := 6) (by kernel_rfl) ?_
      refine wpOp_step (by rfl) fun K hK => ?_
      go_simp
      have hL6 := (HL5.out.alloc rfl (.cells #[.string (sa ++ st.extract 0 1)] 9)).drew
      simp only [List.cons_append, List.nil_append] at hL6
      generalize hz : sa ++ st.extract 0 1 = z at *
      have HZZ := Lib.hid (show z = ⟨(a ++ [d]).toArray⟩ by rw [← hz, ← HSA.out, ← HST5.out]; rw [ByteArray.extract_mk, ByteArray.mk_append_mk]; simp); clear hz
      refine hK _ _ ⟨fun e => (by cases e), ?_⟩
      clear hK K hS c1
      generalize hB6 : W5.heap.size = b6 at *
      generalize hW6 : (W5.alloc (.cells #[.string z] 9)).drew = W6 at *
      clear hB6 hW6
      refine till_one (i := 7) (by kernel_rfl) ?_
      refine wpOp_step (by rfl) fun K hK => ?_
      refine step_append_L T rfl _ _ rfl rfl hL6 0 rfl (x := .slice (some ⟨b6, 0, none⟩) 1 1) rfl (m := 1) (news := [.string z]) (hL6.one (i := 5) rfl) (by intro u hu; simp at hu; subst hu; rfl) (by unfold maxLen; omega) (by omega) fun v' W7 h7 _ => ?_
      refine hK _ _ ⟨fun e => (by cases e), ?_⟩
      clear hK K
      simp only [List.set_cons_zero] at h7
      simp only [Act.put, List.setIfInBounds_toArray, List.set_cons_zero, List.set_cons_succ]
      refine till_one (i := 8) (by kernel_rfl) ?_
      refine wpOp_step (by rfl) fun K hK => ?_
      go_simp
      refine hK _ _ ⟨fun e => (by cases e), ?_⟩
      clear hK K
      obtain ⟨a7, c7, rfl⟩ := (h7.reads (i := 0) rfl).sub
      have e0 := h7.cell (i := 1) rfl 0 rfl
      have f0 := h7.free (i := 1) rfl 0
      have h8 := h7.set (i := 1) rfl 0 (.slice a7 (N + 1 : Nat) c7)
      refine till_one (i := 9) (by kernel_rfl) ?_
      refine wpOp_step (by rfl) fun K hK => ?_
      go_simp
      refine hK _ _ ⟨fun e => (by cases e), ?_⟩
      clear hK K e0 f0
      refine ⟨by kernel_rfl, NoPanic.normal ?_⟩
      simp only [List.set_cons_zero, List.set_cons_succ, List.setIfInBounds_toArray] at h8
      generalize W7.setCell ⟨b0, 0, none⟩ (.slice a7 (N + 1 : Nat) c7) = W8 at *
      have h9 : St w0 W8 (blk b1 (.cells #[.slice none 0 0, .string ⟨#[]⟩, .int .i64 0] 47) * (blk b0 (.cells #[.slice a7 (N + 1 : Nat) c7, .string sa, .int .i64 y] 47) * (own 9 1 (.slice a7 (N + 1 : Nat) c7) (N + 1) (L.map sv ++ [.string z]) * (own 9 1 (.slice (some ⟨gl, ol, none⟩) N cl) N (L.map sv) * blk b6 (.cells #[.string z] 9) * F)))) := St.perm h8 (by simp only [prodL]; rw [star_comm _ emp, emp_star]; ac_rfl)
      clear h7 h8
      have c0 := h9.right.cell 0 rfl
      have c1 := h9.right.cell 1 rfl
      have c2 := h9.right.cell 2 rfl
      have g0 := h9.right.free 0
      have g1 := h9.right.free 1
      have g2 := h9.right.free 2
      have r0 := h9.cell 0 rfl
      have r1 := h9.cell 1 rfl
      have r2 := h9.cell 2 rfl
      have s0 := h9.free 0
      have s1 := h9.free 1
      have s2 := h9.free 2
      have H9 := Lib.hid h9; clear h9
      go_wp2_with fail
      have HL1 := Lib.hid (((H9.out.perm (star_left_comm _ _ _)).set 1 (.string st)).perm (star_left_comm _ _ _))
      have HF := Lib.hid (((HL1.out.set 0 (.slice a7 (N + 1 : Nat) c7)).set 1 (.string st)).set 2 (.int .i64 (y : Int)))
      obtain ⟨⟨rfl, rfl, rfl⟩, rfl, rfl, rfl⟩ : (L' = L ++ [a ++ [d]] ∧ a' = d :: t5 ∧ p' = y) ∧ t = d :: t5 ∧ en = false ∧ er = 0 := by
        have := HR.out.symm.trans HRES.out
        simpa using this
      refine bodyPost_ret4c rfl rfl HF.out.at_ Try.underlying47 rfl (by show _ = some 3; kernel_rfl) rfl ?_
      refine ⟨.slice a7 (N + 1 : Nat) c7, ?_, ?_⟩
      · rw [HST5.out]; rfl
      · have e9 : L.map sv ++ [.string z] = (L ++ [a ++ [d]]).map sv := by rw [List.map_append]; simp only [List.map_cons, List.map_nil, sv, HZZ.out]
        have e8 : (L ++ [a ++ [d]]).length = N + 1 := by rw [List.length_append, HN.out]; rfl
        rw [e8, ← e9]
        exact (HF.out.right.right.perm (show _ = (own 9 1 (.slice (some ⟨gl, ol, none⟩) N cl) N (L.map sv) * blk b6 (.cells #[.string z] 9)) * (own 9 1 (.slice a7 (N + 1 : Nat) c7) (N + 1) (L.map sv ++ [.string z]) * F) by ac_rfl)).right
    · have i5 : ¬ (N : Int) < 4096 := by omega
      have HRES := Lib.hid (by have := codeS_full HWL2.out HC0.out HX.out.symm k1 k2 hae (by rw [HN.out]; exact k4) (by rw [HN.out]; exact k5) ht5; rwa [← HY.out] at this : codeS bits old ⟨L, a, p⟩ = (⟨L, d :: t5, y⟩, d :: t5, false, 0))
      clear ht5
      go_wp2_with fail
      have HL1 := Lib.hid (((H4.out.perm (star_left_comm _ _ _)).set 1 (.string st)).perm (star_left_comm _ _ _))
      have HF := Lib.hid (((HL1.out.set 0 (.slice (some ⟨gl, ol, none⟩) N cl)).set 1 (.string st)).set 2 (.int .i64 (y : Int)))
      obtain ⟨⟨rfl, rfl, rfl⟩, rfl, rfl, rfl⟩ : (L' = L ∧ a' = d :: t5 ∧ p' = y) ∧ t = d :: t5 ∧ en = false ∧ er = 0 := by
        have := HR.out.symm.trans HRES.out
        simpa using this
      refine bodyPost_ret4c rfl rfl HF.out.at_ Try.underlying47 rfl (by show _ = some 3; kernel_rfl) rfl ?_
      refine ⟨.slice (some ⟨gl, ol, none⟩) N cl, ?_, ?_⟩
      · rw [HST5.out]; rfl
      · rw [HN.out]; exact HF.out.right.right
  · have i3 : ¬ x < N := by omega
    have i4 : (x : Int) = N := by omega
    have i5 : (N : Int) < 4096 := by omega
    have hzA : sa.size = a.length := by rw [← HSA.out]; rfl
    have ha0 : 0 < a.length := List.length_pos_iff.2 hae
    have i6 : (1 : Int) ≤ sa.size := by omega
    have i7 : 1 ≤ sa.size := by omega
    have i8 : sa.size ≤ 5000 := by omega
    have HAL := Lib.hid hzA; clear hzA
    obtain ⟨d, a5, ha5⟩ : ∃ d t, a = d :: t := by
      cases a with
      | nil => exact absurd rfl hae
      | cons d t => exact ⟨d, t, rfl⟩
    have HRES := Lib.hid (by have := codeS_new HWL2.out HC0.out HX.out.symm k1 k2 ha5 (by rw [HN.out]; omega) (by rw [HN.out]; omega); rwa [← HY.out] at this : codeS bits old ⟨L, a, p⟩ = (⟨L ++ [a ++ [d]], a ++ [d], y⟩, a ++ [d], false, 0))
    have HA5 := Lib.hid ha5; clear ha5
    have hex : sa ++ sa.extract 0 1 = ⟨(a ++ [d]).toArray⟩ := by
      rw [← HSA.out, ByteArray.extract_mk, ByteArray.mk_append_mk, HA5.out]; simp
    have HEX := Lib.hid hex; clear hex
    have hzS : (ByteArray.mk (a ++ [d]).toArray).size = a.length + 1 := by
      show (a ++ [d]).toArray.size = _
      simp
    have HZS := Lib.hid hzS; clear hzS
    go_upto_region 20 with (fail)
    go_quiet (fail)
    have h4' := H4.out.drewN nq
    generalize W2.drewN nq = W3 at *
    clear c0 c1 c2 g0 g1 g2 r0 r1 r2 s0 s1 s2 H4 HSET
    have c0 := h4'.right.cell 0 rfl
    have c1 := h4'.right.cell 1 rfl
    have c2 := h4'.right.cell 2 rfl
    have g0 := h4'.right.free 0
    have g1 := h4'.right.free 1
    have g2 := h4'.right.free 2
    have r0 := h4'.cell 0 rfl
    have r1 := h4'.cell 1 rfl
    have r2 := h4'.cell 2 rfl
    have s0 := h4'.free 0
    have s1 := h4'.free 1
    have s2 := h4'.free 2
    have H4 := Lib.hid h4'; clear h4'
    generalize hst5 : sa ++ sa.extract 0 1 = st at *
    have hzT : st.size = a.length + 1 := by rw [HEX.out, HZS.out]
    have j1 : (1 : Int) ≤ st.size := by omega
    have j2 : 1 ≤ st.size := by omega
    have j3 : st.size ≤ 5001 := by omega
    have j5 : ¬ 9223372036854775807 < sa.size + 1 := by omega
    have HST5 := Lib.hid (HEX.out.symm); clear hst5 hzT
    go_wp2_with (at_builtin; apply stop)
    refine on (wpList_append_sep T rfl _ _ rfl rfl (St.own_blk (e := 9) (size := 1) (n := 0) (cap := 0) (xs := []) (H4.out.alloc (.cells #[] 9)) (Nat.le_refl _) (Nat.zero_le _) rfl rfl) rfl ((H4.out.drop_alloc _).right.right.reads) (sv_oneCell L) ?_ ?_ ?_)
    · unfold maxLen; omega
    · omega
    intro vm W5 h5 _
    simp only [Nat.zero_add, List.nil_append] at h5
    obtain ⟨am, cm, rfl⟩ := h5.reads.sub
    clear c0 c1 c2 g0 g1 g2 r0 r1 r2 s0 s1 s2
    have hL5 : StL w0 W5 [own 9 1 (.slice am N cm) N (L.map sv), blk b0 (.cells #[.slice al N cl, .string sa, .int .i64 y] 47), blk b1 (.cells #[.slice none 0 0, .string ⟨#[]⟩, .int .i64 0] 47), own 9 1 (.slice al N cl) N (L.map sv), F] := h5.perm (by simp only [prodL]; rw [star_comm F emp, emp_star]; ac_rfl)
    have c1 := hL5.cell (i := 1) rfl 1 rfl
    have HL5 := Lib.hid hL5; clear hL5 h5
    go_upto_region 25 with (fail)
    refine wp_region_noPanic ?_
    refine region_till (S := fun w' : World => w'.cell? ⟨b0, 1, none⟩ = some (.string sa)) (k := 5) (by kernel_rfl) ?_
    have hS : (fun w' : World => w'.cell? ⟨b0, 1, none⟩ = some (.string sa)) W5.drew := c1
    refine till_take0 (i := 0) (oi := ?_) (v := ?_) ?_ (by kernel_rfl) (by kernel_rfl) (by kernel_rfl) (by decide) (fun _ _ _ h => h.elim) (by assumption) (.inl ⟨?_, fun w => ?_⟩) ?_
    rotate_left 2
    · (simp only [List.getElem?_toArray, List.getElem?_cons_succ, List.getElem?_cons_zero]; rfl)
    · rfl
    · (go_simp; try with_reducible rfl)
    simp only [Act.put, List.setIfInBounds_toArray, List.set_cons_zero, List.set_cons_succ]
    refine till_take0 (i := 1) (oi := ?_) (v := ?_) ?_ (by kernel_rfl) (by kernel_rfl) (by kernel_rfl) (by decide) (fun _ _ _ h => h.elim) (by assumption) (.inl ⟨?_, fun w => ?_⟩) ?_
    rotate_left 2
    · (simp only [List.getElem?_toArray, List.getElem?_cons_succ, List.getElem?_cons_zero]; rfl)
    · rfl
    · (go_simp; try with_reducible rfl)
    simp only [Act.put, List.setIfInBounds_toArray, List.set_cons_zero, List.set_cons_succ]
    refine till_take (i := 2) (oi := ?_) (v := ?_) ?_ (by kernel_rfl) (by kernel_rfl) (by kernel_rfl) (by kernel_rfl) (by kernel_rfl) (fun _ _ _ h => h.elim) (by assumption) (.inl ⟨?_, fun w hSw => ?_⟩) ?_
    rotate_left 2
    · (simp only [List.getElem?_toArray, List.getElem?_cons_succ, List.getElem?_cons_zero]; rfl)
    · rfl
    · ((try dsimp only at hSw); go_simp; try with_reducible rfl)
    simp only [Act.put, List.setIfInBounds_toArray, List.set_cons_zero, List.set_cons_succ]
    refine till_take0 (i := 3) (oi := ?_) (v := ?_) ?_ (by kernel_rfl) (by kernel_rfl) (by kernel_rfl) (by decide) (fun _ _ _ h => h.elim) (by assumption) (.inl ⟨?_, fun w => ?_⟩) ?_
    rotate_left 2
    · (simp only [List.getElem?_toArray, List.getElem?_cons_succ, List.getElem?_cons_zero]; rfl)
    · rfl
    · (go_simp; try with_reducible rfl)
    simp only [Act.put, List.setIfInBounds_toArray, List.set_cons_zero, List.set_cons_succ]
    refine till_take0 (i := 4) (oi := ?_) (v := ?_) ?_ (by kernel_rfl) (by kernel_rfl) (by kernel_rfl) (by decide) (fun _ _ _ h => h.elim) (by assumption) (.inl ⟨?_, fun w => ?_⟩) ?_
    rotate_left 2
    · (simp only [List.getElem?_toArray, List.getElem?_cons_succ, List.getElem?_cons_zero]; rfl)
    · rfl
    · (go_simp; try with_reducible rfl)
    simp only [Act.put, List.setIfInBounds_toArray, List.set_cons_zero, List.set_cons_succ]
    refine till_one (i := 5) (by kernel_rfl) ?_
    refine wpOp_step (by rfl) fun K hK => ?_
    go_simp
    refine hK _ _ ⟨fun e => (by cases e), ?_⟩
    clear hK K
    refine till_one (i := 6) (by kernel_rfl) ?_
    refine wpOp_step (by rfl) fun K hK => ?_
    go_simp
    have hL6 := (HL5.out.alloc rfl (.cells #[.string (sa ++ st.extract 0 1)] 9)).drew
    simp only [List.cons_append, List.nil_append] at hL6
    generalize hz : sa ++ st.extract 0 1 = z at *
    have HZZ := Lib.hid (show z = ⟨(a ++ [d]).toArray⟩ by rw [← hz, ← HSA.out, ← HST5.out]; rw [ByteArray.extract_mk, ByteArray.mk_append_mk, HA5.out]; simp); clear hz
    refine hK _ _ ⟨fun e => (by cases e), ?_⟩
    clear hK K hS c1
    generalize hB6 : W5.heap.size = b6 at *
    generalize hW6 : (W5.alloc (.cells #[.string z] 9)).drew = W6 at *
    clear hB6 hW6
    refine till_one (i := 7) (by kernel_rfl) ?_
    refine wpOp_step (by rfl) fun K hK => ?_
    refine step_append_L T rfl _ _ rfl rfl hL6 0 rfl (x := .slice (some ⟨b6, 0, none⟩) 1 1) rfl (m := 1) (news := [.string z]) (hL6.one (i := 5) rfl) (by intro u hu; simp at hu; subst hu; rfl) (by unfold maxLen; omega) (by omega) fun v' W7 h7 _ => ?_
    refine hK _ _ ⟨fun e => (by cases e), ?_⟩
    clear hK K
    simp only [List.set_cons_zero] at h7
    simp only [Act.put, List.setIfInBounds_toArray, List.set_cons_zero, List.set_cons_succ]
    refine till_one (i := 8) (by kernel_rfl) ?_
    refine wpOp_step (by rfl) fun K hK => ?_
    go_simp
    refine hK _ _ ⟨fun e => (by cases e), ?_⟩
    clear hK K
    obtain ⟨a7, c7, rfl⟩ := (h7.reads (i := 0) rfl).sub
    have e0 := h7.cell (i := 1) rfl 0 rfl
    have f0 := h7.free (i := 1) rfl 0
    have h8 := h7.set (i := 1) rfl 0 (.slice a7 (N + 1 : Nat) c7)
    refine till_one (i := 9) (by kernel_rfl) ?_
    refine wpOp_step (by rfl) fun K hK => ?_
    go_simp
    refine hK _ _ ⟨fun e => (by cases e), ?_⟩
    clear hK K e0 f0
    refine ⟨by kernel_rfl, NoPanic.normal ?_⟩
    simp only [List.set_cons_zero, List.set_cons_succ, List.setIfInBounds_toArray] at h8
    generalize W7.setCell ⟨b0, 0, none⟩ (.slice a7 (N + 1 : Nat) c7) = W8 at *
    have h9 : St w0 W8 (blk b1 (.cells #[.slice none 0 0, .string ⟨#[]⟩, .int .i64 0] 47) * (blk b0 (.cells #[.slice a7 (N + 1 : Nat) c7, .string sa, .int .i64 y] 47) * (own 9 1 (.slice a7 (N + 1 : Nat) c7) (N + 1) (L.map sv ++ [.string z]) * (own 9 1 (.slice al N cl) N (L.map sv) * blk b6 (.cells #[.string z] 9) * F)))) := St.perm h8 (by simp only [prodL]; rw [star_comm _ emp, emp_star]; ac_rfl)
    clear h7 h8
    have c0 := h9.right.cell 0 rfl
    have c1 := h9.right.cell 1 rfl
    have c2 := h9.right.cell 2 rfl
    have g0 := h9.right.free 0
    have g1 := h9.right.free 1
    have g2 := h9.right.free 2
    have r0 := h9.cell 0 rfl
    have r1 := h9.cell 1 rfl
    have r2 := h9.cell 2 rfl
    have s0 := h9.free 0
    have s1 := h9.free 1
    have s2 := h9.free 2
    have H9 := Lib.hid h9; clear h9
    go_wp2_with fail
    have HL1 := Lib.hid (((H9.out.perm (star_left_comm _ _ _)).set 1 (.string st)).perm (star_left_comm _ _ _))
    have HF := Lib.hid (((HL1.out.set 0 (.slice a7 (N + 1 : Nat) c7)).set 1 (.string st)).set 2 (.int .i64 (y : Int)))
    obtain ⟨⟨rfl, rfl, rfl⟩, rfl, rfl, rfl⟩ : (L' = L ++ [a ++ [d]] ∧ a' = a ++ [d] ∧ p' = y) ∧ t = a ++ [d] ∧ en = false ∧ er = 0 := by
      have := HR.out.symm.trans HRES.out
      simpa using this
    refine bodyPost_ret4c rfl rfl HF.out.at_ Try.underlying47 rfl (by show _ = some 3; kernel_rfl) rfl ?_
    refine ⟨.slice a7 (N + 1 : Nat) c7, ?_, ?_⟩
    · rw [HST5.out]; rfl
    · have e9 : L.map sv ++ [.string z] = (L ++ [a ++ [d]]).map sv := by rw [List.map_append]; simp only [List.map_cons, List.map_nil, sv, HZZ.out]
      have e8 : (L ++ [a ++ [d]]).length = N + 1 := by rw [List.length_append, HN.out]; rfl
      rw [e8, ← e9]
      exact (HF.out.right.right.perm (show _ = (own 9 1 (.slice al N cl) N (L.map sv) * blk b6 (.cells #[.string z] 9)) * (own 9 1 (.slice a7 (N + 1 : Nat) c7) (N + 1) (L.map sv ++ [.string z]) * F) by ac_rfl)).right
end Go.Proofs.Ytpjonjiofaaccaa
