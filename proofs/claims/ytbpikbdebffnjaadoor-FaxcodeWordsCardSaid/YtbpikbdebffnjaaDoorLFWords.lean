/-
  Layer 13: the words, and what they mean; none begins another one, nor the end of a line, nor does that.
-/
import Derived.Test.YtbpikbdebffnjaaDoorFaxE
import Derived.Test.YtbpikbdebffnjaaDoorFaxV
import Derived.Test.YtbpikbdebffnjaaDoorFaxN
import Derived.Below
namespace Go.Proofs.YtbpikbdebffnjaaDoor.fwords
open Go.RowKit Go.Mz
set_option linter.unusedVariables false
set_option linter.unusedSimpArgs false

theorem tab_old {w : World} (h : Lib.TabIs Tryd.prog w "strings.asciiSpace" .u8 Lib.asciiSpaceTab) : Tab w (Mz.old w) := fun w' s => by
  have B : Below w.heap.size w w' := (s.perm ((emp_star _).symm.trans (star_comm _ _))).below
  unfold Lib.TabIs World.var? at h ⊢
  cases hg : Tryd.prog.globalNamed "strings.asciiSpace" with
  | none => rw [hg] at h; simp at h
  | some g =>
    rw [hg] at h
    simp only [Option.bind_some] at h ⊢
    have hlt : g < w.heap.size := by
      rcases Nat.lt_or_ge g w.heap.size with h' | h'
      · exact h'
      · simp [Array.getElem?_eq_none h'] at h
    rw [B.block g hlt]
    exact h

theorem wpList_append_sepW {P : Program} {w0 w : World} {F : SProp} {t e : TypeId} {size bytes : Nat} {z : Value} (T : ElemT P t e size bytes z)
    {ops : Array Oper} {rest : List Oper} {o : Oper} {a : Act} {Q : Exit → Act → World → Prop} (hw : Region.wanted o (yielded ops a.tmps) = true) (s y : Operand)
    (ho : o.op = .call { callee := .builtin .append, args := #[s, y], argTypes := #[t, t] }) {v : Value} {n : Nat} {xs : List Value} (hs : a.eval s = v)
    (h : St w0 w (own e size v n xs * F)) {x : Value} {m : Nat} {news : List Value} (hy : a.eval y = x) (hx : Reads w size x m news) (h1 : ∀ u ∈ news, u.oneCell' = true)
    (h63 : n + m ≤ maxLen) (hbytes : (n + m) * bytes ≤ 140737488355328)
    (hK : ∀ v' w', St w0 w' (own e size v' (n + m) (xs ++ news) * F) → (v' = .slice none 0 0 ↔ v = .slice none 0 0 ∧ m = 0) → wpList P ops Q rest (a.put o.dst v') w') : wpList P ops Q (o :: rest) a w := by
  refine BigFrame.wpList_want hw fun K hk => ?_
  obtain ⟨v', w', hr, h2, h3⟩ := run_append_sep T o.type h hx h1 h63 hbytes
  unfold Oper.wp execOp
  simp only [ho, resolve, invoke, builtin, Sem.run_bind, Sem.run_pure, Result.andThen_ok, List.map_toArray, List.map_cons, List.map_nil, hs, hy, hr]
  exact hk _ _ (hK v' w' h2 h3)

theorem eol_bytes : (⟨#[48, 48, 48, 48, 48, 48, 48, 48, 48, 48, 48, 49]⟩ : ByteArray) = ⟨(tx eolW).toArray⟩ := ba_eq (by decide +kernel)
theorem eol_lit (w : World) : Reads (w.alloc (.cells #[.string ⟨#[48, 48, 48, 48, 48, 48, 48, 48, 48, 48, 48, 49]⟩] 9)) 1 (.slice (some ⟨w.heap.size, 0, none⟩) 1 1) 1 ([eolW].map txv) := by
  have := reads_str1 w (tx eolW)
  rw [eol_bytes]
  exact this
theorem bit_eol : Bit eolW := show ∀ b ∈ eolW, b ≤ 1 by decide +kernel
theorem one_txv (l : List (List Nat)) : ∀ u ∈ l.map txv, u.oneCell' = true := by
  intro u hu
  obtain ⟨x, _, rfl⟩ := List.mem_map.1 hu
  rfl
theorem faxI_at {k : Nat} (h : k < 104) : (faxI.map iv)[k]? = some (.int .i64 (faxL k : Nat)) := by
  rw [List.getElem?_map, faxI, List.getElem?_map, List.getElem?_range h]; rfl
theorem modI_at {k : Nat} (h : k < 10) : (modI.map iv)[k]? = some (.int .i64 ((k : Int) - 3)) := by
  rw [List.getElem?_map, modI, List.getElem?_map, List.getElem?_range h]; rfl

set_option maxRecDepth 100000 in
set_option maxHeartbeats 40000000 in
theorem walk (black : Bool) (w : World) (htab : Lib.TabIs Tryd.prog w "strings.asciiSpace" .u8 Lib.asciiSpaceTab) :
    Calls Tryd.prog 3 #[.bool black] w fun e w' => e = .returned (.bool true) ∧ Below w.heap.size w w' := by
  have HT := Lib.hid (tab_old htab); clear htab
  have H := Lib.hid (St.init w)
  have fin : ∀ w', St w w' (Mz.old w) → Below w.heap.size w w' := fun w' h => (h.perm ((emp_star _).symm.trans (star_comm _ _))).below
  have FIN := Lib.hid fin; clear fin
  have PFW := Lib.hid (pf_faxE black)
  have BW := Lib.hid (bit_fax black)
  have LW := Lib.hid (le_fax black)
  have LENW := Lib.hid (len_fax black)
  go_enter Tryd.func3, Tryd.ntmps3
  go_wp2_with fail
  refine (words_any H.out HT.out black).mono ?_
  rintro e w1 ⟨v1, v2, rfl, h1⟩
  have HRW := Lib.hid (fun (w0 w : World) (F : SProp) (h : St w0 w F) => rwords13_any h black)
  generalize faxW black = W at *
  obtain ⟨a1, c1, rfl⟩ := h1.right.reads.sub
  obtain ⟨a2, c2, rfl⟩ := h1.reads.sub
  have H1 := Lib.hid h1; clear h1 H
  go_wp2_with fail
  refine (HRW.out _ _ _ H1.out).mono ?_
  rintro e w2 ⟨v3, rfl, h2⟩
  obtain ⟨a3, c3, rfl⟩ := h2.reads.sub
  have H2 := Lib.hid h2; clear h2 H1
  go_wp2_with fail
  refine (lives13 H2.out (fun w h => HT.out w h.right.right.right)).mono ?_
  rintro e w3 ⟨rfl, h3⟩
  have H3 := Lib.hid h3; clear h3 H2
  go_wp2_with fail
  go_loopw [37] (fun vi wr => ∃ k : Nat, k ≤ 104 ∧ vi = .int .i64 k ∧ St w wr (own 9 1 (.slice a3 104 c3) 104 (W.map txv) * (own 3 1 (.slice a2 104 c2) 104 (faxI.map iv) * (own 9 1 (.slice a1 104 c1) 104 (W.map txv) * Mz.old w)))) (fun vi _ => 104 - (intOf vi).toNat)
  case atStart => exact ⟨0, by omega, rfl, H3.out⟩
  case round =>
    clear H3
    obtain ⟨k, hk, rfl, hst⟩ := hrel
    by_cases hkn : k < 104
    · have r3 := hst.reads
      have r2 := hst.right.reads
      have r1 := hst.right.right.reads
      obtain ⟨g3, o3, rfl, e3⟩ := r3.at_ hkn
      obtain ⟨g2, o2, rfl, e2⟩ := r2.at_ hkn
      obtain ⟨g1, o1, rfl, e1⟩ := r1.at_ hkn
      rw [faxI_at hkn] at e2
      obtain ⟨v, hv⟩ : ∃ v, W[k]? = some v := ⟨W[k]'(by rw [LENW.out]; exact hkn), List.getElem?_eq_getElem _⟩
      rw [List.getElem?_map, hv] at e1 e3
      simp only [Option.map_some, txv] at e1 e3
      have HLN := Lib.hid (fun w => (rlength13_any k (by omega) w (j := (k : Int)) rfl).mono fun e w' h => (⟨h.1, h.2.symm⟩ : e = .returned (.int .i64 (faxL k : Nat)) ∧ w' = w))
      generalize faxL k = fk at *
      have hkl : (k : Int) < 104 := by omega
      have HST := Lib.hid hst
      clear hst r1 r2 r3 hv
      go_upto_region 8 with (fail)
      go_quiet (first | (go_at_call 10; exact Calls.quiet_of_same (HLN.out _)))
      have h4 := HST.out.drewN nq
      have H4 := Lib.hid h4; clear h4
      go_wp2_with fail
      exact ⟨⟨k + 1, by omega, by go_num, H4.out⟩, by simp [intOf]; omega⟩
    · obtain rfl : k = 104 := by omega
      have HST := Lib.hid hst; clear hst
      go_wp2_with fail
      refine (modes_any HST.out (fun w h => HT.out w h.right.right.right)).mono ?_
      rintro e w4 ⟨v4, v5, rfl, h4⟩
      obtain ⟨a4, c4, rfl⟩ := h4.reads.sub
      obtain ⟨a5, c5, rfl⟩ := h4.right.reads.sub
      have H4 := Lib.hid h4; clear h4 HST
      go_wp2_with fail
      refine (rmodes13_any H4.out).mono ?_
      rintro e w5 ⟨v6, rfl, h5⟩
      obtain ⟨a6, c6, rfl⟩ := h5.reads.sub
      have H5 := Lib.hid h5; clear h5 H4
      go_wp2_with fail
      go_loopw [74] (fun vi wr => ∃ k : Nat, k ≤ 10 ∧ vi = .int .i64 k ∧ St w wr (own 9 1 (.slice a6 10 c6) 10 (modW.map txv) * (own 9 1 (.slice a4 10 c4) 10 (modW.map txv) * (own 33 1 (.slice a5 10 c5) 10 (modI.map iv) * (own 9 1 (.slice a3 104 c3) 104 (W.map txv) * (own 3 1 (.slice a2 104 c2) 104 (faxI.map iv) * (own 9 1 (.slice a1 104 c1) 104 (W.map txv) * Mz.old w))))))) (fun vi _ => 10 - (intOf vi).toNat)
      case atStart => exact ⟨0, by omega, rfl, H5.out⟩
      case round =>
        clear H5
        obtain ⟨k, hk, rfl, hst⟩ := hrel
        by_cases hkn : k < 10
        · have r6 := hst.reads
          have r4 := hst.right.reads
          have r5 := hst.right.right.reads
          obtain ⟨g6, o6, rfl, e6⟩ := r6.at_ hkn
          obtain ⟨g4, o4, rfl, e4⟩ := r4.at_ hkn
          obtain ⟨g5, o5, rfl, e5⟩ := r5.at_ hkn
          rw [modI_at hkn] at e5
          obtain ⟨v, hv⟩ : ∃ v, modW[k]? = some v := ⟨modW[k]'(by rw [len_mod]; exact hkn), List.getElem?_eq_getElem _⟩
          rw [List.getElem?_map, hv] at e4 e6
          simp only [Option.map_some, txv] at e4 e6
          have hkl : (k : Int) < 10 := by omega
          have HST := Lib.hid hst
          clear hst r4 r5 r6 hv
          go_upto_region 18 with (fail)
          go_quiet (fail)
          have h4 := HST.out.drewN nq
          have H4 := Lib.hid h4; clear h4
          go_wp2_with fail
          exact ⟨⟨k + 1, by omega, by go_num, H4.out⟩, by simp [intOf]; omega⟩
        · obtain rfl : k = 10 := by omega
          have HST := Lib.hid hst; clear hst
          have hl1 := HST.out.lit #[] 9 0 rfl (by decide)
          have hx1 := hl1.right.right.right.right.right.right.reads
          have HL1 := Lib.hid hl1; have HX1 := Lib.hid hx1; clear hl1 hx1
          go_wp2_with (at_builtin; apply stop)
          refine on (wpList_append_sep elemT9 rfl _ _ rfl rfl HL1.out rfl HX1.out (one_txv W) (by unfold maxLen; omega) (by omega) ?_)
          intro v7 w7 h7 _
          clear HL1 HX1
          obtain ⟨a7, c7, rfl⟩ := h7.reads.sub
          have H7 := Lib.hid h7; clear h7 HST
          go_wp2_with (at_builtin; apply stop)
          refine on (wpList_append_sep elemT9 rfl _ _ rfl rfl (H7.out.drop_alloc (.cells #[.string ⟨#[48, 48, 48, 48, 48, 48, 48, 48, 48, 48, 48, 49]⟩] 9)) rfl (eol_lit w7) (one_txv [eolW]) (by unfold maxLen; omega) (by omega) ?_)
          intro v8 w8 h8 _
          have hle : 104 + 1 = (W ++ [eolW]).length := by rw [List.length_append, LENW.out]; rfl
          rw [hle, List.nil_append, ← List.map_append] at h8
          clear hle
          obtain ⟨WE, hWE⟩ : ∃ WE, WE = W ++ [eolW] := ⟨_, rfl⟩
          have hbE : ∀ v ∈ WE, Bit v := by
            intro v hv
            rw [hWE] at hv
            rcases List.mem_append.1 hv with h | h
            · exact BW.out v h
            · rw [List.mem_singleton.1 h]; exact bit_eol
          have hnE : ∀ v ∈ WE, v ≠ [] ∧ v.length ≤ 1000 := by
            intro v hv
            rw [hWE] at hv
            rcases List.mem_append.1 hv with h | h
            · have := LW.out v h
              exact ⟨fun e => by rw [e] at this; exact absurd this.1 (by decide), by omega⟩
            · rw [List.mem_singleton.1 h]; exact ⟨by decide, by decide⟩
          have hlE : WE.length ≤ 100000 := by rw [hWE, List.length_append, LENW.out]; decide
          have hpE : PF WE := by rw [hWE]; exact PFW.out
          rw [← hWE] at h8
          have HN1 := Lib.hid (rnew_ok h8 Stb.of_own hbE hnE hpE hlE)
          have H8 := Lib.hid h8; clear h8 hbE hnE hpE hlE hWE H7
          go_wp2_with fail
          refine HN1.out.mono ?_
          rintro e w9 ⟨rfl, h9⟩
          have hl1 := h9.right.lit #[] 9 0 rfl (by decide)
          have hx1 := hl1.right.right.reads
          have HL1 := Lib.hid hl1; have HX1 := Lib.hid hx1; clear hl1 hx1
          have H9 := Lib.hid h9; clear h9 H8 HN1
          go_wp2_with (at_builtin; apply stop)
          refine on (wpList_append_sepW elemT9 rfl _ _ rfl rfl HL1.out rfl HX1.out (one_txv modW) (by unfold maxLen; omega) (by omega) ?_)
          intro v10 w10 h10 _
          clear HL1 HX1
          obtain ⟨a10, c10, rfl⟩ := h10.reads.sub
          have H10 := Lib.hid h10; clear h10 H9
          go_wp2_with (at_builtin; apply stop)
          refine on (wpList_append_sepW elemT9 rfl _ _ rfl rfl (H10.out.drop_alloc (.cells #[.string ⟨#[48, 48, 48, 48, 48, 48, 48, 48, 48, 48, 48, 49]⟩] 9)) rfl (eol_lit w10) (one_txv [eolW]) (by unfold maxLen; omega) (by omega) ?_)
          intro v11 w11 h11 _
          have hle : 10 + 1 = (modW ++ [eolW]).length := by rw [List.length_append, len_mod]; rfl
          rw [hle, List.nil_append, ← List.map_append] at h11
          clear hle
          have hbE : ∀ v ∈ modW ++ [eolW], Bit v := by
            intro v hv
            rcases List.mem_append.1 hv with h | h
            · exact bit_mod v h
            · rw [List.mem_singleton.1 h]; exact bit_eol
          have hnE : ∀ v ∈ modW ++ [eolW], v ≠ [] ∧ v.length ≤ 1000 := by
            intro v hv
            rcases List.mem_append.1 hv with h | h
            · have := le_mod v h
              exact ⟨fun e => by rw [e] at this; exact absurd this.1 (by decide), by omega⟩
            · rw [List.mem_singleton.1 h]; exact ⟨by decide, by decide⟩
          have hlE : (modW ++ [eolW]).length ≤ 100000 := by rw [List.length_append, len_mod]; decide
          have HN2 := Lib.hid (rnew_ok h11 Stb.of_own hbE hnE pf_modE hlE)
          clear h11 hbE hnE hlE H10
          go_wp2_with fail
          refine HN2.out.mono ?_
          rintro e w12 ⟨rfl, h12⟩
          have h12 := h12.right
          have H12 := Lib.hid h12; clear h12 HN2
          go_wp2_with fail
          go_ret
          exact ⟨rfl, FIN.out _ H12.out.right.right.right.right.right.right⟩
#print axioms walk
end Go.Proofs.YtbpikbdebffnjaaDoor.fwords
