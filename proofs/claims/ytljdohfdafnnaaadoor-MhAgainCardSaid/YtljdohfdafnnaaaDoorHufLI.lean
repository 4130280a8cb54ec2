/-
  Layer 6 (huff): a word is laid in a book.
-/
import Derived.Test.YtljdohfdafnnaaaDoorHufP
namespace Go.Proofs.YtljdohfdafnnaaaDoor
open Go.RowKit Go.Mz
set_option linter.unusedVariables false
set_option linter.unusedSimpArgs false
set_option maxRecDepth 100000

set_option maxHeartbeats 40000000 in
theorem lay_anyI {w0 w : World} {F : SProp} {B : Nat} {vn vm vw : Value} {N : List Nd} (h : St w0 w (blk B (.cells #[vn, vm, vw] 121) * (own 116 3 vn N.length (flatN N) * F))) (hN : NOk N) (hl : N.length ≤ 1000000)
    (s : List UInt8) (hs : s.length ≤ 1000000) (mean : Nat) (hm : mean ≤ 1000000) :
    Calls Tryd.prog 68 #[.pointer (some ⟨B, 0, none⟩), .string ⟨s.toArray⟩, .int .i64 mean] w fun e w' => ∃ vn', e = .returned (.int .i64 (lay N s mean).2) ∧
      St w0 w' (blk B (.cells #[vn', vm, vw] 121) * (own 116 3 vn' (lay N s mean).1.length (flatN (lay N s mean).1) * F)) ∧ NOk (lay N s mean).1 ∧ (lay N s mean).1.length ≤ N.length + s.length := by
  have H := Lib.hid h; clear h
  have T := elemNodes
  by_cases hs0 : s = []
  · subst hs0
    have HR := Lib.hid (show lay N [] mean = (N, 0) by rw [lay, if_pos rfl])
    go_enter Tryd.func68, Tryd.ntmps68
    go_wp2_with fail
    go_ret
    rw [HR.out]
    exact ⟨vn, rfl, H.out, hN, by simp⟩
  have HR := Lib.hid (show lay N s mean = layS mean N 0 s by rw [lay, if_neg hs0])
  have hne : ¬ (ByteArray.mk s.toArray).toList = [] := by rw [ByteArray.toList_eq]; exact hs0
  have hne2 : (ByteArray.mk s.toArray).toList.isEmpty = false := by
    cases hq : (ByteArray.mk s.toArray).toList with
    | nil => exact absurd hq hne
    | cons _ _ => rfl
  have hsz : (ByteArray.mk s.toArray).size = s.length := rfl
  have hat : ∀ (k : Nat) (c : UInt8), s[k]? = some c → ∀ hm, (ByteArray.mk s.toArray)[k]'hm = c := fun k c h hm => ba_get h hm
  have HAT := Lib.hid hat; clear hat
  generalize hsb : ByteArray.mk s.toArray = sb at *
  have HSB := Lib.hid hsb; clear hsb
  generalize hRR : layS mean N 0 s = RR at *
  have HRR := Lib.hid hRR; clear hRR
  go_enter Tryd.func68, Tryd.ntmps68
  go_wp2_with fail
  go_loopw [14, 7] (fun vi va wr => ∃ (k : Nat) (N1 : List Nd) (a : Nat) (vn1 : Value), k ≤ s.length ∧ vi = .int .i64 k ∧ va = .int .i64 a ∧ NOk N1 ∧ a < N1.length ∧ N1.length ≤ N.length + k ∧ layS mean N1 a (s.drop k) = RR ∧
    St w0 wr (blk B (.cells #[vn1, vm, vw] 121) * (own 116 3 vn1 N1.length (flatN N1) * F))) (fun vi _ _ => s.length - (intOf vi).toNat)
  case atStart => exact ⟨0, N, 0, vn, by omega, rfl, rfl, hN, hN.1, by omega, HRR.out, H.out⟩
  case round =>
    clear H HRR
    obtain ⟨k, N1, a, vn1, hk, rfl, rfl, hN1, ha, hlen, hlay, hst⟩ := hrel
    obtain ⟨an, cn, rfl⟩ := hst.right.reads.sub
    obtain ⟨gn, rfl⟩ := own_at hst.right (by omega)
    obtain ⟨d, hd⟩ : ∃ d, N1[a]? = some d := ⟨N1[a], List.getElem?_eq_getElem ha⟩
    have c0 := hst.cell 0 rfl
    have m0 := hst.right.own_cellS (flatN_mean hd)
    have x0 := hst.right.own_cellS (flatN_next hd (c := 0) (by omega))
    rw [Nat.add_zero] at x0
    have x1 := hst.right.own_cellS (flatN_next hd (c := 1) (by omega))
    have HST := Lib.hid hst; clear hst
    have HN1 := Lib.hid hN1; clear hN1
    have HD := Lib.hid hd; clear hd
    have ha1 : (a : Int) < N1.length := by omega
    by_cases hkn : k < s.length
    · have hx := List.getElem?_eq_getElem hkn
      have hdrop : s.drop k = s[k] :: s.drop (k + 1) := List.drop_eq_getElem_cons hkn
      generalize s[k] = ch at *
      rw [hdrop] at hlay
      clear hdrop
      have hgx := HAT.out k ch hx
      clear hx
      have hk1 : (k : Int) < s.length := by omega
      by_cases hbad : ch ≠ 48 ∧ ch ≠ 49
      · have HR2 := Lib.hid (show RR = (N1, 3) by rw [← hlay, layS_cons_bad hbad])
        clear hlay
        have hn48 : ch.toNat ≠ 48 := fun e => hbad.1 (UInt8.toNat_inj.1 e)
        have hn49 : ch.toNat ≠ 49 := fun e => hbad.2 (UInt8.toNat_inj.1 e)
        obtain ⟨z, hz, hz0, hz1⟩ : ∃ z : Int, wrap64 (wrap64 (ch.toNat : Int) - 48) = z ∧ ¬ z = 0 ∧ ¬ z = 1 := by
          have := UInt8.toNat_lt ch
          have e : wrap64 (ch.toNat : Int) = ch.toNat := by rw [wrap64]; omega
          refine ⟨(ch.toNat : Int) - 48, by rw [e, wrap64]; omega, by omega, by omega⟩
        have hz2 : (z != 0) = true := by rw [bne_iff_ne]; exact hz0
        have hz3 : (z != 1) = true := by rw [bne_iff_ne]; exact hz1
        clear hbad hn48 hn49 hz0 hz1
        clear m0 x0 x1
        go_wp2_with fail
        go_ret
        rw [HR.out, HR2.out]
        first | exact ⟨rfl, ⟨_, HST.out⟩, HN1.out, by simp only; omega⟩ | exact ⟨_, rfl, HST.out, HN1.out, by simp only; omega⟩
      · have hch : ch = 48 ∧ (0 : Nat) = 0 ∨ ch = 49 ∧ (1 : Nat) = 1 := by
          by_cases e : ch = 48
          · exact .inl ⟨e, rfl⟩
          · by_cases e' : ch = 49
            · exact .inr ⟨e', rfl⟩
            · exact absurd ⟨e, e'⟩ hbad
        have w1 : wrap64 48 = 48 := by unfold wrap64; omega
        have w2 : wrap64 49 = 49 := by unfold wrap64; omega
        have w3 : wrap64 0 = 0 := by unfold wrap64; omega
        have w4 : wrap64 1 = 1 := by unfold wrap64; omega
        by_cases hmean : 0 ≤ d.mean
        · have HR2 := Lib.hid (show RR = (N1, 14) by rw [← hlay, layS_cons_twice HD.out (by rcases hch with h | h; exact .inl h.1; exact .inr h.1) hmean])
          clear hlay
          rcases hch with ⟨hc, _⟩ | ⟨hc, _⟩
          · have hcn : ch.toNat = 48 := by rw [hc]; rfl
            clear hc hbad x0 x1
            go_wp2_with fail
            go_ret
            rw [HR.out, HR2.out]
            first | exact ⟨rfl, ⟨_, HST.out⟩, HN1.out, by simp only; omega⟩ | exact ⟨_, rfl, HST.out, HN1.out, by simp only; omega⟩
          · have hcn : ch.toNat = 49 := by rw [hc]; rfl
            clear hc hbad x0 x1
            go_wp2_with fail
            go_ret
            rw [HR.out, HR2.out]
            first | exact ⟨rfl, ⟨_, HST.out⟩, HN1.out, by simp only; omega⟩ | exact ⟨_, rfl, HST.out, HN1.out, by simp only; omega⟩
        · have hmean' : d.mean < 0 := by omega
          rcases hch with ⟨hc, _⟩ | ⟨hc, _⟩
          · have hcn : ch.toNat = 48 := by rw [hc]; rfl
            by_cases hnx : d.nx 0 = 0
            · have hlay2 := hlay
              rw [layS_cons_new HD.out (.inl ⟨hc, rfl⟩) hmean hnx] at hlay2
              have HL2 := Lib.hid hlay2; clear hlay hlay2
              have hnk := HN1.out.more HD.out 0
              have hx00 : (d.nx 0 : Int) = 0 := by omega
              clear hc hbad x1
              rw [hx00] at x0
              go_wp2_with (at_builtin; apply stop)
              have hA := HST.out.alloc (.cells #[.int .i64 0, .int .i64 0, .int .i64 (-1)] 116)
              have hA1 : St w0 _ (own 116 3 (.slice (some ⟨wr.heap.size, 0, none⟩) 1 1) 1 (ndV nd0) * _) := hA.own_blk (Nat.le_refl _) (by unfold maxLen; omega) rfl rfl
              refine on (wpList_append_sep T rfl _ _ rfl rfl (hA1.right.perm (star_left_comm _ _ _)) rfl hA1.reads (by intro u hu; simp [ndV, nd0] at hu; rcases hu with rfl | rfl | rfl <;> rfl) ?_ ?_ ?_)
              · unfold maxLen; omega
              · omega
              intro v5 w5 h5 _
              rw [← flatN_snoc] at h5
              obtain ⟨a5, c5, rfl⟩ := h5.reads.sub
              have h5 := h5.perm (star_left_comm _ _ _)
              have f5 := h5.free 0
              have e5 := h5.cell 0 rfl
              have h6 := h5.set 0 (.slice a5 (N1.length + 1 : Nat) c5)
              have H6 := Lib.hid h6; clear h6 h5 hA hA1 c0 m0 x0
              go_upto_region 14 with (fail)
              generalize w5.setCell ⟨B, 0, none⟩ (.slice a5 (N1.length + 1 : Nat) c5) = W6 at *
              have h7 : St w0 W6 (blk B (.cells #[.slice a5 (N1.length + 1 : Nat) c5, vm, vw] 121) * (own 116 3 (.slice a5 (N1.length + 1 : Nat) c5) (N1.length + 1) (flatN (N1 ++ [nd0])) * _)) := H6.out
              clear H6
              obtain ⟨g5, rfl⟩ := own_at h7.right (by omega)
              have hd2 : (N1 ++ [nd0])[a]? = some d := by rw [List.getElem?_append_left (by omega)]; exact HD.out
              have c0 := h7.cell 0 rfl
              have hneg : ¬ g5 = B := h7.own_ne
              have hneg' : ¬ B = g5 := fun e => hneg e.symm
              have x0 := h7.right.own_cellS (flatN_next hd2 (c := 0) (by omega))
              have y0 := h7.right.own_free (a * 3 + 0)
              rw [hx00] at x0
              have h8 := (h7.perm (star_left_comm _ _ _)).own_setS (a * 3 + 0) (.int .i64 (N1.length : Int))
              rw [flatN_setNext hd2 (by omega)] at h8
              have h8 := h8.perm (star_left_comm _ _ _)
              have HST8 := Lib.hid h8; clear h8 h7
              have HNK := Lib.hid hnk; clear hnk
              have HD2 := Lib.hid hd2; clear hd2
              have hs2 : IntKind.i64.wrap ((N1.length : Int) + 1 - 1) = N1.length := by rw [IntWalk.i64_in _ (by omega)]; omega
              have hpos : (0 : Int) ≤ a := by omega
              have ha2 : (a : Int) < (N1.length : Int) + 1 := by omega
              try rw [Nat.add_zero] at x0
              try rw [Nat.add_zero] at y0
              go_region
              go_wp2_with fail
              refine ⟨⟨k + 1, (N1 ++ [nd0]).set a (d.put 0 N1.length), N1.length, .slice (some ⟨g5, 0, none⟩) (N1.length + 1 : Nat) c5, by omega, by go_num, rfl, HNK.out, by rw [List.length_set, List.length_append, List.length_singleton]; omega, by rw [List.length_set, List.length_append, List.length_singleton]; omega, HL2.out, ?_⟩, by simp [intOf]; omega⟩
              rw [List.length_set, List.length_append, List.length_singleton]
              exact HST8.out.drew
            · have hlay2 := hlay
              rw [layS_cons_old HD.out (.inl ⟨hc, rfl⟩) hmean hnx] at hlay2
              have HL2 := Lib.hid hlay2; clear hlay hlay2
              have hlt := HN1.out.nx HD.out 0
              generalize d.nx 0 = nx at *
              have hnx1 : ¬ (nx : Int) = 0 := by omega
              clear hc hbad x1
              go_wp2_with fail
              exact ⟨⟨k + 1, N1, nx, _, by omega, by go_num, rfl, HN1.out, hlt, by omega, HL2.out, HST.out⟩, by simp [intOf]; omega⟩
          · have hcn : ch.toNat = 49 := by rw [hc]; rfl
            by_cases hnx : d.nx 1 = 0
            · have hlay2 := hlay
              rw [layS_cons_new HD.out (.inr ⟨hc, rfl⟩) hmean hnx] at hlay2
              have HL2 := Lib.hid hlay2; clear hlay hlay2
              have hnk := HN1.out.more HD.out 1
              have hx10 : (d.nx 1 : Int) = 0 := by omega
              clear hc hbad x0
              rw [hx10] at x1
              go_wp2_with (at_builtin; apply stop)
              have hA := HST.out.alloc (.cells #[.int .i64 0, .int .i64 0, .int .i64 (-1)] 116)
              have hA1 : St w0 _ (own 116 3 (.slice (some ⟨wr.heap.size, 0, none⟩) 1 1) 1 (ndV nd0) * _) := hA.own_blk (Nat.le_refl _) (by unfold maxLen; omega) rfl rfl
              refine on (wpList_append_sep T rfl _ _ rfl rfl (hA1.right.perm (star_left_comm _ _ _)) rfl hA1.reads (by intro u hu; simp [ndV, nd0] at hu; rcases hu with rfl | rfl | rfl <;> rfl) ?_ ?_ ?_)
              · unfold maxLen; omega
              · omega
              intro v5 w5 h5 _
              rw [← flatN_snoc] at h5
              obtain ⟨a5, c5, rfl⟩ := h5.reads.sub
              have h5 := h5.perm (star_left_comm _ _ _)
              have f5 := h5.free 0
              have e5 := h5.cell 0 rfl
              have h6 := h5.set 0 (.slice a5 (N1.length + 1 : Nat) c5)
              have H6 := Lib.hid h6; clear h6 h5 hA hA1 c0 m0 x1
              go_upto_region 14 with (fail)
              generalize w5.setCell ⟨B, 0, none⟩ (.slice a5 (N1.length + 1 : Nat) c5) = W6 at *
              have h7 : St w0 W6 (blk B (.cells #[.slice a5 (N1.length + 1 : Nat) c5, vm, vw] 121) * (own 116 3 (.slice a5 (N1.length + 1 : Nat) c5) (N1.length + 1) (flatN (N1 ++ [nd0])) * _)) := H6.out
              clear H6
              obtain ⟨g5, rfl⟩ := own_at h7.right (by omega)
              have hd2 : (N1 ++ [nd0])[a]? = some d := by rw [List.getElem?_append_left (by omega)]; exact HD.out
              have c0 := h7.cell 0 rfl
              have hneg : ¬ g5 = B := h7.own_ne
              have hneg' : ¬ B = g5 := fun e => hneg e.symm
              have x1 := h7.right.own_cellS (flatN_next hd2 (c := 1) (by omega))
              have y1 := h7.right.own_free (a * 3 + 1)
              rw [hx10] at x1
              have h8 := (h7.perm (star_left_comm _ _ _)).own_setS (a * 3 + 1) (.int .i64 (N1.length : Int))
              rw [flatN_setNext hd2 (by omega)] at h8
              have h8 := h8.perm (star_left_comm _ _ _)
              have HST8 := Lib.hid h8; clear h8 h7
              have HNK := Lib.hid hnk; clear hnk
              have HD2 := Lib.hid hd2; clear hd2
              have hs2 : IntKind.i64.wrap ((N1.length : Int) + 1 - 1) = N1.length := by rw [IntWalk.i64_in _ (by omega)]; omega
              have hpos : (0 : Int) ≤ a := by omega
              have ha2 : (a : Int) < (N1.length : Int) + 1 := by omega
              try rw [Nat.add_zero] at x1
              try rw [Nat.add_zero] at y1
              go_region
              go_wp2_with fail
              refine ⟨⟨k + 1, (N1 ++ [nd0]).set a (d.put 1 N1.length), N1.length, .slice (some ⟨g5, 0, none⟩) (N1.length + 1 : Nat) c5, by omega, by go_num, rfl, HNK.out, by rw [List.length_set, List.length_append, List.length_singleton]; omega, by rw [List.length_set, List.length_append, List.length_singleton]; omega, HL2.out, ?_⟩, by simp [intOf]; omega⟩
              rw [List.length_set, List.length_append, List.length_singleton]
              exact HST8.out.drew
            · have hlay2 := hlay
              rw [layS_cons_old HD.out (.inr ⟨hc, rfl⟩) hmean hnx] at hlay2
              have HL2 := Lib.hid hlay2; clear hlay hlay2
              have hlt := HN1.out.nx HD.out 1
              generalize d.nx 1 = nx at *
              have hnx1 : ¬ (nx : Int) = 0 := by omega
              clear hc hbad x0
              go_wp2_with fail
              exact ⟨⟨k + 1, N1, nx, _, by omega, by go_num, rfl, HN1.out, hlt, by omega, HL2.out, HST.out⟩, by simp [intOf]; omega⟩
    · obtain rfl : k = s.length := by omega
      rw [List.drop_length] at hlay
      have hk1 : ¬ (s.length : Int) < s.length := by omega
      by_cases hmean : 0 ≤ d.mean
      · have HR2 := Lib.hid (show RR = (N1, 14) by rw [← hlay, layS_nil_bad HD.out (.inl hmean)])
        clear hlay x0 x1
        go_wp2_with fail
        go_ret
        rw [HR.out, HR2.out]
        first | exact ⟨rfl, ⟨_, HST.out⟩, HN1.out, by simp only; omega⟩ | exact ⟨_, rfl, HST.out, HN1.out, by simp only; omega⟩
      · have hmean' : d.mean < 0 := by omega
        have hx0 : d.nx 0 = d.n0 := rfl
        have hx1 : d.nx 1 = d.n1 := rfl
        rw [hx0] at x0
        rw [hx1] at x1
        clear hx0 hx1
        by_cases hz : d.n0 = 0 ∧ d.n1 = 0
        · have HR2 := Lib.hid (show RR = (N1.set a { d with mean := mean }, 0) by rw [← hlay, layS_nil_ok HD.out hmean hz.1 hz.2])
          have hnm := HN1.out.mean HD.out mean
          have f0 := HST.out.right.own_free (a * 3 + 2)
          have h6 := (HST.out.perm (star_left_comm _ _ _)).own_setS (a * 3 + 2) (.int .i64 mean)
          rw [flatN_setMean HD.out] at h6
          have h6 := h6.perm (star_left_comm _ _ _)
          have H6 := Lib.hid h6; clear h6 hlay
          rw [hz.1] at x0
          rw [hz.2] at x1
          have heq : (Op.equalIn 10000 23 (.agg #[.int .i64 0, .int .i64 0]) (.agg #[.int .i64 0, .int .i64 0])).run Tryd.prog wr = .ok true wr := eq_two (p := 0) (q := 0) (by omega) (by omega) wr
          go_wp2_with fail
          go_ret
          rw [HR.out, HR2.out]
          rw [List.length_set] at *
          refine ⟨rfl, ⟨_, H6.out⟩, hnm, ?_⟩
          omega
        · have HR2 := Lib.hid (show RR = (N1, 14) by rw [← hlay, layS_nil_bad HD.out (.inr (by omega))])
          clear hlay
          have hb0 := HN1.out.nx HD.out 0
          have hb1 := HN1.out.nx HD.out 1
          rw [show d.nx 0 = d.n0 from rfl] at hb0
          rw [show d.nx 1 = d.n1 from rfl] at hb1
          have heq : (Op.equalIn 10000 23 (.agg #[.int .i64 d.n0, .int .i64 d.n1]) (.agg #[.int .i64 0, .int .i64 0])).run Tryd.prog wr = .ok false wr := by
            rw [eq_two (by omega) (by omega), decide_eq_false hz]
          generalize d.n0 = p0 at *
          generalize d.n1 = p1 at *
          clear hz
          go_wp2_with fail
          go_ret
          rw [HR.out, HR2.out]
          first | exact ⟨rfl, ⟨_, HST.out⟩, HN1.out, by simp only; omega⟩ | exact ⟨_, rfl, HST.out, HN1.out, by simp only; omega⟩
#print axioms lay_anyI
end Go.Proofs.YtljdohfdafnnaaaDoor
