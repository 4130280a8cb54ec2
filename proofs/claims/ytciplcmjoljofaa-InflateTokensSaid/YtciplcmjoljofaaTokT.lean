/-
  Layer 8 (inflate): the document's text of tokens (mezzotintref08.Told).
-/
import Derived.Test.YtciplcmjoljofaaTokW
namespace Go.Proofs.Ytciplcmjoljofaa
open Go.RowKit Go.Mz
set_option linter.unusedVariables false
set_option linter.unusedSimpArgs false
set_option maxRecDepth 100000

/-- A token that can be told. -/
def okS (k : TokD) : Prop := k.len = 0 ∨ (3 ≤ k.len ∧ k.len ≤ 258 ∧ 1 ≤ k.dist ∧ k.dist ≤ 32768)
theorem okS_all : ∀ (l : List TokD) (out want : List UInt8), rightF l out = some want → ∀ k ∈ l, okS k := by
  intro l
  induction l with
  | nil => intro out want _ k hk; cases hk
  | cons a l ih =>
    intro out want h k hk
    obtain ⟨h1, h2⟩ := rightF_step h
    rcases List.mem_cons.1 hk with rfl | hk
    · rcases h1 with h1 | ⟨h1, h2, h3, h4, h5⟩
      · exact .inl h1
      · exact .inr ⟨h1, h2, h3, h5⟩
    · exact ih _ _ h2 k hk
theorem reads_word {w : World} {a : Option Addr} {cap : Nat} {W : List (List Nat)} (h : Reads w 1 (.slice a W.length cap) W.length (W.map txv)) {i : Nat} (hi : i < W.length) : ∃ b off, a = some ⟨b, off, none⟩ ∧ w.cell? ⟨b, off + i, none⟩ = some (.string ⟨(tx (W.getD i [])).toArray⟩) := by
  obtain ⟨b, off, e, hc⟩ := h.at_ hi
  refine ⟨b, off, e, ?_⟩
  rw [hc, List.getElem?_map, List.getD_eq_getElem?_getD, List.getElem?_eq_getElem hi]; rfl

theorem frF_13 (far : Bool) (n : Nat) : (frF far n).2 ≤ 13 := by
  rw [frF, List.getD_eq_getElem?_getD]
  cases e : (cond far distsB lensB)[plF far n]? with
  | none => simp
  | some b => exact (fromsL_le far b (by rw [fromsL_cond]; exact List.mem_of_getElem? e)).2

set_option maxHeartbeats 40000000 in
theorem told_any {w0 w : World} {F : SProp} (h : St w0 w F) (l : List TokD) (hl : l.length ≤ 200) (hok : ∀ k ∈ l, okS k) {v : Value} (hv : Stb w0 F (fun w => Reads w 3 v l.length (toksC l)))
    {A B : List (List Nat)} (hA : A.length = 288) (hB : B.length = 30) (hA30 : ∀ i, (A.getD i []).length ≤ 30) (hB30 : ∀ i, (B.getD i []).length ≤ 30) {va vb : Value} (hva : Stb w0 F (fun w => Reads w 1 va A.length (A.map txv))) (hvb : Stb w0 F (fun w => Reads w 1 vb B.length (B.map txv))) :
    Calls Try.prog 20 #[v, va, vb] w fun e w' => e = .returned (.string ⟨(tx (toldB A B l)).toArray⟩) ∧ St w0 w' F := by
  obtain ⟨a, cap, rfl⟩ := (hv w h).sub
  obtain ⟨aa, ca, rfl⟩ := (hva w h).sub
  obtain ⟨ab, cb, rfl⟩ := (hvb w h).sub
  have H := Lib.hid h; clear h
  have HV := Lib.hid hv; clear hv
  have HVA := Lib.hid hva; clear hva
  have HVB := Lib.hid hvb; clear hvb
  have HOK := Lib.hid hok; clear hok
  have HA30 := Lib.hid hA30; have HB30 := Lib.hid hB30; clear hA30 hB30
  have hA2 : 288 ≤ A.length := by omega
  have hB2 : 30 ≤ B.length := by omega
  clear hA hB
  go_enter Try.func20, Try.ntmps20
  go_wp2_with fail
  go_loopw [7, 8] (fun vs vi wr => ∃ (k : Nat), k ≤ l.length ∧ vi = .int .i64 k ∧ vs = .string ⟨(tx ((l.take k).flatMap (tokB A B))).toArray⟩ ∧ ((l.take k).flatMap (tokB A B)).length ≤ 100 * k ∧ St w0 wr F) (fun _ vi _ => l.length - (intOf vi).toNat)
  case atStart => exact ⟨0, by omega, rfl, rfl, by simp, H.out⟩
  case round =>
    clear H
    obtain ⟨k, hk, rfl, rfl, hacc, hst⟩ := hrel
    have hacc2 : ((l.take k).flatMap (tokB A B)).length ≤ 20000 := by omega
    by_cases hkn : k < l.length
    · have hx := List.getElem?_eq_getElem hkn
      obtain ⟨b, off, rfl, c0, c1, c2⟩ := reads_tok (HV.out _ hst) hx
      have htk : (l.take (k + 1)).flatMap (tokB A B) = (l.take k).flatMap (tokB A B) ++ tokB A B l[k] := by rw [List.take_succ_eq_append_getElem hkn, List.flatMap_append]; simp
      have HTK := Lib.hid htk; clear htk
      have hos := HOK.out l[k] (List.getElem_mem _)
      have hkl : (k : Int) < l.length := by omega
      have HX := Lib.hid hx; clear hx
      generalize (l.take k).flatMap (tokB A B) = acc at *
      generalize l[k] = o at *
      have hc : o.lit.toNat < 256 := UInt8.toNat_lt _
      by_cases h0 : o.len = 0
      · obtain ⟨ba, oa, rfl, ra⟩ := reads_word (HVA.out _ hst) (i := o.lit.toNat) (by omega)
        have HTB := Lib.hid (show tokB A B o = A.getD o.lit.toNat [] by unfold tokB; rw [if_pos h0])
        have hca : (o.lit.toNat : Int) < A.length := by omega
        have hwd := HA30.out o.lit.toNat
        generalize A.getD o.lit.toNat [] = wd at *
        have hlx1 : (tx acc).length = acc.length := by simp
        have hlx2 : (tx wd).length = wd.length := by simp
        generalize o.lit.toNat = lt at *
        have HST := Lib.hid hst; clear hst hos
        go_wp2_with fail
        refine ⟨⟨k + 1, by omega, by go_num, ?_, by rw [HTK.out, HTB.out, List.length_append]; omega, HST.out⟩, by simp [intOf]; omega⟩
        rw [HTK.out, HTB.out, tx_append]
        exact congrArg Value.string (ByteArray.mk_append_mk _ _)
      · obtain ⟨n3, n258, d1, d9⟩ := hos.resolve_left h0
        obtain ⟨n, hn⟩ : ∃ n : Nat, o.len = n := ⟨o.len.toNat, by omega⟩
        obtain ⟨d, hd⟩ : ∃ d : Nat, o.dist = d := ⟨o.dist.toNat, by omega⟩
        have HTB := Lib.hid (show tokB A B o = A.getD (257 + plF false n) [] ++ (moreF false n ++ (B.getD (plF true d) [] ++ moreF true d)) by unfold tokB; rw [if_neg h0, hn, hd]; rfl)
        rw [hn] at c1 h0 n3 n258
        rw [hd] at c2 d1 d9
        obtain ⟨p1, _, _⟩ := plF_lens (n := n) (by omega) (by omega)
        obtain ⟨q1, _, _⟩ := plF_dists (n := d) (by omega) (by omega)
        have HP1 := Lib.hid (fun (w : World) (h : St w0 w F) => place_any h false n (by omega) (by show 3 ≤ n; omega) (j := (n : Int)) rfl)
        have HP2 := Lib.hid (fun (w : World) (h : St w0 w F) => place_any h true d (by omega) (by show 1 ≤ d; omega) (j := (d : Int)) rfl)
        have HST := Lib.hid hst; clear hst
        go_wp2_with fail
        refine (HP1.out _ HST.out).mono ?_
        rintro e w2 ⟨rfl, h2⟩
        obtain ⟨b', off', he, c0', c1', c2'⟩ := reads_tok (HV.out _ h2) HX.out
        cases he
        rw [hd] at c2'
        have H2 := Lib.hid h2; clear h2 c0 c1 c2 c0' c1' HST
        go_wp2_with fail
        refine (HP2.out _ H2.out).mono ?_
        rintro e w3 ⟨rfl, h3⟩
        obtain ⟨ba, oa, rfl, ra⟩ := reads_word (HVA.out _ h3) (i := 257 + plF false n) (by omega)
        obtain ⟨bb, ob, rfl, rb⟩ := reads_word (HVB.out _ h3) (i := plF true d) (by omega)
        have hma : (moreF false n).length ≤ 13 := by rw [length_moreF]; exact frF_13 _ _
        have hmb : (moreF true d).length ≤ 13 := by rw [length_moreF]; exact frF_13 _ _
        generalize moreF false n = ma at *
        generalize moreF true d = mb at *
        generalize plF false n = pa at *
        generalize plF true d = pb at *
        obtain ⟨ia, hia⟩ : ∃ ia, ia = 257 + pa := ⟨_, rfl⟩
        rw [← hia] at ra HTB
        have hia2 : (257 : Int) + pa = (ia : Int) := by omega
        have hia3 : (ia : Int) < A.length := by omega
        have hpb : (pb : Int) < B.length := by omega
        have hwa : IntKind.i64.wrap (ia : Int) = (ia : Int) := IntWalk.i64_in _ (by omega)
        have hia0 : 0 ≤ (ia : Int) := by omega
        have hpb0 : 0 ≤ (pb : Int) := by omega
        have hwa3 := HA30.out ia
        have hwb3 := HB30.out pb
        generalize A.getD ia [] = wa at *
        generalize B.getD pb [] = wb at *
        have hlx1 : (tx acc).length = acc.length := by simp
        have hlx2 : (tx wa).length = wa.length := by simp
        have hlx3 : (tx wb).length = wb.length := by simp
        have hlx4 : (tx ma).length = ma.length := by simp
        have hlx5 : (tx mb).length = mb.length := by simp
        have H3 := Lib.hid h3; clear h3 c2' H2 HP1 HP2 hia
        go_wp2_with fail
        go_quiet (fail)
        have h4 := H3.out.drewN nq
        clear ra rb
        generalize w3.drewN nq = w4 at *
        have H4 := Lib.hid h4; clear h4 H3
        go_wp2_with fail
        refine ⟨⟨k + 1, by omega, by go_num, ?_, by rw [HTK.out, HTB.out]; simp only [List.length_append]; omega, H4.out⟩, by simp [intOf]; omega⟩
        rw [HTK.out, HTB.out, tx_append, tx_append, tx_append, tx_append]
        exact congrArg Value.string (by simp only [ByteArray.mk_append_mk, List.append_assoc])
    · obtain rfl : k = l.length := by omega
      rw [List.take_length] at hacc hacc2 ⊢
      obtain ⟨ba, oa, rfl, ra⟩ := reads_word (HVA.out _ hst) (i := 256) (by omega)
      have hl256 : (256 : Int) < A.length := by omega
      have HT := Lib.hid (show toldB A B l = l.flatMap (tokB A B) ++ A.getD 256 [] from rfl)
      generalize l.flatMap (tokB A B) = acc at *
      have hwd := HA30.out 256
      generalize A.getD 256 [] = wd at *
      have hlx1 : (tx acc).length = acc.length := by simp
      have hlx2 : (tx wd).length = wd.length := by simp
      have HST := Lib.hid hst; clear hst
      go_wp2_with fail
      go_ret
      refine ⟨?_, HST.out⟩
      rw [HT.out, tx_append]
      exact congrArg (fun x => Ending.returned (Value.string x)) (ByteArray.mk_append_mk _ _)
#print axioms told_any
end Go.Proofs.Ytciplcmjoljofaa
