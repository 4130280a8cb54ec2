/-
  The document's numbers that words tell (package mezzotintref08).
-/
import Derived.Test.YtddifndfppilkaaRefI
import Derived.Test.YtddifndfppilkaaInfR
import Derived.Test.YtddifndfppilkaaInfC
import Derived.RegionTactic
import Derived.BigRegion
namespace Go.Proofs.Ytddifndfppilkaa
open Go.RowKit Go.Mz
set_option linter.unusedVariables false
set_option linter.unusedSimpArgs false
set_option maxRecDepth 100000

theorem fromsL_ok (far : Bool) : ∀ b ∈ fromsL far, b.1 ≤ 100000 ∧ b.2 ≤ 13 := by cases far <;> decide
theorem set4 {w0 w : World} {b : Nat} {c : Array Value} {e : TypeId} {F : SProp} (h : St w0 w (blk b (.cells c e) * F)) (hc : c.size = 4) (v0 v1 v2 v3 : Value) :
    St w0 ((((w.setCell ⟨b, 0, none⟩ v0).setCell ⟨b, 1, none⟩ v1).setCell ⟨b, 2, none⟩ v2).setCell ⟨b, 3, none⟩ v3) (blk b (.cells #[v0, v1, v2, v3] e) * F) := by
  have h1 := (((h.set 0 v0).set 1 v1).set 2 v2).set 3 v3
  obtain ⟨l⟩ := c
  match l, hc with
  | [a, b', c', d], _ => exact h1

set_option maxHeartbeats 40000000 in
theorem rnumber_any {w0 w : World} {F : SProp} (h : St w0 w F) {t : List Nat} (ht : Bit t) (hl : t.length ≤ 1000000000) {p : Nat} (hp : p ≤ t.length) (i : Nat) (hi : i ≤ 100000) (far : Bool) {ao : Option Addr} {no co : Nat} {most : Int} {sb : ByteArray} (hsb : sb = ⟨(tx t).toArray⟩) :
    Calls Try.prog 78 #[.agg (rstC sb p (.slice ao no co) most), .int .i64 i, .bool far] w fun e w' => ∃ (z : Int) (x p' : Nat),
      e = .returned (.tuple #[.agg (rstC sb p' (.slice ao no co) most), .int .i64 z, .int .i64 (x : Nat)]) ∧ NumR (numberF t (fromsL far) i p) p z x p' ∧ p' ≤ t.length ∧ St w0 w' F := by
  have h1 := (h.alloc (.cells (rstC sb p (.slice ao no co) most) 85)).alloc (.cells rst0 85)
  have hsz : (w.alloc (.cells (rstC sb p (.slice ao no co) most) 85)).heap.size = w.heap.size + 1 := by
    show (w.heap.push _).size = _
    exact Array.size_push _
  rw [hsz] at h1
  have HNUM := Lib.hid (fun (w : World) (F : SProp) (h : St w0 w F) (n : Nat) (hn : n ≤ 31) => rnum_any h ht hl hp n hn (ao := ao) (no := no) (co := co) (most := most) hsb (j := (n : Int)) rfl)
  obtain ⟨T, hT⟩ : ∃ T, T = fromsL far := ⟨_, rfl⟩
  have hok : ∀ b ∈ T, b.1 ≤ 100000 ∧ b.2 ≤ 13 := by rw [hT]; exact fromsL_ok far
  have HFR := Lib.hid (fun (w : World) (F : SProp) (h : St w0 w F) => (by rw [hT]; exact rfroms_any h far : Calls Try.prog 96 #[.bool far] w fun e w' => ∃ va vb, e = .returned (.tuple #[va, vb]) ∧
    St w0 w' (own 3 1 va T.length (nvs (T.map Prod.fst)) * (own 3 1 vb T.length (nvs (T.map Prod.snd)) * F))))
  rw [← hT]
  unfold rstC rst0 at h1
  clear h hsz hsb hT
  have H1 := Lib.hid h1; clear h1
  unfold rstC at HNUM ⊢
  go_enter Try.func78, Try.ntmps78
  go_upto_region 1 with (fail)
  have h1 := H1.out
  clear H1
  generalize hb0 : w.heap.size = b0 at *
  generalize hb1 : b0 + 1 = b1 at *
  generalize hW : (w.alloc (.cells #[.string sb, .int .i64 (p : Int), .slice ao no co, .int .i64 most] 85)).alloc (.cells #[.string ⟨#[]⟩, .int .i64 0, .slice none 0 0, .int .i64 0] 85) = W at *
  have hne : ¬ b0 = b1 := by omega
  have hne' : ¬ b1 = b0 := by omega
  clear hb0 hb1 hW
  have H1 := Lib.hid h1; clear h1
  go_wp2_with fail
  refine (HFR.out _ _ H1.out).mono ?_
  rintro e w2 ⟨va, vb, rfl, h2⟩
  obtain ⟨aa, ca, rfl⟩ := h2.reads.sub
  obtain ⟨ab, cb, rfl⟩ := h2.right.reads.sub
  by_cases hiT : i < T.length
  · have hx := List.getElem?_eq_getElem hiT
    obtain ⟨b1', b2'⟩ := hok T[i] (List.getElem_mem _)
    have hy : (nvs (T.map Prod.fst))[i]? = some (nv T[i].1) := by rw [nvs, List.getElem?_map, List.getElem?_map, hx]; rfl
    have hz : (nvs (T.map Prod.snd))[i]? = some (nv T[i].2) := by rw [nvs, List.getElem?_map, List.getElem?_map, hx]; rfl
    have HR := Lib.hid (show numberF t T i p = if t.length < p + T[i].2 then .inl 2 else .inr (p + T[i].2, T[i].1 + vl t p T[i].2) by rw [numberF, hx])
    generalize T[i].1 = f at *
    generalize T[i].2 = ex at *
    simp only [nv] at hy hz
    obtain ⟨ga, rfl⟩ := own_at h2 (by omega)
    obtain ⟨gb, rfl⟩ := own_at h2.right (by omega)
    have hi2 : ¬ (T.length : Int) ≤ i := by omega
    have hi3 : (i : Int) < T.length := by omega
    have z0 := h2.right.own_cell hz
    have h3 := h2.right.right
    have c0 := h3.right.cell 0 rfl
    have c1 := h3.right.cell 1 rfl
    have c2 := h3.right.cell 2 rfl
    have c3 := h3.right.cell 3 rfl
    have h4 := h2.perm (show _ = blk b0 (.cells #[.string sb, .int .i64 (p : Int), .slice ao no co, .int .i64 most] 85) * (blk b1 (.cells #[.string ⟨#[]⟩, .int .i64 0, .slice none 0 0, .int .i64 0] 85) * (own 3 1 (.slice (some ⟨ga, 0, none⟩) T.length ca) T.length (nvs (T.map Prod.fst)) * (own 3 1 (.slice (some ⟨gb, 0, none⟩) T.length cb) T.length (nvs (T.map Prod.snd)) * F))) by ac_rfl)
    have HN := Lib.hid (HNUM.out _ _ h4.drew ex (by omega))
    clear h2 h3 H1 HNUM hok hx hz h4
    obtain ⟨q, hq⟩ : ∃ q, q = (if t.length < p + ex then p else p + ex) := ⟨_, rfl⟩
    obtain ⟨m, hm⟩ : ∃ m, m = (if t.length < p + ex then 0 else vl t p ex) := ⟨_, rfl⟩
    obtain ⟨x, hxx⟩ : ∃ x, x = (if t.length < p + ex then 2 else 0) := ⟨_, rfl⟩
    rw [← hq, ← hm, ← hxx] at HN
    have HQ := Lib.hid hq; have HM := Lib.hid hm; have HX := Lib.hid hxx; have HY := Lib.hid hy; clear hq hm hxx hy
    go_upto_region 4 with (fail)
    go_region_with (first | (go_at_call 44; refine HN.out.mono ?_; rintro e w3 ⟨rfl, h5⟩; have d0 := h5.cell 0 rfl; have d1 := h5.cell 1 rfl; have d2 := h5.cell 2 rfl; have d3 := h5.cell 3 rfl; have f0 := h5.free 0; have f1 := h5.free 1; have f2 := h5.free 2; have f3 := h5.free 3; have H5 := Lib.hid h5; clear h5))
    all_goals
      have h6 := set4 H5.out rfl (.string sb) (.int .i64 (q : Int)) (.slice ao no co) (.int .i64 most)
      have H6 := Lib.hid h6; clear h6 H5 HN d0 d1 d2 d3 f0 f1 f2 f3
      go_upto_region 5 with (fail)
      generalize (((w3.setCell ⟨b0, 0, none⟩ (.string sb)).setCell ⟨b0, 1, none⟩ (.int .i64 (q : Int))).setCell ⟨b0, 2, none⟩ (.slice ao no co)).setCell ⟨b0, 3, none⟩ (.int .i64 most) = W4 at *
      have h7 := H6.out
      have c0 := h7.cell 0 rfl
      have c1 := h7.cell 1 rfl
      have c2 := h7.cell 2 rfl
      have c3 := h7.cell 3 rfl
      have y0 := h7.right.right.own_cell HY.out
      have h8 := h7.perm (star_left_comm _ _ _)
      have r0 := h8.cell 0 rfl
      have r1 := h8.cell 1 rfl
      have r2 := h8.cell 2 rfl
      have r3 := h8.cell 3 rfl
      have s0 := h8.free 0
      have s1 := h8.free 1
      have s2 := h8.free 2
      have s3 := h8.free 3
      have HF := Lib.hid (set4 h8 rfl (.string sb) (.int .i64 (q : Int)) (.slice ao no co) (.int .i64 most)).drew
      have hg1 : ¬ ga = b1 := St.own_ne (h8.perm (show _ = blk b1 _ * (own 3 1 (.slice (some ⟨ga, 0, none⟩) T.length ca) T.length (nvs (T.map Prod.fst)) * (blk b0 _ * (own 3 1 (.slice (some ⟨gb, 0, none⟩) T.length cb) T.length (nvs (T.map Prod.snd)) * F))) by ac_rfl))
      have hg1' : ¬ b1 = ga := fun e => hg1 e.symm
      clear h7 h8 H6
      have hmm : m ≤ 8192 := by
        rw [HM.out]; split
        · omega
        · have h1 := numV_lt true (fun i => t.getD (p + i) 0) (fun i => ht.getD _) ex
          have h2 : 2 ^ ex ≤ 2 ^ 13 := Nat.pow_le_pow_right (by decide) b2'
          have h3 : vl t p ex < 2 ^ ex := h1
          omega
      have HWR := Lib.hid (show IntKind.i64.wrap ((f : Int) + m) = ((f + m : Nat) : Int) by rw [IntWalk.i64_in _ (by omega)]; omega)
      have HQT := Lib.hid (show q ≤ t.length by rw [HQ.out]; split <;> omega)
      have HNR := Lib.hid (show NumR (numberF t T i p) p ((f + m : Nat) : Int) x q by
        rw [HR.out]
        by_cases hc : t.length < p + ex
        · rw [if_pos hc]; exact ⟨by rw [HX.out, if_pos hc], by decide⟩
        · rw [if_neg hc]; exact ⟨by rw [HX.out, if_neg hc], by rw [HQ.out, if_neg hc], by rw [HM.out, if_neg hc]⟩)
      go_region
      all_goals
        clear c0 c1 c2 c3 y0 r0 r1 r2 r3 s0 s1 s2 s3
        go_wp2_with fail
        refine bodyPost_ret3c rfl rfl HF.out.at_ Try.underlying85 rfl (by show _ = some 4; kernel_rfl) rfl ?_
        exact ⟨((f + m : Nat) : Int), x, q, by rw [← HWR.out]; rfl, HNR.out, HQT.out, HF.out.right.right.right.right⟩
  · have HR := Lib.hid (show numberF t T i p = .inl 6 by rw [numberF, List.getElem?_eq_none (by omega)])
    have hi2 : (T.length : Int) ≤ i := by omega
    have h3 := h2.right.right
    have c0 := h3.right.cell 0 rfl
    have c1 := h3.right.cell 1 rfl
    have c2 := h3.right.cell 2 rfl
    have c3 := h3.right.cell 3 rfl
    have r0 := h3.cell 0 rfl
    have r1 := h3.cell 1 rfl
    have r2 := h3.cell 2 rfl
    have r3 := h3.cell 3 rfl
    have s0 := h3.free 0
    have s1 := h3.free 1
    have s2 := h3.free 2
    have s3 := h3.free 3
    have HF := Lib.hid (set4 h3 rfl (.string sb) (.int .i64 (p : Int)) (.slice ao no co) (.int .i64 most))
    clear h2 h3 H1 HNUM hok
    go_wp2_with fail
    refine bodyPost_ret3c rfl rfl HF.out.at_ Try.underlying85 rfl (by show _ = some 4; kernel_rfl) rfl ?_
    exact ⟨0, 6, p, rfl, by rw [HR.out]; exact ⟨rfl, by decide⟩, hp, HF.out.right.right⟩
end Go.Proofs.Ytddifndfppilkaa
