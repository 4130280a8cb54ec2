/-
  Layer 8 (inflate): the stream; a number that a word tells.
-/
import Derived.Test.YtddifndfppilkaaGreatInfU
import Derived.RegionTactic
import Derived.BigRegion
import Derived.Deep.Cut
import Derived.Deep.CutRange
namespace Go.Proofs.YtddifndfppilkaaGreat
open Go.RowKit Go.Mz
set_option linter.unusedVariables false
set_option linter.unusedSimpArgs false
set_option maxRecDepth 100000

/-- A stream: what was read, what came, how much may come. -/
def stm (S Rb : Nat) (bs : List UInt8) (p : Nat) (out : List UInt8) (most : Nat) : SProp := sEx fun vo : Value =>
  blk S (.cells #[.pointer (some ⟨Rb, 0, none⟩), vo, .int .i64 (most : Int)] 50) * (rdr Rb bs p true * own 5 1 vo out.length (out.map bv))
theorem stm_open {w0 w : World} {S Rb : Nat} {bs : List UInt8} {p : Nat} {out : List UInt8} {most : Nat} {F : SProp} (h : St w0 w (stm S Rb bs p out most * F)) :
    ∃ ao co, St w0 w (blk S (.cells #[.pointer (some ⟨Rb, 0, none⟩), .slice ao out.length co, .int .i64 (most : Int)] 50) * (rdr Rb bs p true * (own 5 1 (.slice ao out.length co) out.length (out.map bv) * F))) := by
  obtain ⟨vo, h⟩ := h.ex_l
  have h' := h.perm (show _ = own 5 1 vo out.length (out.map bv) * (blk S (.cells #[.pointer (some ⟨Rb, 0, none⟩), vo, .int .i64 (most : Int)] 50) * (rdr Rb bs p true * F)) by ac_rfl)
  obtain ⟨ao, co, rfl⟩ := h'.reads.sub
  exact ⟨ao, co, h.perm (by ac_rfl)⟩
theorem stm_shut {w0 w : World} {S Rb : Nat} {bs : List UInt8} {p : Nat} {out : List UInt8} {most : Nat} {v : Value} {F : SProp} (h : St w0 w (blk S (.cells #[.pointer (some ⟨Rb, 0, none⟩), v, .int .i64 (most : Int)] 50) * (rdr Rb bs p true * (own 5 1 v out.length (out.map bv) * F)))) :
    St w0 w (stm S Rb bs p out most * F) := St.mk_ex_l v (h.perm (by ac_rfl))
def NumR (r : Nat ⊕ (Nat × Nat)) (p : Nat) (z : Int) (x p' : Nat) : Prop :=
  match r with
  | .inl e => x = e ∧ e ≠ 0
  | .inr (q, n) => x = 0 ∧ p' = q ∧ z = n
theorem bas_at {l : List (Nat × Nat)} {i : Nat} {b : Nat × Nat} (h : l[i]? = some b) : (bas l)[i * 2]? = some (nv b.1) ∧ (bas l)[i * 2 + 1]? = some (nv b.2) :=
  ⟨flat_get baV 2 (fun _ => rfl) l i b h 0 (by omega), flat_get baV 2 (fun _ => rfl) l i b h 1 (by omega)⟩

set_option maxHeartbeats 4000000 in
theorem number_any {w0 w : World} {S Rb : Nat} {bs : List UInt8} {p : Nat} {out : List UInt8} {most n : Nat} {l : List (Nat × Nat)} {vl : Value} {F : SProp} (h : St w0 w (stm S Rb bs p out most * (own 129 2 vl n (bas l) * F)))
    (hn : n = l.length) (hl : ∀ b ∈ l, b.1 ≤ 100000 ∧ b.2 ≤ 13) (i : Nat) (hi : i ≤ 100000) :
    Calls Tryz.prog 54 #[.pointer (some ⟨S, 0, none⟩), vl, .int .i64 i] w fun e w' => ∃ (z : Int) (x p' : Nat), e = .returned (.tuple #[.int .i64 z, .int .i64 x]) ∧ NumR (numberF (bitsL true bs) l i p) p z x p' ∧
      St w0 w' (stm S Rb bs p' out most * (own 129 2 vl n (bas l) * F)) := by
  subst hn
  have hr := h.right.reads
  obtain ⟨al, cl, rfl⟩ := hr.sub
  have hlm := hr.len_le
  unfold maxLen at hlm
  clear hr
  by_cases hil : i < l.length
  · have hx := List.getElem?_eq_getElem hil
    obtain ⟨b1, b2⟩ := hl l[i] (List.getElem_mem _)
    obtain ⟨hb0, hb1⟩ := bas_at hx
    generalize l[i] = b at *
    obtain ⟨ao, co, h1⟩ := stm_open h
    obtain ⟨g, rfl⟩ := own_at h.right (by omega)
    have c0 := h1.cell 0 rfl
    have x0 := h.right.own_cellS hb0
    have x1 := h.right.own_cellS hb1
    have hil2 : (i : Int) < l.length := by omega
    obtain ⟨f0, f1⟩ := b
    simp only [nv] at x0 x1 b1 b2
    have h2 := h1.perm (show _ = rdr Rb bs p true * (blk S (.cells #[.pointer (some ⟨Rb, 0, none⟩), .slice ao out.length co, .int .i64 (most : Int)] 50) * (own 5 1 (.slice ao out.length co) out.length (out.map bv) * (own 129 2 (.slice (some ⟨g, 0, none⟩) l.length cl) l.length (bas l) * F))) by ac_rfl)
    have H2 := Lib.hid h2; clear h1 h2 h
    have hback : ∀ w' p', St w0 w' (rdr Rb bs p' true * (blk S (.cells #[.pointer (some ⟨Rb, 0, none⟩), .slice ao out.length co, .int .i64 (most : Int)] 50) * (own 5 1 (.slice ao out.length co) out.length (out.map bv) * (own 129 2 (.slice (some ⟨g, 0, none⟩) l.length cl) l.length (bas l) * F)))) →
        St w0 w' (stm S Rb bs p' out most * (own 129 2 (.slice (some ⟨g, 0, none⟩) l.length cl) l.length (bas l) * F)) := fun w' p' h => stm_shut (h.perm (by ac_rfl))
    have HBACK := Lib.hid hback; clear hback
    have hx0 : ∀ w' p', St w0 w' (rdr Rb bs p' true * (blk S (.cells #[.pointer (some ⟨Rb, 0, none⟩), .slice ao out.length co, .int .i64 (most : Int)] 50) * (own 5 1 (.slice ao out.length co) out.length (out.map bv) * (own 129 2 (.slice (some ⟨g, 0, none⟩) l.length cl) l.length (bas l) * F)))) → w'.cell? ⟨g, i * 2, none⟩ = some (.int .i64 (f0 : Int)) := fun w' p' h => h.right.right.right.own_cellS hb0
    have HX0 := Lib.hid hx0; clear hx0
    by_cases hcut : 8 * bs.length < p + f1
    · have HR := Lib.hid (show numberF (bitsL true bs) l i p = .inl 2 by rw [numberF, hx]; simp only; rw [if_pos (by simpa using hcut)])
      clear hx hl hb0 hb1
      go_enter Tryz.func54, Tryz.ntmps54
      go_wp2_with fail
      go_region_with (first | (go_at_call 22; refine (read_cut_st (H2.out.drewN _) f1 rfl (by omega) hcut).mono ?_; rintro e w4 ⟨rfl, h4⟩; have y0 := HX0.out _ _ h4; have H4 := Lib.hid h4; clear h4))
      go_wp2_with fail
      all_goals
        go_ret2
        exact ⟨_, 2, p, rfl, by rw [HR.out]; exact ⟨rfl, by decide⟩, HBACK.out _ _ H4.out⟩
    · have HR := Lib.hid (show numberF (bitsL true bs) l i p = .inr (p + f1, f0 + vl (bitsL true bs) p f1) by rw [numberF, hx]; simp only; rw [if_neg (by simpa using hcut)])
      have hv := vl_lt bs p f1
      have hp2 : 2 ^ f1 ≤ 2 ^ 13 := Nat.pow_le_pow_right (by decide) b2
      rw [← peekV_vl] at HR hv
      have hC := fun m => read_ok (H2.out.drewN m) (j := (f1 : Int)) f1 rfl (by omega) (by omega)
      have HC := Lib.hid hC; clear hC
      generalize peekV bs true p f1 = pv at *
      clear hx hl hb0 hb1
      go_enter Tryz.func54, Tryz.ntmps54
      go_wp2_with fail
      go_region_with (first | (go_at_call 22; refine (HC.out _).mono ?_; rintro e w4 ⟨rfl, h4⟩; have y0 := HX0.out _ _ h4; have H4 := Lib.hid h4; clear h4))
      go_wp2_with fail
      all_goals
        go_ret2
        exact ⟨_, 0, p + f1, rfl, by rw [HR.out]; exact ⟨rfl, rfl, by go_num⟩, HBACK.out _ _ H4.out⟩
  · have HR := Lib.hid (show numberF (bitsL true bs) l i p = .inl 6 by rw [numberF, List.getElem?_eq_none (by omega)])
    have hil2 : (l.length : Int) ≤ i := by omega
    have H := Lib.hid h; clear h
    go_enter Tryz.func54, Tryz.ntmps54
    go_wp2_with fail
    go_ret2
    exact ⟨0, 6, p, rfl, by rw [HR.out]; exact ⟨rfl, by decide⟩, H.out⟩
end Go.Proofs.YtddifndfppilkaaGreat
